/-
  Chapter 39: Members.
-/
import Derived.Test.YtahpecbcpgjinaaCg
namespace Go.Proofs.Ytahpecbcpgjinaa
open Go.RowKit

/-- A whole block is stored. -/
theorem wpList_store_blk {P : Program} {ops : Array Oper} {rest : List Oper} {op : Oper} {a : Act} {w : World} {Q : Exit → Act → World → Prop} (hgd : op.guard = none) (ty : TypeId) (x y : Operand) (ho : op.op = .store ty x y)
    (g : Nat) (t : TypeId) (old cells : Array Value) (hx : a.eval x = .pointer (some ⟨g, 0, none⟩)) (hy : a.eval y = .agg cells) (hB : Blk w g t old)
    (hi : (P.info? ty).map (·.size) = some cells.size) (hsz : old.size = cells.size) (h1 : cells.all (·.oneCell') = true)
    (h : ∀ w', Blk w' g t cells → w'.heap.size = w.heap.size → (∀ B w0, B ≤ g → Below B w0 w → Below B w0 w') → (∀ g' t' cs', g' ≠ g → Blk w g' t' cs' → Blk w' g' t' cs') → wpList P ops Q rest (a.put op.dst undef) w') : wpList P ops Q (op :: rest) a w := by
  refine wpList_plain hgd fun _ hK => ?_
  unfold Oper.wp execOp
  simp only [ho, hx, hy, Instr.storeAt, Instr.sureAddr, Sem.run_bind, Sem.run_pure, Result.andThen_ok, run_storeVar_row w g t ty old cells hB hi hsz h1]
  refine hK _ _ (h _ (hB.setRow cells) (by simp [World.setRow]) (fun B w0 hg hb => below_setRow hb hg) fun g' t' cs' hne hb => ?_)
  unfold Blk at *
  simp only [World.setRow, Array.getElem?_modify]
  rw [if_neg (fun e => hne e.symm)]; exact hb

theorem wp_store_blk {P : Program} {op : Oper} {a : Act} {w : World} {K : Act → World → Prop} {Q : Exit → Act → World → Prop} (ty : TypeId) (x y : Operand) (ho : op.op = .store ty x y)
    (g : Nat) (t : TypeId) (old cells : Array Value) (hx : a.eval x = .pointer (some ⟨g, 0, none⟩)) (hy : a.eval y = .agg cells) (hB : Blk w g t old)
    (hi : (P.info? ty).map (·.size) = some cells.size) (hsz : old.size = cells.size) (h1 : cells.all (·.oneCell') = true)
    (h : ∀ w', Blk w' g t cells → w'.heap.size = w.heap.size → (∀ B w0, B ≤ g → Below B w0 w → Below B w0 w') → (∀ g' t' cs', g' ≠ g → Blk w g' t' cs' → Blk w' g' t' cs') → K (a.put op.dst undef) w') : op.wp P a w K Q := by
  unfold Oper.wp execOp
  simp only [ho, hx, hy, Instr.storeAt, Instr.sureAddr, Sem.run_bind, Sem.run_pure, Result.andThen_ok, run_storeVar_row w g t ty old cells hB hi hsz h1]
  refine h _ (hB.setRow cells) (by simp [World.setRow]) (fun B w0 hg hb => below_setRow hb hg) fun g' t' cs' hne hb => ?_
  unfold Blk at *
  simp only [World.setRow, Array.getElem?_modify]
  rw [if_neg (fun e => hne e.symm)]; exact hb

def upTo (p : Int → Bool) (k : Nat) : List Int := ((List.range k).map fun (n : Nat) => (n : Int)).filter p
theorem upTo_all (R : Int) (p : Int → Bool) : upTo p R.toNat = (reps R).filter p := rfl
theorem upTo_yes {p : Int → Bool} {k : Nat} (h : p k = true) : upTo p (k + 1) = upTo p k ++ [(k : Int)] := by
  unfold upTo; rw [List.range_succ, List.map_append, List.filter_append]; simp [h]
theorem upTo_no {p : Int → Bool} {k : Nat} (h : p k = false) : upTo p (k + 1) = upTo p k := by
  unfold upTo; rw [List.range_succ, List.map_append, List.filter_append]; simp [h]
theorem upTo_len (p : Int → Bool) (k : Nat) : (upTo p k).length ≤ k := by
  unfold upTo; exact Nat.le_trans (List.length_filter_le _ _) (by simp)

theorem addC_eq {R : Int} {L : List Cmd} {r : Int} (h0 : 0 ≤ r) (h1 : r < R) : addC R L r = addedB L r := by
  unfold addC addedB
  rw [Bool.eq_iff_iff, decide_eq_true_eq, decide_eq_true_eq]
  constructor
  · rintro ⟨c, h, _, h2⟩; exact ⟨c, h, h2⟩
  · rintro ⟨c, h, h2, h3⟩; exact ⟨c, h, decide_eq_true ⟨.inl h2, by omega, by omega⟩, h2, h3⟩
theorem remC_eq {R : Int} {L : List Cmd} {r : Int} (h0 : 0 ≤ r) (h1 : r < R) : remC R L r = removedB L r := by
  unfold remC removedB
  rw [Bool.eq_iff_iff, decide_eq_true_eq, decide_eq_true_eq]
  constructor
  · rintro ⟨c, h, _, h2⟩; exact ⟨c, h, h2⟩
  · rintro ⟨c, h, h2, h3⟩; exact ⟨c, h, decide_eq_true ⟨.inr h2, by omega, by omega⟩, h2, h3⟩
theorem recA_added {R : Int} {L : List Cmd} {k : Nat} (h1 : (k : Int) < R) (hR : R ≤ 12) : (recA R L)[k]? = some (.bool (addedB L k)) := by
  rw [recA_at _ _ _ (by omega), recF, if_pos (by omega), addC_eq (by omega) h1]
theorem recA_removed {R : Int} {L : List Cmd} {k : Nat} (h1 : (k : Int) < R) (hR : R ≤ 12) : (recA R L)[12 + k]? = some (.bool (removedB L k)) := by
  rw [recA_at _ _ _ (by omega), recF, if_neg (by omega), show ((12 + k : Nat) : Int) - 12 = k by omega, remC_eq (by omega) h1]
theorem recA_one (R : Int) (L : List Cmd) : (recA R L).all (·.oneCell') = true := by
  refine Array.all_eq_true_iff_forall_mem.2 fun v hv => ?_
  rw [recA, Array.mem_ofFn] at hv
  obtain ⟨i, rfl⟩ := hv
  rfl
theorem recA_info (R : Int) (L : List Cmd) : (Try.prog.info? 58).map (·.size) = some (recA R L).size := by rw [recA_size]; kernel_rfl

set_option maxRecDepth 100000 in
set_option maxHeartbeats 2000000 in
theorem members_any (g v : Value) (M R : Int) (F : List Int) (L : List Cmd) (w : World) (hg : Gen w g M R F) (hr : ReadsC w v L) :
    Calls Try.prog 16 #[g, v] w (MadeI w (membersL M R F L)) := by
  obtain ⟨i0, hinf, hz0, hz1, hz2⟩ := info_parts Try.infoInt
  have HI := Lib.hid (And.intro hinf (And.intro hz0 (And.intro hz1 hz2)))
  clear hinf hz0 hz1 hz2
  have hg0 := hg
  obtain ⟨vF, cl, vA, vO, rfl, hF, ⟨a2, n2, k2, rfl⟩, ⟨a3, n3, k3, rfl⟩⟩ := hg
  have HF := Lib.hid hF
  obtain ⟨a1, n1, k1, rfl⟩ := Slc.of_reads hF
  have HG := Lib.hid (And.intro hg0 hr)
  clear hg0 hF hr
  unfold gen at *
  have hu := usable_any _ M R F (w.alloc (.cells #[.int .i64 M, .int .i64 R, .slice a1 n1 k1, .int .i64 cl, .slice a2 n2 k2, .slice a3 n3 k3] 25)) (HG.out.1.on ((Below.refl _ _).alloc (Nat.le_refl _) _))
  unfold membersL
  by_cases hus : usableB M R F = true
  · rw [hus] at hu
    rw [if_pos hus]
    obtain ⟨_, ⟨hR1, hR2⟩, hF0, _, _⟩ := usable_parts hus
    have HU := Lib.hid (And.intro hu hF0)
    have HMR : Hid (membersR R F L = upTo (isMem F L) R.toNat) := Lib.hid rfl
    obtain ⟨n, rfl⟩ : ∃ n : Nat, R = n := ⟨R.toNat, by omega⟩
    have hn12 : n ≤ 12 := by omega
    rw [Int.toNat_natCast] at HMR
    clear hu hus hF0
    go_enter Try.func16, Try.ntmps16
    go_wp2_with fail
    refine HU.out.1.mono ?_
    rintro e w1 ⟨rfl, hb1⟩
    have G1 : Hid (Blk w1 w.heap.size 25 #[.int .i64 M, .int .i64 n, .slice a1 n1 k1, .int .i64 cl, .slice a2 n2 k2, .slice a3 n3 k3] ∧ Below w.heap.size w w1) := Lib.hid ⟨(Blk.new _ _ _).on hb1, ((Below.refl _ _).alloc (Nat.le_refl _) _).trans (hb1.mono (by simp))⟩
    have hs1 : w.heap.size < w1.heap.size := G1.out.1.lt
    have g0 := G1.out.1.cell 0
    have g1 := G1.out.1.cell 1
    have g2 := G1.out.1.cell 2
    have g3 := G1.out.1.cell 3
    have g4 := G1.out.1.cell 4
    have g5 := G1.out.1.cell 5
    clear hb1
    go_wp2_with fail
    refine (recordOf_any _ v M n F L _ (HG.out.1.on G1.out.2) (HG.out.2.on G1.out.2) (by omega)).mono ?_
    rintro e w2 ⟨rfl, hb2⟩
    have G2 : Hid (Blk w2 w.heap.size 25 #[.int .i64 M, .int .i64 n, .slice a1 n1 k1, .int .i64 cl, .slice a2 n2 k2, .slice a3 n3 k3] ∧ Below w.heap.size w w2) := Lib.hid ⟨G1.out.1.on hb2, G1.out.2.trans (hb2.mono G1.out.2.size)⟩
    have hs2 : w.heap.size < w2.heap.size := G2.out.1.lt
    clear hb2 g0 g1 g2 g3 g4 g5
    go_wp2_with (refine wpList_store_blk (by rfl) 58 (.tmp 5) (.tmp 13) (by rfl) w2.heap.size 58 _ (recA n L) (by rfl) (by rfl) (Blk.new w2 _ _) (recA_info _ _) (by rw [recA_size]; rfl) (recA_one _ _) ?_)
    intro w3 hB3 hz3 hk3 hkk3
    have G3 : Hid (Blk w3 w.heap.size 25 #[.int .i64 M, .int .i64 n, .slice a1 n1 k1, .int .i64 cl, .slice a2 n2 k2, .slice a3 n3 k3] ∧ Below w.heap.size w w3 ∧ Blk w3 w2.heap.size 58 (recA n L)) :=
      Lib.hid ⟨hkk3 _ _ _ (by omega) (G2.out.1.alloc _), hk3 _ _ G2.out.2.size (G2.out.2.alloc G2.out.2.size _), hB3⟩
    have hs3 : w.heap.size < w3.heap.size := by omega
    have hs4 : w2.heap.size < w3.heap.size := by omega
    have g1 := G3.out.1.cell 1
    clear hB3 hz3 hk3 hkk3
    go_wp2
    go_loopg [6, 16] n (fun m o i wr => ∃ k : Nat, m + k = n ∧ i = .int .i64 k ∧ wr.ownsRow w3.heap.size 3 1 o (upTo (isMem F L) k).length ((upTo (isMem F L) k).map vi) ∧ Below w3.heap.size w3 wr)
    case atStart => exact ⟨0, by omega, rfl, by simp [upTo, World.ownsRow], Below.refl _ _⟩
    case round =>
      obtain ⟨k, hmk, rfl, hown, hbel⟩ := hrel
      have HM := Lib.hid hmk
      have hk : k ≤ n := by omega
      have hszr := hbel.size
      have hs5 : w.heap.size < wr.heap.size := by omega
      have hs6 : w2.heap.size < wr.heap.size := by omega
      have GR := Lib.hid (And.intro (G3.out.1.on hbel) (And.intro (G3.out.2.2.on hbel) (G3.out.2.1.trans (hbel.mono G3.out.2.1.size))))
      have HO := Lib.hid (And.intro hown hbel)
      have hol := upTo_len (isMem F L) k
      clear hmk hown hbel g1
      by_cases hlt : k < n
      · have c2 := GR.out.1.cell 2
        have r1 : wr.cell? ⟨w2.heap.size, k, none⟩ = some (.bool (addedB L k)) := by rw [GR.out.2.1.cell, recA_added (by omega) (by omega)]
        have r2 : wr.cell? ⟨w2.heap.size, 12 + k, none⟩ = some (.bool (removedB L k)) := by rw [GR.out.2.1.cell, recA_removed (by omega) (by omega)]
        have hco := contains_any _ F k wr (HF.out.keep GR.out.2.2)
        have hp : isMem F L (k : Int) = ((decide ((k : Int) ∈ F) || addedB L k) && !removedB L k) := rfl
        have hy := @upTo_yes (isMem F L) k
        have hn := @upTo_no (isMem F L) k
        have hk12 : (k : Int) < 12 := by omega
        generalize removedB L k = x at *
        generalize addedB L k = ad at *
        generalize decide ((k : Int) ∈ F) = f at *
        rw [hp] at hy hn
        have HY := Lib.hid (And.intro hy hn)
        have HC := Lib.hid hco
        clear hy hn hco hp
        by_cases hx : ((f || ad) && !x) = true
        · have HE := Lib.hid (HY.out.1 hx)
          clear HY
          generalize upTo (isMem F L) k = out at *
          cases ad <;> cases f <;> cases x <;> simp at hx
          all_goals
            go_wp2_with (first | (refine HC.out.mono ?_; rintro e w4 ⟨rfl, rfl⟩) | (at_builtin; refine wpList_append_own _ rfl _ _ 22 rfl w3.heap.size 3 i0 (.int .i64 0) 1 8 Try.underlying22 HI.out.1 HI.out.2.1 HI.out.2.2.1 HI.out.2.2.2 rfl (by decide) _ _ _ rfl (by exact HO.out.1.alloc _) ⟨_, 0, none⟩ 1 1 [.int .i64 k] rfl rfl (cell_one_new _ _ _) (by intro u hu; simp at hu; subst hu; rfl) (by unfold maxLen; omega) (by omega) (by simp; omega) ?_; intro v5 w5 hown5 hgr5 _))
            have H5 := Lib.hid (append_one (x := (k : Int)) HO.out.1 HO.out.2 (by exact hgr5) hown5)
            clear hown5 hgr5
            go_wp2
            go_roundg (n - (k + 1))
            case measure => have := HM.out; omega
            case rel => exact ⟨k + 1, by omega, by go_num, by rw [HE.out]; exact H5.out.1, H5.out.2⟩
        · have hx := Bool.eq_false_iff.2 hx
          have HE := Lib.hid (HY.out.2 hx)
          clear HY
          cases ad <;> cases f <;> cases x <;> simp at hx
          all_goals
            go_wp2_with (refine HC.out.mono ?_; rintro e w4 ⟨rfl, rfl⟩)
            go_roundg (n - (k + 1))
            case measure => have := HM.out; omega
            case rel => exact ⟨k + 1, by omega, by go_num, by rw [HE.out]; exact HO.out.1, HO.out.2⟩
      · have hkn : k = n := by omega
        have HV : Hid (upTo (isMem F L) k = membersR n F L) := Lib.hid (by rw [HMR.out, hkn])
        have c0 := GR.out.1.cell 0
        have c1 := GR.out.1.cell 1
        have c2 := GR.out.1.cell 2
        have c3 := GR.out.1.cell 3
        have c4 := GR.out.1.cell 4
        have c5 := GR.out.1.cell 5
        have hof := orFirst_any _ u6 M n F (upTo (isMem F L) k) wr (HG.out.1.on GR.out.2.2) (Reads.of_owns HO.out.1) HU.out.2
        rw [HV.out] at hof
        have HOF := Lib.hid hof
        clear hkn hof
        go_wp2_with fail
        refine HOF.out.mono ?_
        rintro e w4 ⟨v4, rfl, hr4, hb4⟩
        have H4 := Lib.hid (And.intro hr4 (GR.out.2.2.trans (hb4.mono GR.out.2.2.size)))
        clear hr4 hb4
        go_wp2
        go_ret
        exact ⟨_, rfl, H4.out.1, H4.out.2⟩
  · have hus := Bool.eq_false_iff.2 hus
    rw [hus] at hu
    rw [hus]
    have HU := Lib.hid hu
    clear hu hus
    go_enter Try.func16, Try.ntmps16
    go_wp2_with fail
    refine HU.out.mono ?_
    rintro e w1 ⟨rfl, hb1⟩
    have H1 := Lib.hid (((Below.refl w.heap.size w).alloc (Nat.le_refl _) (.cells #[.int .i64 M, .int .i64 R, .slice a1 n1 k1, .int .i64 cl, .slice a2 n2 k2, .slice a3 n3 k3] 25)).trans (hb1.mono (by simp)))
    clear hb1
    go_wp2
    go_ret
    exact ⟨_, rfl, Reads.nil _, H1.out⟩
end Go.Proofs.Ytahpecbcpgjinaa
