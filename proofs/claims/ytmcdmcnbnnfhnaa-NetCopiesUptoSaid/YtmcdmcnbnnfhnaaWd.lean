/-
  Chapter 28: Deliverable.
-/
import Derived.Test.YtmcdmcnbnnfhnaaWb
import Derived.Test.YtmcdmcnbnnfhnaaVg
import Derived.Maps.AppendAt
namespace Go.Proofs.Ytmcdmcnbnnfhnaa
open Go.RowKit

theorem append_one {α : Type} {enc : α → Value} {w2 wr wd w1 : World} {e : TypeId} {out : List α} {x : α} {o : Obj} {v v' : Value} (hown : wr.ownsRow w2.heap.size e 1 v out.length (out.map enc)) (hb : Below w2.heap.size w2 wr)
    (hgr : (wd.alloc o).grownBy w1 v.ownBlock) (hown' : w1.ownsRow w2.heap.size e 1 v' (out.length + 1) (out.map enc ++ [enc x])) (hd : wd.heap = wr.heap := by rfl) (ht : wd.tape = wr.tape := by rfl) (hos : wd.os = wr.os := by rfl) (hout : wd.output = wr.output := by rfl) :
    w1.ownsRow w2.heap.size e 1 v' (out ++ [x]).length ((out ++ [x]).map enc) ∧ Below w2.heap.size w2 w1 := by
  refine ⟨by rw [List.length_append, List.map_append]; exact hown', ⟨hgr.os.trans (hos.trans hb.os), hgr.tape.trans (ht.trans hb.tape), hgr.output.trans (hout.trans hb.output), ?_, fun k hk => ?_⟩⟩
  · have h1 := hgr.size
    have h2 := hb.size
    simp [hd] at h1; omega
  · have h2 := hb.size
    rw [hgr.block k (by simp [hd]; omega) (fun e => by have := (hown.lt k e.symm).1; omega), Below.heap_alloc _ _ _ (by rw [hd]; omega), hd]
    exact hb.block k hk
section
variable {ops : Array Oper} {op : Oper} {a : Act} {w : World} {Q : Exit → Act → World → Prop} {K : Act → World → Prop} {b n : Nat} {M : Int → Option Value} {x : Int}
theorem wp_mapv_get (t : TypeId) (m i : Operand) (hop : op.op = Op.lookup t m i false) {e : TypeId} (ht : Try.prog.underlying t = some (.map 3 e)) {z : Value} (hz : ∀ w, (zeroValue e).run Try.prog w = .ok z w)
    (hm : a.eval m = .map (some b)) (hM : MapV w b n M) (hi : a.eval i = .int .i64 x) (hx : I64 x) {v : Value} (hv : M x = some v) (hK : K (a.put op.dst v) w) : op.wp Try.prog a w K Q := by
  have hrun := hM.get ht hz hx false
  rw [hv] at hrun
  simp only [Bool.false_eq_true, if_false, Option.getD_some] at hrun
  unfold Oper.wp
  simp only [execOp, hop, hm, hi, hrun, Sem.run_bind, Result.andThen_ok, Sem.run_pure]
  exact hK
theorem run_msg_field {cs : List Value} {c : Int} (i : Nat) (hi : i = 1 ∨ i = 2) (h : cs[i]? = some (.int .i64 c)) (w : World) : (Instr.field 39 (.agg cs.toArray) i).run Try.prog w = .ok (.int .i64 c) w := by
  have hp : (part 3 cs.toArray i).run Try.prog w = .ok (.int .i64 c) w := run_part_plain (w := w) (by kernel_rfl) (by rw [List.getElem?_toArray]; exact h)
  rcases hi with rfl | rfl <;> simp [Instr.field, run_underlying Try.underlying39, Result.andThen, asAgg, hp]
theorem wp_msg_field {cs : List Value} {c : Int} (x : Operand) (i : Nat) (hop : op.op = Op.field 39 x i) (hi : i = 1 ∨ i = 2) (hx : a.eval x = .agg cs.toArray) (h : cs[i]? = some (.int .i64 c)) (hK : K (a.put op.dst (.int .i64 c)) w) : op.wp Try.prog a w K Q := by
  have hrun := run_msg_field (cs := cs) i hi h w
  unfold Oper.wp
  simp only [execOp, hop, hx, hrun, Sem.run_bind, Result.andThen_ok, Sem.run_pure]
  exact hK
end
def goB (s : NetS) (k : Int) : Bool := match s.ms k with | some m => connB s.grp m.frm m.to | none => false
def DelvMade (s : NetS) (w : World) (e : Ending) (w' : World) : Prop := ∃ (v : Value) (L : List Int), e = .returned v ∧ Reads vi w' v (L.filter (goB s)) ∧ KeysOf s.ms L ∧ Below w.heap.size w w'
theorem filter_step (p : Int → Bool) (L : List Int) {k : Nat} (hk : k < L.length) : (L.take (k + 1)).filter p = (L.take k).filter p ++ if p L[k] = true then [L[k]] else [] := by
  rw [List.take_succ_eq_append_getElem hk, List.filter_append]
  by_cases h : p L[k] = true <;> simp [h]
theorem filter_len (p : Int → Bool) (L : List Int) (k : Nat) : ((L.take k).filter p).length ≤ k := Nat.le_trans (List.length_filter_le _ _) (List.length_take_le _ _)
section
variable {P : Nat → Prop} {n b : Nat} {gv : Value} {s : NetS} {w : World}
set_option maxRecDepth 100000
set_option maxHeartbeats 8000000
theorem deliverable_any (h : NetAt P n b gv s w) (hc : s.cnt ≤ 1000000000) : Calls Try.prog 27 #[.pointer (some ⟨n, 0, none⟩)] w (DelvMade s w) := by
  have HF : Hid (∀ e w', (∃ (v : Value) (L : List Int), e = .returned v ∧ Reads vi w' v (L.filter (goB s)) ∧ KeysOf s.ms L ∧ Below w.heap.size w w') → DelvMade s w e w') := Lib.hid fun _ _ h => h
  have HPE := Lib.hid (pending_any h hc)
  have HN := Lib.hid h
  have HC := Lib.hid hc
  obtain ⟨i0, hi, hz0, hz1, hz2⟩ := info_parts Try.infoInt0
  have HI := Lib.hid (And.intro hi (And.intro hz0 (And.intro hz1 hz2)))
  clear h hc hi hz0 hz1 hz2
  generalize hQ : DelvMade s w = Q at *
  clear hQ
  go_enter Try.func27, Try.ntmps27
  go_wp2_with fail
  refine HPE.out.mono ?_
  rintro e w1 ⟨lv, L, rfl, hrd, hks, hlen, -, hb⟩
  have HRD := Lib.hid hrd
  have HKS := Lib.hid hks
  have HB := Lib.hid hb
  obtain ⟨ao, cap, rfl, hl, hm, -, -⟩ := hrd
  unfold maxLen at hm
  have HLN : Hid (L.length ≤ 1000000000) := Lib.hid (Nat.le_trans hlen HC.out)
  clear hks hlen hb HPE
  have hl64 : L.length ≤ 1000000000 := HLN.out
  go_wp2
  go_loopg [3, 9] L.length (fun mm o i wr => ∃ k : Nat, mm + k = L.length ∧ i = .int .i64 k ∧ wr.ownsRow w1.heap.size 3 1 o ((L.take k).filter (goB s)).length (((L.take k).filter (goB s)).map vi) ∧ Below w1.heap.size w1 wr)
  case atStart => exact ⟨0, by omega, rfl, by simp [World.ownsRow], Below.refl _ _⟩
  case round =>
    rename World => wr
    obtain ⟨k, hmk, rfl, hown, hbel⟩ := hrel
    have HM := Lib.hid hmk
    have HO := Lib.hid (And.intro hown hbel)
    have hk0 : (0 : Int) ≤ (k : Int) := by omega
    have hk1 : k ≤ L.length := by omega
    clear hmk hown hbel
    by_cases hlt : k < L.length
    · have hki : (k : Int) < L.length := by omega
      obtain ⟨b1, o1, c1, hv, hb1, hcell⟩ := int_at HRD.out hlt
      injection hv with e1 e2 e3
      subst e1
      clear e2 e3
      have hst := filter_step (goB s) L hlt
      have hle := filter_len (goB s) L k
      have hmem := (HKS.out.2 L[k]).1 (List.getElem_mem hlt)
      have d1 : wr.cell? ⟨b1, o1 + k, none⟩ = some (.int .i64 L[k]) := (HO.out.2.cell (p := ⟨b1, o1 + k, none⟩) hb1).trans hcell
      have HLT := Lib.hid hlt
      clear hcell hb1
      generalize L[k] = x at *
      clear hlt
      obtain ⟨hxI, hxs⟩ := hmem
      obtain ⟨m, hms⟩ := Option.isSome_iff_exists.1 hxs
      have HX := Lib.hid hxI
      have HGO : Hid (goB s x = connB s.grp m.frm m.to) := Lib.hid (by unfold goB; rw [hms])
      have HNR := Lib.hid (HN.out.on (HB.out.trans (HO.out.2.mono HB.out.size)))
      obtain ⟨M, hM1, hM2⟩ := HNR.out.way
      obtain ⟨cs, hcs1, hcs2⟩ := (hM2 x hxI).2 m hms
      have HMM := Lib.hid hM1
      have HCS := Lib.hid hcs1
      have HFT := Lib.hid (msg_ft hcs2)
      have HLE := Lib.hid hle
      clear hxI hxs hms hM1 hM2 hcs1 hcs2 hle
      go_wp2_with fail
      clear d1
      cases hcon : connB s.grp m.frm m.to with
      | true =>
        have HCON := Lib.hid hcon
        have HGX : Hid (goB s x = true) := Lib.hid (HGO.out.trans hcon)
        have HE : Hid ((L.take (k + 1)).filter (goB s) = (L.take k).filter (goB s) ++ [x]) := Lib.hid (by rw [hst, HGX.out]; rfl)
        clear hcon hst HGO
        generalize (L.take k).filter (goB s) = out at *
        refine region_left [.is (.pointer (some ⟨n, 0, none⟩)), .is (.pointer (some ⟨n, 0, none⟩)), .is (.pointer (some ⟨n, 0, none⟩)), .is (.pointer (some ⟨n, 2, none⟩)), .is (.map (some b)), .is (.int .i64 x), .is (.agg cs.toArray), .is (.int .i64 m.frm), .is (.pointer (some ⟨n, 0, none⟩)), .is (.pointer (some ⟨n, 0, none⟩)), .is (.pointer (some ⟨n, 2, none⟩)), .is (.map (some b)), .is (.int .i64 x), .is (.agg cs.toArray), .is (.int .i64 m.to), .is (.bool true)] (by kernel_rfl) rfl (by kernel_rfl) (by kernel_rfl) (.cons ?ct_0 (.cons ?ct_1 (.cons ?ct_2 (.cons ?ct_3 (.cons ?ct_4 (.cons ?ct_5 (.cons ?ct_6 (.cons ?ct_7 (.cons ?ct_8 (.cons ?ct_9 (.cons ?ct_10 (.cons ?ct_11 (.cons ?ct_12 (.cons ?ct_13 (.cons ?ct_14 (.cons ?ct_15 .nil)))))))))))))))) ?ct_fin
        case ct_0 =>
          intro wq hbw st  K hK
          simp only [Act.put, List.setIfInBounds_toArray, List.set_cons_zero, List.set_cons_succ] at hK ⊢
          unfold opStep
          rw [if_pos (by rfl)]
          go_simp
          exact hK.out _ _ (Below.refl _ _) rfl _ rfl
        case ct_1 =>
          intro wq hbw st  K hK
          simp only [Act.put, List.setIfInBounds_toArray, List.set_cons_zero, List.set_cons_succ] at hK ⊢
          unfold opStep
          rw [if_pos (by rfl)]
          go_simp
          exact hK.out _ _ (Below.refl _ _) rfl _ rfl
        case ct_2 =>
          intro wq hbw st  K hK
          simp only [Act.put, List.setIfInBounds_toArray, List.set_cons_zero, List.set_cons_succ] at hK ⊢
          unfold opStep
          rw [if_pos (by rfl)]
          go_simp
          exact hK.out _ _ (Below.refl _ _) rfl _ rfl
        case ct_3 =>
          intro wq hbw st  K hK
          simp only [Act.put, List.setIfInBounds_toArray, List.set_cons_zero, List.set_cons_succ] at hK ⊢
          unfold opStep
          rw [if_pos (by rfl)]
          go_simp
          exact hK.out _ _ (Below.refl _ _) rfl _ rfl
        case ct_4 =>
          intro wq hbw st  K hK
          simp only [Act.put, List.setIfInBounds_toArray, List.set_cons_zero, List.set_cons_succ] at hK ⊢
          unfold opStep
          rw [if_pos (by rfl)]
          have d0 : wq.cell? ⟨n, 2, none⟩ = some (.map (some b)) := (HNR.out.on hbw).box.cell 2
          go_simp
          exact hK.out _ _ (Below.refl _ _) rfl _ rfl
        case ct_5 =>
          intro wq hbw st  K hK
          simp only [Act.put, List.setIfInBounds_toArray, List.set_cons_zero, List.set_cons_succ] at hK ⊢
          unfold opStep
          rw [if_pos (by rfl)]
          go_simp
          exact hK.out _ _ (Below.refl _ _) rfl _ rfl
        case ct_6 =>
          intro wq hbw st  K hK
          simp only [Act.put, List.setIfInBounds_toArray, List.set_cons_zero, List.set_cons_succ] at hK ⊢
          unfold opStep
          rw [if_pos (by rfl)]
          refine wp_mapv_get 72 (.tmp 17) (.tmp 18) (by rfl) Try.underlying72 zeroMsg_run (by rfl) (HMM.out.on hbw) (by rfl) HX.out HCS.out ?_
          exact hK.out _ _ (Below.refl _ _) rfl _ rfl
        case ct_7 =>
          intro wq hbw st  K hK
          simp only [Act.put, List.setIfInBounds_toArray, List.set_cons_zero, List.set_cons_succ] at hK ⊢
          unfold opStep
          rw [if_pos (by rfl)]
          refine wp_msg_field (.tmp 19) 1 (by rfl) (.inl rfl) (by rfl) HFT.out.1 ?_
          exact hK.out _ _ (Below.refl _ _) rfl _ rfl
        case ct_8 =>
          intro wq hbw st  K hK
          simp only [Act.put, List.setIfInBounds_toArray, List.set_cons_zero, List.set_cons_succ] at hK ⊢
          unfold opStep
          rw [if_pos (by rfl)]
          go_simp
          exact hK.out _ _ (Below.refl _ _) rfl _ rfl
        case ct_9 =>
          intro wq hbw st  K hK
          simp only [Act.put, List.setIfInBounds_toArray, List.set_cons_zero, List.set_cons_succ] at hK ⊢
          unfold opStep
          rw [if_pos (by rfl)]
          go_simp
          exact hK.out _ _ (Below.refl _ _) rfl _ rfl
        case ct_10 =>
          intro wq hbw st  K hK
          simp only [Act.put, List.setIfInBounds_toArray, List.set_cons_zero, List.set_cons_succ] at hK ⊢
          unfold opStep
          rw [if_pos (by rfl)]
          go_simp
          exact hK.out _ _ (Below.refl _ _) rfl _ rfl
        case ct_11 =>
          intro wq hbw st  K hK
          simp only [Act.put, List.setIfInBounds_toArray, List.set_cons_zero, List.set_cons_succ] at hK ⊢
          unfold opStep
          rw [if_pos (by rfl)]
          have d0 : wq.cell? ⟨n, 2, none⟩ = some (.map (some b)) := (HNR.out.on hbw).box.cell 2
          go_simp
          exact hK.out _ _ (Below.refl _ _) rfl _ rfl
        case ct_12 =>
          intro wq hbw st  K hK
          simp only [Act.put, List.setIfInBounds_toArray, List.set_cons_zero, List.set_cons_succ] at hK ⊢
          unfold opStep
          rw [if_pos (by rfl)]
          go_simp
          exact hK.out _ _ (Below.refl _ _) rfl _ rfl
        case ct_13 =>
          intro wq hbw st  K hK
          simp only [Act.put, List.setIfInBounds_toArray, List.set_cons_zero, List.set_cons_succ] at hK ⊢
          unfold opStep
          rw [if_pos (by rfl)]
          refine wp_mapv_get 72 (.tmp 24) (.tmp 25) (by rfl) Try.underlying72 zeroMsg_run (by rfl) (HMM.out.on hbw) (by rfl) HX.out HCS.out ?_
          exact hK.out _ _ (Below.refl _ _) rfl _ rfl
        case ct_14 =>
          intro wq hbw st  K hK
          simp only [Act.put, List.setIfInBounds_toArray, List.set_cons_zero, List.set_cons_succ] at hK ⊢
          unfold opStep
          rw [if_pos (by rfl)]
          refine wp_msg_field (.tmp 26) 2 (by rfl) (.inr rfl) (by rfl) HFT.out.2.1 ?_
          exact hK.out _ _ (Below.refl _ _) rfl _ rfl
        case ct_15 =>
          intro wq hbw st  K hK
          simp only [Act.put, List.setIfInBounds_toArray, List.set_cons_zero, List.set_cons_succ] at hK ⊢
          unfold opStep
          rw [if_pos (by rfl)]
          go_simp
          have hpc := connected_any m.frm m.to (HNR.out.on hbw)
          rw [HCON.out] at hpc
          refine hpc.mono ?_
          rintro e wz ⟨rfl, rfl⟩
          go_simp
          exact hK.out _ _ (Below.refl _ _) rfl _ rfl
        case ct_fin =>
          intro wq hbw
          try simp only [FinAll]
          simp only [Act.put, List.setIfInBounds_toArray, List.set_cons_zero, List.set_cons_succ]
          have HO2 : Hid (wq.ownsRow w1.heap.size 3 1 _ out.length (out.map vi) ∧ Below w1.heap.size w1 wq) := Lib.hid ⟨(Kept.of hbw : Kept (fun _ => False) wr wq).row HO.out.1 fun _ _ h => h, HO.out.2.trans (hbw.mono HO.out.2.size)⟩
          clear hbw
          have hol := HLE.out
          go_wp2_with (at_builtin; refine wpList_append_own _ rfl _ _ 59 rfl w1.heap.size 3 i0 (.int .i64 0) 1 8 Try.underlying59 HI.out.1 HI.out.2.1 HI.out.2.2.1 HI.out.2.2.2 rfl (by decide) _ _ _ rfl (by exact HO2.out.1.alloc _) ⟨_, 0, none⟩ 1 1 [.int .i64 x] rfl rfl ?q1 ?q2 ?q3 ?q4 ?q5 ?_)
          case q1 => exact cell_one_new _ _ _
          case q2 => intro u hu; simp at hu; subst hu; rfl
          case q3 => unfold maxLen; omega
          case q4 => omega
          case q5 => have := HO2.out.2.size; simp; omega
          intro v3 w3 hown3 hgr3 _
          have H3 := Lib.hid (append_one (x := x) HO2.out.1 HO2.out.2 (by exact hgr3) hown3)
          clear hown3 hgr3 hol
          go_wp2
          go_roundg (L.length - (k + 1))
          case measure => have := HM.out; have := HLT.out; omega
          case rel => exact ⟨k + 1, by have := HLT.out; omega, by go_num, by rw [HE.out]; exact H3.out.1, H3.out.2⟩
      | false =>
        have HCON := Lib.hid hcon
        have HGX : Hid (goB s x = false) := Lib.hid (HGO.out.trans hcon)
        have HE : Hid ((L.take (k + 1)).filter (goB s) = (L.take k).filter (goB s)) := Lib.hid (by rw [hst, HGX.out]; simp)
        clear hcon hst HGO
        generalize (L.take k).filter (goB s) = out at *
        refine region_left [.is (.pointer (some ⟨n, 0, none⟩)), .is (.pointer (some ⟨n, 0, none⟩)), .is (.pointer (some ⟨n, 0, none⟩)), .is (.pointer (some ⟨n, 2, none⟩)), .is (.map (some b)), .is (.int .i64 x), .is (.agg cs.toArray), .is (.int .i64 m.frm), .is (.pointer (some ⟨n, 0, none⟩)), .is (.pointer (some ⟨n, 0, none⟩)), .is (.pointer (some ⟨n, 2, none⟩)), .is (.map (some b)), .is (.int .i64 x), .is (.agg cs.toArray), .is (.int .i64 m.to), .is (.bool false)] (by kernel_rfl) rfl (by kernel_rfl) (by kernel_rfl) (.cons ?cf_0 (.cons ?cf_1 (.cons ?cf_2 (.cons ?cf_3 (.cons ?cf_4 (.cons ?cf_5 (.cons ?cf_6 (.cons ?cf_7 (.cons ?cf_8 (.cons ?cf_9 (.cons ?cf_10 (.cons ?cf_11 (.cons ?cf_12 (.cons ?cf_13 (.cons ?cf_14 (.cons ?cf_15 .nil)))))))))))))))) ?cf_fin
        case cf_0 =>
          intro wq hbw st  K hK
          simp only [Act.put, List.setIfInBounds_toArray, List.set_cons_zero, List.set_cons_succ] at hK ⊢
          unfold opStep
          rw [if_pos (by rfl)]
          go_simp
          exact hK.out _ _ (Below.refl _ _) rfl _ rfl
        case cf_1 =>
          intro wq hbw st  K hK
          simp only [Act.put, List.setIfInBounds_toArray, List.set_cons_zero, List.set_cons_succ] at hK ⊢
          unfold opStep
          rw [if_pos (by rfl)]
          go_simp
          exact hK.out _ _ (Below.refl _ _) rfl _ rfl
        case cf_2 =>
          intro wq hbw st  K hK
          simp only [Act.put, List.setIfInBounds_toArray, List.set_cons_zero, List.set_cons_succ] at hK ⊢
          unfold opStep
          rw [if_pos (by rfl)]
          go_simp
          exact hK.out _ _ (Below.refl _ _) rfl _ rfl
        case cf_3 =>
          intro wq hbw st  K hK
          simp only [Act.put, List.setIfInBounds_toArray, List.set_cons_zero, List.set_cons_succ] at hK ⊢
          unfold opStep
          rw [if_pos (by rfl)]
          go_simp
          exact hK.out _ _ (Below.refl _ _) rfl _ rfl
        case cf_4 =>
          intro wq hbw st  K hK
          simp only [Act.put, List.setIfInBounds_toArray, List.set_cons_zero, List.set_cons_succ] at hK ⊢
          unfold opStep
          rw [if_pos (by rfl)]
          have d0 : wq.cell? ⟨n, 2, none⟩ = some (.map (some b)) := (HNR.out.on hbw).box.cell 2
          go_simp
          exact hK.out _ _ (Below.refl _ _) rfl _ rfl
        case cf_5 =>
          intro wq hbw st  K hK
          simp only [Act.put, List.setIfInBounds_toArray, List.set_cons_zero, List.set_cons_succ] at hK ⊢
          unfold opStep
          rw [if_pos (by rfl)]
          go_simp
          exact hK.out _ _ (Below.refl _ _) rfl _ rfl
        case cf_6 =>
          intro wq hbw st  K hK
          simp only [Act.put, List.setIfInBounds_toArray, List.set_cons_zero, List.set_cons_succ] at hK ⊢
          unfold opStep
          rw [if_pos (by rfl)]
          refine wp_mapv_get 72 (.tmp 17) (.tmp 18) (by rfl) Try.underlying72 zeroMsg_run (by rfl) (HMM.out.on hbw) (by rfl) HX.out HCS.out ?_
          exact hK.out _ _ (Below.refl _ _) rfl _ rfl
        case cf_7 =>
          intro wq hbw st  K hK
          simp only [Act.put, List.setIfInBounds_toArray, List.set_cons_zero, List.set_cons_succ] at hK ⊢
          unfold opStep
          rw [if_pos (by rfl)]
          refine wp_msg_field (.tmp 19) 1 (by rfl) (.inl rfl) (by rfl) HFT.out.1 ?_
          exact hK.out _ _ (Below.refl _ _) rfl _ rfl
        case cf_8 =>
          intro wq hbw st  K hK
          simp only [Act.put, List.setIfInBounds_toArray, List.set_cons_zero, List.set_cons_succ] at hK ⊢
          unfold opStep
          rw [if_pos (by rfl)]
          go_simp
          exact hK.out _ _ (Below.refl _ _) rfl _ rfl
        case cf_9 =>
          intro wq hbw st  K hK
          simp only [Act.put, List.setIfInBounds_toArray, List.set_cons_zero, List.set_cons_succ] at hK ⊢
          unfold opStep
          rw [if_pos (by rfl)]
          go_simp
          exact hK.out _ _ (Below.refl _ _) rfl _ rfl
        case cf_10 =>
          intro wq hbw st  K hK
          simp only [Act.put, List.setIfInBounds_toArray, List.set_cons_zero, List.set_cons_succ] at hK ⊢
          unfold opStep
          rw [if_pos (by rfl)]
          go_simp
          exact hK.out _ _ (Below.refl _ _) rfl _ rfl
        case cf_11 =>
          intro wq hbw st  K hK
          simp only [Act.put, List.setIfInBounds_toArray, List.set_cons_zero, List.set_cons_succ] at hK ⊢
          unfold opStep
          rw [if_pos (by rfl)]
          have d0 : wq.cell? ⟨n, 2, none⟩ = some (.map (some b)) := (HNR.out.on hbw).box.cell 2
          go_simp
          exact hK.out _ _ (Below.refl _ _) rfl _ rfl
        case cf_12 =>
          intro wq hbw st  K hK
          simp only [Act.put, List.setIfInBounds_toArray, List.set_cons_zero, List.set_cons_succ] at hK ⊢
          unfold opStep
          rw [if_pos (by rfl)]
          go_simp
          exact hK.out _ _ (Below.refl _ _) rfl _ rfl
        case cf_13 =>
          intro wq hbw st  K hK
          simp only [Act.put, List.setIfInBounds_toArray, List.set_cons_zero, List.set_cons_succ] at hK ⊢
          unfold opStep
          rw [if_pos (by rfl)]
          refine wp_mapv_get 72 (.tmp 24) (.tmp 25) (by rfl) Try.underlying72 zeroMsg_run (by rfl) (HMM.out.on hbw) (by rfl) HX.out HCS.out ?_
          exact hK.out _ _ (Below.refl _ _) rfl _ rfl
        case cf_14 =>
          intro wq hbw st  K hK
          simp only [Act.put, List.setIfInBounds_toArray, List.set_cons_zero, List.set_cons_succ] at hK ⊢
          unfold opStep
          rw [if_pos (by rfl)]
          refine wp_msg_field (.tmp 26) 2 (by rfl) (.inr rfl) (by rfl) HFT.out.2.1 ?_
          exact hK.out _ _ (Below.refl _ _) rfl _ rfl
        case cf_15 =>
          intro wq hbw st  K hK
          simp only [Act.put, List.setIfInBounds_toArray, List.set_cons_zero, List.set_cons_succ] at hK ⊢
          unfold opStep
          rw [if_pos (by rfl)]
          go_simp
          have hpc := connected_any m.frm m.to (HNR.out.on hbw)
          rw [HCON.out] at hpc
          refine hpc.mono ?_
          rintro e wz ⟨rfl, rfl⟩
          go_simp
          exact hK.out _ _ (Below.refl _ _) rfl _ rfl
        case cf_fin =>
          intro wq hbw
          try simp only [FinAll]
          simp only [Act.put, List.setIfInBounds_toArray, List.set_cons_zero, List.set_cons_succ]
          have HO2 : Hid (wq.ownsRow w1.heap.size 3 1 _ out.length (out.map vi) ∧ Below w1.heap.size w1 wq) := Lib.hid ⟨(Kept.of hbw : Kept (fun _ => False) wr wq).row HO.out.1 fun _ _ h => h, HO.out.2.trans (hbw.mono HO.out.2.size)⟩
          clear hbw
          go_wp2
          go_roundg (L.length - (k + 1))
          case measure => have := HM.out; have := HLT.out; omega
          case rel => exact ⟨k + 1, by have := HLT.out; omega, by go_num, by rw [HE.out]; exact HO2.out.1, HO2.out.2⟩
    · have hki : ¬ (k : Int) < L.length := by omega
      have hF : (L.take k).filter (goB s) = L.filter (goB s) := by rw [List.take_of_length_le (by omega)]
      have HFR := Lib.hid (Reads.of_owns (hF ▸ HO.out.1))
      clear hF
      go_wp2
      exact HF.out _ _ ⟨_, L, rfl, HFR.out, HKS.out, HB.out.trans (HO.out.2.mono HB.out.size)⟩
end
end Go.Proofs.Ytmcdmcnbnnfhnaa
