/-
  Chapter 39: Conf, replicas, Members of the reference.
-/
import Derived.Test.YtahpecbcpgjinaaDd
namespace Go.Proofs.Ytahpecbcpgjinaa
open Go.RowKit

def confStep (R : Int) (out : List Cmd) (c : Cmd) : List Cmd := if confB R c = true ∧ c ∉ out then out ++ [c] else out
/-- The configuration commands of a list, each once. -/
def confL (R : Int) (L : List Cmd) : List Cmd := L.foldl (confStep R) []
theorem confL_snoc (R : Int) {L : List Cmd} {k : Nat} (h : k < L.length) : confL R (L.take (k + 1)) = confStep R (confL R (L.take k)) L[k] := by
  unfold confL
  rw [List.take_succ_eq_append_getElem h, List.foldl_append]; rfl
theorem confStep_mem {R : Int} {out : List Cmd} {c d : Cmd} : d ∈ confStep R out c ↔ d ∈ out ∨ (d = c ∧ confB R c = true) := by
  unfold confStep
  split
  · rename_i h; simp [h.1]
  · rename_i h
    constructor
    · exact .inl
    · rintro (h1 | ⟨rfl, h2⟩)
      · exact h1
      · exact Decidable.byContradiction fun h3 => h ⟨h2, h3⟩
theorem confFold_mem (R : Int) : ∀ (L out : List Cmd) (d : Cmd), d ∈ L.foldl (confStep R) out ↔ d ∈ out ∨ (d ∈ L ∧ confB R d = true)
  | [], out, d => by simp
  | c :: L, out, d => by
    rw [List.foldl_cons, confFold_mem R L, confStep_mem]
    constructor
    · rintro ((h | ⟨rfl, h⟩) | h)
      · exact .inl h
      · exact .inr ⟨List.mem_cons_self .., h⟩
      · exact .inr ⟨List.mem_cons_of_mem _ h.1, h.2⟩
    · rintro (h | ⟨h, h2⟩)
      · exact .inl (.inl h)
      · rcases List.mem_cons.1 h with rfl | h
        · exact .inl (.inr ⟨rfl, h2⟩)
        · exact .inr ⟨h, h2⟩
theorem confL_mem {R : Int} {L : List Cmd} {d : Cmd} : d ∈ confL R L ↔ d ∈ L ∧ confB R d = true := by unfold confL; rw [confFold_mem]; simp
theorem confStep_len (R : Int) (out : List Cmd) (c : Cmd) : (confStep R out c).length ≤ out.length + 1 := by unfold confStep; split <;> simp
theorem confL_take_len (R : Int) (L : List Cmd) : ∀ k, (confL R (L.take k)).length ≤ k
  | 0 => by simp [confL]
  | k + 1 => by
    by_cases h : k < L.length
    · rw [confL_snoc R h]; have := confStep_len R (confL R (L.take k)) L[k]; have := confL_take_len R L k; omega
    · have := confL_take_len R L k
      rw [List.take_of_length_le (by omega)] at this ⊢
      omega
theorem confL_len (R : Int) (L : List Cmd) : (confL R L).length ≤ L.length := by have := confL_take_len R L L.length; rwa [List.take_length] at this
theorem confStep_nodup {R : Int} {out : List Cmd} {c : Cmd} (h : out.Nodup) : (confStep R out c).Nodup := by
  unfold confStep
  split
  · rename_i h1
    rw [List.nodup_append]
    refine ⟨h, by simp, fun a ha b hb => ?_⟩
    rw [List.mem_singleton] at hb
    subst hb
    rintro rfl
    exact h1.2 ha
  · exact h
theorem confL_nodup (R : Int) (L : List Cmd) : (confL R L).Nodup := by
  have : ∀ (L out : List Cmd), out.Nodup → (L.foldl (confStep R) out).Nodup := by
    intro L
    induction L with
    | nil => intro out h; exact h
    | cons c L ih => intro out h; exact ih _ (confStep_nodup h)
  exact this L [] List.nodup_nil
theorem added_conf {R r : Int} (L : List Cmd) (h0 : 0 ≤ r) (h1 : r < R) : addedB (confL R L) r = addedB L r := by
  unfold addedB
  rw [Bool.eq_iff_iff, decide_eq_true_eq, decide_eq_true_eq]
  constructor
  · rintro ⟨c, hc, a⟩; exact ⟨c, (confL_mem.1 hc).1, a⟩
  · rintro ⟨c, hc, a, b⟩; exact ⟨c, confL_mem.2 ⟨hc, decide_eq_true ⟨.inl a, by omega, by omega⟩⟩, a, b⟩
theorem removed_conf {R r : Int} (L : List Cmd) (h0 : 0 ≤ r) (h1 : r < R) : removedB (confL R L) r = removedB L r := by
  unfold removedB
  rw [Bool.eq_iff_iff, decide_eq_true_eq, decide_eq_true_eq]
  constructor
  · rintro ⟨c, hc, a⟩; exact ⟨c, (confL_mem.1 hc).1, a⟩
  · rintro ⟨c, hc, a, b⟩; exact ⟨c, confL_mem.2 ⟨hc, decide_eq_true ⟨.inr a, by omega, by omega⟩⟩, a, b⟩
theorem membersR_conf (R : Int) (F : List Int) (L : List Cmd) : membersR R F (confL R L) = membersR R F L := by
  unfold membersR
  refine List.filter_congr fun r hr => ?_
  have := mem_reps.1 hr
  unfold isMem
  rw [added_conf L this.1 this.2, removed_conf L this.1 this.2]


/-- A list of commands in a row of the call's own. -/
def MadeO (w : World) (xs : List Cmd) (e : Ending) (w' : World) : Prop := ∃ v' w1, e = .returned v' ∧ Below w.heap.size w w1 ∧ OwnC w1 w' v' xs ∧ Below w.heap.size w w'
set_option maxRecDepth 100000 in
set_option maxHeartbeats 2000000 in
theorem conf_own (g v : Value) (M R : Int) (F : List Int) (L : List Cmd) (w : World) (hg : Gen w g M R F) (hr : ReadsC w v L) (hn : L.length ≤ 1000000) :
    Calls Try.prog 42 #[g, v] w (MadeO w (confL R L)) := by
  obtain ⟨vF, cl, vA, vO, rfl, hF, ⟨a2, n2, k2, rfl⟩, ⟨a3, n3, k3, rfl⟩⟩ := hg
  obtain ⟨a1, n1, k1, rfl⟩ := Slc.of_reads hF
  have HR := Lib.hid hr
  obtain ⟨ao, cap, rfl, hl, hm, hnn, hx⟩ := hr
  unfold maxLen at hm
  clear hF hnn hx
  unfold gen
  go_enter Try.func42, Try.ntmps42
  go_wp2
  generalize hw1 : World.alloc w _ = w1
  have HB1 := Lib.hid (boxed_of hw1)
  clear hw1
  go_loopg [5, 6] L.length (fun m o i wr => ∃ k : Nat, m + k = L.length ∧ i = .int .i64 k ∧ OwnC w1 wr o (confL R (L.take k)))
  case atStart => exact ⟨0, by omega, rfl, OwnC.nil _⟩
  case round =>
    obtain ⟨k, hmk, rfl, hown⟩ := hrel
    have HM := Lib.hid hmk
    have HO := Lib.hid hown
    have HBW := Lib.hid (HB1.out.2.trans (hown.1.mono HB1.out.2.size))
    have hblk := HB1.out.1.on hown.1
    have g1 := hblk.cell 1
    have hlt0 := hblk.lt
    have hcl := confL_take_len R L k
    have hk : k ≤ L.length := by omega
    clear hmk hown hblk
    by_cases hlt : k < L.length
    · obtain ⟨b, off, c1, vw, vt, hv, hl1, hm1, hb, x0, x1, x2, x3, x4, x5, r1, r2⟩ := (HR.out.on HBW.out).at_ hlt
      obtain ⟨b', off', c1', vw', vt', hv', _, _, hb', y0, y1, y2, y3, y4, y5, s1, s2⟩ := (HR.out.on HB1.out.2).at_ hlt
      injection hv with e1 e2 e3
      subst e1
      injection hv' with e1 e2' e3'
      injection e1 with e1
      injection e1 with e1 e4
      subst e1 e4
      have hvw : vw' = vw := by have := ((HO.out.1.cell (p := ⟨b, off + k * 6 + 3, none⟩) hb').trans y3).symm.trans x3; injection this
      have hvt : vt' = vt := by have := ((HO.out.1.cell (p := ⟨b, off + k * 6 + 5, none⟩) hb').trans y5).symm.trans x5; injection this
      subst hvw hvt
      have hel : CmdAt wr (cmdV L[k] vw' vt') L[k] := ⟨vw', vt', rfl, r1, r2⟩
      obtain ⟨a5, n5, k5, rfl⟩ := Slc.of_readsK r1
      obtain ⟨a6, n6, k6, rfl⟩ := Slc.of_reads r2
      unfold cmdV at hel
      have hi : (k : Int) < L.length := by omega
      have hstep := confL_snoc R hlt
      unfold confStep at hstep
      generalize hcd : L[k] = x at *
      have hin := in_any u5 _ (confL R (L.take k)) x (wr.alloc (.cells #[.int .i64 x.1, .int .i64 x.2.1, .int .i64 (kindC x), .slice a5 n5 k5, .int .i64 (repC x), .slice a6 n6 k6] 52)) ((HO.out.later ((Below.refl _ _).alloc (Nat.le_refl _) _)).reads) (hel.on ((Below.refl _ _).alloc (Nat.le_refl _) _))
      have HS := Lib.hid (And.intro s1 s2)
      clear r1 r2 hel e2 e3 e2' e3' y0 y1 y2 y3 y4 y5 hb' s1 s2 hcd
      have hkd : confB R x = decide ((kindC x = 2 ∨ kindC x = 3) ∧ 0 ≤ repC x ∧ repC x < R) := rfl
      by_cases hcf : confB R x = true
      · have hcc := of_decide_eq_true (hkd.symm.trans hcf)
        obtain ⟨hk23, h3, h4⟩ := hcc
        by_cases hd : x ∈ confL R (L.take k)
        · rw [if_neg (fun h => h.2 hd)] at hstep
          rw [decide_eq_true hd] at hin
          have HE := Lib.hid hstep
          have HI := Lib.hid hin
          clear hstep hin hd hcf hkd
          generalize confL R (L.take k) = out at *
          generalize kindC x = kd at *
          rcases hk23 with rfl | rfl
          all_goals
            go_wp2_with fail
            refine HI.out.mono ?_
            rintro e w5 ⟨rfl, hb5⟩
            have H5 := Lib.hid (HO.out.later (((Below.refl wr.heap.size wr).alloc (Nat.le_refl _) _).trans (hb5.mono (by simp))))
            clear hb5
            go_wp2
            go_roundg (L.length - (k + 1))
            case measure => have := HM.out; omega
            case rel => exact ⟨k + 1, by omega, by go_num, by rw [HE.out]; exact H5.out⟩
        · rw [if_pos ⟨hcf, hd⟩] at hstep
          rw [decide_eq_false hd] at hin
          have HE := Lib.hid hstep
          have HI := Lib.hid hin
          clear hstep hin hd hcf hkd
          generalize confL R (L.take k) = out at *
          have hsr := fun (wz : World) => SrcC.of_new (w0 := w1) (wr := wz) (c := x) (t := 52) HS.out.1 HS.out.2
          generalize kindC x = kd at *
          have HSR := Lib.hid hsr
          clear hsr
          rcases hk23 with rfl | rfl
          all_goals
            go_wp2_with fail
            refine HI.out.mono ?_
            rintro e w5 ⟨rfl, hb5⟩
            obtain ⟨d0, d1, d2, d3, d4, d5, dlt⟩ := blk6 ((Blk.new wr _ _).on hb5)
            have H5 := Lib.hid (HO.out.later (((Below.refl wr.heap.size wr).alloc (Nat.le_refl _) _).trans (hb5.mono (by simp))))
            clear hb5
            go_wp2_with (at_builtin; refine append_cmds (w0 := w1) rfl (.tmp 44) (.tmp 46) rfl u5 _ out [x] rfl rfl (H5.out.later ((Below.refl _ _).alloc (Nat.le_refl _) _)) (HSR.out w5) (by simp; omega) ?_)
            intro v6 w6 hown6
            have H6 := Lib.hid hown6
            clear hown6
            go_wp2
            go_roundg (L.length - (k + 1))
            case measure => have := HM.out; omega
            case rel => exact ⟨k + 1, by omega, by go_num, by rw [HE.out]; exact H6.out⟩
      · rw [if_neg (fun h => hcf h.1)] at hstep
        have HE := Lib.hid hstep
        have hnc : ¬ ((kindC x = 2 ∨ kindC x = 3) ∧ 0 ≤ repC x ∧ repC x < R) := fun h => hcf (hkd.trans (decide_eq_true h))
        have H5 := fun (o : Obj) => HO.out.later ((Below.refl wr.heap.size wr).alloc (Nat.le_refl _) o)
        have HH5 := Lib.hid H5
        clear hstep hin hcf hkd H5
        generalize confL R (L.take k) = out at *
        generalize kindC x = kd at *
        generalize repC x = rp at *
        by_cases h1 : kd = 2
        · have e1 := beq_t h1
          by_cases h3 : 0 ≤ rp
          · have h4 : ¬ rp < R := fun h => hnc ⟨.inl h1, h3, h⟩
            clear hnc h1
            go_wp2
            go_roundg (L.length - (k + 1))
            case measure => have := HM.out; omega
            case rel => exact ⟨k + 1, by omega, by go_num, by rw [HE.out]; exact HH5.out _⟩
          · clear hnc h1
            go_wp2
            go_roundg (L.length - (k + 1))
            case measure => have := HM.out; omega
            case rel => exact ⟨k + 1, by omega, by go_num, by rw [HE.out]; exact HH5.out _⟩
        · have e1 := beq_f h1
          by_cases h2 : kd = 3
          · have e2 := beq_t h2
            by_cases h3 : 0 ≤ rp
            · have h4 : ¬ rp < R := fun h => hnc ⟨.inr h2, h3, h⟩
              clear hnc h1 h2
              go_wp2
              go_roundg (L.length - (k + 1))
              case measure => have := HM.out; omega
              case rel => exact ⟨k + 1, by omega, by go_num, by rw [HE.out]; exact HH5.out _⟩
            · clear hnc h1 h2
              go_wp2
              go_roundg (L.length - (k + 1))
              case measure => have := HM.out; omega
              case rel => exact ⟨k + 1, by omega, by go_num, by rw [HE.out]; exact HH5.out _⟩
          · have e2 := beq_f h2
            clear hnc h1 h2
            go_wp2
            go_roundg (L.length - (k + 1))
            case measure => have := HM.out; omega
            case rel => exact ⟨k + 1, by omega, by go_num, by rw [HE.out]; exact HH5.out _⟩
    · have HE : Hid (confL R (L.take k) = confL R L) := Lib.hid (by rw [List.take_of_length_le (by omega)])
      go_wp2
      go_ret
      exact ⟨_, w1, rfl, HB1.out.2, by rw [← HE.out]; exact HO.out, HBW.out⟩
theorem conf_any (g v : Value) (M R : Int) (F : List Int) (L : List Cmd) (w : World) (hg : Gen w g M R F) (hr : ReadsC w v L) (hn : L.length ≤ 1000000) :
    Calls Try.prog 42 #[g, v] w (MadeC w (confL R L)) :=
  (conf_own g v M R F L w hg hr hn).mono fun _ _ ⟨v', _, h1, _, h2, h3⟩ => ⟨v', h1, h2.reads, h3⟩

set_option maxRecDepth 100000 in
set_option maxHeartbeats 2000000 in
theorem replicas_any (g v : Value) (M R : Int) (F : List Int) (L : List Cmd) (w : World) (hg : Gen w g M R F) (hr : ReadsC w v L) (hR : 1 ≤ R ∧ R ≤ 12) :
    Calls Try.prog 41 #[g, v] w (MadeI w (membersR R F L)) := by
  obtain ⟨i0, hinf, hz0, hz1, hz2⟩ := info_parts Try.infoInt
  have HI := Lib.hid (And.intro hinf (And.intro hz0 (And.intro hz1 hz2)))
  clear hinf hz0 hz1 hz2
  have HG := Lib.hid (And.intro hg hr)
  obtain ⟨vF, cl, vA, vO, rfl, hF, ⟨a2, n2, k2, rfl⟩, ⟨a3, n3, k3, rfl⟩⟩ := hg
  obtain ⟨a1, n1, k1, rfl⟩ := Slc.of_reads hF
  clear hF hr
  unfold gen at *
  have HMR : Hid (membersR R F L = upTo (isMem F L) R.toNat) := Lib.hid rfl
  obtain ⟨n, rfl⟩ : ∃ n : Nat, R = n := ⟨R.toNat, by omega⟩
  have hn12 : n ≤ 12 := by omega
  rw [Int.toNat_natCast] at HMR
  clear hR
  go_enter Try.func41, Try.ntmps41
  go_wp2
  generalize hw1 : World.alloc w _ = w1
  have HB1 := Lib.hid (boxed_of hw1)
  clear hw1
  go_loopg [5, 6] n (fun m o i wr => ∃ k : Nat, m + k = n ∧ i = .int .i64 k ∧ wr.ownsRow w1.heap.size 3 1 o (upTo (isMem F L) k).length ((upTo (isMem F L) k).map vi) ∧ Below w1.heap.size w1 wr)
  case atStart => exact ⟨0, by omega, rfl, by simp [upTo, World.ownsRow], Below.refl _ _⟩
  case round =>
    obtain ⟨k, hmk, rfl, hown, hbel⟩ := hrel
    have HM := Lib.hid hmk
    have hk : k ≤ n := by omega
    have HO := Lib.hid (And.intro hown hbel)
    have HBW := Lib.hid (HB1.out.2.trans (hbel.mono HB1.out.2.size))
    have HBK := Lib.hid (HB1.out.1.on hbel)
    obtain ⟨g0, g1, g2, g3, g4, g5, hlt0⟩ := blk6 HBK.out
    have hol := upTo_len (isMem F L) k
    clear hmk hown hbel
    by_cases hlt : k < n
    · have hfo := founder_any _ M n F k wr (HG.out.1.on HBW.out)
      have hp : isMem F L (k : Int) = ((decide ((k : Int) ∈ F) || addedB L k) && !removedB L k) := rfl
      have ha : addedB L k = decide (∃ c ∈ L, kindC c = 2 ∧ repC c = (k : Int)) := rfl
      have hx : removedB L k = decide (∃ c ∈ L, kindC c = 3 ∧ repC c = (k : Int)) := rfl
      have hy := @upTo_yes (isMem F L) k
      have hnn := @upTo_no (isMem F L) k
      generalize removedB L k = x at *
      generalize addedB L k = ad at *
      generalize decide ((k : Int) ∈ F) = f at *
      rw [hp] at hy hnn
      have HY := Lib.hid (And.intro hy hnn)
      have HF := Lib.hid hfo
      have HAX := Lib.hid (And.intro ha hx)
      clear hy hnn hfo hp ha hx
      have hsome := fun (wz : World) (hz : Below wr.heap.size wr wz) (kd : Int) => some_any v L kd k wz ((HG.out.2.on HBW.out).on hz)
      have HS := Lib.hid hsome
      clear hsome
      cases f
      · cases ad
        · cases x
          · have HE := Lib.hid (HY.out.2 rfl)
            clear HY
            generalize upTo (isMem F L) k = out at *
            go_wp2_with fail
            refine HF.out.mono ?_
            rintro e w4 ⟨rfl, hb4⟩
            have H4 := Lib.hid (And.intro (HO.out.2.trans (hb4.mono HO.out.2.size)) (And.intro hb4 (below_row HO.out.1 hb4)))
            clear hb4
            go_wp2_with fail
            refine (HS.out _ H4.out.2.1 2).mono ?_
            rintro e w5 ⟨rfl, rfl⟩
            rw [← HAX.out.1]
            go_wp2
            go_roundg (n - (k + 1))
            case measure => have := HM.out; omega
            case rel => exact ⟨k + 1, by omega, by go_num, by rw [HE.out]; exact H4.out.2.2, H4.out.1⟩
          · have HE := Lib.hid (HY.out.2 rfl)
            clear HY
            generalize upTo (isMem F L) k = out at *
            go_wp2_with fail
            refine HF.out.mono ?_
            rintro e w4 ⟨rfl, hb4⟩
            have H4 := Lib.hid (And.intro (HO.out.2.trans (hb4.mono HO.out.2.size)) (And.intro hb4 (below_row HO.out.1 hb4)))
            clear hb4
            go_wp2_with fail
            refine (HS.out _ H4.out.2.1 2).mono ?_
            rintro e w5 ⟨rfl, rfl⟩
            rw [← HAX.out.1]
            go_wp2
            go_roundg (n - (k + 1))
            case measure => have := HM.out; omega
            case rel => exact ⟨k + 1, by omega, by go_num, by rw [HE.out]; exact H4.out.2.2, H4.out.1⟩
        · cases x
          · have HE := Lib.hid (HY.out.1 rfl)
            clear HY
            generalize upTo (isMem F L) k = out at *
            go_wp2_with fail
            refine HF.out.mono ?_
            rintro e w4 ⟨rfl, hb4⟩
            have H4 := Lib.hid (And.intro (HO.out.2.trans (hb4.mono HO.out.2.size)) (And.intro hb4 (below_row HO.out.1 hb4)))
            clear hb4
            go_wp2_with fail
            refine (HS.out _ H4.out.2.1 2).mono ?_
            rintro e w5 ⟨rfl, rfl⟩
            rw [← HAX.out.1]
            go_wp2_with fail
            refine (HS.out _ H4.out.2.1 3).mono ?_
            rintro e w5 ⟨rfl, rfl⟩
            rw [← HAX.out.2]
            go_wp2_with (at_builtin; refine wpList_append_own _ rfl _ _ 22 rfl w1.heap.size 3 i0 (.int .i64 0) 1 8 Try.underlying22 HI.out.1 HI.out.2.1 HI.out.2.2.1 HI.out.2.2.2 rfl (by decide) _ _ _ rfl (by exact H4.out.2.2.alloc _) ⟨_, 0, none⟩ 1 1 [.int .i64 k] rfl rfl (cell_one_new _ _ _) (by intro u hu; simp at hu; subst hu; rfl) (by unfold maxLen; omega) (by omega) (by have := H4.out.1.size; simp; omega) ?_; intro v5 w5 hown5 hgr5 _)
            have H5 := Lib.hid (append_one (x := (k : Int)) H4.out.2.2 H4.out.1 (by exact hgr5) hown5)
            clear hown5 hgr5
            go_wp2
            go_roundg (n - (k + 1))
            case measure => have := HM.out; omega
            case rel => exact ⟨k + 1, by omega, by go_num, by rw [HE.out]; exact H5.out.1, H5.out.2⟩
          · have HE := Lib.hid (HY.out.2 rfl)
            clear HY
            generalize upTo (isMem F L) k = out at *
            go_wp2_with fail
            refine HF.out.mono ?_
            rintro e w4 ⟨rfl, hb4⟩
            have H4 := Lib.hid (And.intro (HO.out.2.trans (hb4.mono HO.out.2.size)) (And.intro hb4 (below_row HO.out.1 hb4)))
            clear hb4
            go_wp2_with fail
            refine (HS.out _ H4.out.2.1 2).mono ?_
            rintro e w5 ⟨rfl, rfl⟩
            rw [← HAX.out.1]
            go_wp2_with fail
            refine (HS.out _ H4.out.2.1 3).mono ?_
            rintro e w5 ⟨rfl, rfl⟩
            rw [← HAX.out.2]
            go_wp2
            go_roundg (n - (k + 1))
            case measure => have := HM.out; omega
            case rel => exact ⟨k + 1, by omega, by go_num, by rw [HE.out]; exact H4.out.2.2, H4.out.1⟩
      · cases ad
        · cases x
          · have HE := Lib.hid (HY.out.1 rfl)
            clear HY
            generalize upTo (isMem F L) k = out at *
            go_wp2_with fail
            refine HF.out.mono ?_
            rintro e w4 ⟨rfl, hb4⟩
            have H4 := Lib.hid (And.intro (HO.out.2.trans (hb4.mono HO.out.2.size)) (And.intro hb4 (below_row HO.out.1 hb4)))
            clear hb4
            go_wp2_with fail
            refine (HS.out _ H4.out.2.1 3).mono ?_
            rintro e w5 ⟨rfl, rfl⟩
            rw [← HAX.out.2]
            go_wp2_with (at_builtin; refine wpList_append_own _ rfl _ _ 22 rfl w1.heap.size 3 i0 (.int .i64 0) 1 8 Try.underlying22 HI.out.1 HI.out.2.1 HI.out.2.2.1 HI.out.2.2.2 rfl (by decide) _ _ _ rfl (by exact H4.out.2.2.alloc _) ⟨_, 0, none⟩ 1 1 [.int .i64 k] rfl rfl (cell_one_new _ _ _) (by intro u hu; simp at hu; subst hu; rfl) (by unfold maxLen; omega) (by omega) (by have := H4.out.1.size; simp; omega) ?_; intro v5 w5 hown5 hgr5 _)
            have H5 := Lib.hid (append_one (x := (k : Int)) H4.out.2.2 H4.out.1 (by exact hgr5) hown5)
            clear hown5 hgr5
            go_wp2
            go_roundg (n - (k + 1))
            case measure => have := HM.out; omega
            case rel => exact ⟨k + 1, by omega, by go_num, by rw [HE.out]; exact H5.out.1, H5.out.2⟩
          · have HE := Lib.hid (HY.out.2 rfl)
            clear HY
            generalize upTo (isMem F L) k = out at *
            go_wp2_with fail
            refine HF.out.mono ?_
            rintro e w4 ⟨rfl, hb4⟩
            have H4 := Lib.hid (And.intro (HO.out.2.trans (hb4.mono HO.out.2.size)) (And.intro hb4 (below_row HO.out.1 hb4)))
            clear hb4
            go_wp2_with fail
            refine (HS.out _ H4.out.2.1 3).mono ?_
            rintro e w5 ⟨rfl, rfl⟩
            rw [← HAX.out.2]
            go_wp2
            go_roundg (n - (k + 1))
            case measure => have := HM.out; omega
            case rel => exact ⟨k + 1, by omega, by go_num, by rw [HE.out]; exact H4.out.2.2, H4.out.1⟩
        · cases x
          · have HE := Lib.hid (HY.out.1 rfl)
            clear HY
            generalize upTo (isMem F L) k = out at *
            go_wp2_with fail
            refine HF.out.mono ?_
            rintro e w4 ⟨rfl, hb4⟩
            have H4 := Lib.hid (And.intro (HO.out.2.trans (hb4.mono HO.out.2.size)) (And.intro hb4 (below_row HO.out.1 hb4)))
            clear hb4
            go_wp2_with fail
            refine (HS.out _ H4.out.2.1 3).mono ?_
            rintro e w5 ⟨rfl, rfl⟩
            rw [← HAX.out.2]
            go_wp2_with (at_builtin; refine wpList_append_own _ rfl _ _ 22 rfl w1.heap.size 3 i0 (.int .i64 0) 1 8 Try.underlying22 HI.out.1 HI.out.2.1 HI.out.2.2.1 HI.out.2.2.2 rfl (by decide) _ _ _ rfl (by exact H4.out.2.2.alloc _) ⟨_, 0, none⟩ 1 1 [.int .i64 k] rfl rfl (cell_one_new _ _ _) (by intro u hu; simp at hu; subst hu; rfl) (by unfold maxLen; omega) (by omega) (by have := H4.out.1.size; simp; omega) ?_; intro v5 w5 hown5 hgr5 _)
            have H5 := Lib.hid (append_one (x := (k : Int)) H4.out.2.2 H4.out.1 (by exact hgr5) hown5)
            clear hown5 hgr5
            go_wp2
            go_roundg (n - (k + 1))
            case measure => have := HM.out; omega
            case rel => exact ⟨k + 1, by omega, by go_num, by rw [HE.out]; exact H5.out.1, H5.out.2⟩
          · have HE := Lib.hid (HY.out.2 rfl)
            clear HY
            generalize upTo (isMem F L) k = out at *
            go_wp2_with fail
            refine HF.out.mono ?_
            rintro e w4 ⟨rfl, hb4⟩
            have H4 := Lib.hid (And.intro (HO.out.2.trans (hb4.mono HO.out.2.size)) (And.intro hb4 (below_row HO.out.1 hb4)))
            clear hb4
            go_wp2_with fail
            refine (HS.out _ H4.out.2.1 3).mono ?_
            rintro e w5 ⟨rfl, rfl⟩
            rw [← HAX.out.2]
            go_wp2
            go_roundg (n - (k + 1))
            case measure => have := HM.out; omega
            case rel => exact ⟨k + 1, by omega, by go_num, by rw [HE.out]; exact H4.out.2.2, H4.out.1⟩
    · have hkn : k = n := by omega
      have HV : Hid (upTo (isMem F L) k = membersR n F L) := Lib.hid (by rw [HMR.out, hkn])
      clear hkn
      go_wp2
      go_ret
      exact ⟨_, rfl, by rw [← HV.out]; exact Reads.of_owns HO.out.1, HBW.out⟩

end Go.Proofs.Ytahpecbcpgjinaa
