/-
  Chapter 54: Pending and Project.
-/
import Derived.Test.YtnpfalloelmflaaHo
namespace Go.Proofs.Ytnpfalloelmflaa
open Go.RowKit

def idxL (P : Opn → Bool) (h : List Opn) (k : Nat) : List Int := ((List.range k).filter fun i => match h[i]? with | some o => P o | none => false).map fun (i : Nat) => (i : Int)
theorem idx_in {P : Opn → Bool} {h : List Opn} {k : Nat} (hk : k < h.length) (hp : P h[k] = true) : idxL P h (k + 1) = idxL P h k ++ [(k : Int)] := by
  unfold idxL
  rw [List.range_succ, List.filter_append, List.map_append]
  simp [hk, hp]
theorem idx_out {P : Opn → Bool} {h : List Opn} {k : Nat} (hk : k < h.length) (hp : P h[k] = false) : idxL P h (k + 1) = idxL P h k := by
  unfold idxL
  rw [List.range_succ, List.filter_append, List.map_append]
  simp [hk, hp]
theorem idx_len (P : Opn → Bool) (h : List Opn) (k : Nat) : (idxL P h k).length ≤ k := by
  unfold idxL
  rw [List.length_map]
  exact Nat.le_trans (List.length_filter_le _ _) (by simp)
theorem Try.infoInt1 : (Try.prog.info? 3).map (fun i => (i.zero, i.size, i.bytes)) = some (some (.int .i64 0), 1, 8) := by kernel_rfl
def pendB (o : Opn) : Bool := decide (endO o = -1)
def mineB (c : Int) (o : Opn) : Bool := decide (cliO o = c)

theorem pend_fn (v : Value) (o : Opn) (w : World) (ho : OpAt w v o) : Calls Try.prog 44 #[v] w (BoolMade w (pendB o)) := by
  obtain ⟨va, vz, rfl, r1, r2⟩ := ho
  obtain ⟨x1, y1, z1, rfl⟩ := Slc.of_reads r1
  obtain ⟨x2, y2, z2, rfl⟩ := Slc.of_reads r2
  clear r1 r2
  unfold opV pendB
  generalize cliO o = a0 at *
  generalize kindO o = a1 at *
  generalize begO o = a2 at *
  generalize endO o = a3 at *
  by_cases h1 : a3 = -1
  · have e1 := beq_t h1
    have HE := Lib.hid (decide_eq_true h1)
    clear h1
    go_enter Try.func44, Try.ntmps44
    go_wp2
    go_ret
    exact ⟨ret_bool HE.out.symm, (Below.refl _ _).alloc (Nat.le_refl _) _⟩
  · have e1 := beq_f h1
    have HE := Lib.hid (decide_eq_false h1)
    clear h1
    go_enter Try.func44, Try.ntmps44
    go_wp2
    go_ret
    exact ⟨ret_bool HE.out.symm, (Below.refl _ _).alloc (Nat.le_refl _) _⟩
theorem mine_fn (v : Value) (o : Opn) (c : Int) (g : Nat) (w : World) (ho : OpAt w v o) (hg : Blk w g 3 #[.int .i64 c]) : Calls Try.prog 48 #[v, .pointer (some ⟨g, 0, none⟩)] w (BoolMade w (mineB c o)) := by
  obtain ⟨va, vz, rfl, r1, r2⟩ := ho
  obtain ⟨x1, y1, z1, rfl⟩ := Slc.of_reads r1
  obtain ⟨x2, y2, z2, rfl⟩ := Slc.of_reads r2
  clear r1 r2
  unfold opV mineB
  have c0 : ∀ u, (w.alloc (.cells u 31)).cell? ⟨g, 0, none⟩ = some (.int .i64 c) := fun u => (hg.alloc _).cell 0
  clear hg
  generalize cliO o = a0 at *
  generalize kindO o = a1 at *
  generalize begO o = a2 at *
  generalize endO o = a3 at *
  by_cases h1 : a0 = c
  · have e1 := beq_t h1
    have HE := Lib.hid (decide_eq_true h1)
    clear h1
    go_enter Try.func48, Try.ntmps48
    go_wp2
    go_ret
    exact ⟨ret_bool HE.out.symm, (Below.refl _ _).alloc (Nat.le_refl _) _⟩
  · have e1 := beq_f h1
    have HE := Lib.hid (decide_eq_false h1)
    clear h1
    go_enter Try.func48, Try.ntmps48
    go_wp2
    go_ret
    exact ⟨ret_bool HE.out.symm, (Below.refl _ _).alloc (Nat.le_refl _) _⟩

set_option maxRecDepth 100000 in
set_option maxHeartbeats 4000000 in
theorem pend_indices (v : Value) (h : List Opn) (W : World) (hr : ReadsO W v h) (hn : h.length ≤ 1000) : Calls Try.prog 43 #[v, .func (.func 44) #[] #[]] W (MadeI W (idxL pendB h h.length)) := by
  obtain ⟨i0, hinf, hz0, hz1, hz2⟩ := info_parts Try.infoInt1
  have HI := Lib.hid (And.intro hinf (And.intro hz0 (And.intro hz1 hz2)))
  clear hinf hz0 hz1 hz2
  have HR := Lib.hid hr
  obtain ⟨ao, cap, rfl, hl, hm, -, -⟩ := hr
  unfold maxLen at hm
  go_enter Try.func43, Try.ntmps43
  go_wp2
  go_loopg [5, 10] h.length (fun m o i wr => ∃ k : Nat, m + k = h.length ∧ i = .int .i64 k ∧ wr.ownsRow W.heap.size 3 1 o (idxL pendB h k).length ((idxL pendB h k).map vi) ∧ Below W.heap.size W wr)
  case atStart => exact ⟨0, by omega, rfl, by simp [idxL, World.ownsRow], Below.refl _ _⟩
  case round =>
    obtain ⟨k, hmk, rfl, hown, hbel⟩ := hrel
    have HM := Lib.hid hmk
    have HOO := Lib.hid (And.intro hown hbel)
    have hk : k ≤ h.length := by omega
    clear hmk hown hbel
    by_cases hlt : k < h.length
    · obtain ⟨b, off, cap1, a4, c4, a5, c5, hv, _, _, hm4, hm5, hl4, hl5, hcell, r1, r2⟩ := HR.out.at2 hlt
      injection hv with e1 e2 e3
      subst e1
      have hki : (k : Int) < h.length := by omega
      have hk0 : (0 : Int) ≤ (k : Int) := by omega
      have dd := Lib.hid (hcell wr HOO.out.2)
      have d0 := dd.out.1
      have d1 := dd.out.2.1
      have d2 := dd.out.2.2.1
      have d3 := dd.out.2.2.2.1
      have d4 := dd.out.2.2.2.2.1
      have d5 := dd.out.2.2.2.2.2
      have HN := Lib.hid (And.intro r1 r2)
      have hol := idx_len pendB h k
      have HIN := Lib.hid (@idx_in pendB h k hlt)
      have HOUT := Lib.hid (@idx_out pendB h k hlt)
      clear e2 e3 hcell r1 r2 dd
      generalize h[k] = x at *
      have HB1 := Lib.hid ((Below.refl wr.heap.size wr).alloc (Nat.le_refl _) (.cells #[.int .i64 (cliO x), .int .i64 (kindO x), .int .i64 (begO x), .int .i64 (endO x), .slice a4 (addO x).length c4, .slice a5 (seeO x).length c5] 31))
      have HW1 := Lib.hid (HOO.out.2.trans (HB1.out.mono HOO.out.2.size))
      have HC := Lib.hid (pend_fn _ x _ ⟨_, _, rfl, HN.out.1.keep HW1.out, HN.out.2.keep HW1.out⟩)
      go_wp2_with fail
      refine HC.out.mono ?_
      rintro e w1 ⟨rfl, hb1⟩
      have KE := Lib.hid (And.intro (below_row HOO.out.1 (HB1.out.trans (hb1.mono HB1.out.size))) (HW1.out.trans (hb1.mono HW1.out.size)))
      clear hb1 HC HB1 HW1 HOO d0 d1 d2 d3 d4 d5
      by_cases hp : (pendB) x = true
      · have HE := Lib.hid (HIN.out hp)
        rw [hp]
        clear hp
        generalize idxL pendB h k = out at *
        go_wp2_with (at_builtin; refine wpList_append_own _ rfl _ _ 37 rfl W.heap.size 3 i0 (.int .i64 0) 1 8 Try.underlying37 HI.out.1 HI.out.2.1 HI.out.2.2.1 HI.out.2.2.2 rfl (by decide) _ _ _ rfl (by exact KE.out.1.alloc _) ⟨w1.heap.size, 0, none⟩ 1 1 [.int .i64 k] rfl rfl ?qa ?qb (by unfold maxLen; omega) (by omega) (by have := KE.out.2.size; simp; omega) ?qc)
        case qa =>
          intro i u hu
          have hB := (Blk.new w1 3 #[.int .i64 k]).cell i
          have hu2 : (#[Value.int .i64 (k : Int)] : Array Value)[i]? = some u := by simpa using hu
          rw [← hu2, ← hB]
          by_cases h0 : i = 0 <;> simp [Addr.add, h0]
        case qb => intro u hu; simp at hu; subst hu; rfl
        intro v5 w5 hown5 hgr5 _
        have H5 : Hid (w5.ownsRow W.heap.size 3 1 v5 (out ++ [(k : Int)]).length ((out ++ [(k : Int)]).map vi) ∧ Below W.heap.size W w5) := Lib.hid ⟨by rw [List.length_append, List.map_append]; exact hown5, below_row_grown KE.out.2 ((Below.refl _ _).alloc (Nat.le_refl _) _) KE.out.1 hgr5⟩
        clear hown5 hgr5
        go_wp2
        go_roundg (h.length - (k + 1))
        case measure => have := HM.out; omega
        case rel => exact ⟨k + 1, by omega, by go_num, by rw [HE.out]; exact H5.out.1, H5.out.2⟩
      · have HE := Lib.hid (HOUT.out (Bool.eq_false_iff.2 hp))
        rw [Bool.eq_false_iff.2 hp]
        clear hp
        go_wp2
        go_roundg (h.length - (k + 1))
        case measure => have := HM.out; omega
        case rel => exact ⟨k + 1, by omega, by go_num, by rw [HE.out]; exact KE.out.1, KE.out.2⟩
    · have hkk : k = h.length := by omega
      subst hkk
      go_wp2
      go_ret
      exact ⟨_, rfl, Reads.of_owns HOO.out.1, HOO.out.2⟩

set_option maxRecDepth 100000 in
set_option maxHeartbeats 4000000 in
theorem mine_indices (v : Value) (h : List Opn) (c : Int) (g : Nat) (W : World) (hr : ReadsO W v h) (hn : h.length ≤ 1000) (hg : Blk W g 3 #[.int .i64 c]) : Calls Try.prog 43 #[v, .func (.func 48) #[] #[.pointer (some ⟨g, 0, none⟩)]] W (MadeI W (idxL (mineB c) h h.length)) := by
  obtain ⟨i0, hinf, hz0, hz1, hz2⟩ := info_parts Try.infoInt1
  have HI := Lib.hid (And.intro hinf (And.intro hz0 (And.intro hz1 hz2)))
  clear hinf hz0 hz1 hz2
  have HR := Lib.hid hr
  have HGB := Lib.hid hg
  clear hg
  obtain ⟨ao, cap, rfl, hl, hm, -, -⟩ := hr
  unfold maxLen at hm
  go_enter Try.func43, Try.ntmps43
  go_wp2
  go_loopg [5, 10] h.length (fun m o i wr => ∃ k : Nat, m + k = h.length ∧ i = .int .i64 k ∧ wr.ownsRow W.heap.size 3 1 o (idxL (mineB c) h k).length ((idxL (mineB c) h k).map vi) ∧ Below W.heap.size W wr)
  case atStart => exact ⟨0, by omega, rfl, by simp [idxL, World.ownsRow], Below.refl _ _⟩
  case round =>
    obtain ⟨k, hmk, rfl, hown, hbel⟩ := hrel
    have HM := Lib.hid hmk
    have HOO := Lib.hid (And.intro hown hbel)
    have hk : k ≤ h.length := by omega
    clear hmk hown hbel
    by_cases hlt : k < h.length
    · obtain ⟨b, off, cap1, a4, c4, a5, c5, hv, _, _, hm4, hm5, hl4, hl5, hcell, r1, r2⟩ := HR.out.at2 hlt
      injection hv with e1 e2 e3
      subst e1
      have hki : (k : Int) < h.length := by omega
      have hk0 : (0 : Int) ≤ (k : Int) := by omega
      have dd := Lib.hid (hcell wr HOO.out.2)
      have d0 := dd.out.1
      have d1 := dd.out.2.1
      have d2 := dd.out.2.2.1
      have d3 := dd.out.2.2.2.1
      have d4 := dd.out.2.2.2.2.1
      have d5 := dd.out.2.2.2.2.2
      have HN := Lib.hid (And.intro r1 r2)
      have hol := idx_len (mineB c) h k
      have HIN := Lib.hid (@idx_in (mineB c) h k hlt)
      have HOUT := Lib.hid (@idx_out (mineB c) h k hlt)
      clear e2 e3 hcell r1 r2 dd
      generalize h[k] = x at *
      have HB1 := Lib.hid ((Below.refl wr.heap.size wr).alloc (Nat.le_refl _) (.cells #[.int .i64 (cliO x), .int .i64 (kindO x), .int .i64 (begO x), .int .i64 (endO x), .slice a4 (addO x).length c4, .slice a5 (seeO x).length c5] 31))
      have HW1 := Lib.hid (HOO.out.2.trans (HB1.out.mono HOO.out.2.size))
      have HC := Lib.hid (mine_fn _ x c g _ ⟨_, _, rfl, HN.out.1.keep HW1.out, HN.out.2.keep HW1.out⟩ (HGB.out.on HW1.out))
      go_wp2_with fail
      refine HC.out.mono ?_
      rintro e w1 ⟨rfl, hb1⟩
      have KE := Lib.hid (And.intro (below_row HOO.out.1 (HB1.out.trans (hb1.mono HB1.out.size))) (HW1.out.trans (hb1.mono HW1.out.size)))
      clear hb1 HC HB1 HW1 HOO d0 d1 d2 d3 d4 d5
      by_cases hp : ((mineB c)) x = true
      · have HE := Lib.hid (HIN.out hp)
        rw [hp]
        clear hp
        generalize idxL (mineB c) h k = out at *
        go_wp2_with (at_builtin; refine wpList_append_own _ rfl _ _ 37 rfl W.heap.size 3 i0 (.int .i64 0) 1 8 Try.underlying37 HI.out.1 HI.out.2.1 HI.out.2.2.1 HI.out.2.2.2 rfl (by decide) _ _ _ rfl (by exact KE.out.1.alloc _) ⟨w1.heap.size, 0, none⟩ 1 1 [.int .i64 k] rfl rfl ?qa ?qb (by unfold maxLen; omega) (by omega) (by have := KE.out.2.size; simp; omega) ?qc)
        case qa =>
          intro i u hu
          have hB := (Blk.new w1 3 #[.int .i64 k]).cell i
          have hu2 : (#[Value.int .i64 (k : Int)] : Array Value)[i]? = some u := by simpa using hu
          rw [← hu2, ← hB]
          by_cases h0 : i = 0 <;> simp [Addr.add, h0]
        case qb => intro u hu; simp at hu; subst hu; rfl
        intro v5 w5 hown5 hgr5 _
        have H5 : Hid (w5.ownsRow W.heap.size 3 1 v5 (out ++ [(k : Int)]).length ((out ++ [(k : Int)]).map vi) ∧ Below W.heap.size W w5) := Lib.hid ⟨by rw [List.length_append, List.map_append]; exact hown5, below_row_grown KE.out.2 ((Below.refl _ _).alloc (Nat.le_refl _) _) KE.out.1 hgr5⟩
        clear hown5 hgr5
        go_wp2
        go_roundg (h.length - (k + 1))
        case measure => have := HM.out; omega
        case rel => exact ⟨k + 1, by omega, by go_num, by rw [HE.out]; exact H5.out.1, H5.out.2⟩
      · have HE := Lib.hid (HOUT.out (Bool.eq_false_iff.2 hp))
        rw [Bool.eq_false_iff.2 hp]
        clear hp
        go_wp2
        go_roundg (h.length - (k + 1))
        case measure => have := HM.out; omega
        case rel => exact ⟨k + 1, by omega, by go_num, by rw [HE.out]; exact KE.out.1, KE.out.2⟩
    · have hkk : k = h.length := by omega
      subst hkk
      go_wp2
      go_ret
      exact ⟨_, rfl, Reads.of_owns HOO.out.1, HOO.out.2⟩

theorem pending_any (v : Value) (h : List Opn) (W : World) (hr : ReadsO W v h) (hn : h.length ≤ 1000) : Calls Try.prog 27 #[v] W (MadeI W (idxL pendB h h.length)) := by
  have HC := Lib.hid (pend_indices v h W hr hn)
  obtain ⟨ao, cap, rfl, hl, hm, -, -⟩ := hr
  go_enter Try.func27, Try.ntmps27
  go_wp2_with fail
  refine HC.out.mono ?_
  rintro e w1 ⟨v1, rfl, hr1, hb1⟩
  have H1 := Lib.hid (And.intro hr1 hb1)
  clear hr1 hb1
  go_wp2
  go_ret
  exact ⟨_, rfl, H1.out.1, H1.out.2⟩
theorem project_any (v : Value) (h : List Opn) (c : Int) (W : World) (hr : ReadsO W v h) (hn : h.length ≤ 1000) : Calls Try.prog 30 #[v, .int .i64 c] W (MadeI W (idxL (mineB c) h h.length)) := by
  have HB := Lib.hid ((Below.refl W.heap.size W).alloc (Nat.le_refl _) (.cells #[.int .i64 c] 3))
  have HC := Lib.hid (mine_indices v h c W.heap.size (W.alloc (.cells #[.int .i64 c] 3)) (hr.on HB.out) hn (Blk.new W 3 #[.int .i64 c]))
  obtain ⟨ao, cap, rfl, hl, hm, -, -⟩ := hr
  go_enter Try.func30, Try.ntmps30
  go_wp2_with fail
  refine HC.out.mono ?_
  rintro e w1 ⟨v1, rfl, hr1, hb1⟩
  have H1 := Lib.hid (And.intro hr1 (HB.out.trans (hb1.mono HB.out.size)))
  clear hr1 hb1
  go_wp2
  go_ret
  exact ⟨_, rfl, H1.out.1, H1.out.2⟩
end Go.Proofs.Ytnpfalloelmflaa
