/-
  Chapter 29: the reference: Without.
-/
import Derived.Test.YtfdicndmebhmdaaNj
namespace Go.Proofs.Ytfdicndmebhmdaa
open Go.RowKit
theorem erase_cut {t : List Ev} {i : Nat} (_h : i < t.length) : t.eraseIdx i = t.take i ++ (t.take t.length).drop (i + 1) := by rw [List.take_length, List.eraseIdx_eq_take_drop_succ]
set_option maxRecDepth 100000 in
set_option maxHeartbeats 4000000 in
theorem without_any (tv : Value) (t : List Ev) (i : Nat) (W1 W : World) (hr : ReadsW W1 W tv t) (hbW : Below W1.heap.size W1 W) (hi : i < t.length) (hn : t.length ≤ 1000) : Calls Try.prog 38 #[tv, .int .i64 i] W (fun e w' => ∃ v, e = .returned v ∧ OwnE W.heap.size (EvW W1) W w' v (t.eraseIdx i)) := by
  obtain ⟨b, off, cap, s1, c1, hv, -, -⟩ := (hr.toE hbW).at2 hi
  subst hv
  obtain ⟨ao, cap', hv, hl, hm, -, -⟩ := id hr
  injection hv with e1 e2 e3
  subst e3
  unfold maxLen at hm
  clear e1 e2
  have HA : Hid (ReadsW W1 W (.slice (some ⟨b, off, none⟩) i cap) (t.take i)) := Lib.hid (by have h := hr.part (i := 0) (j := i) (by omega) (by omega); simpa using h)
  obtain ⟨sa, hsa⟩ : ∃ sa : Option Addr, sa = (if cap = i + 1 then some ⟨b, off, none⟩ else some ⟨b, off + (i + 1) * 2, none⟩) := ⟨_, rfl⟩
  have HSA := Lib.hid hsa
  have HB : Hid (ReadsW W1 W (.slice sa (t.length - (i + 1)) (cap - (i + 1))) ((t.take t.length).drop (i + 1))) := Lib.hid (by rw [hsa]; exact hr.tail_ (by omega))
  clear hsa
  have HI := Lib.hid (And.intro hi hn)
  have hi0 : (0 : Int) ≤ (i : Int) := by omega
  have hi1 : (i : Int) ≤ (cap : Int) := by omega
  have ew : IntKind.i64.wrap ((i : Int) + 1) = ((i + 1 : Nat) : Int) := by rw [IntWalk.i64_in _ (by omega)]; rfl
  have hj0 : (0 : Int) ≤ (i : Int) + 1 := by omega
  have hj1 : (i : Int) + 1 ≤ (t.length : Int) := by omega
  have hlc : (t.length : Int) ≤ (cap : Int) := by omega
  have hin : i ≤ cap := by omega
  go_enter Try.func38, Try.ntmps38
  go_upto_region 1 with fail
  refine region_inv W.heap.size (JW 0 4 9 10 (fun w => Below W.heap.size W w) (fun u w => OwnE W.heap.size (EvW W1) W w u []) (fun u w => OwnE W.heap.size (EvW W1) W w u ([] ++ t.take i)) (fun u w => OwnE W.heap.size (EvW W1) W w u (([] ++ t.take i) ++ (t.take t.length).drop (i + 1)))) [none, some (.slice (some ⟨b, off, none⟩) t.length cap), some (.int .i64 (i : Int)), some (.slice (some ⟨b, off, none⟩) i cap), none, some (.slice (some ⟨b, off, none⟩) t.length cap), some (.int .i64 (i : Int)), some (.int .i64 ((i + 1 : Nat) : Int)), some (.slice sa (t.length - (i + 1)) (cap - (i + 1))), none, none] (by kernel_rfl) rfl (by kernel_rfl) (by kernel_rfl) (JW.start ⟨rfl, rfl, rfl, Nat.le_refl _, fun _ _ => rfl⟩) (.cons ?z0 (.cons ?z1 (.cons ?z2 (.cons ?z3 (.cons ?z4 (.cons ?z5 (.cons ?z6 (.cons ?z7 (.cons ?z8 (.cons ?z9 (.cons ?z10 .nil))))))))))) ?zfin
  case z0 =>
    intro wq hbw D st hJ hD hdp K hK
    simp only [Act.put, List.setIfInBounds_toArray, List.set_cons_zero, List.set_cons_succ] at hK ⊢
    unfold opStep
    rw [if_pos (by rfl)]
    go_simp
    exact hK.out _ _ ((Below.refl _ _).alloc hbw.size _) (fun u hu => by cases hu) (hJ.s0 hD (by decide) (by decide) (by decide) (OwnE.made _ (Nat.le_refl _) hbw.size hbw)) _ rfl
  case z1 =>
    intro wq hbw D st hJ hD hdp K hK
    simp only [Act.put, List.setIfInBounds_toArray, List.set_cons_zero, List.set_cons_succ] at hK ⊢
    unfold opStep
    rw [if_pos (by rfl)]
    go_simp
    exact hK.out _ _ (Below.refl _ _) (fun u hu => Option.some.inj hu) (hJ.pure 1 _ (by decide) (by decide) (by decide) (by decide)) _ rfl
  case z2 =>
    intro wq hbw D st hJ hD hdp K hK
    simp only [Act.put, List.setIfInBounds_toArray, List.set_cons_zero, List.set_cons_succ] at hK ⊢
    unfold opStep
    rw [if_pos (by rfl)]
    go_simp
    exact hK.out _ _ (Below.refl _ _) (fun u hu => Option.some.inj hu) (hJ.pure 2 _ (by decide) (by decide) (by decide) (by decide)) _ rfl
  case z3 =>
    intro wq hbw D st hJ hD hdp K hK
    simp only [Act.put, List.setIfInBounds_toArray, List.set_cons_zero, List.set_cons_succ] at hK ⊢
    unfold opStep
    rw [if_pos (by rfl)]
    go_simp
    exact hK.out _ _ (Below.refl _ _) (fun u hu => Option.some.inj hu) (hJ.pure 3 _ (by decide) (by decide) (by decide) (by decide)) _ rfl
  case z4 =>
    intro wq hbw D st hJ hD hdp K hK
    simp only [Act.put, List.setIfInBounds_toArray, List.set_cons_zero, List.set_cons_succ] at hK ⊢
    unfold opStep
    rw [if_pos (by rfl)]
    have d0 := hdp 0 (of_decide_eq_true (by kernel_rfl))
    have h0 := hJ.get0 d0 hD
    refine wp_append_evw (.tmp 5) (.tmp 8) rfl _ _ [] (t.take i) rfl h0 rfl (HA.out.on hbw) (by have := HI.out; simp; omega) ?_
    intro v5 w5 h5 k5
    exact hK.out _ _ (k5.below hbw.size fun k hk => by omega) (fun u hu => by cases hu) (hJ.s1 d0 hD (by decide) (by decide) (by decide) h5) _ rfl
  case z5 =>
    intro wq hbw D st hJ hD hdp K hK
    simp only [Act.put, List.setIfInBounds_toArray, List.set_cons_zero, List.set_cons_succ] at hK ⊢
    unfold opStep
    rw [if_pos (by rfl)]
    go_simp
    exact hK.out _ _ (Below.refl _ _) (fun u hu => Option.some.inj hu) (hJ.pure 5 _ (by decide) (by decide) (by decide) (by decide)) _ rfl
  case z6 =>
    intro wq hbw D st hJ hD hdp K hK
    simp only [Act.put, List.setIfInBounds_toArray, List.set_cons_zero, List.set_cons_succ] at hK ⊢
    unfold opStep
    rw [if_pos (by rfl)]
    go_simp
    exact hK.out _ _ (Below.refl _ _) (fun u hu => Option.some.inj hu) (hJ.pure 6 _ (by decide) (by decide) (by decide) (by decide)) _ rfl
  case z7 =>
    intro wq hbw D st hJ hD hdp K hK
    simp only [Act.put, List.setIfInBounds_toArray, List.set_cons_zero, List.set_cons_succ] at hK ⊢
    unfold opStep
    rw [if_pos (by rfl)]
    go_simp
    exact hK.out _ _ (Below.refl _ _) (fun u hu => Option.some.inj hu) (hJ.pure 7 _ (by decide) (by decide) (by decide) (by decide)) _ rfl
  case z8 =>
    intro wq hbw D st hJ hD hdp K hK
    simp only [Act.put, List.setIfInBounds_toArray, List.set_cons_zero, List.set_cons_succ] at hK ⊢
    unfold opStep
    rw [if_pos (by rfl)]
    go_simp
    rw [← HSA.out]
    exact hK.out _ _ (Below.refl _ _) (fun u hu => Option.some.inj hu) (hJ.pure 8 _ (by decide) (by decide) (by decide) (by decide)) _ rfl
  case z9 =>
    intro wq hbw D st hJ hD hdp K hK
    simp only [Act.put, List.setIfInBounds_toArray, List.set_cons_zero, List.set_cons_succ] at hK ⊢
    unfold opStep
    rw [if_pos (by rfl)]
    have d4 := hdp 4 (of_decide_eq_true (by kernel_rfl))
    have h4 := hJ.get1 d4 hD
    refine wp_append_evw (.tmp 9) (.tmp 13) rfl _ _ (t.take i) _ rfl h4 rfl (HB.out.on hbw) (by have := HI.out; simp; omega) ?_
    intro v5 w5 h5 k5
    exact hK.out _ _ (k5.below hbw.size fun k hk => by omega) (fun u hu => by cases hu) (hJ.s2 d4 hD (by decide) (by decide) (by decide) h5) _ rfl
  case z10 =>
    intro wq hbw D st hJ hD hdp K hK
    simp only [Act.put, List.setIfInBounds_toArray, List.set_cons_zero, List.set_cons_succ] at hK ⊢
    unfold opStep
    rw [if_pos (by rfl)]
    go_simp
    have d9 := hdp 9 (of_decide_eq_true (by kernel_rfl))
    exact hK.out _ _ (Below.refl _ _) (fun u hu => by cases hu) (hJ.s3 d9 (by decide) (by decide) (by decide)) _ rfl
  case zfin =>
    intro wq hbw D st hall hJ
    simp only [FinAll, lfOf]
    simp only [Act.put, List.setIfInBounds_toArray, List.set_cons_zero, List.set_cons_succ]
    have HF := Lib.hid (hJ.get2 (hall 10 (by decide)))
    clear hJ hall
    generalize hx : st 10 = x10 at *
    clear hx
    go_wp2
    go_ret
    rw [erase_cut hi]
    exact ⟨_, rfl, HF.out⟩
end Go.Proofs.Ytfdicndmebhmdaa
