/-
  Chapter 29, plain: chains of dependent events, and how Before fills its rows.
-/
import Derived.Test.YtfdicndmebhmdaaPb
namespace Go.Proofs.Ytfdicndmebhmdaa

def rchF (t : List Ev) : Nat → Nat → Nat → Bool
  | 0, _, _ => false
  | f + 1, i, j => decide (i < j) && (depI t i j || (List.range j).any fun k => decide (i < k) && (depI t i k && rchF t f k j))
/-- A chain of dependent events leads from i to j. -/
def rch (t : List Ev) (i j : Nat) : Bool := rchF t (j - i) i j
theorem rchF_le (t : List Ev) : ∀ (f i j : Nat), j - i ≤ f → rchF t f i j = rch t i j := by
  intro f
  induction f using Nat.strongRecOn with
  | _ f ih =>
    intro i j h
    unfold rch
    cases f with
    | zero =>
      rw [show j - i = 0 by omega]
    | succ f =>
      by_cases hij : i < j
      · obtain ⟨d, hd⟩ : ∃ d, j - i = d + 1 := ⟨j - i - 1, by omega⟩
        rw [hd]
        unfold rchF
        congr 2
        rw [Bool.eq_iff_iff, List.any_eq_true, List.any_eq_true]
        refine exists_congr fun k => and_congr_right fun hk => ?_
        have hkj := List.mem_range.1 hk
        by_cases hik : i < k
        · rw [ih f (by omega) k j (by omega)]
          by_cases hdf : d = f
          · subst hdf
            rw [ih d (by omega) k j (by omega)]
          · rw [ih d (by omega) k j (by omega)]
        · simp [hik]
      · have hz : j - i = 0 := by omega
        rw [hz]
        unfold rchF
        simp [hij]
theorem rch_eq (t : List Ev) (i j : Nat) : rch t i j = (decide (i < j) && (depI t i j || (List.range j).any fun k => decide (i < k) && (depI t i k && rch t k j))) := by
  rw [← rchF_le t (j - i + 1) i j (by omega)]
  unfold rchF
  congr 2
  rw [Bool.eq_iff_iff, List.any_eq_true, List.any_eq_true]
  refine exists_congr fun k => and_congr_right fun hk => ?_
  by_cases hik : i < k
  · rw [rchF_le t (j - i) k j (by omega)]
  · simp [hik]
theorem rch_lt {t : List Ev} {i j : Nat} (h : rch t i j = true) : i < j := by
  rw [rch_eq, Bool.and_eq_true] at h
  exact of_decide_eq_true h.1
/-- Row i while the events below kk are done. -/
def rkB (t : List Ev) (i kk j : Nat) : Bool := (decide (i < j) && (decide (j < kk) && depI t i j)) || (List.range kk).any fun k => decide (i < k) && (decide (k < j) && (depI t i k && rch t k j))
theorem rkB_start (t : List Ev) {i kk : Nat} (h : kk ≤ i + 1) (j : Nat) : rkB t i kk j = false := by
  unfold rkB
  rw [Bool.or_eq_false_iff]
  constructor
  · by_cases h1 : i < j
    · rw [decide_eq_false (show ¬ j < kk by omega)]; simp
    · rw [decide_eq_false h1]; simp
  · rw [List.any_eq_false]
    intro k hk
    have := List.mem_range.1 hk
    rw [decide_eq_false (show ¬ i < k by omega)]; simp
theorem rkB_no {t : List Ev} {i kk : Nat} (h : depI t i kk = false) (j : Nat) : rkB t i (kk + 1) j = rkB t i kk j := by
  unfold rkB
  rw [List.range_succ, List.any_append]
  have : (decide (i < j) && (decide (j < kk + 1) && depI t i j)) = (decide (i < j) && (decide (j < kk) && depI t i j)) := by
    by_cases e : j = kk
    · subst e; rw [h]; simp
    · congr 2
      rw [Bool.eq_iff_iff]; simp; omega
  rw [this]
  simp [h]
theorem rkB_yes {t : List Ev} {i kk : Nat} (hi : i < kk) (h : depI t i kk = true) (j : Nat) : rkB t i (kk + 1) j = if j = kk then true else if kk < j then (rkB t i kk j || rch t kk j) else rkB t i kk j := by
  by_cases e : j = kk
  · subst e
    rw [if_pos rfl]
    unfold rkB
    rw [decide_eq_true hi, decide_eq_true (Nat.lt_succ_self j), h]; rfl
  · rw [if_neg e]
    unfold rkB
    rw [List.range_succ, List.any_append]
    have h1 : (decide (i < j) && (decide (j < kk + 1) && depI t i j)) = (decide (i < j) && (decide (j < kk) && depI t i j)) := by
      congr 2
      rw [Bool.eq_iff_iff]; simp; omega
    rw [h1]
    by_cases hk : kk < j
    · rw [if_pos hk]
      simp [hi, hk, h, Bool.or_assoc]
    · rw [if_neg hk]
      simp [hk]
theorem rkB_all (t : List Ev) {i n j : Nat} (hj : j < n) : rkB t i n j = rch t i j := by
  rw [rch_eq]
  unfold rkB
  rw [decide_eq_true hj, Bool.true_and, Bool.and_or_distrib_left]
  congr 1
  rw [Bool.eq_iff_iff, Bool.and_eq_true, List.any_eq_true, List.any_eq_true]
  constructor
  · rintro ⟨k, hk, h⟩
    simp only [Bool.and_eq_true, decide_eq_true_eq] at h
    exact ⟨decide_eq_true (by omega), k, List.mem_range.2 h.2.1, by simp [h.1, h.2.2.1, h.2.2.2]⟩
  · rintro ⟨_, k, hk, h⟩
    have hkj := List.mem_range.1 hk
    simp only [Bool.and_eq_true, decide_eq_true_eq] at h
    exact ⟨k, List.mem_range.2 (by omega), by simp [h.1, hkj, h.2.1, h.2.2]⟩
/-- Row i while event kk is carried over, up to jj. -/
def rjB (t : List Ev) (i kk jj j : Nat) : Bool := if j = kk then true else if kk < j ∧ j < jj then (rkB t i kk j || rch t kk j) else rkB t i kk j
theorem rjB_start (t : List Ev) (i kk j : Nat) : rjB t i kk (kk + 1) j = if j = kk then true else rkB t i kk j := by
  unfold rjB
  by_cases e : j = kk
  · rw [if_pos e, if_pos e]
  · rw [if_neg e, if_neg e, if_neg (by omega)]
theorem rjB_succ {t : List Ev} {i kk jj : Nat} (h : kk < jj) (j : Nat) : rjB t i kk (jj + 1) j = if j = jj then (rjB t i kk jj jj || rch t kk jj) else rjB t i kk jj j := by
  unfold rjB
  by_cases e : j = jj
  · subst e
    rw [if_pos rfl, if_neg (by omega), if_pos ⟨h, by omega⟩, if_neg (by omega), if_neg (by omega)]
  · rw [if_neg e]
    by_cases e2 : j = kk
    · rw [if_pos e2, if_pos e2]
    · rw [if_neg e2, if_neg e2]
      by_cases h2 : kk < j ∧ j < jj
      · rw [if_pos h2, if_pos ⟨h2.1, by omega⟩]
      · rw [if_neg h2, if_neg (by omega)]
theorem rjB_all {t : List Ev} {i kk n j : Nat} (hi : i < kk) (h : depI t i kk = true) (hj : j < n) : rjB t i kk n j = rkB t i (kk + 1) j := by
  rw [rkB_yes hi h]
  unfold rjB
  by_cases e : j = kk
  · rw [if_pos e, if_pos e]
  · rw [if_neg e, if_neg e]
    by_cases h2 : kk < j
    · rw [if_pos ⟨h2, hj⟩, if_pos h2]
    · rw [if_neg (by omega), if_neg h2]

/-- The pairs that Before lists. -/
def bfR (t : List Ev) (i m : Nat) : List (Nat × Nat) := ((List.range m).filter fun j => rch t i j).map fun j => (i, j)
def bfL (t : List Ev) (k : Nat) : List (Nat × Nat) := (List.range k).flatMap fun i => bfR t i t.length
def bfE (t : List Ev) : List (Nat × Nat) := bfL t t.length
theorem bfR_yes {t : List Ev} {i m : Nat} (h : rch t i m = true) : bfR t i (m + 1) = bfR t i m ++ [(i, m)] := by unfold bfR; rw [List.range_succ, List.filter_append, List.map_append]; simp [h]
theorem bfR_no {t : List Ev} {i m : Nat} (h : rch t i m = false) : bfR t i (m + 1) = bfR t i m := by unfold bfR; rw [List.range_succ, List.filter_append, List.map_append]; simp [h]
theorem bfL_succ (t : List Ev) (k : Nat) : bfL t (k + 1) = bfL t k ++ bfR t k t.length := by unfold bfL; rw [List.range_succ, List.flatMap_append]; simp
theorem bfR_len (t : List Ev) (i m : Nat) : (bfR t i m).length ≤ m := by
  unfold bfR
  rw [List.length_map]
  exact Nat.le_trans (List.length_filter_le _ _) (by simp)
theorem bfL_len (t : List Ev) : ∀ k, (bfL t k).length ≤ k * t.length
  | 0 => by simp [bfL]
  | k + 1 => by
    rw [bfL_succ, List.length_append, Nat.succ_mul]
    have := bfL_len t k
    have := bfR_len t k t.length
    omega
end Go.Proofs.Ytfdicndmebhmdaa
