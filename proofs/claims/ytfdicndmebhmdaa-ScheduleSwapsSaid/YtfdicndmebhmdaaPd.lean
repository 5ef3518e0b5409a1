/-
  Chapter 29, plain: layers.
-/
import Derived.Test.YtfdicndmebhmdaaPb
namespace Go.Proofs.Ytfdicndmebhmdaa

def lyF (t : List Ev) : Nat → Nat → Nat
  | 0, _ => 0
  | f + 1, k => (List.range k).foldl (fun m i => if depI t i k = true then max m (lyF t f i + 1) else m) 0
/-- The layer of event k, from 0 on. -/
def ly (t : List Ev) (k : Nat) : Nat := lyF t (k + 1) k
/-- Its layer, the first q events looked at. -/
def lyQ (t : List Ev) (k q : Nat) : Nat := (List.range q).foldl (fun m i => if depI t i k = true then max m (ly t i + 1) else m) 0
theorem foldl_same {f g : Nat → Nat → Nat} : ∀ {l : List Nat} {a : Nat}, (∀ i, i ∈ l → ∀ m, f m i = g m i) → l.foldl f a = l.foldl g a
  | [], _, _ => rfl
  | i :: l, a, h => by
    rw [List.foldl_cons, List.foldl_cons, h i (List.mem_cons_self ..)]
    exact foldl_same fun j hj => h j (List.mem_cons_of_mem _ hj)
theorem lyF_eq (t : List Ev) : ∀ (f k : Nat), k < f → lyF t f k = ly t k := by
  intro f
  induction f using Nat.strongRecOn with
  | _ f ih =>
    intro k hk
    cases f with
    | zero => omega
    | succ f =>
      unfold ly
      simp only [lyF]
      refine foldl_same fun i hi m => ?_
      have hik := List.mem_range.1 hi
      rw [ih f (by omega) i (by omega)]
      by_cases e : k = f
      · subst e; rw [ih k (by omega) i hik]
      · rw [ih k (by omega) i hik]
theorem ly_eq (t : List Ev) (k : Nat) : ly t k = lyQ t k k := by
  unfold lyQ
  conv => lhs; unfold ly
  simp only [lyF]
  refine foldl_same fun i hi m => ?_
  rw [lyF_eq t k i (List.mem_range.1 hi)]
theorem lyQ_zero (t : List Ev) (k : Nat) : lyQ t k 0 = 0 := rfl
theorem lyQ_yes {t : List Ev} {k q : Nat} (h : depI t q k = true) : lyQ t k (q + 1) = max (lyQ t k q) (ly t q + 1) := by
  unfold lyQ
  rw [List.range_succ, List.foldl_append]
  simp [h]
theorem lyQ_no {t : List Ev} {k q : Nat} (h : depI t q k = false) : lyQ t k (q + 1) = lyQ t k q := by
  unfold lyQ
  rw [List.range_succ, List.foldl_append]
  simp [h]
theorem lyQ_le (t : List Ev) (k : Nat) : ∀ q, q ≤ k → (∀ i, i < k → ly t i ≤ i) → lyQ t k q ≤ q
  | 0, _, _ => Nat.le_refl _
  | q + 1, h, hl => by
    have ih := lyQ_le t k q (by omega) hl
    cases hd : depI t q k with
    | true =>
      rw [lyQ_yes hd]
      have := hl q (by omega)
      omega
    | false => rw [lyQ_no hd]; omega
theorem ly_le (t : List Ev) (k : Nat) : ly t k ≤ k := by
  induction k using Nat.strongRecOn with
  | _ k ih => rw [ly_eq]; exact lyQ_le t k k (Nat.le_refl _) ih
/-- How many layers the first k events have. -/
def nl (t : List Ev) (k : Nat) : Nat := (List.range k).foldl (fun m i => max m (ly t i + 1)) 0
theorem nl_succ (t : List Ev) (k : Nat) : nl t (k + 1) = max (nl t k) (ly t k + 1) := by unfold nl; rw [List.range_succ, List.foldl_append]; rfl
theorem nl_ge {t : List Ev} : ∀ {k i : Nat}, i < k → ly t i + 1 ≤ nl t k
  | 0, _, h => by omega
  | k + 1, i, h => by
    rw [nl_succ]
    by_cases e : i = k
    · subst e; omega
    · have := nl_ge (t := t) (k := k) (i := i) (by omega); omega
theorem lyQ_nl (t : List Ev) {k : Nat} : ∀ q, q ≤ k → lyQ t k q ≤ nl t k
  | 0, _ => Nat.zero_le _
  | q + 1, h => by
    have ih := lyQ_nl t (k := k) q (by omega)
    cases hd : depI t q k with
    | true =>
      rw [lyQ_yes hd]
      have := nl_ge (t := t) (k := k) (i := q) (by omega)
      omega
    | false => rw [lyQ_no hd]; exact ih
theorem ly_nl (t : List Ev) (k : Nat) : ly t k ≤ nl t k := by rw [ly_eq]; exact lyQ_nl t k (Nat.le_refl _)
theorem nl_le (t : List Ev) : ∀ k, nl t k ≤ k
  | 0 => Nat.le_refl _
  | k + 1 => by
    rw [nl_succ]
    have := nl_le t k
    have := ly_le t k
    omega
/-- The names in a layer, in order. -/
def lyN (t : List Ev) (k l : Nat) : List Int := ((List.range k).filter fun j => ly t j == l).map (nmI t)
theorem lyN_yes {t : List Ev} {k : Nat} : lyN t (k + 1) (ly t k) = lyN t k (ly t k) ++ [nmI t k] := by
  unfold lyN
  rw [List.range_succ, List.filter_append, List.map_append]
  simp
theorem lyN_no {t : List Ev} {k l : Nat} (h : l ≠ ly t k) : lyN t (k + 1) l = lyN t k l := by
  unfold lyN
  rw [List.range_succ, List.filter_append, List.map_append]
  simp [Ne.symm h]
theorem lyN_none {t : List Ev} {k l : Nat} (h : nl t k ≤ l) : lyN t k l = [] := by
  unfold lyN
  rw [List.map_eq_nil_iff, List.filter_eq_nil_iff]
  intro j hj
  have := nl_ge (t := t) (List.mem_range.1 hj)
  simp; omega
theorem lyN_len (t : List Ev) (k l : Nat) : (lyN t k l).length ≤ k := by
  unfold lyN
  rw [List.length_map]
  exact Nat.le_trans (List.length_filter_le _ _) (by simp)
def sortI (l : List Int) : List Int := l.mergeSort fun x y => decide (x ≤ y)
theorem sortI_len (l : List Int) : (sortI l).length = l.length := List.length_mergeSort l
theorem sortI_le (l : List Int) : (sortI l).Pairwise (· ≤ ·) := by
  have h := List.pairwise_mergeSort (le := fun (x y : Int) => decide (x ≤ y)) (fun a b c h1 h2 => by
      rw [decide_eq_true_eq] at *; omega) (fun a b => by
      rw [Bool.or_eq_true, decide_eq_true_eq, decide_eq_true_eq]; omega) l
  exact h.imp fun h => of_decide_eq_true h
theorem sortI_perm (l : List Int) : (sortI l).Perm l := List.mergeSort_perm l _
def layE (t : List Ev) : List (List Int) := (List.range (nl t t.length)).map fun l => sortI (lyN t t.length l)
end Go.Proofs.Ytfdicndmebhmdaa
