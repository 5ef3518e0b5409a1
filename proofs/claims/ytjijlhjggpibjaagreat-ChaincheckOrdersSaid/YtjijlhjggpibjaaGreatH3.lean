/-
  Chapter 02: the plain law of names.Of: the elements, strictly increasing; there is one such list.
-/
import Derived.Test.YtjijlhjggpibjaaGreatH2
namespace Go.Proofs.YtjijlhjggpibjaaGreat
open Go.RowKit Go.Sort

theorem compact_mem (zs : List Str) (s : Str) : s ∈ Lib.compact zs ↔ s ∈ zs := by
  unfold Lib.compact Lib.compactUpTo
  simp only [List.mem_map, List.mem_filter, List.mem_range]
  constructor
  · rintro ⟨j, ⟨hj, _⟩, rfl⟩
    rw [getElem!_pos _ _ (by simpa using hj)]
    simp
  · intro h
    obtain ⟨j, hj, rfl⟩ := List.getElem_of_mem h
    have key : ∀ j (hj : j < zs.length), ∃ i, (i < zs.length ∧ Lib.keeps zs.toArray i = true) ∧ zs.toArray[i]! = zs[j] := by
      intro j
      induction j using Nat.strongRecOn with
      | _ j ih =>
        intro hj
        by_cases hk : Lib.keeps zs.toArray j = true
        · exact ⟨j, ⟨hj, hk⟩, by rw [getElem!_pos _ _ (by simpa using hj)]; simp⟩
        · have hn : ¬ (j = 0 ∨ zs.toArray[j]! ≠ zs.toArray[j - 1]!) := by
            intro h; exact hk (by unfold Lib.keeps; exact decide_eq_true h)
          have h0 : j ≠ 0 := fun e => hn (.inl e)
          have he : zs.toArray[j]! = zs.toArray[j - 1]! := Decidable.byContradiction fun e => hn (.inr e)
          rw [getElem!_pos _ _ (by simpa using hj), getElem!_pos _ _ (by simp; omega)] at he
          obtain ⟨i, h1, h2⟩ := ih (j - 1) (by omega) (by omega)
          refine ⟨i, h1, h2.trans ?_⟩
          simpa using he.symm
    exact key j hj

theorem le_of_lt_str {a b : Str} (h : a < b) : a ≤ b := List.not_lt.1 (slt_asymm h)
theorem lt_of_le_ne {a b : Str} (h : a ≤ b) (hn : a ≠ b) : a < b := by
  rcases slt_tri a b with h1 | h1 | h1
  · exact h1
  · exact absurd h1 hn
  · exact absurd h1 (List.not_lt.2 h)

theorem compact_sorted (zs : List Str) (h : zs.Pairwise (· ≤ ·)) : (Lib.compact zs).Pairwise (· < ·) := by
  unfold Lib.compact Lib.compactUpTo
  rw [List.pairwise_map]
  refine List.Pairwise.imp_of_mem ?_ ((List.pairwise_lt_range (n := zs.length)).filter _)
  intro i j hi hj hlt
  simp only [List.mem_filter, List.mem_range] at hi hj
  have hk : j = 0 ∨ zs.toArray[j]! ≠ zs.toArray[j - 1]! := of_decide_eq_true hj.2
  have hne : zs.toArray[j]! ≠ zs.toArray[j - 1]! := hk.resolve_left (by omega)
  rw [getElem!_pos _ _ (by simpa using hj.1), getElem!_pos _ _ (by simp; omega)] at hne
  rw [getElem!_pos zs.toArray i (by simp; omega), getElem!_pos zs.toArray j (by simpa using hj.1)]
  simp only [List.getElem_toArray] at hne ⊢
  have h1 : zs[j - 1] < zs[j] := lt_of_le_ne (List.pairwise_iff_getElem.1 h (j - 1) j (by omega) hj.1 (by omega)) (fun e => hne e.symm)
  by_cases e : i = j - 1
  · subst e; exact h1
  · have h2 := List.pairwise_iff_getElem.1 h i (j - 1) (by omega) (by omega) (by omega)
    rcases slt_tri zs[i] zs[j - 1] with h3 | h3 | h3
    · exact slt_trans h3 h1
    · rw [h3]; exact h1
    · exact absurd h3 (List.not_lt.2 h2)

theorem mergeSort_le (xs : List Str) : (xs.mergeSort fun x y => decide (x ≤ y)).Pairwise (· ≤ ·) := by
  have h := List.pairwise_mergeSort (le := fun (x y : Str) => decide (x ≤ y))
    (fun a b c h1 h2 => by
      rw [decide_eq_true_eq] at *
      exact List.le_trans h1 h2)
    (fun a b => by
      rw [Bool.or_eq_true, decide_eq_true_eq, decide_eq_true_eq]
      exact List.le_total a b) xs
  exact h.imp (fun h => of_decide_eq_true h)

theorem ofL_sorted (xs : List Str) : (ofL xs).Pairwise (· < ·) := compact_sorted _ (mergeSort_le xs)

theorem mem_ofL (xs : List Str) (s : Str) : s ∈ ofL xs ↔ s ∈ xs := by
  unfold ofL
  rw [compact_mem]
  exact (List.mergeSort_perm xs _).mem_iff

/-- A strictly increasing list is told by its members. -/
theorem sorted_unique : ∀ (xs ys : List Str), xs.Pairwise (· < ·) → ys.Pairwise (· < ·) → (∀ s, s ∈ xs ↔ s ∈ ys) → xs = ys
  | [], [], _, _, _ => rfl
  | [], y :: ys, _, _, h => by have := (h y).2 (by simp); simp at this
  | x :: xs, [], _, _, h => by have := (h x).1 (by simp); simp at this
  | x :: xs, y :: ys, hx, hy, h => by
    rw [List.pairwise_cons] at hx hy
    have hxy : x = y := by
      have h1 := (h x).1 (by simp)
      have h2 := (h y).2 (by simp)
      rcases List.mem_cons.1 h1 with e | h1
      · exact e
      rcases List.mem_cons.1 h2 with e | h2
      · exact e.symm
      exact absurd (hx.1 y h2) (slt_asymm (hy.1 x h1))
    subst hxy
    rw [sorted_unique xs ys hx.2 hy.2 (fun s => ?_)]
    constructor
    · intro hs
      rcases List.mem_cons.1 ((h s).1 (by simp [hs])) with e | h1
      · subst e; exact absurd (hx.1 s hs) (slt_irrefl s)
      · exact h1
    · intro hs
      rcases List.mem_cons.1 ((h s).2 (by simp [hs])) with e | h1
      · subst e; exact absurd (hy.1 s hs) (slt_irrefl s)
      · exact h1

theorem ofL_eq {xs ys : List Str} (h1 : ys.Pairwise (· < ·)) (h2 : ∀ s, s ∈ ys ↔ s ∈ xs) : ofL xs = ys :=
  sorted_unique _ _ (ofL_sorted xs) h1 (fun s => (mem_ofL xs s).trans (h2 s).symm)

/-- The set of a strictly increasing list is the list. -/
theorem ofL_self {xs : List Str} (h : xs.Pairwise (· < ·)) : ofL xs = xs := ofL_eq h (fun _ => Iff.rfl)
end Go.Proofs.YtjijlhjggpibjaaGreat
