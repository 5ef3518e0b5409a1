/-
  Sorting and compacting a list of ints of the call's own.
-/
import Derived.Test.YtgaolgfjbgflgaaAp2
import Derived.Test.YtgaolgfjbgflgaaShelf
import Derived.Sort.OwnSorted
namespace Go.Proofs.Ytgaolgfjbgflgaa
open Go.RowKit Go.Sort

def sortI (l : List Int) : List Int := l.mergeSort fun x y => decide (x ≤ y)
theorem sortI_len (l : List Int) : (sortI l).length = l.length := List.length_mergeSort l
theorem sortI_le (l : List Int) : (sortI l).Pairwise (· ≤ ·) := by
  have h := List.pairwise_mergeSort (le := fun (x y : Int) => decide (x ≤ y)) (fun a b c h1 h2 => by
      rw [decide_eq_true_eq] at *; omega) (fun a b => by
      rw [Bool.or_eq_true, decide_eq_true_eq, decide_eq_true_eq]; omega) l
  exact h.imp fun h => of_decide_eq_true h
theorem sortI_mem (l : List Int) (r : Int) : r ∈ sortI l ↔ r ∈ l := (List.mergeSort_perm l _).mem_iff
theorem ints_unique : ∀ (xs ys : List Int), xs.Pairwise (· < ·) → ys.Pairwise (· < ·) → (∀ s, s ∈ xs ↔ s ∈ ys) → xs = ys
  | [], [], _, _, _ => rfl
  | [], y :: ys, _, _, h => by have := (h y).2 (by simp); simp at this
  | x :: xs, [], _, _, h => by have := (h x).1 (by simp); simp at this
  | x :: xs, y :: ys, hx, hy, h => by
    rw [List.pairwise_cons] at hx hy
    have hxy : x = y := by
      have h1 := (h x).1 (by simp)
      have h2 := (h y).2 (by simp)
      rcases List.mem_cons.1 h1 with e | h1
      · exact e
      rcases List.mem_cons.1 h2 with e | h2
      · exact e.symm
      have a := hy.1 x h1
      have b := hx.1 y h2
      omega
    subst hxy
    rw [ints_unique xs ys hx.2 hy.2 (fun s => ?_)]
    constructor
    · intro hs
      rcases List.mem_cons.1 ((h s).1 (by simp [hs])) with e | h1
      · subst e; have := hx.1 s hs; omega
      · exact h1
    · intro hs
      rcases List.mem_cons.1 ((h s).2 (by simp [hs])) with e | h1
      · subst e; have := hy.1 s hs; omega
      · exact h1
theorem grown_growI (w : World) (os : Array Obj) : w.grownBy (grow w os) none := ⟨rfl, rfl, rfl, by simp [grow], fun k hk _ => heap_grow_old w os hk⟩

/-- slices.Sort of a row of the call's own. -/
theorem sortI_own {w0 w1 : World} {v : Value} {l : List Int} (hown : w1.ownsRow w0.heap.size 3 1 v l.length (l.map vi)) (hbel : Below w0.heap.size w0 w1) (hn : l.length ≤ 1000000) :
    Calls Try.prog 39 #[v] w1 fun e w' => e = .returned (.tuple #[]) ∧ w'.ownsRow w0.heap.size 3 1 v (sortI l).length ((sortI l).map vi) ∧ Below w0.heap.size w0 w' := by
  rcases hown.2 with ⟨rfl, h0⟩ | ⟨g, cap, cur, rfl, hbase, hb, h1, h2, h3, h4⟩
  · have hl : l = [] := List.length_eq_zero_iff.1 h0
    subst hl
    refine (Try.slices_Sort_int_none none 0 w1).mono fun e w' ⟨he, hw⟩ => ⟨he, ?_⟩
    subst hw
    rw [show sortI [] = [] by simp [sortI]]
    exact ⟨hown, hbel⟩
  · have hgl : g < w1.heap.size := (Array.getElem?_eq_some_iff.1 hb).1
    have hH : Holds (Value.int .i64) w1 g 0 l.toArray := fun j hj => by
      have hj' : j < l.length := by simpa using hj
      rw [Nat.zero_add, hown.cellAt j (by omega), hown.frozenAt j, List.getElem?_map, List.getElem?_eq_getElem hj', getElem!_pos _ _ (by simpa using hj')]
      exact ⟨rfl, rfl⟩
    refine (Try.slices_Sort_int g 0 cap l w1 hH hgl (by omega)).mono fun e w' ⟨he, nn, os, hw⟩ => ⟨he, ?_⟩
    subst hw
    have hs := Lib.ownsRow_putRow (enc := Value.int .i64) (q := nn) (k := l.length) (ys := sortI l) hown (sortI_len l) (Nat.le_refl _)
    rw [List.take_of_length_le (by rw [sortI_len]; omega)] at hs
    have hg := grown_growI (putRow (Value.int .i64) (Sort.ahead w1 nn) g 0 (sortI l).toArray) os
    have hb2 := Lib.below_putRow (enc := Value.int .i64) (q := nn) (d := (sortI l).toArray) hbel hbase
    refine ⟨by rw [sortI_len]; exact hs.kept hg (.inr (by simp [Value.ownBlock])), ?_⟩
    exact hb2.grown hg hb2.size (fun k hk => by cases hk)

theorem compactI_mem (zs : List Int) (s : Int) : s ∈ Lib.compact zs ↔ s ∈ zs := by
  unfold Lib.compact Lib.compactUpTo
  simp only [List.mem_map, List.mem_filter, List.mem_range]
  constructor
  · rintro ⟨j, ⟨hj, _⟩, rfl⟩
    rw [getElem!_pos _ _ (by simpa using hj)]
    simp
  · intro h
    obtain ⟨j, hj, rfl⟩ := List.getElem_of_mem h
    have key : ∀ j (hj : j < zs.length), ∃ i, (i < zs.length ∧ Lib.keeps zs.toArray i = true) ∧ zs.toArray[i]! = zs[j] := by
      intro j
      induction j using Nat.strongRecOn with
      | _ j ih =>
        intro hj
        by_cases hk : Lib.keeps zs.toArray j = true
        · exact ⟨j, ⟨hj, hk⟩, by rw [getElem!_pos _ _ (by simpa using hj)]; simp⟩
        · have hn : ¬ (j = 0 ∨ zs.toArray[j]! ≠ zs.toArray[j - 1]!) := by
            intro h; exact hk (by unfold Lib.keeps; exact decide_eq_true h)
          have h0 : j ≠ 0 := fun e => hn (.inl e)
          have he : zs.toArray[j]! = zs.toArray[j - 1]! := Decidable.byContradiction fun e => hn (.inr e)
          rw [getElem!_pos _ _ (by simpa using hj), getElem!_pos _ _ (by simp; omega)] at he
          obtain ⟨i, h1, h2⟩ := ih (j - 1) (by omega) (by omega)
          refine ⟨i, h1, h2.trans ?_⟩
          simpa using he.symm
    exact key j hj
theorem compactI_sorted (zs : List Int) (h : zs.Pairwise (· ≤ ·)) : (Lib.compact zs).Pairwise (· < ·) := by
  unfold Lib.compact Lib.compactUpTo
  rw [List.pairwise_map]
  refine List.Pairwise.imp_of_mem ?_ ((List.pairwise_lt_range (n := zs.length)).filter _)
  intro i j hi hj hlt
  simp only [List.mem_filter, List.mem_range] at hi hj
  have hk : j = 0 ∨ zs.toArray[j]! ≠ zs.toArray[j - 1]! := of_decide_eq_true hj.2
  have hne : zs.toArray[j]! ≠ zs.toArray[j - 1]! := hk.resolve_left (by omega)
  rw [getElem!_pos _ _ (by simpa using hj.1), getElem!_pos _ _ (by simp; omega)] at hne
  rw [getElem!_pos zs.toArray i (by simp; omega), getElem!_pos zs.toArray j (by simpa using hj.1)]
  simp only [List.getElem_toArray] at hne ⊢
  have h1 := List.pairwise_iff_getElem.1 h (j - 1) j (by omega) hj.1 (by omega)
  by_cases e : i = j - 1
  · subst e; omega
  · have h2 := List.pairwise_iff_getElem.1 h i (j - 1) (by omega) (by omega) (by omega)
    omega

/-- slices.Compact of a row of the call's own. -/
theorem compactI_own {w0 w1 : World} {v : Value} {l : List Int} (hown : w1.ownsRow w0.heap.size 3 1 v l.length (l.map vi)) (hbel : Below w0.heap.size w0 w1) (hn : l.length ≤ 1000000) :
    Calls Try.prog 40 #[v] w1 (fun e w' => ∃ v', e = .returned v' ∧ Reads vi w' v' (Lib.compact l) ∧ Below w0.heap.size w0 w') := by
  rcases hown.2 with ⟨rfl, h0⟩ | ⟨g, cap, cur, rfl, hbase, hb, h1, h2, h3, h4⟩
  · have hl : l = [] := List.length_eq_zero_iff.1 h0
    subst hl
    refine (Try.slices_Compact_int_empty none 0 w1).mono fun e w' ⟨he, hw⟩ => ⟨_, he, ?_⟩
    subst hw
    exact ⟨Reads.nil _, hbel⟩
  · have hH : Holds (Value.int .i64) w1 g 0 l.toArray := fun j hj => by
      have hj' : j < l.length := by simpa using hj
      rw [Nat.zero_add, hown.cellAt j (by omega), hown.frozenAt j, List.getElem?_map, List.getElem?_eq_getElem hj', getElem!_pos _ _ (by simpa using hj')]
      exact ⟨rfl, rfl⟩
    have hle := Lib.compact_length_le l
    refine (Try.slices_Compact_int g 0 cap l w1 hH (by omega) h1).mono fun e w' ⟨he, q, hw⟩ => ⟨_, he, ?_⟩
    subst hw
    have hs := Lib.ownsRow_putRow (enc := Value.int .i64) (q := q) (k := (Lib.compact l).length) (ys := Lib.compact l ++ List.replicate (l.length - (Lib.compact l).length) 0) hown (by simp; omega) hle
    rw [List.take_left] at hs
    exact ⟨Reads.of_owns (enc := vi) hs, Lib.below_putRow hbel hbase⟩

end Go.Proofs.Ytgaolgfjbgflgaa
