/-
  Chapter 29, plain: the reference's Layers inserts each name into its sorted layer; Before's pairs in order.
-/
import Derived.Test.YtfdicndmebhmdaaPc
import Derived.Test.YtfdicndmebhmdaaPd
import Derived.Test.YtfdicndmebhmdaaPf
namespace Go.Proofs.Ytfdicndmebhmdaa

def insI (x : Int) : List Int → List Int
  | [] => [x]
  | a :: l => if a < x then a :: insI x l else x :: a :: l
theorem insI_perm (x : Int) : ∀ l : List Int, (insI x l).Perm (x :: l)
  | [] => .refl _
  | a :: l => by
    unfold insI
    split
    · exact ((insI_perm x l).cons a).trans (List.Perm.swap x a l)
    · exact .refl _
theorem insI_sorted (x : Int) : ∀ {l : List Int}, l.Pairwise (· ≤ ·) → (insI x l).Pairwise (· ≤ ·)
  | [], _ => List.pairwise_singleton _ _
  | a :: l, h => by
    unfold insI
    have h' := List.pairwise_cons.1 h
    split
    · refine List.pairwise_cons.2 ⟨fun b hb => ?_, insI_sorted x h'.2⟩
      rcases List.mem_cons.1 ((insI_perm x l).mem_iff.1 hb) with e | e
      · subst e; omega
      · exact h'.1 b e
    · refine List.pairwise_cons.2 ⟨fun b hb => ?_, h⟩
      rcases List.mem_cons.1 hb with e | e
      · subst e; omega
      · have := h'.1 b e; omega
theorem insI_at (x : Int) : ∀ (l : List Int) (p : Nat), p ≤ l.length → (∀ j (h : j < l.length), j < p → l[j] < x) → (∀ h : p < l.length, x ≤ l[p]) → insI x l = (l.take p ++ [x]) ++ l.drop p
  | [], p, hp, _, _ => by simp at hp; subst hp; rfl
  | a :: l, 0, hp, _, h2 => by
    have := h2 (by simp)
    simp only [List.getElem_cons_zero] at this
    unfold insI
    rw [if_neg (by omega)]; rfl
  | a :: l, p + 1, hp, h1, h2 => by
    unfold insI
    have := h1 0 (by simp) (by omega)
    rw [if_pos (by simp at this; omega), insI_at x l p (by simpa using hp) (fun j h hj => by have := h1 (j + 1) (by simp; omega) (by omega); simpa using this) (fun h => by have := h2 (by simp; omega); simpa using this)]
    rfl
theorem sortI_snoc (l : List Int) (x : Int) : sortI (l ++ [x]) = insI x (sortI l) := by
  refine sorted_ints (((sortI_perm _).trans ?_).trans (insI_perm x (sortI l)).symm) (sortI_le _) (insI_sorted x (sortI_le l))
  exact List.perm_append_comm.trans ((sortI_perm l).symm.cons x)
/-- The layers of the first i events, m of them. -/
def layK (t : List Ev) (i m : Nat) : List (List Int) := (List.range m).map fun l => sortI (lyN t i l)
theorem layK_len (t : List Ev) (i m : Nat) : (layK t i m).length = m := by simp [layK]
theorem layK_get {t : List Ev} {i m l : Nat} (h : l < (layK t i m).length) : (layK t i m)[l] = sortI (lyN t i l) := by simp [layK]
theorem layK_all (t : List Ev) : layK t t.length (nl t t.length) = layE t := rfl
theorem layK_push {t : List Ev} {i m : Nat} (h : nl t i ≤ m) : layK t i (m + 1) = layK t i m ++ [[]] := by
  unfold layK
  rw [List.range_succ, List.map_append]
  simp [lyN_none h, sortI]
theorem layK_set {t : List Ev} {i m : Nat} : layK t (i + 1) m = (layK t i m).set (ly t i) (insI (nmI t i) (sortI (lyN t i (ly t i)))) := by
  apply List.ext_getElem
  · simp [layK]
  · intro j h1 h2
    rw [layK_get, List.getElem_set]
    split
    · rename_i e; subst e; rw [lyN_yes, sortI_snoc]
    · rename_i e; rw [layK_get, lyN_no (fun q => e q.symm)]
theorem nl_max (t : List Ev) (k : Nat) : nl t (k + 1) = if ly t k < nl t k then nl t k else ly t k + 1 := by
  rw [nl_succ]; split <;> omega
theorem ly_lt_nl {t : List Ev} {i : Nat} : ly t i < nl t (i + 1) := by rw [nl_succ]; omega

/-- The pairs before (i, k). -/
def bfP (t : List Ev) (i k : Nat) : List (Nat × Nat) := bfL t i ++ bfR t i k
theorem bfR_zero (t : List Ev) (i : Nat) : bfR t i (i + 1) = [] := by
  unfold bfR
  rw [List.map_eq_nil_iff, List.filter_eq_nil_iff]
  intro j hj h
  have := rch_lt h
  have := List.mem_range.1 hj
  omega
theorem bfP_start (t : List Ev) (i : Nat) : bfP t i (i + 1) = bfL t i := by unfold bfP; rw [bfR_zero, List.append_nil]
theorem bfP_row (t : List Ev) (i : Nat) : bfP t i t.length = bfL t (i + 1) := by unfold bfP; rw [bfL_succ]
theorem bfP_yes {t : List Ev} {i k : Nat} (h : rch t i k = true) : bfP t i (k + 1) = bfP t i k ++ [(i, k)] := by unfold bfP; rw [bfR_yes h, List.append_assoc]
theorem bfP_no {t : List Ev} {i k : Nat} (h : rch t i k = false) : bfP t i (k + 1) = bfP t i k := by unfold bfP; rw [bfR_no h]
theorem bfL_pre (t : List Ev) (i : Nat) : ∀ {m : Nat}, i ≤ m → bfL t i <+: bfL t m
  | 0, h => by have : i = 0 := by omega
               subst this; exact List.prefix_refl _
  | m + 1, h => by
    by_cases e : i = m + 1
    · subst e; exact List.prefix_refl _
    · exact (bfL_pre t i (m := m) (by omega)).trans (by rw [bfL_succ]; exact List.prefix_append _ _)
theorem bfR_pre (t : List Ev) (i k : Nat) : ∀ {m : Nat}, k ≤ m → bfR t i k <+: bfR t i m
  | 0, h => by have : k = 0 := by omega
               subst this; exact List.prefix_refl _
  | m + 1, h => by
    by_cases e : k = m + 1
    · subst e; exact List.prefix_refl _
    · refine (bfR_pre t i k (m := m) (by omega)).trans ?_
      cases h : rch t i m with
      | true => rw [bfR_yes h]; exact List.prefix_append _ _
      | false => rw [bfR_no h]; exact List.prefix_refl _
theorem bfP_pre {t : List Ev} {i k : Nat} (hi : i < t.length) (hk : k ≤ t.length) : bfP t i k <+: bfE t := by
  refine List.IsPrefix.trans ?_ (bfL_pre t (i + 1) (m := t.length) hi)
  rw [← bfP_row]
  unfold bfP
  exact (List.prefix_append_right_inj _).2 (bfR_pre t i k hk)
/-- The next pair. -/
theorem bfP_next {t : List Ev} {i k : Nat} (hi : i < t.length) (hk : k < t.length) (h : rch t i k = true) : ∃ h : (bfP t i k).length < (bfE t).length, (bfE t)[(bfP t i k).length] = (i, k) := by
  obtain ⟨r, hr⟩ := bfP_pre hi (show k + 1 ≤ t.length by omega)
  rw [bfP_yes h] at hr
  refine ⟨by rw [← hr]; simp, ?_⟩
  simp only [← hr]
  rw [List.getElem_append_left (by simp), List.getElem_append_right (Nat.le_refl _)]
  simp
theorem bfP_len {t : List Ev} {i k : Nat} (hi : i < t.length) (hk : k ≤ t.length) : (bfP t i k).length ≤ (bfE t).length := (bfP_pre hi hk).length_le

/-- No chain from i to j through an event before k. -/
def noR (t : List Ev) (i j k : Nat) : Prop := ∀ x, i < x → x < k → (depI t i x && rch t x j) = false
theorem noR_start (t : List Ev) (i j : Nat) : noR t i j (i + 1) := fun x h1 h2 => by omega
theorem noR_succ {t : List Ev} {i j k : Nat} (h : noR t i j k) (hk : (depI t i k && rch t k j) = false) : noR t i j (k + 1) := fun x h1 h2 => by
  by_cases e : x = k
  · subst e; exact hk
  · exact h x h1 (by omega)
theorem rch_no {t : List Ev} {i j : Nat} (hd : depI t i j = false) (h : noR t i j j) : rch t i j = false := by
  rw [rch_eq, hd, Bool.false_or, Bool.and_eq_false_iff]
  right
  rw [List.any_eq_false]
  intro k hk
  rw [Bool.not_eq_true]
  by_cases hik : i < k
  · rw [decide_eq_true hik, Bool.true_and]
    exact h k hik (List.mem_range.1 hk)
  · rw [decide_eq_false hik]; rfl
theorem rch_dep {t : List Ev} {i j : Nat} (hij : i < j) (hd : depI t i j = true) : rch t i j = true := by
  rw [rch_eq, hd, decide_eq_true hij]; rfl
theorem rch_via {t : List Ev} {i j k : Nat} (h1 : i < k) (h2 : k < j) (hd : depI t i k = true) (hr : rch t k j = true) : rch t i j = true := by
  rw [rch_eq, decide_eq_true (show i < j by omega), Bool.true_and, Bool.or_eq_true]
  right
  rw [List.any_eq_true]
  exact ⟨k, List.mem_range.2 h2, by simp [h1, hd, hr]⟩
theorem rch_not {t : List Ev} {i j : Nat} (h : ¬ i < j) : rch t i j = false := by
  rw [rch_eq, decide_eq_false h]; rfl
end Go.Proofs.Ytfdicndmebhmdaa
