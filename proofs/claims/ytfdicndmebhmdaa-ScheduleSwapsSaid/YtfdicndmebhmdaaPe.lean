/-
  Chapter 29, plain: the number of linearizations; prefixes among the linearizations; exchanged neighbours in a linearization.
-/
import Derived.Test.YtfdicndmebhmdaaPb
namespace Go.Proofs.Ytfdicndmebhmdaa

def fct : Nat → Nat
  | 0 => 1
  | n + 1 => (n + 1) * fct n
theorem mfr_len (t : List Ev) : (mfr t).length ≤ t.length := by
  unfold mfr
  rw [List.length_map, (rdyS_perm t noU).length_eq]
  unfold rdyL
  have := List.length_filter_le (rdyB t noU) (List.range t.length)
  simpa using this
theorem flat_le {α β : Type} {f : α → List β} {c : Nat} : ∀ {l : List α}, (∀ x, x ∈ l → (f x).length ≤ c) → (l.flatMap f).length ≤ l.length * c
  | [], _ => by simp
  | x :: l, h => by
    rw [List.flatMap_cons, List.length_append, List.length_cons, Nat.succ_mul]
    have h1 := h x (List.mem_cons_self ..)
    have h2 := flat_le (l := l) fun y hy => h y (List.mem_cons_of_mem _ hy)
    omega
theorem lins_le : ∀ {n : Nat} {t : List Ev}, t.length = n → (linsV n t).length ≤ fct n
  | 0, t, _ => Nat.le_refl _
  | n + 1, t, h => by
    unfold linsV fct
    refine Nat.le_trans (flat_le (c := fct n) fun e he => ?_) ?_
    · rw [List.length_map]
      exact lins_le (erase_len (mem_mfr.1 he) h)
    · have := mfr_len t
      exact Nat.mul_le_mul_right _ (by omega)
theorem fct_mono {m n : Nat} (h : m ≤ n) : fct m ≤ fct n := by
  induction n with
  | zero => have : m = 0 := by omega
            subst this; exact Nat.le_refl _
  | succ n ih =>
    by_cases e : m = n + 1
    · subst e; exact Nat.le_refl _
    · refine Nat.le_trans (ih (by omega)) ?_
      show fct n ≤ (n + 1) * fct n
      exact Nat.le_mul_of_pos_left _ (by omega)
theorem lins_720 {t : List Ev} (h : t.length ≤ 6) : (linsE t).length ≤ 720 := by
  rw [linsE_eq]
  exact Nat.le_trans (lins_le rfl) (fct_mono (n := 6) h)
theorem norm_prj (t : List Ev) : Prj t (normE t) := by rw [normE_eq]; exact (norm_eqv rfl).prj
theorem prj_norm {x y : List Ev} : normE x = normE y ↔ Prj x y := by
  constructor
  · intro h
    exact (norm_prj x).trans (by rw [h]; exact (norm_prj y).symm)
  · intro h
    rw [normE_eq, normE_eq, h.len]; exact h.normV _
theorem mem_lins {t y : List Ev} : y ∈ linsE t ↔ Prj t y := by rw [linsE_eq]; exact lins_mem rfl
/-- A prefix: one of the linearizations begins with an equivalent sequence. -/
theorem prfx_lins {a b : List Ev} : prfx a b = true ↔ ∃ y, y ∈ linsE b ∧ a.length ≤ y.length ∧ normE (y.take a.length) = normE a := by
  rw [prfx_iff]
  constructor
  · rintro ⟨c, h⟩
    exact ⟨a ++ c, mem_lins.2 h, by simp, by simp⟩
  · rintro ⟨y, h1, h2, h3⟩
    refine ⟨y.drop a.length, (mem_lins.1 h1).trans ?_⟩
    have h4 := (prj_norm.1 h3).append (y.drop a.length)
    rwa [List.take_append_drop] at h4
theorem each_eq {t y : List Ev} (h : y ∈ linsE t) : normE y = normE t := prj_norm.2 (mem_lins.1 h).symm
theorem linsE_nodup (t : List Ev) : (linsE t).Nodup := by rw [linsE_eq]; exact lins_nodup _ _
theorem linsE_pos (t : List Ev) : 0 < (linsE t).length := by rw [linsE_eq]; exact lins_pos rfl
theorem linsE_head (t : List Ev) (h : 0 < (linsE t).length) : (linsE t)[0] = normE t := by
  have h1 := lins_head (n := t.length) (t := t) rfl
  rw [← linsE_eq, ← normE_eq] at h1
  rw [List.head?_eq_getElem?, List.getElem?_eq_getElem h] at h1
  injection h1
/-- Two neighbours exchanged. -/
def swpE (y : List Ev) (k : Nat) : List Ev := (y.set k (nthE y (k + 1))).set (k + 1) (nthE y k)
theorem swpE_eq {y : List Ev} {k : Nat} (h : k + 1 < y.length) : y = y.take k ++ nthE y k :: nthE y (k + 1) :: y.drop (k + 2) ∧ swpE y k = y.take k ++ nthE y (k + 1) :: nthE y k :: y.drop (k + 2) := by
  have h1 : y = y.take k ++ nthE y k :: nthE y (k + 1) :: y.drop (k + 2) := by
    conv => lhs; rw [← List.take_append_drop k y, List.drop_eq_getElem_cons (show k < y.length by omega), List.drop_eq_getElem_cons h]
    rw [nthE_eq (show k < y.length by omega), nthE_eq h]
  refine ⟨h1, ?_⟩
  unfold swpE
  generalize hx : nthE y k = a at *
  generalize hz : nthE y (k + 1) = b at *
  have hl : (y.take k).length = k := by rw [List.length_take]; omega
  have key : ∀ (u v : List Ev), u.length = k → ((u ++ a :: b :: v).set k b).set (k + 1) a = u ++ b :: a :: v := by
    intro u v hu
    subst hu
    rw [List.set_append_right _ _ (Nat.le_refl _), Nat.sub_self, List.set_append_right _ _ (by omega)]
    simp
  conv => lhs; rw [h1]
  exact key _ _ hl
theorem swpE_len (y : List Ev) (k : Nat) : (swpE y k).length = y.length := by unfold swpE; simp
theorem swpE_prj {y : List Ev} {k : Nat} (h : k + 1 < y.length) (hd : depI y k (k + 1) = false) : Prj y (swpE y k) := by
  obtain ⟨h1, h2⟩ := swpE_eq h
  rw [h2]
  conv => lhs; rw [h1]
  exact Prj.swap _ _ hd
theorem each_swap {t y : List Ev} {k : Nat} (hy : y ∈ linsE t) (h : k + 1 < y.length) (hd : depI y k (k + 1) = false) : swpE y k ∈ linsE t := mem_lins.2 ((mem_lins.1 hy).trans (swpE_prj h hd))
theorem swpE_not {y : List Ev} {k : Nat} (h : k + 1 < y.length) (hd : depI y k (k + 1) = true) (hne : nthE y k ≠ nthE y (k + 1)) : normE y ≠ normE (swpE y k) := by
  intro e
  have e := prj_norm.1 e
  obtain ⟨h1, h2⟩ := swpE_eq h
  rw [h2] at e
  refine swap_not (y.take k) (y.drop (k + 2)) (a := nthE y k) (b := nthE y (k + 1)) hd hne ?_
  rwa [← h1]
end Go.Proofs.Ytfdicndmebhmdaa
