/-
  Chapter 29, plain: traces up to the order of independent events: projections, normal form, linearizations, prefixes.
-/
import Derived.Test.YtfdicndmebhmdaaPa
namespace Go.Proofs.Ytfdicndmebhmdaa

/-- e may come first. -/
def frB : List Ev → Ev → Bool
  | [], _ => false
  | a :: t, e => decide (a = e) || (!depE a e && frB t e)
theorem frB_mem : ∀ {t : List Ev} {e : Ev}, frB t e = true → e ∈ t
  | [], _, h => by cases h
  | a :: t, e, h => by
    unfold frB at h
    rw [Bool.or_eq_true, Bool.and_eq_true, decide_eq_true_eq] at h
    rcases h with h | h
    · subst h; exact List.mem_cons_self ..
    · exact List.mem_cons_of_mem _ (frB_mem h.2)
def prj (t : List Ev) (a b : Ev) : List Ev := t.filter fun e => decide (e = a) || decide (e = b)
/-- The same order of dependent events. -/
def Prj (x y : List Ev) : Prop := ∀ a b, depE a b = true → prj x a b = prj y a b
theorem Prj.refl (x : List Ev) : Prj x x := fun _ _ _ => rfl
theorem Prj.symm {x y : List Ev} (h : Prj x y) : Prj y x := fun a b hd => (h a b hd).symm
theorem Prj.trans {x y z : List Ev} (h : Prj x y) (k : Prj y z) : Prj x z := fun a b hd => (h a b hd).trans (k a b hd)
theorem prj_yes {t : List Ev} {x a b : Ev} (h : x = a ∨ x = b) : prj (x :: t) a b = x :: prj t a b := by
  unfold prj
  rw [List.filter_cons_of_pos (by simpa using h)]
theorem prj_no {t : List Ev} {x a b : Ev} (h : ¬ (x = a ∨ x = b)) : prj (x :: t) a b = prj t a b := by
  unfold prj
  rw [List.filter_cons_of_neg (by simpa using h)]
theorem mem_prj {t : List Ev} {e : Ev} : e ∈ prj t e e ↔ e ∈ t := by
  unfold prj; simp
theorem Prj.mem {x y : List Ev} (h : Prj x y) (e : Ev) : e ∈ x ↔ e ∈ y := by
  rw [← mem_prj, h e e (depE_self e), mem_prj]
theorem Prj.perm {x y : List Ev} (h : Prj x y) : x.Perm y := by
  rw [List.perm_iff_count]
  intro e
  have key : ∀ t : List Ev, t.count e = (prj t e e).count e := fun t => by
    unfold prj; rw [List.count_filter (by simp)]
  rw [key x, key y, h e e (depE_self e)]
theorem Prj.len {x y : List Ev} (h : Prj x y) : x.length = y.length := h.perm.length_eq
theorem frB_prj : ∀ {t : List Ev} {e : Ev}, frB t e = true ↔ e ∈ t ∧ ∀ f, depE e f = true → (prj t e f).head? = some e
  | [], e => by simp [frB]
  | a :: t, e => by
    unfold frB
    rw [Bool.or_eq_true, Bool.and_eq_true, decide_eq_true_eq, Bool.not_eq_true', frB_prj]
    by_cases h : a = e
    · subst h
      exact ⟨fun _ => ⟨List.mem_cons_self .., fun f _ => by rw [prj_yes (.inl rfl)]; rfl⟩, fun _ => .inl rfl⟩
    · constructor
      · rintro (h' | ⟨h1, h2, h3⟩)
        · exact absurd h' h
        · refine ⟨List.mem_cons_of_mem _ h2, fun f hf => ?_⟩
          rw [prj_no (by rintro (e1 | e1); exact h e1; subst e1; rw [depE_comm, hf] at h1; cases h1)]
          exact h3 f hf
      · rintro ⟨h1, h2⟩
        have hm : e ∈ t := by
          rcases List.mem_cons.1 h1 with e1 | e1
          · exact absurd e1.symm h
          · exact e1
        have hd : depE a e = false := Bool.eq_false_iff.2 fun hd => by
          have := h2 a (by rw [depE_comm]; exact hd)
          rw [prj_yes (.inr rfl)] at this
          simp at this; exact h this
        refine .inr ⟨hd, hm, fun f hf => ?_⟩
        have := h2 f hf
        rwa [prj_no (by rintro (e1 | e1); exact h e1; subst e1; rw [depE_comm, hd] at hf; cases hf)] at this
theorem Prj.fr {x y : List Ev} (h : Prj x y) (e : Ev) : frB x e = frB y e := by
  rw [Bool.eq_iff_iff, frB_prj, frB_prj, h.mem e]
  exact and_congr_right fun _ => ⟨fun k f hf => by rw [← h e f hf]; exact k f hf, fun k f hf => by rw [h e f hf]; exact k f hf⟩
theorem Prj.erase {x y : List Ev} (h : Prj x y) (e : Ev) : Prj (x.erase e) (y.erase e) := fun a b hd => by
  unfold prj
  rw [← List.erase_filter, ← List.erase_filter]
  have := h a b hd
  unfold prj at this
  rw [this]
theorem Prj.cons {x y : List Ev} (e : Ev) (h : Prj x y) : Prj (e :: x) (e :: y) := fun a b hd => by
  by_cases k : e = a ∨ e = b
  · rw [prj_yes k, prj_yes k, h a b hd]
  · rw [prj_no k, prj_no k, h a b hd]
/-- Independent neighbours exchanged. -/
theorem Prj.swap {a b : Ev} (u v : List Ev) (h : depE a b = false) : Prj (u ++ a :: b :: v) (u ++ b :: a :: v) := by
  induction u with
  | cons e u ih => exact Prj.cons e ih
  | nil =>
    intro c d hd
    simp only [List.nil_append]
    by_cases k : a = c ∨ a = d
    · by_cases k' : b = c ∨ b = d
      · exfalso
        have h1 : depE a b = true := by
          rcases k with rfl | rfl <;> rcases k' with rfl | rfl
          · exact depE_self _
          · exact hd
          · rw [depE_comm]; exact hd
          · exact depE_self _
        rw [h] at h1; cases h1
      · rw [prj_yes k, prj_no k', prj_no k', prj_yes k]
    · by_cases k' : b = c ∨ b = d
      · rw [prj_no k, prj_yes k', prj_yes k', prj_no k]
      · rw [prj_no k, prj_no k', prj_no k', prj_no k]
/-- Exchanges of independent neighbours, one after the other. -/
inductive Eqv : List Ev → List Ev → Prop
  | refl (x : List Ev) : Eqv x x
  | step {x : List Ev} {a b : Ev} (u v : List Ev) : Eqv x (u ++ a :: b :: v) → depE a b = false → Eqv x (u ++ b :: a :: v)
theorem Eqv.trans {x y z : List Ev} (h : Eqv x y) (k : Eqv y z) : Eqv x z := by
  induction k with
  | refl => exact h
  | step u v _ hd ih => exact .step u v ih hd
theorem Eqv.one {a b : Ev} (u v : List Ev) (h : depE a b = false) : Eqv (u ++ a :: b :: v) (u ++ b :: a :: v) := .step u v (.refl _) h
theorem Eqv.symm {x y : List Ev} (h : Eqv x y) : Eqv y x := by
  induction h with
  | refl => exact .refl _
  | step u v _ hd ih => exact (Eqv.one u v (by rw [depE_comm]; exact hd)).trans ih
theorem Eqv.cons {x y : List Ev} (e : Ev) (h : Eqv x y) : Eqv (e :: x) (e :: y) := by
  induction h with
  | refl => exact .refl _
  | step u v _ hd ih => exact .step (e :: u) v ih hd
theorem Eqv.prj {x y : List Ev} (h : Eqv x y) : Prj x y := by
  induction h with
  | refl => exact Prj.refl _
  | step u v _ hd ih => exact ih.trans (Prj.swap u v hd)
/-- What may come first can be brought to the front. -/
theorem fr_front : ∀ {t : List Ev} {e : Ev}, frB t e = true → Eqv t (e :: t.erase e)
  | [], _, h => by cases h
  | a :: t, e, h => by
    by_cases k : a = e
    · subst k
      rw [List.erase_cons_head]; exact .refl _
    · unfold frB at h
      rw [decide_eq_false k, Bool.false_or, Bool.and_eq_true, Bool.not_eq_true'] at h
      rw [List.erase_cons_tail (by simpa using k)]
      exact (Eqv.cons a (fr_front h.2)).trans (Eqv.one [] _ h.1)
theorem fr_prj {t : List Ev} {e : Ev} (h : frB t e = true) : Prj t (e :: t.erase e) := (fr_front h).prj
theorem erase_len {t : List Ev} {e : Ev} {n : Nat} (h : frB t e = true) (hn : t.length = n + 1) : (t.erase e).length = n := by
  rw [List.length_erase_of_mem (frB_mem h)]; omega

/-- Of several lists sorted in the same strict order, those with the same members are the same. -/
theorem sorted_oneE {R : Ev → Ev → Prop} (hR : ∀ a b, R a b → ¬ R b a) : ∀ {l m : List Ev}, l.Pairwise R → m.Pairwise R → (∀ x, x ∈ l ↔ x ∈ m) → l = m
  | [], [], _, _, _ => rfl
  | [], y :: m, _, _, h => by have := (h y).2 (List.mem_cons_self ..); cases this
  | x :: l, [], _, _, h => by have := (h x).1 (List.mem_cons_self ..); cases this
  | x :: l, y :: m, hl, hm, h => by
    rw [List.pairwise_cons] at hl hm
    have hxy : x = y := by
      rcases List.mem_cons.1 ((h x).1 (List.mem_cons_self ..)) with e | e
      · exact e
      · rcases List.mem_cons.1 ((h y).2 (List.mem_cons_self ..)) with e' | e'
        · exact e'.symm
        · exact absurd (hl.1 y e') (hR _ _ (hm.1 x e))
    subst hxy
    have hxl : x ∉ l := fun hx => hR _ _ (hl.1 x hx) (hl.1 x hx)
    have hxm : x ∉ m := fun hx => hR _ _ (hm.1 x hx) (hm.1 x hx)
    rw [sorted_oneE hR hl.2 hm.2 fun z => ⟨fun hz => ?_, fun hz => ?_⟩]
    · rcases List.mem_cons.1 ((h z).1 (List.mem_cons_of_mem _ hz)) with e | e
      · subst e; exact absurd hz hxl
      · exact e
    · rcases List.mem_cons.1 ((h z).2 (List.mem_cons_of_mem _ hz)) with e | e
      · subst e; exact absurd hz hxm
      · exact e

/-- frB of the events of increasing indices. -/
theorem frB_idx (t : List Ev) : ∀ {l : List Nat}, l.Pairwise (· < ·) → ∀ e, frB (l.map (nthE t)) e = true ↔ ∃ i, i ∈ l ∧ nthE t i = e ∧ ∀ j, j ∈ l → j < i → depI t j i = false
  | [], _, e => by simp [frB]
  | a :: l, hs, e => by
    rw [List.pairwise_cons] at hs
    rw [List.map_cons, frB, Bool.or_eq_true, Bool.and_eq_true, decide_eq_true_eq, Bool.not_eq_true', frB_idx t hs.2]
    constructor
    · rintro (h | ⟨h, i, h1, h2, h3⟩)
      · refine ⟨a, List.mem_cons_self .., h, fun j hj hja => ?_⟩
        rcases List.mem_cons.1 hj with e1 | e1
        · omega
        · have := hs.1 j e1; omega
      · refine ⟨i, List.mem_cons_of_mem _ h1, h2, fun j hj hji => ?_⟩
        rcases List.mem_cons.1 hj with e1 | e1
        · subst e1; unfold depI; rw [h2]; exact h
        · exact h3 j e1 hji
    · rintro ⟨i, h1, h2, h3⟩
      rcases List.mem_cons.1 h1 with e1 | e1
      · subst e1; exact .inl h2
      · refine .inr ⟨?_, i, e1, h2, fun j hj hji => h3 j (List.mem_cons_of_mem _ hj) hji⟩
        have := h3 a (List.mem_cons_self ..) (hs.1 i e1)
        unfold depI at this
        rwa [h2] at this
/-- The events that may come first, by name. -/
def mfr (t : List Ev) : List Ev := (rdyS t noU).map (nthE t)
theorem range_map (t : List Ev) : (List.range t.length).map (nthE t) = t := by
  apply List.ext_getElem
  · simp
  · intro i h1 h2
    simp only [List.getElem_map, List.getElem_range]
    exact nthE_eq h2
theorem mem_mfr {t : List Ev} {e : Ev} : e ∈ mfr t ↔ frB t e = true := by
  have h := frB_idx t (l := List.range t.length) List.pairwise_lt_range e
  rw [range_map] at h
  rw [h]
  unfold mfr
  rw [List.mem_map]
  constructor
  · rintro ⟨i, h1, h2⟩
    have h3 := mem_rdyS.1 h1
    exact ⟨i, List.mem_range.2 h3.1, h2, fun j _ hji => (rdyB_iff.1 h3.2).2 j hji rfl⟩
  · rintro ⟨i, h1, h2, h3⟩
    have := List.mem_range.1 h1
    exact ⟨i, mem_rdyS.2 ⟨this, rdyB_iff.2 ⟨rfl, fun j hj _ => h3 j (List.mem_range.2 (by omega)) hj⟩⟩, h2⟩
theorem mfr_strict (t : List Ev) : (mfr t).Pairwise fun a b => a.1 < b.1 := by
  unfold mfr
  rw [List.pairwise_map]
  exact rdyS_strict t noU
theorem Prj.mfr {x y : List Ev} (h : Prj x y) : mfr x = mfr y :=
  sorted_oneE (R := fun a b => a.1 < b.1) (fun a b h1 h2 => by omega) (mfr_strict x) (mfr_strict y) fun e => by rw [mem_mfr, mem_mfr, h.fr e]
theorem mfr_some {t : List Ev} (h : t ≠ []) : mfr t ≠ [] := by
  unfold Proofs.Ytfdicndmebhmdaa.mfr
  rw [Ne, List.map_eq_nil_iff]
  refine rdy_some ⟨0, List.length_pos_iff.2 h, rfl⟩

def normV : Nat → List Ev → List Ev
  | 0, _ => []
  | n + 1, t => match mfr t with
    | [] => []
    | e :: _ => e :: normV n (t.erase e)
def linsV : Nat → List Ev → List (List Ev)
  | 0, _ => [[]]
  | n + 1, t => (mfr t).flatMap fun e => (linsV n (t.erase e)).map (e :: ·)
theorem Prj.normV {x y : List Ev} (h : Prj x y) (n : Nat) : normV n x = normV n y := by
  induction n generalizing x y with
  | zero => rfl
  | succ n ih =>
    unfold Proofs.Ytfdicndmebhmdaa.normV
    rw [h.mfr]
    cases Proofs.Ytfdicndmebhmdaa.mfr y with
    | nil => rfl
    | cons e r => simp only; rw [ih (h.erase e)]
theorem Prj.linsV {x y : List Ev} (h : Prj x y) (n : Nat) : linsV n x = linsV n y := by
  induction n generalizing x y with
  | zero => rfl
  | succ n ih =>
    unfold Proofs.Ytfdicndmebhmdaa.linsV
    rw [h.mfr]
    congr 1
    funext e
    rw [ih (h.erase e)]
theorem norm_eqv : ∀ {n : Nat} {t : List Ev}, t.length = n → Eqv t (normV n t)
  | 0, t, h => by rw [List.length_eq_zero_iff.1 h]; exact .refl _
  | n + 1, t, h => by
    unfold normV
    cases hm : mfr t with
    | nil => exact absurd hm (mfr_some (by intro e; subst e; simp at h))
    | cons e r =>
      have he : frB t e = true := mem_mfr.1 (by rw [hm]; exact List.mem_cons_self ..)
      exact (fr_front he).trans (Eqv.cons e (norm_eqv (erase_len he h)))
theorem norm_len {n : Nat} {t : List Ev} (h : t.length = n) : (normV n t).length = n := ((norm_eqv h).prj.len).symm.trans h
/-- Equivalent exactly if the normal forms are the same. -/
theorem eqv_norm {x y : List Ev} : Eqv x y ↔ normV x.length x = normV y.length y := by
  constructor
  · intro h
    rw [h.prj.len]; exact h.prj.normV _
  · intro h
    exact (norm_eqv rfl).trans (by rw [h]; exact (norm_eqv rfl).symm)
theorem prj_eqv {x y : List Ev} (h : Prj x y) : Eqv x y := eqv_norm.2 (by rw [h.len]; exact h.normV _)
/-- Dependent neighbours that differ, exchanged: no longer equivalent. -/
theorem swap_not {a b : Ev} (u v : List Ev) (h : depE a b = true) (hne : a ≠ b) : ¬ Prj (u ++ a :: b :: v) (u ++ b :: a :: v) := by
  intro k
  have h1 := k a b h
  unfold prj at h1
  rw [List.filter_append, List.filter_append, List.append_cancel_left_eq, List.filter_cons_of_pos (a := a) (by simp), List.filter_cons_of_pos (a := b) (l := a :: v) (by simp)] at h1
  injection h1 with h1 _
  exact hne h1

theorem lins_mem : ∀ {n : Nat} {t y : List Ev}, t.length = n → (y ∈ linsV n t ↔ Prj t y)
  | 0, t, y, h => by
    have ht := List.length_eq_zero_iff.1 h
    subst ht
    unfold linsV
    rw [List.mem_singleton]
    exact ⟨fun e => by subst e; exact Prj.refl _, fun k => List.length_eq_zero_iff.1 k.len.symm⟩
  | n + 1, t, y, h => by
    unfold linsV
    simp only [List.mem_flatMap, List.mem_map]
    constructor
    · rintro ⟨e, h1, y', h2, rfl⟩
      have he := mem_mfr.1 h1
      exact (fr_prj he).trans (Prj.cons e ((lins_mem (erase_len he h)).1 h2))
    · intro k
      cases y with
      | nil => have := k.len; rw [h] at this; cases this
      | cons e y' =>
        have he : frB t e = true := by rw [k.fr e]; unfold frB; simp
        refine ⟨e, mem_mfr.2 he, y', (lins_mem (erase_len he h)).2 ?_, rfl⟩
        have := k.erase e
        rwa [List.erase_cons_head] at this
theorem lins_pos {n : Nat} {t : List Ev} (h : t.length = n) : 0 < (linsV n t).length := List.length_pos_of_mem ((lins_mem h).2 (Prj.refl t))
/-- The first linearization is the normal form. -/
theorem lins_head : ∀ {n : Nat} {t : List Ev}, t.length = n → (linsV n t).head? = some (normV n t)
  | 0, t, h => rfl
  | n + 1, t, h => by
    unfold linsV normV
    cases hm : mfr t with
    | nil => exact absurd hm (mfr_some (by intro e; subst e; simp at h))
    | cons e r =>
      have he : frB t e = true := mem_mfr.1 (by rw [hm]; exact List.mem_cons_self ..)
      have ih := lins_head (erase_len he h)
      rw [List.flatMap_cons]
      cases hl : linsV n (t.erase e) with
      | nil => rw [hl] at ih; cases ih
      | cons a l => rw [hl] at ih; injection ih with ih; subst ih; rfl
theorem lins_nodup : ∀ (n : Nat) (t : List Ev), (linsV n t).Nodup
  | 0, t => by unfold linsV; exact List.nodup_cons.2 ⟨by simp, List.nodup_nil⟩
  | n + 1, t => by
    unfold linsV
    have hs := mfr_strict t
    generalize mfr t = l at hs
    induction l with
    | nil => exact List.nodup_nil
    | cons e l ih =>
      rw [List.pairwise_cons] at hs
      rw [List.flatMap_cons, List.nodup_append]
      refine ⟨?_, ih hs.2, fun a ha b hb => ?_⟩
      · have := lins_nodup n (t.erase e)
        unfold List.Nodup at this ⊢
        rw [List.pairwise_map]
        exact this.imp fun h h' => by injection h' with _ h'; exact h h'
      · intro e1
        subst e1
        simp only [List.mem_map, List.mem_flatMap] at ha hb
        obtain ⟨x, _, rfl⟩ := ha
        obtain ⟨e', h1, x', _, h2⟩ := hb
        injection h2 with h2 _
        subst h2
        have := hs.1 e' h1; omega

/-- A linearization of b begins with one of a. -/
def prfx : List Ev → List Ev → Bool
  | [], _ => true
  | e :: a, b => frB b e && prfx a (b.erase e)
theorem Prj.prfx {x y : List Ev} (h : Prj x y) (a : List Ev) : prfx a x = prfx a y := by
  induction a generalizing x y with
  | nil => rfl
  | cons e a ih =>
    unfold Proofs.Ytfdicndmebhmdaa.prfx
    rw [h.fr e, ih (h.erase e)]
theorem prfx_iff : ∀ {a b : List Ev}, prfx a b = true ↔ ∃ c, Prj b (a ++ c)
  | [], b => by simp only [prfx, List.nil_append, true_iff]; exact ⟨b, Prj.refl b⟩
  | e :: a, b => by
    unfold prfx
    rw [Bool.and_eq_true, prfx_iff]
    constructor
    · rintro ⟨h1, c, h2⟩
      exact ⟨c, (fr_prj h1).trans (Prj.cons e h2)⟩
    · rintro ⟨c, h⟩
      refine ⟨by rw [h.fr e]; simp [frB], c, ?_⟩
      have := h.erase e
      rwa [List.cons_append, List.erase_cons_head] at this
theorem Prj.append {x y : List Ev} (h : Prj x y) (c : List Ev) : Prj (x ++ c) (y ++ c) := fun a b hd => by
  have := h a b hd
  unfold prj at this ⊢
  rw [List.filter_append, List.filter_append, this]
theorem prfx_left {x y : List Ev} (h : Prj x y) (b : List Ev) : Proofs.Ytfdicndmebhmdaa.prfx x b = Proofs.Ytfdicndmebhmdaa.prfx y b := by
  rw [Bool.eq_iff_iff, prfx_iff, prfx_iff]
  exact ⟨fun ⟨c, k⟩ => ⟨c, k.trans (h.append c)⟩, fun ⟨c, k⟩ => ⟨c, k.trans (h.symm.append c)⟩⟩
theorem prfx_self (a b : List Ev) : Proofs.Ytfdicndmebhmdaa.prfx a (a ++ b) = true := prfx_iff.2 ⟨b, Prj.refl _⟩
theorem prfx_len {a b : List Ev} (h : Proofs.Ytfdicndmebhmdaa.prfx a b = true) : a.length ≤ b.length := by
  obtain ⟨c, k⟩ := prfx_iff.1 h
  rw [k.len, List.length_append]; omega

theorem flatMap_same {α β : Type} {l : List α} {f g : α → List β} (h : ∀ x, x ∈ l → f x = g x) : l.flatMap f = l.flatMap g := by
  induction l with
  | nil => rfl
  | cons a l ih => rw [List.flatMap_cons, List.flatMap_cons, h a (List.mem_cons_self ..), ih fun x hx => h x (List.mem_cons_of_mem _ hx)]
/-! States of a search and what is left of the trace. -/
def remL (t : List Ev) (us : Nat → Bool) : List Nat := (List.range t.length).filter fun j => !us j
def remE (t : List Ev) (us : Nat → Bool) : List Ev := (remL t us).map (nthE t)
theorem remL_sorted (t : List Ev) (us : Nat → Bool) : (remL t us).Pairwise (· < ·) := List.pairwise_lt_range.filter _
theorem mem_remL {t : List Ev} {us : Nat → Bool} {i : Nat} : i ∈ remL t us ↔ i < t.length ∧ us i = false := by
  unfold remL; simp
theorem remE_no (t : List Ev) : remE t noU = t := by
  unfold remE remL
  have : (List.range t.length).filter (fun j => !noU j) = List.range t.length := List.filter_eq_self.2 fun _ _ => rfl
  rw [this]; exact range_map t
theorem rdyS_mfr (t : List Ev) (us : Nat → Bool) : (rdyS t us).map (nthE t) = mfr (remE t us) := by
  refine sorted_oneE (R := fun a b => a.1 < b.1) (fun a b h1 h2 => by omega) (by rw [List.pairwise_map]; exact rdyS_strict t us) (mfr_strict _) fun e => ?_
  rw [mem_mfr]
  unfold remE
  rw [frB_idx t (remL_sorted t us), List.mem_map]
  constructor
  · rintro ⟨i, h1, h2⟩
    have h3 := mem_rdyS.1 h1
    have h4 := rdyB_iff.1 h3.2
    exact ⟨i, mem_remL.2 ⟨h3.1, h4.1⟩, h2, fun j hj hji => h4.2 j hji (mem_remL.1 hj).2⟩
  · rintro ⟨i, h1, h2, h3⟩
    have h4 := mem_remL.1 h1
    exact ⟨i, mem_rdyS.2 ⟨h4.1, rdyB_iff.2 ⟨h4.2, fun j hj hu => h3 j (mem_remL.2 ⟨by omega, hu⟩) hj⟩⟩, h2⟩
theorem map_erase_first {f : Nat → Ev} {i : Nat} : ∀ {l : List Nat}, l.Pairwise (· < ·) → i ∈ l → (∀ j, j ∈ l → j < i → f j ≠ f i) → (l.filter fun j => decide (j ≠ i)).map f = (l.map f).erase (f i)
  | [], _, h, _ => by cases h
  | a :: l, hs, h, hf => by
    rw [List.pairwise_cons] at hs
    by_cases e : a = i
    · subst e
      rw [List.filter_cons_of_neg (by simp), List.map_cons, List.erase_cons_head, List.filter_eq_self.2]
      intro j hj
      have := hs.1 j hj
      exact decide_eq_true (by omega)
    · have hi : i ∈ l := by
        rcases List.mem_cons.1 h with e1 | e1
        · exact absurd e1.symm e
        · exact e1
      rw [List.filter_cons_of_pos (by simpa using e), List.map_cons, List.map_cons, List.erase_cons_tail (by simpa using hf a (List.mem_cons_self ..) (hs.1 i hi)),
        map_erase_first hs.2 hi fun j hj hji => hf j (List.mem_cons_of_mem _ hj) hji]
theorem remL_set (t : List Ev) (us : Nat → Bool) (i : Nat) : remL t (setU us i true) = (remL t us).filter fun j => decide (j ≠ i) := by
  unfold remL
  rw [List.filter_filter]
  refine List.filter_congr fun j _ => ?_
  unfold setU
  by_cases e : j = i
  · rw [if_pos e]; simp [e]
  · rw [if_neg e]; simp [e]
theorem remE_set {t : List Ev} {us : Nat → Bool} {i : Nat} (h : i ∈ rdyS t us) : remE t (setU us i true) = (remE t us).erase (nthE t i) := by
  have h1 := mem_rdyS.1 h
  have h2 := rdyB_iff.1 h1.2
  unfold remE
  rw [remL_set]
  refine map_erase_first (remL_sorted t us) (mem_remL.2 ⟨h1.1, h2.1⟩) fun j hj hji e => ?_
  have := h2.2 j hji (mem_remL.1 hj).2
  unfold depI at this
  rw [e, depE_self] at this; cases this
theorem remL_len_set {t : List Ev} {us : Nat → Bool} {i n : Nat} (h : i ∈ rdyS t us) (hn : (remL t us).length = n + 1) : (remL t (setU us i true)).length = n := by
  have h1 := mem_rdyS.1 h
  have h2 := rdyB_iff.1 h1.2
  have h3 := congrArg List.length (remE_set h)
  unfold remE at h3
  rw [List.length_map, List.length_erase_of_mem (List.mem_map_of_mem (mem_remL.2 ⟨h1.1, h2.1⟩)), List.length_map] at h3
  omega
theorem norm_index (t : List Ev) : ∀ (n : Nat) (us : Nat → Bool), (remL t us).length = n → (normGo t n us).map (nthE t) = normV n (remE t us)
  | 0, us, _ => rfl
  | n + 1, us, hn => by
    unfold normGo normV
    have h1 := rdyS_mfr t us
    cases hr : rdyS t us with
    | nil =>
      exfalso
      obtain ⟨i, hi⟩ := List.exists_mem_of_length_pos (l := remL t us) (by omega)
      exact rdy_some ⟨i, mem_remL.1 hi⟩ hr
    | cons i r =>
      rw [hr] at h1
      rw [← h1]
      have hi : i ∈ rdyS t us := by rw [hr]; exact List.mem_cons_self ..
      simp only [List.headD_cons, List.map_cons]
      rw [norm_index t n _ (remL_len_set hi hn), remE_set hi]
theorem lins_index (t : List Ev) : ∀ (n : Nat) (us : Nat → Bool), (remL t us).length = n → (linsGo t n us).map (fun l => l.map (nthE t)) = linsV n (remE t us)
  | 0, us, _ => rfl
  | n + 1, us, hn => by
    unfold linsGo linsV
    rw [← rdyS_mfr t us, List.map_flatMap, List.flatMap_map]
    refine flatMap_same fun i hi => ?_
    rw [← remE_set hi, ← lins_index t n _ (remL_len_set hi hn), List.map_map, List.map_map]
    rfl
theorem remL_no (t : List Ev) : (remL t noU).length = t.length := by
  have := congrArg List.length (remE_no t)
  unfold remE at this
  rwa [List.length_map] at this
theorem normE_eq (t : List Ev) : normE t = normV t.length t := by
  unfold normE normI
  rw [norm_index t _ _ (remL_no t), remE_no]
def linsE (t : List Ev) : List (List Ev) := (linsI t).map fun l => l.map (nthE t)
theorem linsE_eq (t : List Ev) : linsE t = linsV t.length t := by
  unfold linsE linsI
  rw [lins_index t _ _ (remL_no t), remE_no]
end Go.Proofs.Ytfdicndmebhmdaa
