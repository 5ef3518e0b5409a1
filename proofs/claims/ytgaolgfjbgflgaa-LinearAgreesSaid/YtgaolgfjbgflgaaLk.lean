/-
  Chapter 56, plain: counts up to a limit.
-/
import Derived.Test.YtgaolgfjbgflgaaLa
namespace Go.Proofs.Ytgaolgfjbgflgaa

/-- A number, or one above the limit. -/
def capC (lim : Int) (c : Nat) : Int := if (c : Int) ≤ lim then (c : Int) else lim + 1
theorem capC_le {lim : Int} {c : Nat} (h : (c : Int) ≤ lim) : capC lim c = c := if_pos h
theorem capC_gt {lim : Int} {c : Nat} (h : ¬ (c : Int) ≤ lim) : capC lim c = lim + 1 := if_neg h
theorem capC_over {lim : Int} {c : Nat} : lim < capC lim c ↔ ¬ (c : Int) ≤ lim := by unfold capC; split <;> omega
theorem capC_more {lim : Int} {a b : Nat} (h : ¬ (a : Int) ≤ lim) : capC lim (a + b) = capC lim a := by rw [capC_gt h, capC_gt (by omega)]
theorem capC_add {lim : Int} {a b : Nat} (_ : (a : Int) ≤ lim) (h2 : capC lim b ≤ lim - a) : capC lim (a + b) = (a : Int) + capC lim b := by
  unfold capC at h2 ⊢
  split at h2
  · rw [if_pos (by omega)]
    split <;> omega
  · omega
theorem capC_jump {lim : Int} {a b : Nat} (_ : (a : Int) ≤ lim) (h2 : ¬ capC lim b ≤ lim - a) : capC lim (a + b) = lim + 1 ∧ ¬ ((a + b : Nat) : Int) ≤ lim := by
  unfold capC at h2 ⊢
  split at h2
  · rw [if_neg (by omega)]; exact ⟨rfl, by omega⟩
  · rw [if_neg (by omega)]; exact ⟨rfl, by omega⟩
/-- The continuations by the operations before j. -/
def accC (h : List Opn) (m : Nat) : Nat → Nat
  | 0 => if doneB h m = true then 1 else 0
  | j + 1 => accC h m j + if mayB h m j = true then C h (addM m j) else 0
theorem accC_all (h : List Opn) (m : Nat) : accC h m h.length = C h m := by
  rw [C_eq]
  have : ∀ k, accC h m k = (if doneB h m = true then 1 else 0) + ((List.range k).map fun i => if mayB h m i = true then C h (addM m i) else 0).sum := by
    intro k
    induction k with
    | zero => simp [accC]
    | succ k ih => rw [accC, ih, List.range_succ, List.map_append, List.sum_append]; simp [Nat.add_assoc]
  exact this _
/-- At most this many sequences of k different operations and fewer. -/
def seqN : Nat → Nat
  | 0 => 1
  | k + 1 => 1 + (k + 1) * seqN k
theorem seqN_mono : ∀ {a b : Nat}, a ≤ b → seqN a ≤ seqN b
  | a, 0, h => by have : a = 0 := by omega
                  subst this; exact Nat.le_refl _
  | a, b + 1, h => by
    by_cases he : a = b + 1
    · subst he; exact Nat.le_refl _
    · have h1 := seqN_mono (a := a) (b := b) (by omega)
      have h2 : seqN b ≤ (b + 1) * seqN b := Nat.le_mul_of_pos_left _ (by omega)
      rw [seqN]; omega
theorem cnt_le (h : List Opn) : ∀ (f m : Nat), cnt h f m ≤ seqN (freeK m h.length)
  | 0, m => by simp [cnt]
  | f + 1, m => by
    rw [cnt]
    have key : ∀ k, k ≤ h.length → ∀ B, (∀ i, i < h.length → mayB h m i = true → cnt h f (addM m i) ≤ B) → ((List.range k).map fun i => if mayB h m i = true then cnt h f (addM m i) else 0).sum ≤ freeK m k * B := by
      intro k
      induction k with
      | zero => intro _ B _; simp
      | succ k ih =>
        intro hk B hB
        have h1 := ih (by omega) B hB
        rw [List.range_succ, List.map_append, List.sum_append]
        simp only [List.map_cons, List.map_nil, List.sum_cons, List.sum_nil, Nat.add_zero]
        rw [freeK, Nat.add_mul]
        by_cases hm : mayB h m k = true
        · rw [if_pos hm, if_neg (by rw [may_bit hm]; exact Bool.false_ne_true), Nat.one_mul]
          have := hB k (by omega) hm
          omega
        · rw [if_neg hm]; omega
    cases hf : freeK m h.length with
    | zero =>
      have h2 := key h.length (Nat.le_refl _) 0 (fun i hi hm => by have := freeK_add (may_bit hm) hi; omega)
      rw [seqN]
      split <;> omega
    | succ k =>
      have h2 := key h.length (Nat.le_refl _) (seqN k) (fun i hi hm => by
        have h3 := freeK_add (may_bit hm) hi
        have h4 := cnt_le h f (addM m i)
        rwa [show freeK (addM m i) h.length = k by omega] at h4)
      rw [hf] at h2
      rw [seqN]
      split <;> omega
theorem C_small {h : List Opn} (hn : h.length ≤ 16) (m : Nat) : C h m ≤ 60000000000000 := by
  have h1 := cnt_le h (h.length + 1) m
  have h2 := seqN_mono (Nat.le_trans (freeK_le m h.length) hn)
  have h3 : seqN 16 ≤ 60000000000000 := by decide
  unfold C
  omega
theorem accC_le (h : List Opn) (m : Nat) : ∀ {a b : Nat}, a ≤ b → accC h m a ≤ accC h m b
  | a, 0, hl => by have : a = 0 := by omega
                   subst this; exact Nat.le_refl _
  | a, b + 1, hl => by
    by_cases he : a = b + 1
    · subst he; exact Nat.le_refl _
    · have h1 := accC_le h m (a := a) (b := b) (by omega)
      rw [accC]; omega
/-- What is known of the counts. -/
abbrev Known := Nat → Option Int
def KnownOk (h : List Opn) (lim : Int) (K : Known) : Prop := ∀ s v, K s = some v → v = capC lim (C h s)
structure Kn (h : List Opn) (lim : Int) (K : Known) (E : List Nat) (n : Nat) : Prop where
  ok : KnownOk h lim K
  nd : E.Nodup
  lt : ∀ s ∈ E, s < 2 ^ h.length
  iff : ∀ s, (K s).isSome = true ↔ s ∈ E
  ns : n ≤ E.length
def updK (K : Known) (s : Nat) (a : Int) : Known := fun x => if x = s then some a else K x
theorem Kn.put {h : List Opn} {lim : Int} {K : Known} {E : List Nat} {n m : Nat} (hk : Kn h lim K E n) (hn : K m = none) (hl : m < 2 ^ h.length) {v : Int} (hv : v = capC lim (C h m)) : Kn h lim (updK K m v) (m :: E) (n + 1) where
  ok := fun s x hx => by
    unfold updK at hx
    by_cases e : s = m
    · subst e; rw [if_pos rfl] at hx; injection hx with hx; rw [← hx, hv]
    · rw [if_neg e] at hx; exact hk.ok s x hx
  nd := List.nodup_cons.2 ⟨(fun hx => by have := (hk.iff m).2 hx; rw [hn] at this; cases this), hk.nd⟩
  lt := fun s hs => by
    rcases List.mem_cons.1 hs with rfl | hs
    · exact hl
    · exact hk.lt s hs
  iff := fun s => by
    unfold updK
    by_cases e : s = m
    · subst e; rw [if_pos rfl]; simp
    · rw [if_neg e, hk.iff]; simp [e]
  ns := by have := hk.ns; rw [List.length_cons]; omega
end Go.Proofs.Ytgaolgfjbgflgaa
