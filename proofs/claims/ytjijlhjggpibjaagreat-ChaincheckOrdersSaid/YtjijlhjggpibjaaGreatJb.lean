/-
  Plain: well-formed histories, cuts.
-/
import Derived.Test.YtjijlhjggpibjaaGreatJa
namespace Go.Proofs.YtjijlhjggpibjaaGreat
open Go.RowKit

def cutO (t : Int) (o : Opn) : Opn := if t < endO o then (cliO o, kindO o, begO o, -1, addO o, []) else o
def cutL (h : List Opn) (t : Int) : List Opn := (h.filter fun o => !decide (t < begO o)).map (cutO t)
theorem cutL_len (h : List Opn) (t : Int) : (cutL h t).length ≤ h.length := by
  unfold cutL
  rw [List.length_map]
  exact List.length_filter_le _ _

/-- Well-formed, in one sentence. -/
def Well (h : List Opn) : Prop := (∀ x ∈ h, formB x = true) ∧ h.Pairwise (fun y x => cliO y = cliO x → precB y x = true) ∧ h.Pairwise (fun y x => ∀ s ∈ addO x, s ∉ addO y)
theorem inter_ne (xs ys : List Str) : interL xs ys ≠ [] ↔ ∃ s ∈ xs, s ∈ ys := by
  constructor
  · intro h
    cases hq : interL xs ys with
    | nil => exact absurd hq h
    | cons s t =>
      have h1 : s ∈ interL xs ys := by rw [hq]; simp
      unfold interL at h1
      rw [mem_ofL, List.mem_filter] at h1
      exact ⟨s, h1.1, of_decide_eq_true h1.2⟩
  · rintro ⟨s, h1, h2⟩ h3
    have : s ∈ interL xs ys := by unfold interL; rw [mem_ofL, List.mem_filter]; exact ⟨h1, decide_eq_true h2⟩
    rw [h3] at this; cases this
theorem errAt_zero {h : List Opn} {k : Nat} (hk : k < h.length) : errAt h k = 0 ↔ formB h[k] = true ∧ (∀ y ∈ h.take k, cliO y = cliO h[k] → precB y h[k] = true) ∧ ∀ y ∈ h.take k, ∀ s ∈ addO h[k], s ∉ addO y := by
  rw [errAt_eq (List.getElem?_eq_getElem hk)]
  constructor
  · intro h0
    by_cases h1 : formB h[k] = false
    · rw [if_pos h1] at h0; exact absurd h0 (by decide)
    · rw [if_neg h1] at h0
      by_cases h2 : ∃ y ∈ h.take k, cliO y = cliO h[k] ∧ precB y h[k] = false
      · rw [if_pos h2] at h0; exact absurd h0 (by decide)
      · rw [if_neg h2] at h0
        by_cases h3 : ∃ s ∈ addO h[k], s ∈ addedL h k
        · rw [if_pos h3] at h0; exact absurd h0 (by decide)
        · refine ⟨by simpa using h1, fun y hy hc => ?_, fun y hy s hs hsy => h3 ⟨s, hs, ?_⟩⟩
          · cases hp : precB y h[k] with
            | true => rfl
            | false => exact absurd ⟨y, hy, hc, hp⟩ h2
          · unfold addedL; exact List.mem_flatMap.2 ⟨y, hy, hsy⟩
  · rintro ⟨h1, h2, h3⟩
    rw [if_neg (by rw [h1]; simp), if_neg, if_neg]
    · rintro ⟨s, hs, h4⟩
      unfold addedL at h4
      obtain ⟨y, hy, hsy⟩ := List.mem_flatMap.1 h4
      exact h3 y hy s hs hsy
    · rintro ⟨y, hy, hc, hp⟩
      rw [h2 y hy hc] at hp; cases hp
theorem pairwise_take {α : Type} {R : α → α → Prop} {l : List α} : l.Pairwise R ↔ ∀ k (hk : k < l.length), ∀ y ∈ l.take k, R y l[k] := by
  rw [List.pairwise_iff_getElem]
  constructor
  · intro h k hk y hy
    obtain ⟨j, hj, rfl⟩ := List.mem_take_iff_getElem.1 hy
    exact h j k (by omega) hk (by omega)
  · intro h i j hi hj hij
    exact h j hj _ (List.mem_take_iff_getElem.2 ⟨i, by omega, rfl⟩)
theorem chk_zero {h : List Opn} (h0 : (chkL h).2 = 0) : ∀ j, j < h.length → errAt h j = 0 := by
  have aux : ∀ n, n ≤ h.length → ∀ j, j < n → errAt h j = 0 := by
    intro n
    induction n with
    | zero => intro _ j hj; omega
    | succ n ih =>
      intro hn j hj
      have ih' := ih (by omega)
      rcases Nat.lt_or_ge j n with h1 | h1
      · exact ih' j h1
      · have : j = n := by omega
        subst this
        cases Classical.em (errAt h j = 0) with
        | inl h2 => exact h2
        | inr h2 => rw [chk_at (by omega) ih' h2] at h0; exact h0
  exact aux _ (Nat.le_refl _)
theorem chk_well {h : List Opn} : (chkL h).2 = 0 ↔ Well h := by
  constructor
  · intro h0
    have h1 := chk_zero h0
    refine ⟨fun x hx => ?_, pairwise_take.2 fun k hk y hy hc => ((errAt_zero hk).1 (h1 k hk)).2.1 y hy hc, pairwise_take.2 fun k hk y hy => ((errAt_zero hk).1 (h1 k hk)).2.2 y hy⟩
    obtain ⟨k, hk, rfl⟩ := List.getElem_of_mem hx
    exact ((errAt_zero hk).1 (h1 k hk)).1
  · rintro ⟨h1, h2, h3⟩
    rw [chk_ok fun j hj => (errAt_zero hj).2 ⟨h1 _ (List.getElem_mem hj), pairwise_take.1 h2 j hj, pairwise_take.1 h3 j hj⟩]
theorem chk_pair {h : List Opn} (h0 : (chkL h).2 = 0) : chkL h = (0, 0) := chk_ok (chk_zero h0)
theorem cutO_beg (t : Int) (o : Opn) : begO (cutO t o) = begO o := by unfold cutO; split <;> rfl
theorem cutO_cli (t : Int) (o : Opn) : cliO (cutO t o) = cliO o := by unfold cutO; split <;> rfl
theorem cutO_add (t : Int) (o : Opn) : addO (cutO t o) = addO o := by unfold cutO; split <;> rfl
theorem form_of {o : Opn} (h : formB o = true) : 0 ≤ cliO o ∧ 0 ≤ begO o ∧ (endO o = -1 ∨ begO o < endO o) ∧ incB (addO o) = true ∧ incB (seeO o) = true ∧
  ((kindO o = 1 ∧ addO o ≠ [] ∧ seeO o = []) ∨ (kindO o = 2 ∧ addO o = [] ∧ (¬ endO o = -1 ∨ seeO o = []))) := of_decide_eq_true h
theorem prec_of {x y : Opn} (h : precB x y = true) : ¬ endO x = -1 ∧ endO x < begO y := of_decide_eq_true h
theorem well_cut {h : List Opn} (hw : Well h) (t : Int) : Well (cutL h t) := by
  unfold cutL
  refine ⟨fun x hx => ?_, ?_, ?_⟩
  · obtain ⟨o, ho, rfl⟩ := List.mem_map.1 hx
    have hf := hw.1 o (List.mem_filter.1 ho).1
    unfold cutO
    split
    · have h1 := form_of hf
      refine decide_eq_true ⟨h1.1, h1.2.1, .inl rfl, h1.2.2.2.1, by simp [incB, seeO], ?_⟩
      rcases h1.2.2.2.2.2 with h2 | h2
      · exact .inl ⟨h2.1, h2.2.1, rfl⟩
      · exact .inr ⟨h2.1, h2.2.1, .inr rfl⟩
    · exact hf
  · rw [List.pairwise_map]
    refine List.Pairwise.imp_of_mem ?_ (hw.2.1.filter _)
    intro a b ha hb hab hc
    rw [cutO_cli, cutO_cli] at hc
    have h1 := prec_of (hab hc)
    have h2 : ¬ t < begO b := by simpa using (List.mem_filter.1 hb).2
    refine decide_eq_true ?_
    rw [cutO_beg]
    unfold cutO
    rw [if_neg (by omega)]
    exact h1
  · rw [List.pairwise_map]
    refine (hw.2.2.filter _).imp ?_
    intro a b hab s hs
    rw [cutO_add] at hs ⊢
    exact hab s hs
theorem cut_cut (h : List Opn) (s t : Int) : cutL (cutL h s) t = cutL h (min s t) := by
  unfold cutL
  rw [List.filter_map, List.map_map, List.filter_filter]
  have e1 : h.filter (fun a => ((fun o => !decide (t < begO o)) ∘ cutO s) a && !decide (s < begO a)) = h.filter fun o => !decide (min s t < begO o) := by
    refine List.filter_congr fun o _ => ?_
    simp only [Function.comp_apply, cutO_beg]
    rw [Bool.eq_iff_iff]
    simp only [Bool.and_eq_true, Bool.not_eq_true', decide_eq_false_iff_not]
    omega
  rw [e1]
  refine List.map_congr_left fun o ho => ?_
  simp only [Function.comp_apply]
  unfold cutO
  by_cases h1 : s < endO o
  · rw [if_pos h1, if_pos (show min s t < endO o by omega)]
    by_cases h2 : t < endO (cliO o, kindO o, begO o, -1, addO o, [])
    · rw [if_pos h2]; rfl
    · rw [if_neg h2]
  · rw [if_neg h1]
    by_cases h2 : t < endO o
    · rw [if_pos h2, if_pos (by omega)]
    · rw [if_neg h2, if_neg (by omega)]
end Go.Proofs.YtjijlhjggpibjaaGreat
