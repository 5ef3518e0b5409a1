/-
  Chapter 56, plain: the least time without a linearization, of the program and of the reference; before it there is one, from it on there is none.
-/
import Derived.Test.YtgaolgfjbgflgaaEr
import Derived.Test.YtgaolgfjbgflgaaSm
namespace Go.Proofs.Ytgaolgfjbgflgaa

theorem max_below (t : Int) : ∀ l : List Int, (∀ x ∈ l, t < x) ∨ ∃ m ∈ l, m ≤ t ∧ ∀ x ∈ l, x ≤ t → x ≤ m
  | [] => .inl fun x hx => by cases hx
  | a :: l => by
    rcases max_below t l with h1 | ⟨m, hm, hmt, hmax⟩
    · by_cases ha : a ≤ t
      · refine .inr ⟨a, by simp, ha, fun x hx hxt => ?_⟩
        rcases List.mem_cons.1 hx with rfl | hx
        · exact Int.le_refl _
        · have := h1 x hx; omega
      · refine .inl fun x hx => ?_
        rcases List.mem_cons.1 hx with rfl | hx
        · omega
        · exact h1 x hx
    · by_cases ha : a ≤ t ∧ m < a
      · refine .inr ⟨a, by simp, ha.1, fun x hx hxt => ?_⟩
        rcases List.mem_cons.1 hx with rfl | hx
        · exact Int.le_refl _
        · have := hmax x hx hxt; omega
      · refine .inr ⟨m, by simp [hm], hmt, fun x hx hxt => ?_⟩
        rcases List.mem_cons.1 hx with rfl | hx
        · omega
        · exact hmax x hx hxt
theorem all_below (t : Int) : ∀ l : List Int, ∃ M, t ≤ M ∧ ∀ x ∈ l, x ≤ M
  | [] => ⟨t, Int.le_refl _, fun x hx => by cases hx⟩
  | a :: l => by
    obtain ⟨M, h1, h2⟩ := all_below t l
    refine ⟨max M a, by omega, fun x hx => ?_⟩
    rcases List.mem_cons.1 hx with rfl | hx
    · omega
    · have := h2 x hx; omega
theorem mem_times {h : List Opn} {t : Int} : t ∈ timesL h ↔ ∃ o ∈ h, t = begO o ∨ t = max (begO o) (endO o) := by
  unfold timesL timesO
  rw [List.mem_flatMap]
  simp
theorem mem_timesS {h : List Opn} {t : Int} : t ∈ timesS h ↔ t ∈ timesL h := by unfold timesS; rw [compactI_mem, sortI_mem]
theorem timesS_inc (h : List Opn) : (timesS h).Pairwise (· < ·) := compactI_sorted _ (sortI_le _)
theorem cut_floor (h : List Opn) (t : Int) : cutL h t = [] ∨ ∃ s ∈ timesL h, s ≤ t ∧ cutL h t = cutL h s := by
  rcases max_below t (timesL h) with h1 | ⟨m, hm, hmt, hmax⟩
  · left
    unfold cutL
    rw [List.filter_eq_nil_iff.2, List.map_nil]
    intro o ho
    have := h1 (begO o) (mem_times.2 ⟨o, ho, .inl rfl⟩)
    simpa using this
  · refine .inr ⟨m, hm, hmt, ?_⟩
    unfold cutL
    have e1 : h.filter (fun o => !decide (t < begO o)) = h.filter fun o => !decide (m < begO o) := by
      refine List.filter_congr fun o ho => ?_
      have h2 := hmax (begO o) (mem_times.2 ⟨o, ho, .inl rfl⟩)
      congr 1
      rw [decide_eq_decide]
      omega
    rw [e1]
    apply List.map_congr_left
    intro o ho
    have h3 := List.mem_filter.1 ho
    have h4 : begO o ≤ m := by have := h3.2; simp at this; omega
    have h2 := hmax _ (mem_times.2 ⟨o, h3.1, .inr rfl⟩)
    unfold cutO
    by_cases e : t < endO o
    · rw [if_pos e, if_pos (by omega)]
    · rw [if_neg e, if_neg (by omega)]
theorem cut_whole {h : List Opn} {t : Int} (ht : ∀ x ∈ timesL h, x ≤ t) : cutL h t = h := by
  unfold cutL
  rw [List.filter_eq_self.2 fun o ho => by
    have := ht _ (mem_times.2 ⟨o, ho, .inl rfl⟩)
    simp; omega]
  conv => rhs; rw [← List.map_id h]
  apply List.map_congr_left
  intro o ho
  have := ht _ (mem_times.2 ⟨o, ho, .inr rfl⟩)
  unfold cutO
  rw [if_neg (by omega)]; rfl
theorem G_empty : G [] 0 = true := G_iff.2 (.inl rfl)
theorem bad_iff {h : List Opn} {t : Int} : badAt h t = true ↔ G (cutL h t) 0 = false := by unfold badAt; rw [Bool.not_eq_true']
/-- From a time without a linearization on there is none. -/
theorem bad_mono {h : List Opn} (hw : Well h) {s t : Int} (hst : s ≤ t) (hb : badAt h s = true) : badAt h t = true := by
  rw [bad_iff] at hb ⊢
  refine Bool.eq_false_iff.2 fun hg => ?_
  rw [cut_good] at hg hb
  rw [cutM_less hw hst hg] at hb
  cases hb
/-- A time without a linearization: one of the listed times before it is one, too. -/
theorem bad_listed {h : List Opn} {t : Int} (hb : badAt h t = true) : ∃ s ∈ timesS h, s ≤ t ∧ badAt h s = true := by
  rcases cut_floor h t with h1 | ⟨s, hs, hst, he⟩
  · rw [bad_iff, h1, G_empty] at hb; cases hb
  · exact ⟨s, mem_timesS.2 hs, hst, by rw [bad_iff] at hb ⊢; rw [← he]; exact hb⟩
/-- The first listed time without a linearization. -/
theorem ear_cases (h : List Opn) : (earL h = (0, false) ∧ ∀ t, badAt h t = false) ∨ ∃ t ∈ timesS h, earL h = (t, true) ∧ badAt h t = true ∧ ∀ s, s < t → badAt h s = false := by
  cases hf : (timesS h).find? (badAt h) with
  | none =>
    left
    refine ⟨by unfold earL; rw [hf], fun t => Bool.eq_false_iff.2 fun hb => ?_⟩
    obtain ⟨s, hs, _, hb2⟩ := bad_listed hb
    exact List.find?_eq_none.1 hf s hs hb2
  | some t =>
    right
    obtain ⟨hp, xs, bs, he, has⟩ := List.find?_eq_some_iff_append.1 hf
    refine ⟨t, by rw [he]; simp, by unfold earL; rw [hf], hp, fun s hst => Bool.eq_false_iff.2 fun hb => ?_⟩
    obtain ⟨x, hx, hxs, hb2⟩ := bad_listed hb
    have hso := timesS_inc h
    rw [he] at hx hso
    rcases List.mem_append.1 hx with h1 | h1
    · have := has x h1
      rw [hb2] at this; cases this
    · rcases List.mem_cons.1 h1 with rfl | h1
      · omega
      · have h2 := (List.pairwise_append.1 hso).2.1
        have := (List.pairwise_cons.1 h2).1 x h1
        omega
theorem all_good {h : List Opn} (hw : Well h) (hg : G h 0 = true) (t : Int) : badAt h t = false := by
  refine Bool.eq_false_iff.2 fun hb => ?_
  obtain ⟨M, h1, h2⟩ := all_below t (timesL h)
  have h3 := bad_mono hw h1 hb
  rw [bad_iff, cut_whole h2, hg] at h3
  cases h3
theorem some_bad {h : List Opn} (hg : G h 0 = false) : ∃ t, badAt h t = true := by
  obtain ⟨M, _, h2⟩ := all_below 0 (timesL h)
  exact ⟨M, by rw [bad_iff, cut_whole h2]; exact hg⟩

/-! The reference. -/
def stepB (h : List Opn) (best : Int) (o : Opn) : Int := if ¬ endO o = -1 ∧ (best < 0 ∨ endO o < best) ∧ allL (cutL h (endO o)) = [] then endO o else best
def bestK (h : List Opn) (k : Nat) : Int := (h.take k).foldl (stepB h) (-1)
theorem bestK_snoc {h : List Opn} {k : Nat} (hk : k < h.length) : bestK h (k + 1) = stepB h (bestK h k) h[k] := by
  unfold bestK
  rw [List.take_succ_eq_append_getElem hk, List.foldl_append]; rfl
def rearL (h : List Opn) : Int × Bool := if allL h = [] then (bestK h h.length, true) else (0, false)
theorem none_bad {h : List Opn} (hw : Well h) (t : Int) : allL (cutL h t) = [] ↔ badAt h t = true := by rw [all_none (well_cut hw t), bad_iff]
theorem best_inv {h : List Opn} (hw : Well h) : ∀ k, k ≤ h.length → (bestK h k = -1 ∧ ∀ o ∈ h.take k, ¬ endO o = -1 → badAt h (endO o) = false) ∨
    (0 ≤ bestK h k ∧ badAt h (bestK h k) = true ∧ ∀ o ∈ h.take k, ¬ endO o = -1 → badAt h (endO o) = true → bestK h k ≤ endO o)
  | 0, _ => .inl ⟨rfl, fun o ho => by simp at ho⟩
  | k + 1, hk => by
    have hf := form_of (hw.1 _ (List.getElem_mem (show k < h.length by omega)))
    rw [bestK_snoc (by omega), List.take_succ_eq_append_getElem (by omega)]
    generalize h[k] = x at *
    unfold stepB
    have hx : ¬ endO x = -1 → 0 ≤ endO x := fun h1 => by omega
    rcases best_inv hw k (by omega) with ⟨h1, h2⟩ | ⟨h1, h2, h3⟩
    · by_cases hc : ¬ endO x = -1 ∧ badAt h (endO x) = true
      · rw [if_pos ⟨hc.1, by omega, (none_bad hw _).2 hc.2⟩]
        refine .inr ⟨hx hc.1, hc.2, fun o ho he hb => ?_⟩
        rcases List.mem_append.1 ho with h4 | h4
        · rw [h2 o h4 he] at hb; cases hb
        · rw [List.mem_singleton.1 h4]; exact Int.le_refl _
      · rw [if_neg fun h4 => hc ⟨h4.1, (none_bad hw _).1 h4.2.2⟩]
        refine .inl ⟨h1, fun o ho he => ?_⟩
        rcases List.mem_append.1 ho with h4 | h4
        · exact h2 o h4 he
        · rw [List.mem_singleton.1 h4] at he ⊢
          exact Bool.eq_false_iff.2 fun h5 => hc ⟨he, h5⟩
    · by_cases hc : ¬ endO x = -1 ∧ endO x < bestK h k ∧ badAt h (endO x) = true
      · rw [if_pos ⟨hc.1, .inr hc.2.1, (none_bad hw _).2 hc.2.2⟩]
        refine .inr ⟨hx hc.1, hc.2.2, fun o ho he hb => ?_⟩
        rcases List.mem_append.1 ho with h4 | h4
        · have := h3 o h4 he hb; omega
        · rw [List.mem_singleton.1 h4]; exact Int.le_refl _
      · rw [if_neg fun h4 => hc ⟨h4.1, by omega, (none_bad hw _).1 h4.2.2⟩]
        refine .inr ⟨h1, h2, fun o ho he hb => ?_⟩
        rcases List.mem_append.1 ho with h4 | h4
        · exact h3 o h4 he hb
        · rw [List.mem_singleton.1 h4] at he hb ⊢
          exact Int.not_lt.1 fun h5 => hc ⟨he, h5, hb⟩
/-- The program and the reference agree. -/
theorem ear_ref {h : List Opn} (hw : Well h) : earL h = rearL h := by
  unfold rearL
  by_cases hg : G h 0 = true
  · have h1 : ¬ allL h = [] := fun h2 => by rw [(all_none hw).1 h2] at hg; cases hg
    rw [if_neg h1]
    rcases ear_cases h with h2 | ⟨t, _, _, hb, _⟩
    · exact h2.1
    · rw [all_good hw hg] at hb; cases hb
  · rw [if_pos ((all_none hw).2 (Bool.eq_false_iff.2 hg))]
    obtain ⟨t1, hb1⟩ := some_bad (Bool.eq_false_iff.2 hg)
    rcases ear_cases h with h2 | ⟨t, ht, he, hb, hlt⟩
    · rw [h2.2] at hb1; cases hb1
    · rw [he]
      -- the first time is that of a response
      have hresp : ∃ o ∈ h, endO o = t := by
        refine Classical.byContradiction fun hn => ?_
        have h3 := hlt (t - 1) (by omega)
        rw [← Bool.not_eq_true, bad_iff, Bool.not_eq_false, cut_good] at h3
        have h4 := cutM_step hw (t := t) (fun i hi e => hn ⟨_, nth_mem hi, e⟩) h3
        rw [bad_iff, cut_good, h4] at hb
        cases hb
      obtain ⟨o, ho, hoe⟩ := hresp
      have hf := form_of (hw.1 o ho)
      have ht0 : 0 ≤ t := by
        obtain ⟨x, hx, h5⟩ := mem_times.1 (mem_timesS.1 ht)
        have := form_of (hw.1 x hx)
        rcases h5 with h5 | h5 <;> omega
      have h6 := best_inv hw h.length (Nat.le_refl _)
      rw [List.take_length] at h6
      rcases h6 with ⟨_, h7⟩ | ⟨h7, h8, h9⟩
      · have := h7 o ho (by omega)
        rw [hoe, hb] at this; cases this
      · have h10 := h9 o ho (by omega) (by rw [hoe]; exact hb)
        rw [hoe] at h10
        by_cases e : bestK h h.length = t
        · rw [e]
        · have := hlt _ (show bestK h h.length < t by omega)
          rw [h8] at this; cases this
/-- Up to which times there is a linearization. -/
theorem ear_mono {h : List Opn} (hw : Well h) {t : Int} {b : Bool} (he : earL h = (t, b)) (s : Int) : G (cutL h s) 0 = true ↔ (b = false ∨ s < t) := by
  have hb : G (cutL h s) 0 = true ↔ badAt h s = false := by unfold badAt; rw [Bool.not_eq_false']
  rw [hb]
  rcases ear_cases h with ⟨h1, h2⟩ | ⟨t0, _, h1, h2, h3⟩
  · rw [h1] at he
    injection he with e1 e2
    exact ⟨fun _ => .inl e2.symm, fun _ => h2 s⟩
  · rw [h1] at he
    injection he with e1 e2
    subst e1 e2
    constructor
    · intro h4
      refine .inr (Int.not_le.1 fun h5 => ?_)
      rw [bad_mono hw h5 h2] at h4; cases h4
    · rintro (h4 | h4)
      · cases h4
      · exact h3 s h4
end Go.Proofs.Ytgaolgfjbgflgaa
