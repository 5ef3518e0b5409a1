/-
  Chapter 56, plain: if a history that is cut at a time has a linearization, so has one that is cut earlier; only a response can take it away.
-/
import Derived.Test.YtgaolgfjbgflgaaLc
namespace Go.Proofs.Ytgaolgfjbgflgaa

def deadO (o : Opn) : Opn := (cliO o, 2, begO o, -1, [], [])
def cutMO (t : Int) (o : Opn) : Opn := if t < begO o then deadO o else cutO t o
/-- The cut history, with a pending read in the place of each operation that begins later. -/
def cutM (h : List Opn) (t : Int) : List Opn := h.map (cutMO t)
theorem cutM_len (h : List Opn) (t : Int) : (cutM h t).length = h.length := by unfold cutM; rw [List.length_map]
theorem nth_cutM {h : List Opn} {i : Nat} (hi : i < h.length) (t : Int) : nth (cutM h t) i = cutMO t (nth h i) := by
  rw [nth_eq (by rw [cutM_len]; exact hi), nth_eq hi]; unfold cutM; rw [List.getElem_map]
theorem cutMO_beg (t : Int) (o : Opn) : begO (cutMO t o) = begO o := by
  unfold cutMO; split
  · rfl
  · exact cutO_beg t o
theorem cutMO_in {t : Int} {o : Opn} (h : begO o ≤ t) : cutMO t o = cutO t o := by unfold cutMO; rw [if_neg (by omega)]
theorem cutO_kind (t : Int) (o : Opn) : kindO (cutO t o) = kindO o := by unfold cutO; split <;> rfl
theorem cutMO_end {o : Opn} (hf : formB o = true) {t : Int} (he : 0 ≤ endO (cutMO t o)) : 0 ≤ endO o ∧ endO o ≤ t := by
  have h1 := form_of hf
  unfold cutMO at he
  split at he
  · exact absurd (show (0 : Int) ≤ -1 from he) (by decide)
  · unfold cutO at he
    split at he
    · exact absurd (show (0 : Int) ≤ -1 from he) (by decide)
    · omega
theorem cutMO_keep {o : Opn} (hf : formB o = true) {t : Int} (h0 : 0 ≤ endO o) (ht : endO o ≤ t) : cutMO t o = o := by
  have h1 := form_of hf
  unfold cutMO
  rw [if_neg (by omega)]
  unfold cutO
  rw [if_neg (by omega)]
theorem cutMO_form {o : Opn} (hf : formB o = true) (t : Int) : formB (cutMO t o) = true := by
  have h1 := form_of hf
  unfold cutMO
  split
  · exact decide_eq_true ⟨h1.1, h1.2.1, .inl rfl, by simp [incB, deadO, addO], by simp [incB, deadO, seeO], .inr ⟨rfl, rfl, .inr rfl⟩⟩
  · unfold cutO
    split
    · refine decide_eq_true ⟨h1.1, h1.2.1, .inl rfl, h1.2.2.2.1, by simp [incB, seeO], ?_⟩
      rcases h1.2.2.2.2.2 with h2 | h2
      · exact .inl ⟨h2.1, h2.2.1, rfl⟩
      · exact .inr ⟨h2.1, h2.2.1, .inr rfl⟩
    · exact hf
theorem cutM_form {h : List Opn} (hw : Well h) (t : Int) : ∀ x ∈ cutM h t, formB x = true := by
  intro x hx
  obtain ⟨o, ho, rfl⟩ := List.mem_map.1 hx
  exact cutMO_form (hw.1 o ho) t
theorem prI_cutM {h : List Opn} (hw : Well h) {i k : Nat} (hi : i < h.length) (hk : k < h.length) {t : Int} : prI (cutM h t) i k = true ↔ prI h i k = true ∧ endO (nth h i) ≤ t := by
  have h1 := form_of (hw.1 _ (nth_mem hi))
  have h2 := form_of (cutMO_form (hw.1 _ (nth_mem hi)) t)
  have h3 : 0 ≤ begO (cutMO t (nth h i)) := h2.2.1
  unfold prI precB
  rw [nth_cutM hi, nth_cutM hk, cutMO_beg, decide_eq_true_iff, decide_eq_true_iff]
  constructor
  · rintro ⟨a, b⟩
    have h4 := cutMO_end (hw.1 _ (nth_mem hi)) (t := t) (by omega)
    have h5 := cutMO_keep (hw.1 _ (nth_mem hi)) h4.1 h4.2
    rw [h5] at b
    exact ⟨⟨by omega, b⟩, h4.2⟩
  · rintro ⟨⟨a, b⟩, c⟩
    rw [cutMO_keep (hw.1 _ (nth_mem hi)) (by omega) c]
    exact ⟨a, b⟩
theorem fm_filter {α β : Type} (p : α → Bool) (g : α → List β) : ∀ l : List α, (l.filter p).flatMap g = l.flatMap fun x => if p x = true then g x else []
  | [] => rfl
  | a :: l => by
    rw [List.filter_cons, List.flatMap_cons, ← fm_filter p g l]
    cases hp : p a
    · simp
    · simp
theorem fm_congr {α β : Type} {f g : α → List β} : ∀ {l : List α}, (∀ x ∈ l, f x = g x) → l.flatMap f = l.flatMap g
  | [], _ => rfl
  | a :: l, h => by rw [List.flatMap_cons, List.flatMap_cons, h a (by simp), fm_congr fun x hx => h x (by simp [hx])]
theorem sees_of (h : List Opn) (m : Nat) : seesL h m = (List.range h.length).flatMap fun i => if m.testBit i = true then addO (nth h i) else [] := fm_filter _ _ _

/-- How a set of the later cut stands to one of the earlier cut. -/
def CutR (h : List Opn) (s : Int) (m m' : Nat) : Prop := ∀ i, i < h.length → (m.testBit i = true → begO (nth h i) ≤ s) ∧ m'.testBit i = (m.testBit i && (decide (kindO (nth h i) = 1) || decide (0 ≤ endO (nth h i) ∧ endO (nth h i) ≤ s)))
theorem CutR.sees {h : List Opn} (hw : Well h) {s t : Int} (hst : s ≤ t) {m m' : Nat} (hr : CutR h s m m') : seesL (cutM h s) m' = seesL (cutM h t) m := by
  rw [sees_of, sees_of, cutM_len, cutM_len]
  refine fm_congr fun i hi => ?_
  rw [List.mem_range] at hi
  rw [nth_cutM hi, nth_cutM hi]
  obtain ⟨r1, r2⟩ := hr i hi
  cases hb : m.testBit i with
  | false => rw [hb] at r2; rw [r2]; rfl
  | true =>
    have hbs := r1 hb
    have hf := form_of (hw.1 _ (nth_mem hi))
    rw [hb, Bool.true_and] at r2
    rw [cutMO_in hbs, cutMO_in (by omega), cutO_add, cutO_add]
    rcases hf.2.2.2.2.2 with h2 | h2
    · rw [r2, decide_eq_true h2.1]; rfl
    · rw [h2.2.1]; split <;> rfl
theorem CutR.add {h : List Opn} {s : Int} {m m' i : Nat} (hr : CutR h s m m') (hi : begO (nth h i) ≤ s) (hk : kindO (nth h i) = 1 ∨ 0 ≤ endO (nth h i) ∧ endO (nth h i) ≤ s) : CutR h s (addM m i) (addM m' i) := by
  intro j hj
  obtain ⟨r1, r2⟩ := hr j hj
  rw [addM_bit, addM_bit]
  by_cases e : i = j
  · subst e
    refine ⟨fun _ => hi, ?_⟩
    rw [decide_eq_true rfl, Bool.or_true, Bool.or_true, Bool.true_and]
    rcases hk with h1 | h1
    · rw [decide_eq_true h1]; rfl
    · rw [decide_eq_true h1, Bool.or_true]
  · rw [decide_eq_false e, Bool.or_false, Bool.or_false]
    exact ⟨r1, r2⟩
theorem CutR.skip {h : List Opn} {s : Int} {m m' i : Nat} (hr : CutR h s m m') (hi : begO (nth h i) ≤ s) (hb : m.testBit i = false) (hk : ¬ (kindO (nth h i) = 1 ∨ 0 ≤ endO (nth h i) ∧ endO (nth h i) ≤ s)) : CutR h s (addM m i) m' := by
  intro j hj
  obtain ⟨r1, r2⟩ := hr j hj
  rw [addM_bit]
  by_cases e : i = j
  · subst e
    refine ⟨fun _ => hi, ?_⟩
    rw [r2, hb, decide_eq_false (fun h1 => hk (.inl h1)), decide_eq_false (fun h1 => hk (.inr h1)), Bool.or_false, Bool.and_false, Bool.and_false]
  · rw [decide_eq_false e, Bool.or_false]
    exact ⟨r1, r2⟩
theorem may_iff {h : List Opn} {m i : Nat} : mayB h m i = true ↔ m.testBit i = false ∧ freeB h m i = true ∧ (kindO (nth h i) = 1 ∨ 0 ≤ endO (nth h i) ∧ seesB h m (nth h i) = true) := by
  unfold mayB
  rw [Bool.and_eq_true, Bool.and_eq_true, Bool.not_eq_true', Bool.or_eq_true, decide_eq_true_iff, Bool.and_eq_true, decide_eq_true_iff, and_assoc]
theorem G_open {h : List Opn} (hw : ∀ x ∈ h, formB x = true) {m i y : Nat} (hi : i < h.length) (hy : y < h.length) (h1 : m.testBit i = true) (h2 : m.testBit y = false) (hp : prI h y i = true) : G h m = false := by
  unfold G C
  rw [cnt_open hw _ _ _ _ hi hy h1 h2 hp]; rfl
/-- What is left of a linearization at an earlier time. -/
theorem G_cut {h : List Opn} (hw : Well h) {s t : Int} (hst : s ≤ t) : ∀ (f m m' : Nat), freeK m h.length < f → CutR h s m m' → G (cutM h t) m = true → G (cutM h s) m' = true
  | 0, _, _, hf, _, _ => by omega
  | f + 1, m, m', hf, hr, hg => by
    by_cases hd : doneB (cutM h s) m' = true
    · exact G_iff.2 (.inl hd)
    · have hj : ∃ j, j < h.length ∧ 0 ≤ endO (nth h j) ∧ endO (nth h j) ≤ s ∧ m.testBit j = false := Classical.byContradiction fun hc => hd (done_iff.2 fun j hj he => by
        rw [cutM_len] at hj
        rw [nth_cutM hj] at he
        have h1 := cutMO_end (hw.1 _ (nth_mem hj)) he
        rw [(hr j hj).2]
        cases hb : m.testBit j with
        | true => rw [Bool.true_and, decide_eq_true h1, Bool.or_true]
        | false => exact absurd ⟨j, hj, h1.1, h1.2, hb⟩ hc)
      obtain ⟨j, hj, he0, hes, hbj⟩ := hj
      have hfj := hw.1 _ (nth_mem hj)
      rcases G_iff.1 hg with h1 | ⟨i, hi, hm, hgi⟩
      · have h2 := done_iff.1 h1 j (by rw [cutM_len]; exact hj) (by rw [nth_cutM hj, cutMO_keep hfj he0 (by omega)]; exact he0)
        rw [hbj] at h2; cases h2
      · rw [cutM_len] at hi
        have hfi := hw.1 _ (nth_mem hi)
        obtain ⟨m1, m2, m3⟩ := may_iff.1 hm
        have hib : begO (nth h i) ≤ s := by
          by_cases e : i = j
          · subst e
            have := form_of hfi
            omega
          · refine Classical.byContradiction fun hc => ?_
            have h0 := G_open (cutM_form hw t) (m := addM m i) (i := i) (y := j) (by rw [cutM_len]; exact hi) (by rw [cutM_len]; exact hj) (by rw [addM_bit]; simp) (by rw [addM_bit, hbj, decide_eq_false e]; rfl)
              ((prI_cutM hw hj hi).2 ⟨decide_eq_true ⟨by omega, by omega⟩, by omega⟩)
            rw [h0] at hgi; cases hgi
        have hfk : freeK (addM m i) h.length < f := by
          have := freeK_add m1 hi
          omega
        by_cases hk : kindO (nth h i) = 1 ∨ 0 ≤ endO (nth h i) ∧ endO (nth h i) ≤ s
        · have ih := G_cut hw hst f _ _ hfk (hr.add hib hk) hgi
          refine G_iff.2 (.inr ⟨i, by rw [cutM_len]; exact hi, may_iff.2 ⟨?_, free_iff.2 fun k hkl hp => ?_, ?_⟩, ih⟩)
          · rw [(hr i hi).2, m1]; rfl
          · rw [cutM_len] at hkl
            have h1 := (prI_cutM hw hi hkl).1 hp
            have h2 := free_iff.1 m2 k (by rw [cutM_len]; exact hkl) ((prI_cutM hw hi hkl).2 ⟨h1.1, by omega⟩)
            rw [(hr k hkl).2, h2]; rfl
          · rw [nth_cutM hi] at m3 ⊢
            rw [cutMO_in (show begO (nth h i) ≤ t by omega), cutO_kind] at m3
            by_cases hk1 : kindO (nth h i) = 1
            · left; rw [cutMO_in hib, cutO_kind]; exact hk1
            · right
              have h1 : 0 ≤ endO (nth h i) ∧ endO (nth h i) ≤ s := hk.resolve_left hk1
              have h2 := m3.resolve_left hk1
              rw [← cutMO_in (show begO (nth h i) ≤ t by omega), cutMO_keep hfi h1.1 (by omega)] at h2
              rw [cutMO_keep hfi h1.1 h1.2]
              refine ⟨h1.1, ?_⟩
              unfold seesB at h2 ⊢
              rw [hr.sees hw hst]
              exact h2.2
        · exact G_cut hw hst f _ _ hfk (hr.skip hib m1 hk) hgi
theorem CutR.start (h : List Opn) (s : Int) : CutR h s 0 0 := fun i _ => ⟨fun hb => (by rw [Nat.zero_testBit] at hb; cases hb), by rw [Nat.zero_testBit, Bool.false_and]⟩
theorem cutM_less {h : List Opn} (hw : Well h) {s t : Int} (hst : s ≤ t) (hg : G (cutM h t) 0 = true) : G (cutM h s) 0 = true :=
  G_cut hw hst (freeK 0 h.length + 1) 0 0 (Nat.lt_succ_self _) (CutR.start h s) hg

/-- Without a response at a time nothing is lost there. -/
theorem G_step {h : List Opn} (hw : Well h) {t : Int} (hn : ∀ i, i < h.length → ¬ endO (nth h i) = t) : ∀ (f m : Nat), freeK m h.length < f → (∀ i, i < h.length → m.testBit i = true → begO (nth h i) ≤ t - 1) → G (cutM h (t - 1)) m = true → G (cutM h t) m = true
  | 0, _, hf, _, _ => by omega
  | f + 1, m, hf, hr, hg => by
    have same : ∀ i, i < h.length → begO (nth h i) ≤ t - 1 → cutMO (t - 1) (nth h i) = cutMO t (nth h i) := fun i hi hb => by
      rw [cutMO_in hb, cutMO_in (by omega)]
      have := hn i hi
      unfold cutO
      by_cases e : t < endO (nth h i)
      · rw [if_pos (by omega), if_pos e]
      · rw [if_neg (by omega), if_neg e]
    rcases G_iff.1 hg with h1 | ⟨i, hi, hm, hgi⟩
    · refine G_iff.2 (.inl (done_iff.2 fun j hj he => ?_))
      rw [cutM_len] at hj
      rw [nth_cutM hj] at he
      have hfj := hw.1 _ (nth_mem hj)
      have h2 := cutMO_end hfj he
      have h3 := hn j hj
      exact done_iff.1 h1 j (by rw [cutM_len]; exact hj) (by rw [nth_cutM hj, cutMO_keep hfj h2.1 (by omega)]; exact h2.1)
    · rw [cutM_len] at hi
      have hfi := hw.1 _ (nth_mem hi)
      obtain ⟨m1, m2, m3⟩ := may_iff.1 hm
      have hib : begO (nth h i) ≤ t - 1 := Classical.byContradiction fun hc => by
        rw [nth_cutM hi] at m3
        unfold cutMO at m3
        rw [if_pos (by omega)] at m3
        rcases m3 with h4 | h4
        · exact absurd h4 (by show ¬ (2 : Int) = 1; decide)
        · exact absurd h4.1 (by show ¬ (0 : Int) ≤ -1; decide)
      have hfk : freeK (addM m i) h.length < f := by
        have := freeK_add m1 hi
        omega
      have ih := G_step hw hn f _ hfk (fun j hj hb => by
        rw [addM_bit, Bool.or_eq_true] at hb
        rcases hb with hb | hb
        · exact hr j hj hb
        · rw [← of_decide_eq_true hb]; exact hib) hgi
      refine G_iff.2 (.inr ⟨i, by rw [cutM_len]; exact hi, may_iff.2 ⟨m1, free_iff.2 fun k hkl hp => ?_, ?_⟩, ih⟩)
      · rw [cutM_len] at hkl
        have h1 := (prI_cutM hw hi hkl).1 hp
        have h3 := hn i hi
        exact free_iff.1 m2 k (by rw [cutM_len]; exact hkl) ((prI_cutM hw hi hkl).2 ⟨h1.1, by omega⟩)
      · rw [nth_cutM hi] at m3 ⊢
        rw [← same i hi hib]
        have hs : seesL (cutM h t) m = seesL (cutM h (t - 1)) m := by
          rw [sees_of, sees_of, cutM_len, cutM_len]
          refine fm_congr fun k hk => ?_
          rw [List.mem_range] at hk
          rw [nth_cutM hk, nth_cutM hk]
          by_cases hb : m.testBit k = true
          · rw [if_pos hb, if_pos hb, same k hk (hr k hk hb)]
          · rw [if_neg hb, if_neg hb]
        unfold seesB at m3 ⊢
        rw [hs]
        exact m3
theorem cutM_step {h : List Opn} (hw : Well h) {t : Int} (hn : ∀ i, i < h.length → ¬ endO (nth h i) = t) (hg : G (cutM h (t - 1)) 0 = true) : G (cutM h t) 0 = true :=
  G_step hw hn (freeK 0 h.length + 1) 0 (Nat.lt_succ_self _) (fun i _ hb => by rw [Nat.zero_testBit] at hb; cases hb) hg
end Go.Proofs.Ytgaolgfjbgflgaa
