/-
  Chapter 55, plain: without a reason against a history there is none against a beginning of it.
-/
import Derived.Test.YtjijlhjggpibjaaGk
namespace Go.Proofs.Ytjijlhjggpibjaa

theorem mem_cut {h : List Opn} {t : Int} {o : Opn} : o ∈ cutL h t ↔ ∃ x ∈ h, ¬ t < begO x ∧ cutO t x = o := by
  unfold cutL
  rw [List.mem_map]
  constructor
  · rintro ⟨x, hx, rfl⟩
    rw [List.mem_filter] at hx
    exact ⟨x, hx.1, by simpa using hx.2, rfl⟩
  · rintro ⟨x, h1, h2, rfl⟩
    exact ⟨x, List.mem_filter.2 ⟨h1, by simpa using h2⟩, rfl⟩
theorem ix_of {h : List Opn} {o : Opn} (ho : o ∈ h) : ∃ i, i < h.length ∧ nth h i = o := by
  obtain ⟨i, hi, rfl⟩ := List.getElem_of_mem ho
  exact ⟨i, hi, nth_eq hi⟩
theorem cut_kind (t : Int) (o : Opn) : kindO (cutO t o) = kindO o := by unfold cutO; split <;> rfl
theorem cut_end {t : Int} {o : Opn} (h : 0 ≤ endO (cutO t o)) : cutO t o = o := by
  unfold cutO at h ⊢
  split
  · rename_i h1
    rw [if_pos h1] at h
    exact absurd h (by show ¬ (0 : Int) ≤ -1; decide)
  · rfl
theorem cut_at {h : List Opn} {t : Int} {i : Nat} (hi : i < (cutL h t).length) : ∃ j, j < h.length ∧ ¬ t < begO (nth h j) ∧ nth (cutL h t) i = cutO t (nth h j) := by
  obtain ⟨x, h1, h2, h3⟩ := mem_cut.1 (nth_mem hi)
  obtain ⟨j, hj, rfl⟩ := ix_of h1
  exact ⟨j, hj, h2, h3.symm⟩
theorem cut_read {h : List Opn} {t : Int} {i : Nat} (hi : i < (cutL h t).length) (hr : RdI (cutL h t) i) : ∃ j, j < h.length ∧ RdI h j ∧ nth (cutL h t) i = nth h j ∧ endO (nth h j) ≤ t := by
  obtain ⟨j, h1, h2, h3⟩ := cut_at hi
  have h4 := hr.2
  have h5 := hr.1
  rw [h3] at h4 h5
  have h6 := cut_end h4
  rw [h6] at h4 h5 h3
  refine ⟨j, h1, ⟨h5, h4⟩, h3, ?_⟩
  refine Int.not_lt.1 fun h7 => ?_
  unfold cutO at h6
  rw [if_pos h7] at h6
  have h8 : endO (nth h j) = -1 := by rw [← h6]; rfl
  omega
theorem cut_up {h : List Opn} {t : Int} {i : Nat} (hi : i < (cutL h t).length) (hu : UpI (cutL h t) i) : ∃ j, j < h.length ∧ UpI h j ∧ addO (nth (cutL h t) i) = addO (nth h j) ∧ begO (nth (cutL h t) i) = begO (nth h j) ∧ (0 ≤ endO (nth (cutL h t) i) → nth (cutL h t) i = nth h j) := by
  obtain ⟨j, h1, h2, h3⟩ := cut_at hi
  have h4 : kindO (nth (cutL h t) i) = 1 := hu
  rw [h3, cut_kind] at h4
  refine ⟨j, h1, h4, by rw [h3, cutO_add], by rw [h3, cutO_beg], fun h5 => ?_⟩
  rw [h3] at h5 ⊢
  exact cut_end h5
theorem noReason_cut {h : List Opn} (hw : Well h) (hn : NoReason h) (t : Int) : NoReason (cutL h t) := by
  have hwc := well_cut hw t
  have hpe : ∀ {i k}, i < (cutL h t).length → prI (cutL h t) i k = true → 0 ≤ endO (nth (cutL h t) i) := fun {i k} hi hp => (pr_end hwc hi hp).1
  have prI_eq : ∀ {g g' : List Opn} {i k i' k' : Nat}, nth g i = nth g' i' → begO (nth g k) = begO (nth g' k') → prI g i k = prI g' i' k' := fun {g g' i k i' k'} h1 h2 => by
    unfold prI precB
    rw [h1, h2]
  refine ⟨?_, ?_, ?_, ?_, ?_, ?_, ?_⟩
  · intro r hr rr s hs
    obtain ⟨r', a1, a2, a3, a4⟩ := cut_read hr rr
    rw [a3] at hs
    obtain ⟨u, b1, b2, b3⟩ := hn.known r' a1 a2 s hs
    have hb : ¬ t < begO (nth h u) := fun hlt => by
      have h1 : prI h r' u = true := by
        unfold prI precB
        have := a2.2
        exact decide_eq_true ⟨by omega, by omega⟩
      exact hn.early r' u a1 b1 a2 b2 h1 (hn.whole r' u a1 b1 a2 b2 ⟨s, b3, hs⟩)
    obtain ⟨i, c1, c2⟩ := ix_of (mem_cut.2 ⟨nth h u, nth_mem b1, hb, rfl⟩)
    refine ⟨i, c1, ?_, ?_⟩
    · show kindO _ = 1
      rw [c2, cut_kind]; exact b2
    · rw [c2, cutO_add]; exact b3
  · intro r u hr hu rr uu hs
    obtain ⟨r', a1, a2, a3, a4⟩ := cut_read hr rr
    obtain ⟨u', b1, b2, b3, b4, b5⟩ := cut_up hu uu
    unfold ShowI
    rw [a3, b3] at hs
    rw [a3, b3]
    exact hn.whole r' u' a1 b1 a2 b2 hs
  · intro r q hr hq rr rq
    obtain ⟨r', a1, a2, a3, a4⟩ := cut_read hr rr
    obtain ⟨q', b1, b2, b3, b4⟩ := cut_read hq rq
    unfold WithI
    rw [a3, b3]
    exact hn.chain r' q' a1 b1 a2 b2
  · intro r u hr hu rr uu hp
    obtain ⟨r', a1, a2, a3, a4⟩ := cut_read hr rr
    obtain ⟨u', b1, b2, b3, b4, b5⟩ := cut_up hu uu
    unfold ShowI
    rw [a3, b3]
    exact hn.early r' u' a1 b1 a2 b2 (by rw [← prI_eq a3 b4]; exact hp)
  · intro u r hu hr uu rr hp
    obtain ⟨r', a1, a2, a3, a4⟩ := cut_read hr rr
    obtain ⟨u', b1, b2, b3, b4, b5⟩ := cut_up hu uu
    unfold ShowI
    rw [a3, b3]
    exact hn.late u' r' b1 a1 b2 a2 (by rw [← prI_eq (b5 (hpe hu hp)) (by rw [a3])]; exact hp)
  · intro r q hr hq rr rq hp
    obtain ⟨r', a1, a2, a3, a4⟩ := cut_read hr rr
    obtain ⟨q', b1, b2, b3, b4⟩ := cut_read hq rq
    unfold WithI
    rw [a3, b3]
    exact hn.back r' q' a1 b1 a2 b2 (by rw [← prI_eq a3 (by rw [b3])]; exact hp)
  · intro u w r hu hw' hr uu ww rr hp hs
    obtain ⟨r', a1, a2, a3, a4⟩ := cut_read hr rr
    obtain ⟨u', b1, b2, b3, b4, b5⟩ := cut_up hu uu
    obtain ⟨w', c1, c2, c3, c4, c5⟩ := cut_up hw' ww
    unfold ShowI at hs ⊢
    rw [a3, c3] at hs
    rw [a3, b3]
    exact hn.swapped u' w' r' b1 c1 a1 b2 c2 a2 (by rw [← prI_eq (b5 (hpe hu hp)) c4]; exact hp) hs
theorem small_cut {h : List Opn} (hs : SmallH h) (t : Int) : SmallH (cutL h t) := by
  refine ⟨Nat.le_trans (cutL_len h t) hs.1, fun o ho => ?_⟩
  obtain ⟨x, h1, h2, rfl⟩ := mem_cut.1 ho
  have h3 := hs.2 x h1
  unfold cutO
  split
  · exact ⟨h3.1, Nat.zero_le _, h3.2.2.1, fun s hs => by cases hs⟩
  · exact h3
theorem begins {h : List Opn} (hz : (resR h).1 = 0) (t : Int) : (resR (cutL h t)).1 = 0 := by
  obtain ⟨hw, hn⟩ := res_ok hz
  exact (res_zero (well_cut hw t)).2 (noReason_cut hw hn t)
end Go.Proofs.Ytjijlhjggpibjaa
