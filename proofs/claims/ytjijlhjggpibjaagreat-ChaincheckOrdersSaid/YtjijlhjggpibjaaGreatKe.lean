/-
  Chapter 55, plain: Check returns Linearizable exactly if no reason holds.
-/
import Derived.Test.YtjijlhjggpibjaaGreatVh
import Derived.Test.YtjijlhjggpibjaaGreatKb
namespace Go.Proofs.YtjijlhjggpibjaaGreat

theorem pairR_zero {c : Int} {q : Option (Nat × Nat)} {rest : Int × List Int} (hc : ¬ c = 0) : (pairR c q rest).1 = 0 ↔ q = none ∧ rest.1 = 0 := by
  cases q with
  | none => simp [pairR]
  | some p => simp [pairR, hc]
theorem res8_zero {h : List Opn} : (res8 h).1 = 0 ↔ tripF h = none := by
  unfold res8
  cases hq : tripF h with
  | none => simp
  | some p => obtain ⟨u, w, r⟩ := p; simp
theorem res2_zero {h : List Opn} : (res2 h).1 = 0 ↔ (rdK h h.length).find? (unkB h) = none ∧ (res3 h).1 = 0 := by
  unfold res2
  cases hq : (rdK h h.length).find? (unkB h) with
  | none => simp
  | some r => simp
theorem sw_none {h : List Opn} {u w : Nat} : swF h u w = none ↔ (prI h u w = true → ∀ r ∈ rdK h h.length, ShowI h r w → ShowI h r u) := by
  unfold swF
  by_cases hp : prI h u w = true
  · rw [if_pos hp, Option.map_eq_none_iff, List.find?_eq_none]
    constructor
    · intro h1 _ r hr hs
      refine Classical.byContradiction fun hn => h1 r hr ?_
      rw [decide_eq_true hs, decide_eq_false hn]; rfl
    · intro h1 r hr h2
      rw [Bool.and_eq_true, decide_eq_true_iff, Bool.not_eq_true', decide_eq_false_iff_not] at h2
      exact h2.2 (h1 hp r hr h2.1)
  · rw [if_neg hp]
    exact ⟨fun _ q => absurd q hp, fun _ => rfl⟩
theorem trip_none {h : List Opn} : tripF h = none ↔ ∀ u ∈ upK h h.length, ∀ w ∈ upK h h.length, prI h u w = true → ∀ r ∈ rdK h h.length, ShowI h r w → ShowI h r u := by
  unfold tripF
  rw [List.findSome?_eq_none_iff]
  constructor
  · intro h1 u hu w hw
    have h2 := h1 u hu
    rw [List.findSome?_eq_none_iff] at h2
    exact sw_none.1 (h2 w hw)
  · intro h1 u hu
    rw [List.findSome?_eq_none_iff]
    intro w hw
    exact sw_none.2 (h1 u hu w hw)
theorem unk_none {h : List Opn} {r : Nat} : unkB h r = false ↔ ∀ s ∈ seeO (nth h r), ∃ u, u < h.length ∧ UpI h u ∧ s ∈ addO (nth h u) := by
  unfold unkB
  rw [List.any_eq_false]
  constructor
  · intro h1 s hs
    have h2 := h1 s hs
    refine (ownK_some h s h.length).1 ?_
    cases hq : (ownK h h.length s).isSome with
    | true => rfl
    | false => exact absurd (show (!(ownK h h.length s).isSome) = true by rw [hq]; rfl) h2
  · intro h1 s hs
    rw [(ownK_some h s h.length).2 (h1 s hs)]; decide
theorem and_not {a b : Bool} : (a && !b) = false ↔ (a = true → b = true) := by cases a <;> cases b <;> simp
theorem torn_none {h : List Opn} {r u : Nat} : tornB h r u = false ↔ ((∃ s ∈ addO (nth h u), s ∈ seeO (nth h r)) → ShowI h r u) := by
  unfold tornB
  rw [and_not, decide_eq_true_iff, decide_eq_true_iff]
  unfold cntS
  rw [cntL_pos]
theorem early_none {h : List Opn} {r u : Nat} : earlyB h r u = false ↔ (prI h r u = true → ¬ ShowI h r u) := by
  unfold earlyB
  rw [Bool.and_eq_false_iff, decide_eq_false_iff_not]
  cases prI h r u <;> simp
theorem late_none {h : List Opn} {u r : Nat} : lateB h u r = false ↔ (prI h u r = true → ShowI h r u) := by unfold lateB; rw [and_not, decide_eq_true_iff]
theorem back_none {h : List Opn} {r q : Nat} : backB h r q = false ↔ (prI h r q = true → WithI h r q) := by unfold backB; rw [and_not, decide_eq_true_iff]
theorem apart_none {h : List Opn} {r q : Nat} : apartB h r q = false ↔ (r < q → WithI h r q ∨ WithI h q r) := by
  unfold apartB
  rw [and_not, Bool.and_eq_true, decide_eq_true_iff, Bool.not_eq_true', decide_eq_false_iff_not, decide_eq_true_iff]
  constructor
  · intro h1 hlt
    exact Classical.byContradiction fun hn => hn (.inr (h1 ⟨hlt, fun q => hn (.inl q)⟩))
  · rintro h1 ⟨hlt, hn⟩
    exact (h1 hlt).resolve_left hn
/-- Linearizable: no reason. -/
theorem res_zero {h : List Opn} (hw : Well h) : (resR h).1 = 0 ↔ NoReason h := by
  unfold resR
  rw [if_pos (chk_well.2 hw), res2_zero]
  unfold res3 res4 res5 res6 res7
  rw [pairR_zero (by decide), pairR_zero (by decide), pairR_zero (by decide), pairR_zero (by decide), pairR_zero (by decide), res8_zero, pair_none, pair_none, pair_none, pair_none, pair_none, trip_none, List.find?_eq_none]
  have rd : ∀ {r}, r < h.length → RdI h r → r ∈ rdK h h.length := fun h1 h2 => mem_rdK.2 ⟨h1, h2⟩
  have up : ∀ {r}, r < h.length → UpI h r → r ∈ upK h h.length := fun h1 h2 => mem_upK.2 ⟨h1, h2⟩
  constructor
  · rintro ⟨a1, a2, a3, a4, a5, a6, a7⟩
    refine ⟨fun r hr rr => unk_none.1 (Bool.eq_false_iff.2 (a1 r (rd hr rr))), fun r u hr hu rr uu hs => torn_none.1 (a2 r (rd hr rr) u (up hu uu)) hs, fun r q hr hq rr rq => ?_, fun r u hr hu rr uu hp => early_none.1 (a4 r (rd hr rr) u (up hu uu)) hp,
      fun u r hu hr uu rr hp => late_none.1 (a5 u (up hu uu) r (rd hr rr)) hp, fun r q hr hq rr rq hp => back_none.1 (a6 r (rd hr rr) q (rd hq rq)) hp, fun u w r hu hw' hr uu uw rr hp hs => a7 u (up hu uu) w (up hw' uw) hp r (rd hr rr) hs⟩
    rcases Nat.lt_trichotomy r q with h1 | h1 | h1
    · exact apart_none.1 (a3 r (rd hr rr) q (rd hq rq)) h1
    · subst h1; exact .inl fun x hx => hx
    · exact (apart_none.1 (a3 q (rd hq rq) r (rd hr rr)) h1).symm
  · intro hn
    refine ⟨fun r hr => ?_, fun r hr u hu => ?_, fun r hr q hq => ?_, fun r hr u hu => ?_, fun u hu r hr => ?_, fun r hr q hq => ?_, fun u hu w hw' hp r hr hs => ?_⟩
    · obtain ⟨h1, h2⟩ := mem_rdK.1 hr
      rw [unk_none.2 (hn.known r h1 h2)]; exact Bool.false_ne_true
    · obtain ⟨h1, h2⟩ := mem_rdK.1 hr
      obtain ⟨h3, h4⟩ := mem_upK.1 hu
      exact torn_none.2 (hn.whole r u h1 h3 h2 h4)
    · obtain ⟨h1, h2⟩ := mem_rdK.1 hr
      obtain ⟨h3, h4⟩ := mem_rdK.1 hq
      exact apart_none.2 fun _ => hn.chain r q h1 h3 h2 h4
    · obtain ⟨h1, h2⟩ := mem_rdK.1 hr
      obtain ⟨h3, h4⟩ := mem_upK.1 hu
      exact early_none.2 (hn.early r u h1 h3 h2 h4)
    · obtain ⟨h1, h2⟩ := mem_rdK.1 hr
      obtain ⟨h3, h4⟩ := mem_upK.1 hu
      exact late_none.2 (hn.late u r h3 h1 h4 h2)
    · obtain ⟨h1, h2⟩ := mem_rdK.1 hr
      obtain ⟨h3, h4⟩ := mem_rdK.1 hq
      exact back_none.2 (hn.back r q h1 h3 h2 h4)
    · obtain ⟨h1, h2⟩ := mem_rdK.1 hr
      obtain ⟨h3, h4⟩ := mem_upK.1 hu
      obtain ⟨h5, h6⟩ := mem_upK.1 hw'
      exact hn.swapped u w r h3 h5 h1 h4 h6 h2 hp hs
theorem res_one {h : List Opn} (hw : ¬ (chkL h).2 = 0) : (resR h).1 = 1 := by unfold resR; rw [if_neg hw]
end Go.Proofs.YtjijlhjggpibjaaGreat
