/-
  Chapter 56, plain: linearizations and continuations of sets.
-/
import Derived.Test.YtgaolgfjbgflgaaKb
import Derived.Test.YtgaolgfjbgflgaaLj
import Derived.Test.YtgaolgfjbgflgaaWp
import Derived.Test.YtgaolgfjbgflgaaMo
namespace Go.Proofs.Ytgaolgfjbgflgaa

/-- A beginning of a linearization. -/
structure PreD (h : List Opn) (l : List Nat) : Prop where
  nodup : l.Nodup
  lt : ∀ i ∈ l, i < h.length
  kind : ∀ i ∈ l, UpI h i ∨ RdI h i
  prec : l.Pairwise fun i k => prI h k i = false
  sees : ∀ p i s, l = p ++ i :: s → RdI h i → ∀ x, x ∈ seeO (nth h i) ↔ ∃ u ∈ p, UpI h u ∧ x ∈ addO (nth h u)
theorem PreD.nil (h : List Opn) : PreD h [] := ⟨List.nodup_nil, (fun i hi => by cases hi), (fun i hi => by cases hi), List.Pairwise.nil, fun p i s he => by simp at he⟩
theorem adds_up {h : List Opn} (hw : Well h) {u : Nat} (hu : u < h.length) {s : Str} (hs : s ∈ addO (nth h u)) : UpI h u := by
  rcases (form_of (hw.1 _ (nth_mem hu))).2.2.2.2.2 with h1 | h1
  · exact h1.1
  · rw [h1.2.1] at hs; cases hs
theorem see_inc {h : List Opn} (hw : Well h) {r : Nat} (hr : r < h.length) : (seeO (nth h r)).Pairwise (· < ·) := of_decide_eq_true (form_of (hw.1 _ (nth_mem hr))).2.2.2.2.1
theorem sees_list {h : List Opn} (hw : Well h) {p : List Nat} (hp : ∀ i ∈ p, i < h.length) {r : Nat} (hr : r < h.length) : seesB h (maskL p) (nth h r) = true ↔ ∀ x, x ∈ seeO (nth h r) ↔ ∃ u ∈ p, UpI h u ∧ x ∈ addO (nth h u) := by
  have hmem : ∀ x, x ∈ sortS (seesL h (maskL p)) ↔ ∃ u ∈ p, UpI h u ∧ x ∈ addO (nth h u) := fun x => by
    rw [(sortS_perm _).mem_iff, mem_sees]
    constructor
    · rintro ⟨i, hi, hb, hx⟩
      rw [maskL_bit] at hb
      exact ⟨i, of_decide_eq_true hb, adds_up hw hi hx, hx⟩
    · rintro ⟨u, hu, _, hx⟩
      exact ⟨u, hp u hu, by rw [maskL_bit]; exact decide_eq_true hu, hx⟩
  unfold seesB
  rw [decide_eq_true_iff]
  constructor
  · intro e x
    rw [← e]; exact hmem x
  · intro hx
    exact sorted_unique _ _ (sortS_inc (sees_nodup hw _)) (see_inc hw hr) fun x => (hmem x).trans (hx x).symm
theorem PreD.snoc {h : List Opn} (hw : Well h) {p : List Nat} (hp : PreD h p) {i : Nat} (hi : i < h.length) (hm : mayB h (maskL p) i = true) : PreD h (p ++ [i]) := by
  obtain ⟨m1, m2, m3⟩ := may_iff.1 hm
  rw [maskL_bit] at m1
  have hip : i ∉ p := of_decide_eq_false m1
  refine ⟨?_, fun k hk => ?_, fun k hk => ?_, ?_, fun p' j s he rj x => ?_⟩
  · rw [List.nodup_append]
    exact ⟨hp.nodup, by simp, fun a ha b hb e => hip (by rw [List.mem_singleton.1 hb] at e; exact e ▸ ha)⟩
  · rcases List.mem_append.1 hk with h1 | h1
    · exact hp.lt k h1
    · rw [List.mem_singleton.1 h1]; exact hi
  · rcases List.mem_append.1 hk with h1 | h1
    · exact hp.kind k h1
    · rw [List.mem_singleton.1 h1]
      rcases m3 with h2 | h2
      · exact .inl h2
      · by_cases hk1 : UpI h i
        · exact .inl hk1
        · rcases (form_of (hw.1 _ (nth_mem hi))).2.2.2.2.2 with h3 | h3
          · exact absurd h3.1 hk1
          · exact .inr ⟨h3.1, h2.1⟩
  · rw [List.pairwise_append]
    refine ⟨hp.prec, by simp, fun a ha b hb => ?_⟩
    rw [List.mem_singleton.1 hb]
    refine Bool.eq_false_iff.2 fun hpr => ?_
    have := free_iff.1 m2 a (hp.lt a ha) hpr
    rw [maskL_bit, decide_eq_true ha] at this; cases this
  · rcases List.eq_nil_or_concat s with rfl | ⟨s', z, rfl⟩
    · obtain ⟨e1, e2⟩ := List.append_inj' he rfl
      subst e1
      injection e2 with e2
      subst e2
      rcases m3 with h2 | h2
      · have h3 : kindO (nth h i) = 2 := rj.1
        rw [h3] at h2; exact absurd h2 (by decide)
      · exact (sees_list hw hp.lt hi).1 h2.2 x
    · have e : p ++ [i] = (p' ++ j :: s') ++ [z] := by rw [he]; simp
      obtain ⟨e1, _⟩ := List.append_inj' e rfl
      exact hp.sees p' j s' e1 rj x
theorem PreD.lin {h : List Opn} {l : List Nat} (hp : PreD h l) (ha : ∀ i, i < h.length → 0 ≤ endO (nth h i) → i ∈ l) : LinD h l := ⟨hp.nodup, hp.lt, hp.kind, ha, hp.prec, hp.sees⟩
/-- What the search finds. -/
theorem path_lin {h : List Opn} (hw : Well h) : ∀ (d : Nat) (p : List Nat), freeK (maskL p) h.length < d → PreD h p → G h (maskL p) = true → LinD h (p ++ pathG h (maskL p))
  | 0, _, hd, _, _ => by omega
  | d + 1, p, hd, hp, hg => by
    by_cases hdn : doneB h (maskL p) = true
    · rw [pathG_done hdn, List.append_nil]
      refine hp.lin fun i hi he => ?_
      have := done_iff.1 hdn i hi he
      rw [maskL_bit] at this
      exact of_decide_eq_true this
    · have hdn' := Bool.eq_false_iff.2 hdn
      obtain ⟨hx, hgo⟩ := nextI_go hg hdn'
      obtain ⟨hm, hg2⟩ := go_may hgo
      rw [pathG_step hg hdn']
      have hfk := freeK_add (may_bit hm) hx
      generalize nextI h (maskL p) = x at *
      have h1 := path_lin hw d (p ++ [x]) (by rw [maskL_snoc]; omega) (hp.snoc hw hx hm) (by rw [maskL_snoc]; exact hg2)
      rw [maskL_snoc, List.append_assoc] at h1
      exact h1
theorem LinD.may {h : List Opn} (hw : Well h) {l p s : List Nat} {i : Nat} (hl : LinD h l) (he : l = p ++ i :: s) : mayB h (maskL p) i = true := by
  have hil : i ∈ l := by rw [he]; simp
  have hpl : ∀ k ∈ p, k < h.length := fun k hk => hl.lt k (by rw [he]; simp [hk])
  refine may_iff.2 ⟨?_, free_iff.2 fun k hk hpr => ?_, ?_⟩
  · rw [maskL_bit]
    refine decide_eq_false fun hip => ?_
    have h1 := hl.nodup
    rw [he, List.nodup_append] at h1
    exact h1.2.2 i hip i (by simp) rfl
  · rw [maskL_bit]
    refine decide_eq_false fun hkp => ?_
    have h1 := hl.prec
    rw [he] at h1
    have h2 := (List.pairwise_append.1 h1).2.2 k hkp i (by simp)
    rw [hpr] at h2; cases h2
  · rcases hl.kind i hil with h1 | h1
    · exact .inl h1
    · exact .inr ⟨h1.2, (sees_list hw hpl (hl.lt i hil)).2 (hl.sees p i s he h1)⟩
theorem G_of_lin {h : List Opn} (hw : Well h) {l : List Nat} (hl : LinD h l) : ∀ (s p : List Nat), l = p ++ s → G h (maskL p) = true
  | [], p, he => by
    rw [List.append_nil] at he
    refine G_iff.2 (.inl (done_iff.2 fun i hi hen => ?_))
    rw [maskL_bit, ← he]
    exact decide_eq_true (hl.all i hi hen)
  | i :: s, p, he => by
    have h1 := G_of_lin hw hl s (p ++ [i]) (by rw [he]; simp)
    rw [maskL_snoc] at h1
    exact G_iff.2 (.inr ⟨i, hl.lt i (by rw [he]; simp), hl.may hw he, h1⟩)
/-- The search and the reasons agree. -/
theorem G_noReason {h : List Opn} (hw : Well h) : G h 0 = true ↔ NoReason h := by
  constructor
  · intro hg
    exact (path_lin hw (freeK (maskL []) h.length + 1) [] (Nat.lt_succ_self _) (PreD.nil h) hg).noReason hw
  · intro hn
    exact G_of_lin hw (ordI_lin hw hn) (ordI h) [] rfl
theorem found_lin {h : List Opn} (hw : Well h) (hg : G h 0 = true) : LinD h (pathG h 0) := path_lin hw (freeK (maskL []) h.length + 1) [] (Nat.lt_succ_self _) (PreD.nil h) hg
/-- A linearization is a witness. -/
theorem LinD.wit {h : List Opn} (hw : Well h) {l : List Nat} (hl : LinD h l) : ∀ (s p : List Nat), l = p ++ s → witM h (intsN s) p = true
  | [], p, he => by
    rw [List.append_nil] at he
    show compB h p = true
    rw [comp_iff]
    intro x hx hn
    have h2 := form_of (hw.1 _ (nth_mem hx))
    rw [← he]
    exact hl.all x hx (by omega)
  | i :: s, p, he => by
    have h1 := hl.wit hw s (p ++ [i]) (by rw [he]; simp)
    have hi := hl.lt i (by rw [he]; simp)
    show witM h ((i : Int) :: intsN s) p = true
    rw [witM, if_neg (by omega), if_neg (by omega), Int.toNat_natCast, if_pos (hl.may hw he)]
    exact h1
end Go.Proofs.Ytgaolgfjbgflgaa
