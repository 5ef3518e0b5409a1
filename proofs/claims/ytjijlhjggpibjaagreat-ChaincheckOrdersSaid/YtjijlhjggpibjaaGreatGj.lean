/-
  Chapter 55, plain: what Verify accepts is a linearization; what Check answers if it finds no reason.
-/
import Derived.Test.YtjijlhjggpibjaaGreatGi
namespace Go.Proofs.YtjijlhjggpibjaaGreat
open Go.RowKit

theorem exact_mem {S xs : List Str} (h : exactB S xs = true) : ∀ x, x ∈ xs ↔ x ∈ S := by
  unfold exactB at h
  rw [Bool.and_eq_true, decide_eq_true_iff, decide_eq_true_iff] at h
  intro x
  refine ⟨h.1 x, fun hx => ?_⟩
  have h1 : ∀ y ∈ ofL xs, y ∈ uniq S := fun y hy => (uniq_mem S y).2 (h.1 y ((mem_ofL xs y).1 hy))
  have h2 := nodup_full (srt_nodup (ofL_sorted xs)) h1 (by omega) x ((uniq_mem S x).2 hx)
  exact (mem_ofL xs x).1 h2
theorem lin_sees {h : List Opn} : ∀ (s p : List Nat) (S : List Str), (∀ i ∈ s, i < h.length) → (p ++ s).Nodup → legFrom h (intsNN s) (intsNN p) S = true → (∀ x, x ∈ S ↔ ∃ u ∈ p, UpI h u ∧ x ∈ addO (nth h u)) →
    ∀ p' i s', p ++ s = p' ++ i :: s' → p.length ≤ p'.length → RdI h i → ∀ x, x ∈ seeO (nth h i) ↔ ∃ u ∈ p', UpI h u ∧ x ∈ addO (nth h u)
  | [], p, S, _, _, _, _, p', i, s', he, hl, _ => by
    have := congrArg List.length he
    simp at this
    omega
  | j :: s, p, S, hlt, hnd, hleg, hS, p', i, s', he, hl, hr => by
    have hj := hlt j (List.mem_cons_self ..)
    have hjp : (j : Int) ∉ intsNN p := fun hm => by
      rw [List.nodup_append] at hnd
      exact hnd.2.2 j (mem_intsNN.1 hm) j (by simp) rfl
    have hleg2 : legFrom h ((j : Int) :: intsNN s) (intsNN p) S = true := hleg
    rw [legFrom_ok hj hjp, ← nth_eq hj] at hleg2
    by_cases e : p.length = p'.length
    · have h1 := List.append_inj he e
      obtain ⟨rfl, h2⟩ := h1
      injection h2 with h2 h3
      subst h2
      rw [if_neg (by rw [hr.1]; decide), if_pos hr.1, Bool.and_eq_true] at hleg2
      intro x
      rw [exact_mem hleg2.1 x]
      exact hS x
    · have hrec : ∃ S', legFrom h (intsNN s) (intsNN (p ++ [j])) S' = true ∧ ∀ x, x ∈ S' ↔ ∃ u ∈ p ++ [j], UpI h u ∧ x ∈ addO (nth h u) := by
        rw [intsNN_snoc]
        by_cases hu : kindO (nth h j) = 1
        · rw [if_pos hu] at hleg2
          refine ⟨_, hleg2, fun x => ?_⟩
          rw [List.mem_append, hS]
          constructor
          · rintro (⟨u, h1, h2, h3⟩ | h1)
            · exact ⟨u, by simp [h1], h2, h3⟩
            · exact ⟨j, by simp, hu, h1⟩
          · rintro ⟨u, h1, h2, h3⟩
            rcases List.mem_append.1 h1 with h4 | h4
            · exact .inl ⟨u, h4, h2, h3⟩
            · rw [List.mem_singleton.1 h4] at h3; exact .inr h3
        · have hS2 : ∀ x, x ∈ S ↔ ∃ u ∈ p ++ [j], UpI h u ∧ x ∈ addO (nth h u) := fun x => by
            rw [hS]
            constructor
            · rintro ⟨u, h1, h2, h3⟩
              exact ⟨u, by simp [h1], h2, h3⟩
            · rintro ⟨u, h1, h2, h3⟩
              rcases List.mem_append.1 h1 with h4 | h4
              · exact ⟨u, h4, h2, h3⟩
              · rw [List.mem_singleton.1 h4] at h2; exact absurd h2 hu
          rw [if_neg hu] at hleg2
          split at hleg2
          · rw [Bool.and_eq_true] at hleg2
            exact ⟨S, hleg2.2, hS2⟩
          · exact ⟨S, hleg2, hS2⟩
      obtain ⟨S', h1, h2⟩ := hrec
      refine lin_sees s (p ++ [j]) S' (fun i hi => hlt i (List.mem_cons_of_mem _ hi)) (by simpa using hnd) h1 h2 p' i s' (by simpa using he) ?_ hr
      rw [List.length_append, List.length_singleton]
      omega
theorem lin_of_ver {h : List Opn} {order : List Int} (hv : VerP h order) : Well h ∧ ∃ l, order = intsNN l ∧ LinD h l := by
  obtain ⟨h1, h2, h3, h4, h5⟩ := hv
  have hw := chk_well.1 h1
  refine ⟨hw, order.map Int.toNat, ?_, ?_⟩
  all_goals obtain ⟨q1, q2⟩ := leg_ok order [] [] h2
  · unfold intsNN
    rw [List.map_map]
    have : ∀ x ∈ order, (Int.ofNat ∘ Int.toNat) x = x := fun x hx => by
      have := (q1 x hx).1
      simp only [Function.comp]
      show ((x.toNat : Nat) : Int) = x
      omega
    exact (List.map_id' order ▸ (List.map_congr_left (g := fun x => x) this)).symm
  · have hl : order = intsNN (order.map Int.toNat) := by
      unfold intsNN
      rw [List.map_map]
      have : ∀ x ∈ order, (Int.ofNat ∘ Int.toNat) x = x := fun x hx => by
        have := (q1 x hx).1
        simp only [Function.comp]
        show ((x.toNat : Nat) : Int) = x
        omega
      exact (List.map_id' order ▸ (List.map_congr_left (g := fun x => x) this)).symm
    generalize order.map Int.toNat = l at *
    subst hl
    have hnd : l.Nodup := by
      unfold intsNN at q2
      exact List.Pairwise.imp (fun {a b} hab e => hab (by rw [e])) (List.pairwise_map.1 q2)
    have hlt : ∀ i ∈ l, i < h.length := fun i hi => by
      have := (q1 i (mem_intsNN.2 hi)).2.1
      omega
    have hat : ∀ {a i : Nat}, l[a]? = some i → (intsNN l)[a]? = some (i : Int) := fun {a i} ha => by
      unfold intsNN
      rw [List.getElem?_map, ha]; rfl
    refine ⟨hnd, hlt, fun i hi => ?_, fun i hi he => mem_intsNN.1 (h4 i hi he), ?_, fun p i s he hr => ?_⟩
    · have h6 := h3 i (mem_intsNN.2 hi)
      rcases (form_of (hw.1 _ (nth_mem (hlt i hi)))).2.2.2.2.2 with h7 | h7
      · exact .inl h7.1
      · exact .inr ⟨h7.1, Int.not_lt.1 fun q => h6 ⟨h7.1, q⟩⟩
    · rw [List.pairwise_iff_getElem]
      intro b a hb ha hab
      exact h5 a b _ _ (hat (List.getElem?_eq_getElem ha)) (hat (List.getElem?_eq_getElem hb)) hab
    · exact lin_sees l [] [] hlt (by simpa using hnd) h2 (fun x => by simp) p i s (by simpa using he) (Nat.zero_le _) hr
theorem pairR_nil {c : Int} {q : Option (Nat × Nat)} {rest : Int × List Int} (hc : ¬ c = 0) (hr : rest.1 = 0 → rest.2 = []) : (pairR c q rest).1 = 0 → (pairR c q rest).2 = [] := by
  unfold pairR
  cases q with
  | none => exact hr
  | some p => intro h; exact absurd h hc
theorem res_nil {h : List Opn} : (resR h).1 = 0 → (resR h).2 = [] := by
  unfold resR
  by_cases h0 : (chkL h).2 = 0
  · rw [if_pos h0]
    unfold res2
    cases (rdK h h.length).find? (unkB h) with
    | some r => intro h; exact absurd h (by show ¬ (2 : Int) = 0; decide)
    | none =>
      refine pairR_nil (by decide) (pairR_nil (by decide) (pairR_nil (by decide) (pairR_nil (by decide) (pairR_nil (by decide) ?_))))
      unfold res8
      cases tripF h with
      | some p => intro h; exact absurd h (by show ¬ (8 : Int) = 0; decide)
      | none => exact fun _ => rfl
  · rw [if_neg h0]
    intro h; exact absurd h (by show ¬ (1 : Int) = 0; decide)
end Go.Proofs.YtjijlhjggpibjaaGreat
