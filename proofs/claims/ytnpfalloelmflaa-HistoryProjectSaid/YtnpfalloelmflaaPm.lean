/-
  Chapter 54, plain: well-formed histories, cuts, completions, projections; legal orders, orders by the end, the list of pairs.
-/
import Derived.Test.YtnpfalloelmflaaHr
import Derived.Test.YtnpfalloelmflaaHt
import Derived.Test.YtnpfalloelmflaaHu
import Derived.Test.YtnpfalloelmflaaHg
import Derived.Test.YtnpfalloelmflaaHk
import Derived.Test.YtnpfalloelmflaaHn
import Derived.Test.YtnpfalloelmflaaHo
namespace Go.Proofs.Ytnpfalloelmflaa
open Go.RowKit

/-- Well-formed, in one sentence. -/
def Well (h : List Opn) : Prop := (∀ x ∈ h, formB x = true) ∧ h.Pairwise (fun y x => cliO y = cliO x → precB y x = true) ∧ h.Pairwise (fun y x => ∀ s ∈ addO x, s ∉ addO y)
theorem inter_ne (xs ys : List Str) : interL xs ys ≠ [] ↔ ∃ s ∈ xs, s ∈ ys := by
  constructor
  · intro h
    cases hq : interL xs ys with
    | nil => exact absurd hq h
    | cons s t =>
      have h1 : s ∈ interL xs ys := by rw [hq]; simp
      unfold interL at h1
      rw [mem_ofL, List.mem_filter] at h1
      exact ⟨s, h1.1, of_decide_eq_true h1.2⟩
  · rintro ⟨s, h1, h2⟩ h3
    have : s ∈ interL xs ys := by unfold interL; rw [mem_ofL, List.mem_filter]; exact ⟨h1, decide_eq_true h2⟩
    rw [h3] at this; cases this
theorem errAt_zero {h : List Opn} {k : Nat} (hk : k < h.length) : errAt h k = 0 ↔ formB h[k] = true ∧ (∀ y ∈ h.take k, cliO y = cliO h[k] → precB y h[k] = true) ∧ ∀ y ∈ h.take k, ∀ s ∈ addO h[k], s ∉ addO y := by
  rw [errAt_eq (List.getElem?_eq_getElem hk)]
  constructor
  · intro h0
    by_cases h1 : formB h[k] = false
    · rw [if_pos h1] at h0; exact absurd h0 (by decide)
    · rw [if_neg h1] at h0
      by_cases h2 : ∃ y ∈ h.take k, cliO y = cliO h[k] ∧ precB y h[k] = false
      · rw [if_pos h2] at h0; exact absurd h0 (by decide)
      · rw [if_neg h2] at h0
        by_cases h3 : ∃ s ∈ addO h[k], s ∈ addedL h k
        · rw [if_pos h3] at h0; exact absurd h0 (by decide)
        · refine ⟨by simpa using h1, fun y hy hc => ?_, fun y hy s hs hsy => h3 ⟨s, hs, ?_⟩⟩
          · cases hp : precB y h[k] with
            | true => rfl
            | false => exact absurd ⟨y, hy, hc, hp⟩ h2
          · unfold addedL; exact List.mem_flatMap.2 ⟨y, hy, hsy⟩
  · rintro ⟨h1, h2, h3⟩
    rw [if_neg (by rw [h1]; simp), if_neg, if_neg]
    · rintro ⟨s, hs, h4⟩
      unfold addedL at h4
      obtain ⟨y, hy, hsy⟩ := List.mem_flatMap.1 h4
      exact h3 y hy s hs hsy
    · rintro ⟨y, hy, hc, hp⟩
      rw [h2 y hy hc] at hp; cases hp
theorem pairwise_take {α : Type} {R : α → α → Prop} {l : List α} : l.Pairwise R ↔ ∀ k (hk : k < l.length), ∀ y ∈ l.take k, R y l[k] := by
  rw [List.pairwise_iff_getElem]
  constructor
  · intro h k hk y hy
    obtain ⟨j, hj, rfl⟩ := List.mem_take_iff_getElem.1 hy
    exact h j k (by omega) hk (by omega)
  · intro h i j hi hj hij
    exact h j hj _ (List.mem_take_iff_getElem.2 ⟨i, by omega, rfl⟩)
theorem chk_zero {h : List Opn} (h0 : (chkL h).2 = 0) : ∀ j, j < h.length → errAt h j = 0 := by
  have aux : ∀ n, n ≤ h.length → ∀ j, j < n → errAt h j = 0 := by
    intro n
    induction n with
    | zero => intro _ j hj; omega
    | succ n ih =>
      intro hn j hj
      have ih' := ih (by omega)
      rcases Nat.lt_or_ge j n with h1 | h1
      · exact ih' j h1
      · have : j = n := by omega
        subst this
        cases Classical.em (errAt h j = 0) with
        | inl h2 => exact h2
        | inr h2 => rw [chk_at (by omega) ih' h2] at h0; exact h0
  exact aux _ (Nat.le_refl _)
theorem chk_well {h : List Opn} : (chkL h).2 = 0 ↔ Well h := by
  constructor
  · intro h0
    have h1 := chk_zero h0
    refine ⟨fun x hx => ?_, pairwise_take.2 fun k hk y hy hc => ((errAt_zero hk).1 (h1 k hk)).2.1 y hy hc, pairwise_take.2 fun k hk y hy => ((errAt_zero hk).1 (h1 k hk)).2.2 y hy⟩
    obtain ⟨k, hk, rfl⟩ := List.getElem_of_mem hx
    exact ((errAt_zero hk).1 (h1 k hk)).1
  · rintro ⟨h1, h2, h3⟩
    rw [chk_ok fun j hj => (errAt_zero hj).2 ⟨h1 _ (List.getElem_mem hj), pairwise_take.1 h2 j hj, pairwise_take.1 h3 j hj⟩]
theorem chk_pair {h : List Opn} (h0 : (chkL h).2 = 0) : chkL h = (0, 0) := chk_ok (chk_zero h0)
/-- Projections. -/
theorem idxL_filter (P : Opn → Bool) (h : List Opn) : (idxL P h h.length).filterMap (fun i => h[i.toNat]?) = h.filter P := by
  have aux : ∀ k, k ≤ h.length → (idxL P h k).filterMap (fun i => h[i.toNat]?) = (h.take k).filter P := by
    intro k
    induction k with
    | zero => intro _; simp [idxL]
    | succ k ih =>
      intro hk
      have hlt : k < h.length := by omega
      rw [List.take_succ_eq_append_getElem hlt, List.filter_append, ← ih (by omega)]
      unfold idxL
      rw [List.range_succ, List.filter_append, List.map_append, List.filterMap_append]
      congr 1
      by_cases hp : P h[k] = true
      · simp [hlt, hp]
      · simp [hlt, hp]
  simpa using aux h.length (Nat.le_refl _)
theorem mine_pairs {h : List Opn} {c : Int} (hw : Well h) : (h.filter (mineB c)).Pairwise (fun y x => precB y x = true) := by
  have h1 := hw.2.1.filter (mineB c)
  refine List.Pairwise.imp_of_mem ?_ h1
  intro a b ha hb hab
  have e1 : cliO a = c := of_decide_eq_true (List.mem_filter.1 ha).2
  have e2 : cliO b = c := of_decide_eq_true (List.mem_filter.1 hb).2
  exact hab (by rw [e1, e2])
theorem mine_seq {h : List Opn} {c : Int} (hw : Well h) : seqB (h.filter (mineB c)) = true := by
  refine @decide_eq_true _ (Classical.propDecidable _) ?_
  intro i j hi hj
  right
  unfold precAt
  rw [List.getElem?_eq_getElem hi, List.getElem?_eq_getElem (show j < _ by omega)]
  exact List.pairwise_iff_getElem.1 (mine_pairs hw) j i (by omega) hi hj
theorem mine_last {h : List Opn} {c : Int} (hw : Well h) {i : Nat} (hi : i + 1 < (h.filter (mineB c)).length) : ¬ endO (h.filter (mineB c))[i] = -1 := by
  have := List.pairwise_iff_getElem.1 (mine_pairs (c := c) hw) i (i + 1) (by omega) hi (by omega)
  exact (of_decide_eq_true this).1
/-- Cuts. -/
theorem cutO_beg (t : Int) (o : Opn) : begO (cutO t o) = begO o := by unfold cutO; split <;> rfl
theorem cutO_cli (t : Int) (o : Opn) : cliO (cutO t o) = cliO o := by unfold cutO; split <;> rfl
theorem cutO_add (t : Int) (o : Opn) : addO (cutO t o) = addO o := by unfold cutO; split <;> rfl
theorem form_of {o : Opn} (h : formB o = true) : 0 ≤ cliO o ∧ 0 ≤ begO o ∧ (endO o = -1 ∨ begO o < endO o) ∧ incB (addO o) = true ∧ incB (seeO o) = true ∧
  ((kindO o = 1 ∧ addO o ≠ [] ∧ seeO o = []) ∨ (kindO o = 2 ∧ addO o = [] ∧ (¬ endO o = -1 ∨ seeO o = []))) := of_decide_eq_true h
theorem prec_of {x y : Opn} (h : precB x y = true) : ¬ endO x = -1 ∧ endO x < begO y := of_decide_eq_true h
theorem well_cut {h : List Opn} (hw : Well h) (t : Int) : Well (cutL h t) := by
  unfold cutL
  refine ⟨fun x hx => ?_, ?_, ?_⟩
  · obtain ⟨o, ho, rfl⟩ := List.mem_map.1 hx
    have hf := hw.1 o (List.mem_filter.1 ho).1
    unfold cutO
    split
    · have h1 := form_of hf
      refine decide_eq_true ⟨h1.1, h1.2.1, .inl rfl, h1.2.2.2.1, by simp [incB, seeO], ?_⟩
      rcases h1.2.2.2.2.2 with h2 | h2
      · exact .inl ⟨h2.1, h2.2.1, rfl⟩
      · exact .inr ⟨h2.1, h2.2.1, .inr rfl⟩
    · exact hf
  · rw [List.pairwise_map]
    refine List.Pairwise.imp_of_mem ?_ (hw.2.1.filter _)
    intro a b ha hb hab hc
    rw [cutO_cli, cutO_cli] at hc
    have h1 := prec_of (hab hc)
    have h2 : ¬ t < begO b := by simpa using (List.mem_filter.1 hb).2
    refine decide_eq_true ?_
    rw [cutO_beg]
    unfold cutO
    rw [if_neg (by omega)]
    exact h1
  · rw [List.pairwise_map]
    refine (hw.2.2.filter _).imp ?_
    intro a b hab s hs
    rw [cutO_add] at hs ⊢
    exact hab s hs
theorem cut_cut (h : List Opn) (s t : Int) : cutL (cutL h s) t = cutL h (min s t) := by
  unfold cutL
  rw [List.filter_map, List.map_map, List.filter_filter]
  have e1 : h.filter (fun a => ((fun o => !decide (t < begO o)) ∘ cutO s) a && !decide (s < begO a)) = h.filter fun o => !decide (min s t < begO o) := by
    refine List.filter_congr fun o _ => ?_
    simp only [Function.comp_apply, cutO_beg]
    rw [Bool.eq_iff_iff]
    simp only [Bool.and_eq_true, Bool.not_eq_true', decide_eq_false_iff_not]
    omega
  rw [e1]
  refine List.map_congr_left fun o ho => ?_
  simp only [Function.comp_apply]
  unfold cutO
  by_cases h1 : s < endO o
  · rw [if_pos h1, if_pos (show min s t < endO o by omega)]
    by_cases h2 : t < endO (cliO o, kindO o, begO o, -1, addO o, [])
    · rw [if_pos h2]; rfl
    · rw [if_neg h2]
  · rw [if_neg h1]
    by_cases h2 : t < endO o
    · rw [if_pos h2, if_pos (by omega)]
    · rw [if_neg h2, if_neg (by omega)]
/-- Completions. -/
theorem comp_mem {S : List Str} {last : Int} {h : List Opn} {x : Opn} (hx : x ∈ compL S last h) : ∃ o ∈ h, compO S last o = some x := List.mem_filterMap.1 hx
theorem compO_cases {S : List Str} {last : Int} {o x : Opn} (h : compO S last o = some x) : (endO o = -1 ∧ anyIn (addO o) S = true ∧ x = (cliO o, kindO o, begO o, last, addO o, seeO o)) ∨ (¬ endO o = -1 ∧ x = o) := by
  unfold compO at h
  split at h
  · rename_i h1
    split at h
    · rename_i h2; injection h with h; exact .inl ⟨h1, h2, h.symm⟩
    · cases h
  · rename_i h1; injection h with h; exact .inr ⟨h1, h.symm⟩
theorem compO_keep {S : List Str} {last : Int} {o x : Opn} (h : compO S last o = some x) : cliO x = cliO o ∧ begO x = begO o ∧ addO x = addO o ∧ kindO x = kindO o ∧ seeO x = seeO o := by
  rcases compO_cases h with ⟨_, _, rfl⟩ | ⟨_, rfl⟩ <;> exact ⟨rfl, rfl, rfl, rfl, rfl⟩
theorem compErr_ok {h : List Opn} {last : Int} (h0 : compErr h last = 0) : Well h ∧ ∀ o ∈ h, begO o < last ∧ endO o < last := by
  unfold compErr at h0
  split at h0
  · rename_i h1
    split at h0
    · cases h0
    · rename_i h2
      refine ⟨chk_well.1 h1, fun o ho => ?_⟩
      have : ¬ (last ≤ begO o ∨ last ≤ endO o) := fun h3 => h2 ⟨o, ho, decide_eq_true h3⟩
      omega
  · cases h0
theorem comp_end {h : List Opn} {last : Int} (h0 : compErr h last = 0) {S : List Str} {x : Opn} (hx : x ∈ compL S last h) : ¬ endO x = -1 ∧ begO x < last ∧ endO x ≤ last := by
  obtain ⟨hw, hl⟩ := compErr_ok h0
  obtain ⟨o, ho, hc⟩ := comp_mem hx
  have h1 := hl o ho
  have h2 := (form_of (hw.1 o ho)).2.1
  rcases compO_cases hc with ⟨_, _, rfl⟩ | ⟨h3, rfl⟩
  · refine ⟨?_, h1.1, Int.le_refl _⟩
    show ¬ last = -1
    omega
  · exact ⟨h3, h1.1, by omega⟩
theorem well_comp {h : List Opn} {last : Int} (h0 : compErr h last = 0) (S : List Str) : Well (compL S last h) := by
  obtain ⟨hw, hl⟩ := compErr_ok h0
  unfold compL
  refine ⟨fun x hx => ?_, ?_, ?_⟩
  · obtain ⟨o, ho, hc⟩ := comp_mem hx
    have hf := hw.1 o ho
    rcases compO_cases hc with ⟨h1, h2, rfl⟩ | ⟨_, rfl⟩
    · have h3 := form_of hf
      refine decide_eq_true ⟨h3.1, h3.2.1, .inr (hl o ho).1, h3.2.2.2.1, h3.2.2.2.2.1, ?_⟩
      rcases h3.2.2.2.2.2 with h4 | h4
      · exact .inl h4
      · rw [h4.2.1] at h2
        exact absurd (of_decide_eq_true h2) (by simp)
    · exact hf
  · rw [List.pairwise_filterMap]
    refine hw.2.1.imp ?_
    intro a b hab x hx y hy hc
    have k1 := compO_keep hx
    have k2 := compO_keep hy
    have h1 := prec_of (hab (by rw [← k1.1, ← k2.1]; exact hc))
    refine decide_eq_true ?_
    rw [k2.2.1]
    rcases compO_cases hx with ⟨h2, _, _⟩ | ⟨_, rfl⟩
    · exact absurd h2 h1.1
    · exact h1
  · rw [List.pairwise_filterMap]
    refine hw.2.2.imp ?_
    intro a b hab x hx y hy s hs
    rw [(compO_keep hx).2.2.1]
    rw [(compO_keep hy).2.2.1] at hs
    exact hab s hs
theorem comp_again {h : List Opn} {S : List Str} {last : Int} (hn : ∀ x ∈ h, ¬ endO x = -1) : compL S last h = h := by
  unfold compL
  have : ∀ x ∈ h, compO S last x = some x := fun x hx => by unfold compO; rw [if_neg (hn x hx)]
  clear hn
  induction h with
  | nil => rfl
  | cons a r ih => rw [List.filterMap_cons, this a (by simp)]; simp only []; rw [ih fun x hx => this x (by simp [hx])]
theorem compErr_again {h : List Opn} {last M : Int} (h0 : compErr h last = 0) (hM : last < M) (S : List Str) : compErr (compL S last h) M = 0 := by
  unfold compErr
  rw [if_pos (chk_well.2 (well_comp h0 S)), if_neg]
  rintro ⟨o, ho, hl⟩
  have h1 := comp_end h0 ho
  have h2 : M ≤ begO o ∨ M ≤ endO o := of_decide_eq_true hl
  omega
theorem pend_none {h : List Opn} (hn : ∀ x ∈ h, ¬ endO x = -1) : idxL pendB h h.length = [] := by
  unfold idxL
  rw [List.map_eq_nil_iff, List.filter_eq_nil_iff]
  intro i hi
  rw [List.mem_range] at hi
  rw [List.getElem?_eq_getElem hi]
  simp [pendB, hn _ (List.getElem_mem hi)]
theorem pend_none' {h : List Opn} (hp : idxL pendB h h.length = []) : ∀ x ∈ h, ¬ endO x = -1 := by
  intro x hx he
  obtain ⟨k, hk, rfl⟩ := List.getElem_of_mem hx
  unfold idxL at hp
  rw [List.map_eq_nil_iff, List.filter_eq_nil_iff] at hp
  have := hp k (List.mem_range.2 hk)
  rw [List.getElem?_eq_getElem hk] at this
  simp [pendB, he] at this
/-- Orders: what a legal order has, what does not matter. -/
theorem leg_ind : ∀ {h : List Opn} {r U : List Int} {S : List Str}, legFrom h r U S = true → (∀ i ∈ r, 0 ≤ i ∧ i < h.length ∧ i ∉ U) ∧ r.Nodup
  | h, [], U, S, _ => ⟨fun i hi => (by cases hi), List.nodup_nil⟩
  | h, i :: r, U, S, hl => by
    by_cases hb : i < 0 ∨ (h.length : Int) ≤ i ∨ i ∈ U
    · rw [legFrom_bad hb] at hl; cases hl
    · have hi : i.toNat < h.length := by omega
      have ih : ∀ S', legFrom h r (U ++ [i]) S' = true → (∀ k ∈ i :: r, 0 ≤ k ∧ k < h.length ∧ k ∉ U) ∧ (i :: r).Nodup := fun S' hq => by
        obtain ⟨h1, h2⟩ := leg_ind hq
        refine ⟨fun k hk => ?_, List.nodup_cons.2 ⟨fun hm => (h1 i hm).2.2 (by simp), h2⟩⟩
        rcases List.mem_cons.1 hk with rfl | hk
        · exact ⟨by omega, by omega, fun hu => hb (.inr (.inr hu))⟩
        · have := h1 k hk
          exact ⟨this.1, this.2.1, fun hu => this.2.2 (by simp [hu])⟩
      unfold legFrom at hl
      rw [List.getElem?_eq_getElem hi] at hl
      simp only [] at hl
      rw [if_neg (fun e => hb (e.elim .inl fun m => .inr (.inr m)))] at hl
      split at hl
      · exact ih _ hl
      · split at hl
        · rw [Bool.and_eq_true] at hl; exact ih _ hl.2
        · exact ih _ hl
theorem exact_congr {S S' xs : List Str} (h : ∀ s, s ∈ S ↔ s ∈ S') : exactB S xs = exactB S' xs := by
  unfold exactB
  have e : (uniq S).length = (uniq S').length := uniq_len (uniq_nodup S') fun x => by rw [uniq_mem]; exact (h x).symm
  rw [e]
  congr 1
  rw [decide_eq_decide]
  exact ⟨fun a s hs => (h s).1 (a s hs), fun a s hs => (h s).2 (a s hs)⟩
theorem leg_congr : ∀ {h : List Opn} {r U U' : List Int} {S S' : List Str}, (∀ i, i ∈ U ↔ i ∈ U') → (∀ s, s ∈ S ↔ s ∈ S') → legFrom h r U S = legFrom h r U' S'
  | h, [], U, U', S, S', _, _ => rfl
  | h, i :: r, U, U', S, S', hU, hS => by
    unfold legFrom
    have e2 : ∀ k, k ∈ U ++ [i] ↔ k ∈ U' ++ [i] := fun k => by simp [hU k]
    cases h[i.toNat]? with
    | none => rfl
    | some x =>
      simp only []
      rw [leg_congr (S := S ++ addO x) (S' := S' ++ addO x) e2 (fun s => by simp [hS s]), leg_congr (S := S) (S' := S') e2 hS, exact_congr hS]
      simp only [hU i]
theorem leg_pre : ∀ {h : List Opn} {p r r' : List Int}, (∀ U S, legFrom h r U S = true → legFrom h r' U S = true) → ∀ U S, legFrom h (p ++ r) U S = true → legFrom h (p ++ r') U S = true
  | h, [], r, r', hq => hq
  | h, i :: p, r, r', hq => fun U S hl => by
    rw [List.cons_append] at hl ⊢
    unfold legFrom at hl ⊢
    cases hx : h[i.toNat]? with
    | none => rw [hx] at hl; cases hl
    | some x =>
      rw [hx] at hl
      simp only [] at hl ⊢
      split at hl
      · cases hl
      · rename_i h1
        rw [if_neg h1]
        split at hl
        · rename_i h2; rw [if_pos h2]; exact leg_pre hq _ _ hl
        · rename_i h2
          rw [if_neg h2]
          split at hl
          · rename_i h3; rw [if_pos h3]; rw [Bool.and_eq_true] at hl ⊢; exact ⟨hl.1, leg_pre hq _ _ hl.2⟩
          · rename_i h3; rw [if_neg h3]; exact leg_pre hq _ _ hl
theorem leg_two {h : List Opn} {i j : Int} {x y : Opn} (hi : h[i.toNat]? = some x) (hj : h[j.toNat]? = some y) (hk : kindO x = kindO y) (r U : List Int) (S : List Str) (hl : legFrom h (i :: j :: r) U S = true) : legFrom h (j :: i :: r) U S = true := by
  obtain ⟨h1, h2⟩ := leg_ind hl
  have hij : ¬ i = j := fun e => (List.nodup_cons.1 h2).1 (by simp [e])
  have hi1 := h1 i (by simp)
  have hj1 := h1 j (by simp)
  have n1 : ¬ (i < 0 ∨ i ∈ U) := fun e => e.elim (by omega) hi1.2.2
  have n2 : ¬ (j < 0 ∨ j ∈ U) := fun e => e.elim (by omega) hj1.2.2
  have n3 : ¬ (j < 0 ∨ j ∈ U ++ [i]) := fun e => e.elim (by omega) fun m => by rcases List.mem_append.1 m with m | m; exact hj1.2.2 m; exact hij (List.mem_singleton.1 m).symm
  have n4 : ¬ (i < 0 ∨ i ∈ U ++ [j]) := fun e => e.elim (by omega) fun m => by rcases List.mem_append.1 m with m | m; exact hi1.2.2 m; exact hij (List.mem_singleton.1 m)
  have eU : ∀ k, k ∈ U ++ [j] ++ [i] ↔ k ∈ U ++ [i] ++ [j] := fun k => by simp only [List.mem_append, List.mem_singleton]; constructor <;> (intro a; rcases a with (a | a) | a <;> simp [a])
  simp only [legFrom, hi, hj, if_neg n1, if_neg n2, if_neg n3, if_neg n4] at hl ⊢
  rw [← hk]
  rw [← hk] at hl
  by_cases k1 : kindO x = 1
  · rw [if_pos k1, if_pos k1] at hl ⊢
    rw [leg_congr eU (S' := S ++ addO x ++ addO y) (fun s => by simp only [List.mem_append]; constructor <;> (intro a; rcases a with (a | a) | a <;> simp [a]))]
    exact hl
  · rw [if_neg k1, if_neg k1] at hl ⊢
    by_cases k2 : kindO x = 2
    · rw [if_pos k2, if_pos k2] at hl ⊢
      rw [leg_congr eU (S' := S) (fun s => Iff.rfl)]
      simp only [Bool.and_eq_true] at hl ⊢
      exact ⟨hl.2.1, hl.1, hl.2.2⟩
    · rw [if_neg k2, if_neg k2] at hl ⊢
      rw [leg_congr eU (S' := S) (fun s => Iff.rfl)]
      exact hl
theorem split_two {α : Type} {l : List α} {k : Nat} (hk : k + 1 < l.length) : l = l.take k ++ l[k] :: l[k+1] :: l.drop (k + 2) := by
  have h1 : l.drop k = l[k] :: l.drop (k + 1) := List.drop_eq_getElem_cons (by omega)
  have h2 : l.drop (k + 1) = l[k+1] :: l.drop (k + 2) := List.drop_eq_getElem_cons hk
  rw [← h2, ← h1, List.take_append_drop]
theorem set_two {α : Type} {l : List α} {k : Nat} (hk : k + 1 < l.length) (a b : α) : (l.set k a).set (k + 1) b = l.take k ++ a :: b :: l.drop (k + 2) := by
  apply List.ext_getElem?
  intro j
  rw [List.getElem?_set, List.length_set, List.getElem?_set]
  rcases Nat.lt_or_ge j k with h1 | h1
  · rw [if_neg (by omega), if_neg (by omega), List.getElem?_append_left (by simp; omega), List.getElem?_take, if_pos h1]
  · rw [List.getElem?_append_right (by simp; omega), List.length_take, Nat.min_eq_left (by omega)]
    by_cases h2 : j = k
    · subst h2
      rw [if_neg (by omega), if_pos rfl, if_pos (by omega), Nat.sub_self]; rfl
    · by_cases h3 : j = k + 1
      · subst h3
        rw [if_pos rfl, if_pos hk, show k + 1 - k = 1 by omega]; rfl
      · rw [if_neg (by omega), if_neg (by omega)]
        obtain ⟨m, rfl⟩ : ∃ m, j = k + 2 + m := ⟨j - k - 2, by omega⟩
        rw [show k + 2 + m - k = m + 2 by omega, List.getElem?_cons_succ, List.getElem?_cons_succ, List.getElem?_drop]
/-- Two neighbours of one kind change places. -/
theorem legal_swap {h : List Opn} {order : List Int} {k : Nat} (hk : k + 1 < order.length) {x y : Opn} (hx : h[order[k].toNat]? = some x) (hy : h[order[k+1].toNat]? = some y) (he : kindO x = kindO y) (hl : legB h order = true) :
    legB h ((order.set k order[k+1]).set (k + 1) order[k]) = true := by
  rw [set_two hk]
  unfold legB at hl ⊢
  have h1 := leg_pre (p := order.take k) (leg_two hx hy he (order.drop (k + 2))) [] []
  rw [← split_two hk] at h1
  exact h1 hl
theorem exact_same (S xs : List Str) : decide (ofL S = ofL xs) = exactB S xs := by
  unfold exactB
  have nd : ∀ ys : List Str, (ofL ys).Nodup := fun ys => List.Pairwise.imp (fun {a b} (hlt : a < b) (e : a = b) => slt_irrefl b (by rw [e] at hlt; exact hlt)) (ofL_sorted ys)
  have e1 : (uniq S).length = (ofL S).length := uniq_len (nd S) fun s => mem_ofL S s
  rw [e1, ← Bool.decide_and, decide_eq_decide]
  constructor
  · intro e
    exact ⟨fun s hs => by rw [← mem_ofL, e, mem_ofL]; exact hs, by rw [e]⟩
  · rintro ⟨h1, h2⟩
    refine sorted_unique _ _ (ofL_sorted S) (ofL_sorted xs) fun s => ⟨fun hs => ?_, fun hs => by rw [mem_ofL] at hs ⊢; exact h1 s hs⟩
    apply Classical.byContradiction
    intro hn
    have h3 := nodup_le (b := s :: ofL xs) (L := ofL S) (List.nodup_cons.2 ⟨hn, nd xs⟩) (fun x hx => by
      rcases List.mem_cons.1 hx with rfl | hx
      · exact hs
      · rw [mem_ofL] at hx ⊢; exact h1 x hx)
    simp at h3
    omega
/-- The pairs in precedence, before and behind one of them. -/
theorem rowL_at {h : List Opn} {i k m : Nat} (hk : k < m) (hp : precAt h i k = true) : ∃ t, rowL h i m = rowL h i k ++ (i, k) :: t := by
  obtain ⟨q, rfl⟩ : ∃ q, m = k + (q + 1) := ⟨m - k - 1, by omega⟩
  unfold rowL
  rw [List.range_add, List.filter_append, List.map_append, List.range_succ_eq_map, List.map_cons, List.filter_cons, if_pos (by simpa using hp)]
  exact ⟨_, rfl⟩
theorem ordL_at {h : List Opn} {i k : Nat} (hi : i < h.length) (hk : k < h.length) (hp : precAt h i k = true) : ∃ t, ordL h h.length = (ordL h i ++ rowL h i k) ++ (i, k) :: t := by
  obtain ⟨q, hq⟩ : ∃ q, h.length = i + (q + 1) := ⟨h.length - i - 1, by omega⟩
  obtain ⟨t, ht⟩ := rowL_at hk hp
  have : ordL h h.length = ordL h i ++ (rowL h i h.length ++ (((List.range q).map Nat.succ).map (i + ·)).flatMap fun i => rowL h i h.length) := by
    conv => lhs; unfold ordL; rw [show List.range h.length = List.range (i + (q + 1)) by rw [hq]]
    rw [List.range_add, List.flatMap_append, List.range_succ_eq_map, List.map_cons, List.flatMap_cons]
    rfl
  rw [this, ht]
  exact ⟨t ++ (((List.range q).map Nat.succ).map (i + ·)).flatMap fun i => rowL h i h.length, by simp [List.append_assoc]⟩
/-- Any two of the operations before (i, k) are in it one way. -/
def sqP (h : List Opn) (i k : Nat) : Prop := ∀ a b, (a < i ∨ (a = i ∧ b < k)) → a < h.length → b < h.length → a = b ∨ precAt h a b = true ∨ precAt h b a = true
theorem sqP_step {h : List Opn} {i k : Nat} (hi : i < h.length) (hk : k < h.length) : sqP h i (k + 1) ↔ sqP h i k ∧ (i = k ∨ precAt h i k = true ∨ precAt h k i = true) := by
  constructor
  · intro hq
    exact ⟨fun a b hab ha hb => hq a b (by omega) ha hb, hq i k (by omega) hi hk⟩
  · rintro ⟨h1, h2⟩ a b hab ha hb
    by_cases h3 : a = i ∧ b = k
    · rw [h3.1, h3.2]; exact h2
    · exact h1 a b (by omega) ha hb
theorem sqP_row {h : List Opn} {i k : Nat} (hk : h.length ≤ k) : sqP h (i + 1) 0 ↔ sqP h i k :=
  ⟨fun hq a b hab ha hb => hq a b (by omega) ha hb, fun hq a b hab ha hb => hq a b (by omega) ha hb⟩
theorem sqP_zero (h : List Opn) : sqP h 0 0 := fun a b hab _ => by omega
theorem sqP_all {h : List Opn} {i : Nat} (hi : h.length ≤ i) : seqP h ↔ sqP h i 0 := by
  constructor
  · intro hs a b _ ha hb
    rcases Nat.lt_trichotomy a b with h1 | h1 | h1
    · rcases hs b a hb h1 with h2 | h2
      · exact .inr (.inr h2)
      · exact .inr (.inl h2)
    · exact .inl h1
    · exact .inr (hs a b ha h1)
  · intro hq a b ha hb
    rcases hq a b (by omega) (by omega) (by omega) with h1 | h1
    · omega
    · exact h1
/-- The end of operation number i. -/
def endAt (h : List Opn) (i : Int) : Int := match h[i.toNat]? with | some o => endO o | none => 0
/-- Sorted by the end but for place k. -/
def srtP (h : List Opn) (by_ : List Int) (k : Nat) : Prop := ∀ a b (ha : a < by_.length) (hb : b < by_.length), a < b → b ≠ k → endAt h by_[a] ≤ endAt h by_[b]
def srtA (h : List Opn) (by_ : List Int) : Prop := ∀ a b (ha : a < by_.length) (hb : b < by_.length), a < b → endAt h by_[a] ≤ endAt h by_[b]
theorem srt_start {h : List Opn} {l : List Int} (hs : srtA h l) (x : Int) : srtP h (l ++ [x]) l.length := by
  intro a b ha hb hab hne
  have hb' : b < l.length := by simp at hb; omega
  rw [List.getElem_append_left (by omega), List.getElem_append_left hb']
  exact hs a b (by omega) hb' hab
def swp (l : List Int) (k : Nat) : List Int := match l[k]?, l[k-1]? with | some x, some y => (l.set k y).set (k - 1) x | _, _ => l
theorem swp_eq {l : List Int} {k : Nat} (hk : k < l.length) (h0 : 0 < k) : swp l k = (l.set k l[k-1]).set (k - 1) l[k] := by
  unfold swp
  rw [List.getElem?_eq_getElem hk, List.getElem?_eq_getElem (show k - 1 < l.length by omega)]
theorem swp_len (l : List Int) (k : Nat) : (swp l k).length = l.length := by unfold swp; split <;> simp
theorem swp_get {l : List Int} {k : Nat} (hk : k < l.length) (h0 : 0 < k) (j : Nat) (hj : j < (swp l k).length) : (swp l k)[j] = if j = k then l[k-1] else if j = k - 1 then l[k] else l[j]'(by rw [swp_len] at hj; exact hj) := by
  simp only [swp_eq hk h0]
  rw [List.getElem_set, List.getElem_set]
  by_cases h1 : j = k
  · subst h1; rw [if_neg (by omega), if_pos rfl, if_pos rfl]
  · rw [if_neg h1]
    by_cases h2 : j = k - 1
    · subst h2; rw [if_pos rfl, if_pos rfl]
    · rw [if_neg (by omega), if_neg h2, if_neg (by omega)]
theorem swp_perm {l : List Int} {k : Nat} (hk : k < l.length) (h0 : 0 < k) : (swp l k).Perm l := by
  obtain ⟨m, rfl⟩ : ∃ m, k = m + 1 := ⟨k - 1, by omega⟩
  have e : swp l (m + 1) = (l.set m l[m+1]).set (m + 1) l[m] := by
    rw [swp_eq hk h0]
    simp only [Nat.add_sub_cancel]
    rw [List.set_comm _ _ (by omega)]
  rw [e, set_two hk]
  conv => rhs; rw [split_two hk]
  exact (List.Perm.swap _ _ _).append_left _
theorem srt_step {h : List Opn} {l : List Int} {k : Nat} (hk : k < l.length) (h0 : 0 < k) (hs : srtP h l k) (hlt : endAt h l[k] < endAt h l[k-1]) : srtP h (swp l k) (k - 1) := by
  intro a b ha hb hab hne
  have ha' : a < l.length := by rw [swp_len] at ha; exact ha
  have hb' : b < l.length := by rw [swp_len] at hb; exact hb
  rw [swp_get hk h0 a ha, swp_get hk h0 b hb]
  by_cases h1 : b = k
  · subst h1
    rw [if_pos rfl, if_neg (by omega)]
    by_cases h2 : a = b - 1
    · rw [if_pos h2]; omega
    · rw [if_neg h2]; exact hs a (b - 1) ha' (by omega) (by omega) (by omega)
  · rw [if_neg h1, if_neg hne]
    by_cases h2 : a = k
    · rw [if_pos h2]; exact hs (k - 1) b (by omega) hb' (by omega) h1
    · rw [if_neg h2]
      by_cases h3 : a = k - 1
      · rw [if_pos h3]; exact hs k b hk hb' (by omega) h1
      · rw [if_neg h3]; exact hs a b ha' hb' hab h1
theorem srt_end {h : List Opn} {l : List Int} {k : Nat} (hs : srtP h l k) (hk : k < l.length) (hd : k = 0 ∨ endAt h l[k-1] ≤ endAt h l[k]) : srtA h l := by
  intro a b ha hb hab
  by_cases h1 : b = k
  · subst h1
    rcases hd with h2 | h2
    · omega
    · by_cases h3 : a = b - 1
      · subst h3; exact h2
      · exact Int.le_trans (hs a (b - 1) ha (by omega) (by omega) (by omega)) h2
  · exact hs a b ha hb hab h1
end Go.Proofs.Ytnpfalloelmflaa
