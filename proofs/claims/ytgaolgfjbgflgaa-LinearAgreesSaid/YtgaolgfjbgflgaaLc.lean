/-
  Chapter 56, plain: the enumeration of the reference, and that it has as many lists as a set has continuations.
-/
import Derived.Test.YtgaolgfjbgflgaaLa
namespace Go.Proofs.Ytgaolgfjbgflgaa

theorem sle_total (a b : Str) : (decide (a ≤ b) || decide (b ≤ a)) = true := by
  rcases slt_tri a b with h | h | h
  · rw [decide_eq_true (show a ≤ b from fun h2 => slt_asymm h h2)]; rfl
  · subst h; rw [decide_eq_true (show a ≤ a from fun h2 => slt_irrefl a h2)]; rfl
  · rw [decide_eq_true (show b ≤ a from fun h2 => slt_asymm h h2), Bool.or_true]
theorem sle_trans {a b c : Str} (h1 : a ≤ b) (h2 : b ≤ c) : a ≤ c := by
  intro h3
  rcases slt_tri a b with h | h | h
  · exact h2 (slt_trans h3 h)
  · subst h; exact h2 h3
  · exact h1 h
theorem sle_lt {a b : Str} (h : a ≤ b) (hn : ¬ a = b) : a < b := by
  rcases slt_tri a b with h1 | h1 | h1
  · exact h1
  · exact absurd h1 hn
  · exact absurd h1 h
theorem sortS_perm (xs : List Str) : (sortS xs).Perm xs := List.mergeSort_perm _ _
theorem sortS_sorted (xs : List Str) : (sortS xs).Pairwise (· ≤ ·) := by
  have := List.pairwise_mergeSort (le := fun x y : Str => decide (x ≤ y)) (fun a b c h1 h2 => decide_eq_true (sle_trans (of_decide_eq_true h1) (of_decide_eq_true h2))) (fun a b => sle_total a b) xs
  exact this.imp fun h => of_decide_eq_true h
theorem sortS_inc {xs : List Str} (hn : xs.Nodup) : (sortS xs).Pairwise (· < ·) := by
  have h1 := sortS_sorted xs
  have h2 : (sortS xs).Nodup := (sortS_perm xs).nodup_iff.2 hn
  unfold List.Nodup at h2
  exact (h1.and h2).imp fun ⟨a, b⟩ => sle_lt a b
theorem sortS_of {xs : List Str} (hn : xs.Nodup) : sortS xs = ofL xs :=
  sorted_unique _ _ (sortS_inc hn) (ofL_sorted xs) fun s => by rw [mem_ofL]; exact (sortS_perm xs).mem_iff
theorem inc_nodup {xs : List Str} (h : xs.Pairwise (· < ·)) : xs.Nodup := h.imp fun {a b} h1 (e : a = b) => slt_irrefl b (by rw [e] at h1; exact h1)
theorem adds_apart {h : List Opn} (hw : Well h) {i j : Nat} (hj : j < h.length) (hij : i < j) : ∀ s ∈ addO (nth h j), s ∉ addO (nth h i) := by
  rw [nth_eq hj, nth_eq (Nat.lt_trans hij hj)]
  exact List.pairwise_iff_getElem.1 hw.2.2 i j (Nat.lt_trans hij hj) hj hij
theorem adds_inc {h : List Opn} (hw : Well h) {i : Nat} (hi : i < h.length) : (addO (nth h i)).Pairwise (· < ·) := of_decide_eq_true (form_of (hw.1 _ (nth_mem hi))).2.2.2.1
theorem range_inc (n : Nat) : (List.range n).Pairwise (· < ·) := List.pairwise_lt_range
theorem sees_nodup {h : List Opn} (hw : Well h) (m : Nat) : (seesL h m).Nodup := by
  unfold seesL List.Nodup
  rw [List.pairwise_flatMap]
  constructor
  · intro i hi
    exact inc_nodup (adds_inc hw (List.mem_range.1 (List.mem_filter.1 hi).1))
  · have h1 : ((List.range h.length).filter fun i => m.testBit i).Pairwise (· < ·) := List.Pairwise.filter _ (range_inc _)
    refine List.Pairwise.imp_of_mem (fun {a b} ha hb hab => ?_) h1
    intro x hx y hy e
    subst e
    exact adds_apart hw (List.mem_range.1 (List.mem_filter.1 hb).1) hab x hy hx
theorem mem_sees {h : List Opn} {m : Nat} {s : Str} : s ∈ seesL h m ↔ ∃ i, i < h.length ∧ m.testBit i = true ∧ s ∈ addO (nth h i) := by
  unfold seesL
  rw [List.mem_flatMap]
  constructor
  · rintro ⟨i, hi, hs⟩
    exact ⟨i, List.mem_range.1 (List.mem_filter.1 hi).1, (List.mem_filter.1 hi).2, hs⟩
  · rintro ⟨i, hi, hb, hs⟩
    exact ⟨i, List.mem_filter.2 ⟨List.mem_range.2 hi, hb⟩, hs⟩

def maskL (l : List Nat) : Nat := l.foldl addM 0
theorem maskL_snoc (l : List Nat) (x : Nat) : maskL (l ++ [x]) = addM (maskL l) x := by unfold maskL; rw [List.foldl_append]; rfl
theorem maskL_bit (l : List Nat) (j : Nat) : (maskL l).testBit j = decide (j ∈ l) := by
  have : ∀ (l : List Nat) (m : Nat), (l.foldl addM m).testBit j = (m.testBit j || decide (j ∈ l)) := by
    intro l
    induction l with
    | nil => intro m; simp
    | cons a l ih =>
      intro m
      rw [List.foldl_cons, ih, addM_bit, Bool.or_assoc]
      congr 1
      by_cases e : a = j
      · subst e; simp
      · have e' : ¬ j = a := fun q => e q.symm
        simp [e, e']
  unfold maskL
  rw [this, Nat.zero_testBit, Bool.false_or]
def stateL (h : List Opn) (l : List Nat) : List Str := l.foldl (fun s i => ofL (s ++ addO (nth h i))) []
theorem stateL_snoc (h : List Opn) (l : List Nat) (x : Nat) : stateL h (l ++ [x]) = ofL (stateL h l ++ addO (nth h x)) := by unfold stateL; rw [List.foldl_append]; rfl
theorem stateL_ind {P : List Nat → Prop} (h0 : P []) (h1 : ∀ l x, P l → P (l ++ [x])) : ∀ l, P l := by
  intro l
  have : ∀ (k : Nat) (l : List Nat), l.length = k → P l := by
    intro k
    induction k with
    | zero => intro l hl; rw [List.length_eq_zero_iff.1 hl]; exact h0
    | succ k ih =>
      intro l hl
      have hne : l ≠ [] := by rintro rfl; simp at hl
      rw [← List.dropLast_concat_getLast hne]
      exact h1 _ _ (ih _ (by rw [List.length_dropLast]; omega))
  exact this _ l rfl
theorem mem_state {h : List Opn} {s : Str} : ∀ l : List Nat, s ∈ stateL h l ↔ ∃ i ∈ l, s ∈ addO (nth h i) := by
  refine stateL_ind (by simp [stateL]) fun l x ih => ?_
  rw [stateL_snoc, mem_ofL, List.mem_append, ih]
  constructor
  · rintro (⟨i, hi, hs⟩ | hs)
    · exact ⟨i, by simp [hi], hs⟩
    · exact ⟨x, by simp, hs⟩
  · rintro ⟨i, hi, hs⟩
    rcases List.mem_append.1 hi with h1 | h1
    · exact .inl ⟨i, h1, hs⟩
    · rw [List.mem_singleton.1 h1] at hs; exact .inr hs
theorem state_inc {h : List Opn} : ∀ l : List Nat, (stateL h l).Pairwise (· < ·) := by
  refine stateL_ind List.Pairwise.nil fun l x _ => ?_
  rw [stateL_snoc]; exact ofL_sorted _
theorem state_sees {h : List Opn} (hw : Well h) {l : List Nat} (hl : ∀ x ∈ l, x < h.length) : stateL h l = sortS (seesL h (maskL l)) := by
  refine sorted_unique _ _ (state_inc l) (sortS_inc (sees_nodup hw _)) fun s => ?_
  rw [mem_state, (sortS_perm _).mem_iff, mem_sees]
  constructor
  · rintro ⟨i, hi, hs⟩
    exact ⟨i, hl i hi, by rw [maskL_bit]; exact decide_eq_true hi, hs⟩
  · rintro ⟨i, _, hb, hs⟩
    rw [maskL_bit] at hb
    exact ⟨i, of_decide_eq_true hb, hs⟩

/-- The reference: whether a list can be extended by an operation, whether it is complete, all lists. -/
def afterB (h : List Opn) (l : List Nat) (x : Nat) : Bool := (List.range h.length).all fun y => !prI h y x || decide (y ∈ l)
def nextB (h : List Opn) (l : List Nat) (x : Nat) : Bool := !decide (x ∈ l) && !(decide (kindO (nth h x) = 2) && decide (endO (nth h x) = -1)) && afterB h l x && (!decide (kindO (nth h x) = 2) || decide (stateL h l = seeO (nth h x)))
def compB (h : List Opn) (l : List Nat) : Bool := (List.range h.length).all fun x => decide (endO (nth h x) = -1) || decide (x ∈ l)
def frm (h : List Opn) : Nat → List Nat → List (List Nat)
  | 0, _ => []
  | f + 1, l => (if compB h l = true then [l] else []) ++ (List.range h.length).flatMap fun x => if nextB h l x = true then frm h f (l ++ [x]) else []
theorem after_iff {h : List Opn} {l : List Nat} {x : Nat} : afterB h l x = true ↔ ∀ y, y < h.length → prI h y x = true → y ∈ l := by
  unfold afterB
  rw [List.all_eq_true]
  constructor
  · intro hd y hy hp
    have := hd y (List.mem_range.2 hy)
    rw [hp] at this
    simpa using this
  · intro hd y hy
    rw [List.mem_range] at hy
    cases hp : prI h y x with
    | false => rfl
    | true => rw [decide_eq_true (hd y hy hp)]; rfl
theorem next_iff {h : List Opn} {l : List Nat} {x : Nat} : nextB h l x = true ↔ x ∉ l ∧ ¬ (kindO (nth h x) = 2 ∧ endO (nth h x) = -1) ∧ (∀ y, y < h.length → prI h y x = true → y ∈ l) ∧ (kindO (nth h x) = 2 → stateL h l = seeO (nth h x)) := by
  unfold nextB
  rw [Bool.and_eq_true, Bool.and_eq_true, Bool.and_eq_true, after_iff, Bool.not_eq_true', decide_eq_false_iff_not, Bool.not_eq_true', Bool.and_eq_false_iff, decide_eq_false_iff_not, decide_eq_false_iff_not, Bool.or_eq_true, Bool.not_eq_true', decide_eq_false_iff_not, decide_eq_true_iff]
  constructor
  · rintro ⟨⟨⟨a, b⟩, c⟩, d⟩
    exact ⟨a, fun ⟨e, f⟩ => b.elim (fun q => q e) fun q => q f, c, fun e => d.elim (fun q => absurd e q) id⟩
  · rintro ⟨a, b, c, d⟩
    refine ⟨⟨⟨a, ?_⟩, c⟩, ?_⟩
    · by_cases e : kindO (nth h x) = 2
      · exact .inr fun f => b ⟨e, f⟩
      · exact .inl e
    · by_cases e : kindO (nth h x) = 2
      · exact .inr (d e)
      · exact .inl e
theorem comp_iff {h : List Opn} {l : List Nat} : compB h l = true ↔ ∀ x, x < h.length → ¬ endO (nth h x) = -1 → x ∈ l := by
  unfold compB
  rw [List.all_eq_true]
  constructor
  · intro hd x hx he
    have := hd x (List.mem_range.2 hx)
    rw [decide_eq_false he, Bool.false_or] at this
    exact of_decide_eq_true this
  · intro hd x hx
    rw [List.mem_range] at hx
    by_cases he : endO (nth h x) = -1
    · rw [decide_eq_true he]; rfl
    · rw [decide_eq_true (hd x hx he), Bool.or_true]
/-- What a beginning is: indices, none twice, with each what precedes it. -/
def Begins (h : List Opn) (l : List Nat) : Prop := (∀ x ∈ l, x < h.length) ∧ l.Nodup ∧ ∀ x ∈ l, ∀ y, y < h.length → prI h y x = true → y ∈ l
theorem Begins.nil (h : List Opn) : Begins h [] := ⟨(fun x hx => by cases hx), List.nodup_nil, fun x hx => by cases hx⟩
theorem Begins.snoc {h : List Opn} {l : List Nat} {x : Nat} (hb : Begins h l) (hx : x < h.length) (hn : nextB h l x = true) : Begins h (l ++ [x]) := by
  obtain ⟨h1, h2, h3⟩ := hb
  obtain ⟨n1, n2, n3, n4⟩ := next_iff.1 hn
  refine ⟨fun z hz => ?_, ?_, fun z hz y hy hp => ?_⟩
  · rcases List.mem_append.1 hz with hz | hz
    · exact h1 z hz
    · rw [List.mem_singleton.1 hz]; exact hx
  · rw [List.nodup_append]
    exact ⟨h2, by simp, fun a ha b hb' e => n1 (by rw [List.mem_singleton.1 hb'] at e; exact e ▸ ha)⟩
  · rcases List.mem_append.1 hz with hz | hz
    · exact List.mem_append_left _ (h3 z hz y hy hp)
    · rw [List.mem_singleton.1 hz] at hp
      exact List.mem_append_left _ (n3 y hy hp)
theorem pr_irrefl {h : List Opn} (hw : Well h) {x : Nat} (hx : x < h.length) : prI h x x = false := by
  cases hp : prI h x x with
  | false => rfl
  | true =>
    have h1 := prec_of hp
    have h2 := form_of (hw.1 _ (nth_mem hx))
    omega
theorem done_comp {h : List Opn} (hw : Well h) (l : List Nat) : doneB h (maskL l) = compB h l := by
  rw [Bool.eq_iff_iff, done_iff, comp_iff]
  have he : ∀ x, x < h.length → (0 ≤ endO (nth h x) ↔ ¬ endO (nth h x) = -1) := fun x hx => by
    have h2 := form_of (hw.1 _ (nth_mem hx))
    omega
  constructor
  · intro hd x hx hn
    have := hd x hx ((he x hx).2 hn)
    rw [maskL_bit] at this
    exact of_decide_eq_true this
  · intro hd x hx hn
    rw [maskL_bit]
    exact decide_eq_true (hd x hx ((he x hx).1 hn))
theorem next_may {h : List Opn} (hw : Well h) {l : List Nat} (hb : Begins h l) {x : Nat} (hx : x < h.length) (hn : nextB h l x = true) : mayB h (maskL l) x = true := by
  obtain ⟨n1, n2, n3, n4⟩ := next_iff.1 hn
  have h2 := form_of (hw.1 _ (nth_mem hx))
  unfold mayB
  rw [Bool.and_eq_true, Bool.and_eq_true, Bool.not_eq_true', maskL_bit, decide_eq_false_iff_not, Bool.or_eq_true, decide_eq_true_iff, Bool.and_eq_true, decide_eq_true_iff]
  refine ⟨⟨n1, free_iff.2 fun k hk hp => ?_⟩, ?_⟩
  · rw [maskL_bit]
    refine decide_eq_false fun hm => n1 (hb.2.2 k hm x hx hp)
  · by_cases e : kindO (nth h x) = 1
    · exact .inl e
    · have e2 : kindO (nth h x) = 2 := by rcases h2.2.2.2.2.2 with h3 | h3 <;> omega
      refine .inr ⟨?_, ?_⟩
      · have : ¬ endO (nth h x) = -1 := fun q => n2 ⟨e2, q⟩
        omega
      · unfold seesB
        rw [← state_sees hw hb.1]
        exact decide_eq_true (n4 e2)
theorem may_next {h : List Opn} (hw : Well h) {l : List Nat} (hb : Begins h l) {x : Nat} (hx : x < h.length) (hm : mayB h (maskL l) x = true) (ha : ∀ y, y < h.length → prI h y x = true → y ∈ l) : nextB h l x = true := by
  have h2 := form_of (hw.1 _ (nth_mem hx))
  unfold mayB at hm
  rw [Bool.and_eq_true, Bool.and_eq_true, Bool.not_eq_true', maskL_bit, decide_eq_false_iff_not, Bool.or_eq_true, decide_eq_true_iff, Bool.and_eq_true, decide_eq_true_iff] at hm
  refine next_iff.2 ⟨hm.1.1, fun ⟨e1, e2⟩ => ?_, ha, fun e => ?_⟩
  · rcases hm.2 with h3 | h3 <;> omega
  · rcases hm.2 with h3 | h3
    · omega
    · unfold seesB at h3
      rw [state_sees hw hb.1]
      exact of_decide_eq_true h3.2
/-- As many lists as the set has continuations. -/
theorem frm_cnt {h : List Opn} (hw : Well h) : ∀ (f : Nat) (l : List Nat), Begins h l → (frm h f l).length = cnt h f (maskL l)
  | 0, _, _ => rfl
  | f + 1, l, hb => by
    rw [frm, cnt, List.length_append, List.length_flatMap, done_comp hw]
    congr 1
    · split <;> rfl
    · congr 1
      apply List.map_congr_left
      intro x hx
      rw [List.mem_range] at hx
      by_cases hn : nextB h l x = true
      · rw [if_pos hn, if_pos (next_may hw hb hx hn), frm_cnt hw f _ (hb.snoc hx hn), maskL_snoc]
      · rw [if_neg hn]
        by_cases hm : mayB h (maskL l) x = true
        · rw [if_pos hm]
          have : ∃ y, y < h.length ∧ prI h y x = true ∧ y ∉ l := Classical.byContradiction fun hc => hn (may_next hw hb hx hm fun y hy hp => Classical.byContradiction fun hq => hc ⟨y, hy, hp, hq⟩)
          obtain ⟨y, hy, hp, hyl⟩ := this
          refine (cnt_open hw.1 f _ x y hx hy (by rw [addM_bit]; simp) ?_ hp).symm
          have hxy : ¬ x = y := by
            rintro rfl
            rw [pr_irrefl hw hx] at hp; cases hp
          rw [addM_bit, maskL_bit, decide_eq_false hyl, decide_eq_false hxy]; rfl
        · rw [if_neg hm]; rfl
/-- All linearizations. -/
def allL (h : List Opn) : List (List Nat) := frm h (h.length + 1) []
theorem all_len {h : List Opn} (hw : Well h) : (allL h).length = C h 0 := frm_cnt hw _ [] (Begins.nil h)
theorem all_none {h : List Opn} (hw : Well h) : allL h = [] ↔ G h 0 = false := by
  unfold G
  rw [← all_len hw, ← List.length_eq_zero_iff, decide_eq_false_iff_not]; omega
/-- The first list. -/
theorem frm_head {h : List Opn} (hw : Well h) : ∀ (f : Nat) (l : List Nat), Begins h l → freeK (maskL l) h.length < f → G h (maskL l) = true → (frm h f l).head? = some (l ++ path h f (maskL l))
  | 0, _, _, hf, _ => by omega
  | f + 1, l, hb, hf, hg => by
    rw [frm, path, done_comp hw]
    by_cases hd : compB h l = true
    · rw [if_pos hd, if_pos hd]; simp
    · rw [if_neg hd, if_neg hd, List.nil_append]
      have hd' : doneB h (maskL l) = false := by rw [done_comp hw]; exact Bool.eq_false_iff.2 hd
      rcases G_iff.1 hg with h1 | ⟨i0, hi0, hm0, hg0⟩
      · rw [hd'] at h1; cases h1
      · -- the first operation by which it goes on
        have hex : ∃ i, i < h.length ∧ goB h (maskL l) i = true := ⟨i0, hi0, by unfold goB; rw [hm0, hg0]; rfl⟩
        obtain ⟨k, hk, hgo, hlt⟩ : ∃ k, k < h.length ∧ goB h (maskL l) k = true ∧ ∀ j, j < k → goB h (maskL l) j = false := by
          obtain ⟨i, hi, hgi⟩ := hex
          induction i using Nat.strongRecOn with
          | _ i ih =>
            by_cases hc : ∃ j, j < i ∧ goB h (maskL l) j = true
            · obtain ⟨j, hj, hgj⟩ := hc
              exact ih j hj (by omega) hgj
            · exact ⟨i, hi, hgi, fun j hj => Bool.eq_false_iff.2 fun q => hc ⟨j, hj, q⟩⟩
        rw [nextI_at hk hgo hlt]
        have hgo' := hgo
        unfold goB at hgo'
        rw [Bool.and_eq_true] at hgo'
        have hnx : nextB h l k = true := by
          refine may_next hw hb hk hgo'.1 fun y hy hp => ?_
          apply Classical.byContradiction
          intro hyl
          have hky : ¬ k = y := by
            rintro rfl
            rw [pr_irrefl hw hk] at hp; cases hp
          have h0 := cnt_open hw.1 (h.length + 1) (addM (maskL l) k) k y hk hy (by rw [addM_bit]; simp) (by rw [addM_bit, maskL_bit, decide_eq_false hyl, decide_eq_false hky]; rfl) hp
          have h1 := of_decide_eq_true hgo'.2
          unfold C at h1
          omega
        have hfk : freeK (maskL (l ++ [k])) h.length < f := by
          have := freeK_add (may_bit hgo'.1) hk
          rw [maskL_snoc]; omega
        have ih := frm_head hw f (l ++ [k]) (hb.snoc hk hnx) hfk (by rw [maskL_snoc]; exact hgo'.2)
        rw [maskL_snoc, List.append_assoc] at ih
        obtain ⟨q, hq⟩ : ∃ q, h.length = k + (q + 1) := ⟨h.length - k - 1, by omega⟩
        have hr : List.range h.length = List.range k ++ k :: (((List.range q).map Nat.succ).map (k + ·)) := by
          rw [hq, List.range_add, List.range_succ_eq_map, List.map_cons]; rfl
        rw [hr, List.flatMap_append, List.flatMap_cons, if_pos hnx]
        have hz : ((List.range k).flatMap fun x => if nextB h l x = true then frm h f (l ++ [x]) else []) = [] := by
          rw [List.flatMap_eq_nil_iff]
          intro j hj
          rw [List.mem_range] at hj
          by_cases hn : nextB h l j = true
          · rw [if_pos hn, ← List.length_eq_zero_iff, frm_cnt hw f _ (hb.snoc (by omega) hn), maskL_snoc]
            have h1 := hlt j hj
            unfold goB at h1
            rw [next_may hw hb (by omega) hn, Bool.true_and] at h1
            unfold G at h1
            have h2 := of_decide_eq_false h1
            have h3 := freeK_add (may_bit (next_may hw hb (by omega) hn)) (show j < h.length by omega)
            rw [C_of h _ f (by omega)]
            omega
          · rw [if_neg hn]
        rw [hz, List.nil_append, List.head?_append, ih]
        rfl
theorem all_head {h : List Opn} (hw : Well h) (hg : G h 0 = true) : (allL h).head? = some (path h (h.length + 1) 0) := by
  have := frm_head hw (h.length + 1) [] (Begins.nil h) (by have := freeK_le (maskL []) h.length; omega) hg
  exact this
def intsN (l : List Nat) : List Int := l.map fun (i : Nat) => (i : Int)
end Go.Proofs.Ytgaolgfjbgflgaa
