/-
  Chapter 56, plain: the number of linearizations does not depend on where the operations stand, nor on operations that never count.
-/
import Derived.Test.YtgaolgfjbgflgaaMo
namespace Go.Proofs.Ytgaolgfjbgflgaa

theorem sum_filter (F : Nat → Nat) (p : Nat → Bool) : ∀ l : List Nat, (∀ k ∈ l, p k = false → F k = 0) → (l.map F).sum = ((l.filter p).map F).sum
  | [], _ => rfl
  | a :: l, h => by
    rw [List.map_cons, List.sum_cons, List.filter_cons, sum_filter F p l fun k hk => h k (by simp [hk])]
    cases hp : p a with
    | false => rw [h a (by simp) hp]; simp
    | true => simp
theorem fm_drop {β : Type} (F : Nat → List β) (p : Nat → Bool) : ∀ l : List Nat, (∀ k ∈ l, p k = false → F k = []) → l.flatMap F = (l.filter p).flatMap F
  | [], _ => rfl
  | a :: l, h => by
    rw [List.flatMap_cons, List.filter_cons, fm_drop F p l fun k hk => h k (by simp [hk])]
    cases hp : p a with
    | false => rw [h a (by simp) hp]; simp
    | true => simp
theorem sub_perm {l l' : List Nat} (h1 : l.Nodup) (h2 : l'.Nodup) (h3 : ∀ x ∈ l', x ∈ l) : (l.filter fun x => decide (x ∈ l')).Perm l' := by
  refine (List.perm_ext_iff_of_nodup (List.Pairwise.filter _ h1) h2).2 fun x => ?_
  rw [List.mem_filter, decide_eq_true_iff]
  exact ⟨fun h => h.2, fun h => ⟨h3 x h, h⟩⟩
theorem sortS_same {xs ys : List Str} (h : xs.Perm ys) : sortS xs = sortS ys :=
  List.Perm.eq_of_pairwise (le := fun a b : Str => a ≤ b) (fun _ _ _ _ h1 h2 => Classical.byContradiction fun hn => h2 (sle_lt h1 hn)) (sortS_sorted xs) (sortS_sorted ys) (((sortS_perm xs).trans h).trans (sortS_perm ys).symm)
def DeadO (o : Opn) : Prop := kindO o = 2 ∧ endO o = -1 ∧ addO o = []

/-- h' is h without dead operations, in any order. -/
structure Moves (h h' : List Opn) (φ : Nat → Nat) : Prop where
  into : ∀ i, i < h'.length → φ i < h.length
  inj : ∀ i j, i < h'.length → j < h'.length → φ i = φ j → i = j
  at_ : ∀ i, i < h'.length → nth h (φ i) = nth h' i
  rest : ∀ k, k < h.length → (∃ i, i < h'.length ∧ φ i = k) ∨ DeadO (nth h k)
namespace Moves
variable {h h' : List Opn} {φ : Nat → Nat}
theorem nodup (M : Moves h h' φ) : ((List.range h'.length).map φ).Nodup := by
  unfold List.Nodup
  rw [List.pairwise_map]
  refine List.Pairwise.imp_of_mem (fun {a b} ha hb hab e => ?_) (range_inc h'.length)
  have := M.inj a b (List.mem_range.1 ha) (List.mem_range.1 hb) e
  omega
theorem perm (M : Moves h h' φ) : ((List.range h.length).filter fun x => decide (x ∈ (List.range h'.length).map φ)).Perm ((List.range h'.length).map φ) :=
  sub_perm (List.nodup_range) M.nodup fun x hx => by
    obtain ⟨i, hi, rfl⟩ := List.mem_map.1 hx
    exact List.mem_range.2 (M.into i (List.mem_range.1 hi))
theorem dead (M : Moves h h' φ) {k : Nat} (hk : k < h.length) (hn : decide (k ∈ (List.range h'.length).map φ) = false) : DeadO (nth h k) := by
  rcases M.rest k hk with ⟨i, hi, rfl⟩ | h1
  · exact absurd (List.mem_map.2 ⟨i, List.mem_range.2 hi, rfl⟩) (of_decide_eq_false hn)
  · exact h1
theorem sum (M : Moves h h' φ) (F : Nat → Nat) (hF : ∀ k, k < h.length → DeadO (nth h k) → F k = 0) : ((List.range h.length).map F).sum = ((List.range h'.length).map fun i => F (φ i)).sum := by
  rw [sum_filter F (fun x => decide (x ∈ (List.range h'.length).map φ)) _ fun k hk hn => hF k (List.mem_range.1 hk) (M.dead (List.mem_range.1 hk) hn)]
  rw [(M.perm.map F).sum_nat, List.map_map]; rfl
theorem fm (M : Moves h h' φ) {β : Type} (F : Nat → List β) (hF : ∀ k, k < h.length → DeadO (nth h k) → F k = []) : ((List.range h.length).flatMap F).Perm ((List.range h'.length).flatMap fun i => F (φ i)) := by
  rw [fm_drop F (fun x => decide (x ∈ (List.range h'.length).map φ)) _ fun k hk hn => hF k (List.mem_range.1 hk) (M.dead (List.mem_range.1 hk) hn)]
  refine (M.perm.flatMap_right F).trans ?_
  rw [List.flatMap_map]
theorem sees (M : Moves h h' φ) {m m' : Nat} (hm : ∀ i, i < h'.length → m.testBit (φ i) = m'.testBit i) (x : Opn) : seesB h m x = seesB h' m' x := by
  unfold seesB
  rw [sortS_same (xs := seesL h m) (ys := seesL h' m')]
  rw [sees_of, sees_of]
  refine (M.fm _ fun k _ hd => by rw [hd.2.2]; split <;> rfl).trans ?_
  refine .of_eq (fm_congr fun i hi => ?_)
  rw [List.mem_range] at hi
  rw [hm i hi, M.at_ i hi]
theorem pr (M : Moves h h' φ) {i k : Nat} (hi : i < h'.length) (hk : k < h'.length) : prI h (φ i) (φ k) = prI h' i k := by unfold prI; rw [M.at_ i hi, M.at_ k hk]
theorem done (M : Moves h h' φ) {m m' : Nat} (hm : ∀ i, i < h'.length → m.testBit (φ i) = m'.testBit i) : doneB h m = doneB h' m' := by
  rw [Bool.eq_iff_iff, done_iff, done_iff]
  constructor
  · intro hd i hi he
    rw [← hm i hi]
    exact hd _ (M.into i hi) (by rw [M.at_ i hi]; exact he)
  · intro hd k hk he
    rcases M.rest k hk with ⟨i, hi, rfl⟩ | h1
    · rw [hm i hi]
      exact hd i hi (by rw [← M.at_ i hi]; exact he)
    · rw [h1.2.1] at he; exact absurd he (by decide)
theorem may (M : Moves h h' φ) {m m' : Nat} (hm : ∀ i, i < h'.length → m.testBit (φ i) = m'.testBit i) (hd : ∀ k, k < h.length → DeadO (nth h k) → m.testBit k = false) {i : Nat} (hi : i < h'.length) : mayB h m (φ i) = mayB h' m' i := by
  rw [Bool.eq_iff_iff, may_iff, may_iff, hm i hi, M.at_ i hi, M.sees hm, free_iff, free_iff]
  have : (∀ k, k < h.length → prI h (φ i) k = true → m.testBit k = false) ↔ ∀ k, k < h'.length → prI h' i k = true → m'.testBit k = false := by
    constructor
    · intro h1 k hk hp
      rw [← hm k hk]
      exact h1 _ (M.into k hk) (by rw [M.pr hi hk]; exact hp)
    · intro h1 k hk hp
      rcases M.rest k hk with ⟨j, hj, rfl⟩ | h2
      · rw [hm j hj]
        exact h1 j hj (by rw [← M.pr hi hj]; exact hp)
      · exact hd k hk h2
  rw [this]
theorem cnt_eq (M : Moves h h' φ) : ∀ (f m m' : Nat), (∀ i, i < h'.length → m.testBit (φ i) = m'.testBit i) → (∀ k, k < h.length → DeadO (nth h k) → m.testBit k = false) → cnt h f m = cnt h' f m'
  | 0, _, _, _, _ => rfl
  | f + 1, m, m', hm, hd => by
    rw [cnt, cnt, M.done hm]
    congr 1
    rw [M.sum (fun i => if mayB h m i = true then cnt h f (addM m i) else 0) fun k _ h1 => if_neg fun h2 => by
      rcases (may_iff.1 h2).2.2 with h3 | h3
      · rw [h1.1] at h3; exact absurd h3 (by decide)
      · rw [h1.2.1] at h3; exact absurd h3.1 (by decide)]
    congr 1
    apply List.map_congr_left
    intro i hi
    rw [List.mem_range] at hi
    rw [M.may hm hd hi]
    by_cases h1 : mayB h' m' i = true
    · rw [if_pos h1, if_pos h1]
      refine M.cnt_eq f _ _ (fun j hj => ?_) fun k hk h2 => ?_
      · rw [addM_bit, addM_bit, hm j hj]
        congr 1
        rw [decide_eq_decide]
        exact ⟨fun e => M.inj i j hi hj e, fun e => by rw [e]⟩
      · rw [addM_bit, hd k hk h2]
        refine decide_eq_false ?_
        rintro rfl
        have h3 := h1
        rw [← M.may hm hd hi] at h3
        rcases (may_iff.1 h3).2.2 with h4 | h4
        · rw [h2.1] at h4; exact absurd h4 (by decide)
        · rw [h2.2.1] at h4; exact absurd h4.1 (by decide)
    · rw [if_neg h1, if_neg h1]
/-- As many linearizations. -/
theorem count (M : Moves h h' φ) : C h 0 = C h' 0 := by
  have h1 := freeK_le 0 h.length
  have h2 := freeK_le 0 h'.length
  rw [← C_of h 0 (h.length + h'.length + 1) (by omega), ← C_of h' 0 (h.length + h'.length + 1) (by omega)]
  exact M.cnt_eq _ 0 0 (fun i _ => by rw [Nat.zero_testBit, Nat.zero_testBit]) fun k _ _ => Nat.zero_testBit k
theorem good (M : Moves h h' φ) : G h 0 = G h' 0 := by unfold G; rw [M.count]
end Moves

/-- A list without its dead operations. -/
theorem moves_filter (h : List Opn) (p : Opn → Bool) (hd : ∀ x ∈ h, p x = false → DeadO x) : ∃ φ, Moves h (h.filter p) φ := by
  have hh : h = (List.range h.length).map (nth h) := by
    apply List.ext_getElem
    · simp
    · intro i h1 h2
      rw [List.getElem_map, List.getElem_range, nth_eq h1]
  have hfi : h.filter p = ((List.range h.length).filter fun k => p (nth h k)).map (nth h) := by
    conv => lhs; rw [hh]
    rw [List.filter_map]; rfl
  generalize hI : (List.range h.length).filter (fun k => p (nth h k)) = I at hfi
  have hlen : (h.filter p).length = I.length := by rw [hfi, List.length_map]
  have hmem : ∀ x ∈ I, x < h.length ∧ p (nth h x) = true := fun x hx => by
    rw [← hI, List.mem_filter, List.mem_range] at hx
    exact hx
  have hin : ∀ {i} (hi : i < I.length), I[i] < h.length ∧ p (nth h I[i]) = true := fun {i} hi => hmem _ (List.getElem_mem hi)
  have hnd : I.Pairwise (· < ·) := by rw [← hI]; exact (range_inc _).filter _
  have hat : ∀ {i} (hi : i < I.length), I.getD i 0 = I[i] := fun {i} hi => by rw [List.getD_eq_getElem?_getD, List.getElem?_eq_getElem hi]; rfl
  refine ⟨fun i => I.getD i 0, fun i hi => ?_, fun i j hi hj e => ?_, fun i hi => ?_, fun k hk => ?_⟩
  · rw [hlen] at hi
    rw [hat hi]; exact (hin hi).1
  · rw [hlen] at hi hj
    rw [hat hi, hat hj] at e
    rcases Nat.lt_trichotomy i j with h1 | h1 | h1
    · have := List.pairwise_iff_getElem.1 hnd i j hi hj h1; omega
    · exact h1
    · have := List.pairwise_iff_getElem.1 hnd j i hj hi h1; omega
  · have hi2 := hi
    rw [hlen] at hi2
    rw [hat hi2, nth_eq hi]
    simp only [hfi, List.getElem_map]
  · cases hp : p (nth h k) with
    | false => exact .inr (hd _ (nth_mem hk) hp)
    | true =>
      left
      have : k ∈ I := by rw [← hI, List.mem_filter, List.mem_range]; exact ⟨hk, hp⟩
      obtain ⟨i, hi, rfl⟩ := List.getElem_of_mem this
      exact ⟨i, by rw [hlen]; exact hi, hat hi⟩
/-- The cut history and the one with dead operations have linearizations together. -/
theorem cut_good {h : List Opn} (t : Int) : G (cutL h t) 0 = G (cutM h t) 0 := by
  obtain ⟨φ, M⟩ := moves_filter (cutM h t) (fun o => !decide (t < begO o)) fun x hx hp => by
    obtain ⟨o, ho, rfl⟩ := List.mem_map.1 hx
    have h1 : t < begO o := by
      rw [cutMO_beg] at hp
      simpa using hp
    unfold cutMO
    rw [if_pos h1]
    exact ⟨rfl, rfl, rfl⟩
  have e : (cutM h t).filter (fun o => !decide (t < begO o)) = cutL h t := by
    unfold cutM cutL
    rw [List.filter_map]
    have : (fun o => !decide (t < begO o)) ∘ cutMO t = fun o => !decide (t < begO o) := by
      funext o; simp only [Function.comp_apply, cutMO_beg]
    rw [this]
    apply List.map_congr_left
    intro o ho
    have h1 := (List.mem_filter.1 ho).2
    exact cutMO_in (by simp at h1; omega)
  rw [e] at M
  exact M.good.symm
/-- Two neighbours exchanged. -/
theorem moves_swap (a b : List Opn) (x y : Opn) : ∃ φ, Moves (a ++ x :: y :: b) (a ++ y :: x :: b) φ := by
  have n1 : ∀ (u v : Opn) i, nth (a ++ u :: v :: b) i = if i < a.length then nth a i else if i = a.length then u else if i = a.length + 1 then v else nth b (i - a.length - 2) := fun u v i => by
    unfold nth
    simp only [List.getD_eq_getElem?_getD]
    by_cases h1 : i < a.length
    · rw [if_pos h1, List.getElem?_append_left h1]
    · rw [if_neg h1, List.getElem?_append_right (by omega)]
      by_cases h2 : i = a.length
      · rw [if_pos h2]; subst h2; simp
      · rw [if_neg h2]
        by_cases h3 : i = a.length + 1
        · rw [if_pos h3]; subst h3; simp
        · rw [if_neg h3]
          obtain ⟨k, rfl⟩ : ∃ k, i = a.length + 2 + k := ⟨i - a.length - 2, by omega⟩
          have e1 : a.length + 2 + k - a.length = k + 2 := by omega
          have e2 : a.length + 2 + k - a.length - 2 = k := by omega
          rw [e1, List.getElem?_cons_succ, List.getElem?_cons_succ]
          congr 2
  refine ⟨fun i => if i = a.length then a.length + 1 else if i = a.length + 1 then a.length else i, fun i hi => ?_, fun i j hi hj e => ?_, fun i hi => ?_, fun k hk => .inl ?_⟩
  · simp only [List.length_append, List.length_cons] at hi ⊢
    split
    · omega
    · split <;> omega
  · split at e <;> split at e <;> (try split at e) <;> (try split at e) <;> omega
  · rw [n1, n1]
    by_cases h1 : i = a.length
    · subst h1
      rw [if_pos rfl, if_neg (by omega), if_neg (by omega), if_pos rfl, if_neg (by omega), if_pos rfl]
    · rw [if_neg h1]
      by_cases h2 : i = a.length + 1
      · subst h2
        rw [if_pos rfl, if_neg (by omega), if_pos rfl, if_neg (by omega), if_neg (by omega), if_pos rfl]
      · rw [if_neg h2]
        by_cases h3 : i < a.length
        · rw [if_pos h3, if_pos h3]
        · rw [if_neg h3, if_neg h3, if_neg h1, if_neg h1, if_neg h2, if_neg h2]
  · simp only [List.length_append, List.length_cons] at hk
    refine ⟨if k = a.length then a.length + 1 else if k = a.length + 1 then a.length else k, ?_, ?_⟩
    · simp only [List.length_append, List.length_cons]
      split
      · omega
      · split <;> omega
    · split
      · rw [if_neg (by omega), if_pos rfl]; omega
      · split
        · rw [if_pos rfl]; omega
        · rfl
end Go.Proofs.Ytgaolgfjbgflgaa
