/-
  Chapter 55, plain: the first reason, searched over all indices.
-/
import Derived.Test.YtjijlhjggpibjaaGreatGo
namespace Go.Proofs.YtjijlhjggpibjaaGreat

theorem find_filter {α : Type} {p q : α → Bool} : ∀ l : List α, (l.filter p).find? q = l.find? fun x => p x && q x
  | [] => rfl
  | a :: l => by
    have ih := find_filter (p := p) (q := q) l
    cases ha : p a with
    | true =>
      rw [List.filter_cons_of_pos ha, List.find?_cons, List.find?_cons, ha, Bool.true_and, ih]
    | false =>
      rw [List.filter_cons_of_neg (by rw [ha]; decide), List.find?_cons, ha, Bool.false_and, ih]
theorem findS_filter {α β : Type} {p : α → Bool} {f : α → Option β} : ∀ l : List α, (l.filter p).findSome? f = l.findSome? fun x => if p x = true then f x else none
  | [] => rfl
  | a :: l => by
    have ih := findS_filter (p := p) (f := f) l
    cases ha : p a with
    | true =>
      rw [List.filter_cons_of_pos ha, List.findSome?_cons, List.findSome?_cons, if_pos ha, ih]
    | false =>
      rw [List.filter_cons_of_neg (by rw [ha]; decide), List.findSome?_cons, if_neg (by rw [ha]; decide), ih]
theorem find_congr {α : Type} {p q : α → Bool} : ∀ {l : List α}, (∀ x ∈ l, p x = q x) → l.find? p = l.find? q
  | [], _ => rfl
  | a :: l, h => by rw [List.find?_cons, List.find?_cons, h a (List.mem_cons_self ..), find_congr fun x hx => h x (List.mem_cons_of_mem _ hx)]
theorem findS_congr {α β : Type} {f g : α → Option β} : ∀ {l : List α}, (∀ x ∈ l, f x = g x) → l.findSome? f = l.findSome? g
  | [], _ => rfl
  | a :: l, h => by rw [List.findSome?_cons, List.findSome?_cons, h a (List.mem_cons_self ..), findS_congr fun x hx => h x (List.mem_cons_of_mem _ hx)]
theorem find_never {α : Type} : ∀ l : List α, (l.find? fun _ => false) = none
  | [] => rfl
  | a :: l => by rw [List.find?_cons]; exact find_never l
/-- Whether a set holds something that no update adds. -/
def unkO (h : List Opn) (o : Opn) : Bool := (seeO o).any fun s => !(h.any fun u => upO u && decide (s ∈ addO u))
def refU (h : List Opn) : Option Nat := (List.range h.length).find? fun i => rdO (nth h i) && unkO h (nth h i)
def refP (h : List Opn) (r : Nat) : Option (Nat × Nat) := pairF (List.range h.length) (List.range h.length) fun i k => holdB r (nth h i) (nth h k) dfZ
def refT (h : List Opn) : Option (Nat × Nat × Nat) := (List.range h.length).findSome? fun u => (List.range h.length).findSome? fun w => ((List.range h.length).find? fun r => holdB 8 (nth h u) (nth h w) (nth h r)).map fun r => (u, w, r)
/-- What find returns. -/
def refF (h : List Opn) (r : Nat) : List Int := if r = 2 then (match refU h with | some i => [(i : Int)] | none => []) else if r = 8 then (match refT h with | some (u, w, r) => [(u : Int), (w : Int), (r : Int)] | none => []) else (match refP h r with | some (i, k) => [(i : Int), (k : Int)] | none => [])
section
variable {h : List Opn}
theorem unk_eq {r : Nat} : unkO h (nth h r) = unkB h r := by
  have e : ∀ s, (h.any fun u => upO u && decide (s ∈ addO u)) = (ownK h h.length s).isSome := fun s => by
    rw [Bool.eq_iff_iff, ownK_some, List.any_eq_true]
    constructor
    · rintro ⟨u, h1, h2⟩
      rw [Bool.and_eq_true] at h2
      obtain ⟨i, hi, rfl⟩ := List.getElem_of_mem h1
      refine ⟨i, hi, ?_, ?_⟩
      · show kindO (nth h i) = 1
        rw [nth_eq hi]; exact of_decide_eq_true h2.1
      · rw [nth_eq hi]; exact of_decide_eq_true h2.2
    · rintro ⟨u, h1, h2, h3⟩
      exact ⟨nth h u, nth_mem h1, by rw [decide_eq_true h3, upO_iff.2 h2]; rfl⟩
  unfold unkO unkB
  congr 1
  funext s
  rw [e]
theorem refU_eq : refU h = (rdK h h.length).find? (unkB h) := by
  unfold refU rdK
  rw [find_filter]
  refine find_congr fun x _ => ?_
  rw [unk_eq]; rfl
theorem refP_gen {r : Nat} {a b : Nat → Bool} {P : Nat → Nat → Bool} (hd : ∀ i k, i < h.length → k < h.length → holdB r (nth h i) (nth h k) dfZ = (a i && b k && P i k)) : refP h r = pairF ((List.range h.length).filter a) ((List.range h.length).filter b) P := by
  unfold refP pairF
  rw [findS_filter]
  refine findS_congr fun i hi => ?_
  have hi' := List.mem_range.1 hi
  rw [find_filter]
  by_cases ha : a i = true
  · rw [if_pos ha]
    congr 1
    refine find_congr fun k hk => ?_
    show holdB r (nth h i) (nth h k) dfZ = _
    rw [hd i k hi' (List.mem_range.1 hk), ha, Bool.true_and]
  · rw [if_neg ha]
    have : ((List.range h.length).find? fun k => holdB r (nth h i) (nth h k) dfZ) = none := by
      rw [find_congr (q := fun _ => false) fun k hk => by
        rw [hd i k hi' (List.mem_range.1 hk), Bool.eq_false_iff.2 ha]; rfl]
      exact find_never _
    rw [this]; rfl
theorem refP3 : refP h 3 = pairF (rdK h h.length) (upK h h.length) (tornB h) := refP_gen fun i k _ _ => by rw [hb3]; exact hold3_dec
theorem refP4 : refP h 4 = pairF (rdK h h.length) (rdK h h.length) fun i k => !decide (WithI h i k) && !decide (WithI h k i) := refP_gen fun i k _ _ => by rw [hb4]; exact hold4_dec
theorem refP5 (hw : Well h) : refP h 5 = pairF (rdK h h.length) (upK h h.length) (earlyB h) := refP_gen fun i k hi _ => by rw [hb5]; exact hold5_dec hw hi
theorem refP6 (hw : Well h) : refP h 6 = pairF (upK h h.length) (rdK h h.length) (lateB h) := refP_gen fun i k hi _ => by rw [hb6]; exact hold6_dec hw hi
theorem refP7 (hw : Well h) : refP h 7 = pairF (rdK h h.length) (rdK h h.length) (backB h) := refP_gen fun i k hi _ => by rw [hb7]; exact hold7_dec hw hi
theorem refT_eq (hw : Well h) : refT h = tripF h := by
  unfold refT tripF upK
  rw [findS_filter]
  refine findS_congr fun u hu => ?_
  have hu' := List.mem_range.1 hu
  by_cases hU : UpI h u
  · rw [if_pos (decide_eq_true hU), findS_filter]
    refine findS_congr fun w hw2 => ?_
    by_cases hW : UpI h w
    · rw [if_pos (decide_eq_true hW)]
      unfold swF rdK
      by_cases hp : prI h u w = true
      · rw [if_pos hp, find_filter]
        congr 1
        refine find_congr fun r _ => ?_
        rw [hb8, hold8_dec hw hu', decide_eq_true hU, decide_eq_true hW]
        unfold swapB
        rw [hp]; simp
      · rw [if_neg hp]
        rw [find_congr (q := fun _ => false) fun r _ => by
          rw [hb8, hold8_dec hw hu']
          unfold swapB
          rw [Bool.eq_false_iff.2 hp]; simp, find_never]; rfl
    · rw [if_neg (by simpa using hW), find_congr (q := fun _ => false) fun r _ => by rw [hb8, hold8_dec hw hu', decide_eq_false hW]; simp, find_never]; rfl
  · rw [if_neg (by simpa using hU)]
    rw [List.findSome?_eq_none_iff]
    intro w _
    rw [find_congr (q := fun _ => false) fun r _ => by rw [hb8, hold8_dec hw hu', decide_eq_false hU]; simp, find_never]; rfl
theorem pair_sym {A : List Nat} {S : Nat → Nat → Bool} (hs : A.Pairwise (· < ·)) (hsym : ∀ x y, S x y = S y x) (hirr : ∀ x, S x x = false) : pairF A A (fun i k => decide (i < k) && S i k) = pairF A A S := by
  cases hq : pairF A A S with
  | none =>
    rw [pair_none] at hq ⊢
    intro x hx y hy
    rw [hq x hx y hy, Bool.and_false]
  | some p =>
    unfold pairF at hq ⊢
    rw [List.findSome?_eq_some_iff] at hq ⊢
    obtain ⟨l1, i, l2, he, h1, h2⟩ := hq
    have hno : ∀ x ∈ l1, ∀ y ∈ A, S x y = false := fun x hx y hy => by
      have h3 := h2 x hx
      rw [Option.map_eq_none_iff, List.find?_eq_none] at h3
      exact Bool.eq_false_iff.2 (h3 y hy)
    have hi : i ∈ A := by rw [he]; simp
    refine ⟨l1, i, l2, he, ?_, fun x hx => ?_⟩
    · rw [← h1]
      congr 1
      refine find_congr fun y hy => ?_
      show (decide (i < y) && S i y) = S i y
      rw [he] at hy hs
      rw [List.pairwise_append, List.pairwise_cons] at hs
      rcases List.mem_append.1 hy with h3 | h3
      · rw [hsym i y, hno y h3 i hi, Bool.and_false]
      · rcases List.mem_cons.1 h3 with rfl | h4
        · rw [hirr, Bool.and_false]
        · rw [decide_eq_true (hs.2.1.1 y h4), Bool.true_and]
    · rw [Option.map_eq_none_iff, List.find?_eq_none]
      intro y hy h3
      have h4 : (decide (x < y) && S x y) = true := h3
      rw [hno x hx y hy, Bool.and_false] at h4
      cases h4
/-- The asymmetric condition of the program has the same first pair. -/
theorem apart_eq : pairF (rdK h h.length) (rdK h h.length) (apartB h) = pairF (rdK h h.length) (rdK h h.length) fun i k => !decide (WithI h i k) && !decide (WithI h k i) := by
  have e : apartB h = fun i k => decide (i < k) && (!decide (WithI h i k) && !decide (WithI h k i)) := by
    funext i k
    unfold apartB
    rw [Bool.and_assoc]
  rw [e]
  refine pair_sym ?_ (fun x y => Bool.and_comm _ _) fun x => by
    have : WithI h x x := fun s hs => hs
    rw [decide_eq_true this]; rfl
  unfold rdK
  exact List.Pairwise.filter _ List.pairwise_lt_range
/-- The first reason of a list of reasons. -/
def firstR (h : List Opn) : List Nat → Int × List Int
  | [] => (0, [])
  | r :: rs => if refF h r = [] then firstR h rs else ((r : Int), refF h r)
theorem firstR_cons (r : Nat) (rs : List Nat) : firstR h (r :: rs) = if refF h r = [] then firstR h rs else ((r : Int), refF h r) := rfl
theorem refF_p {r : Nat} (h2 : ¬ r = 2) (h8 : ¬ r = 8) : refF h r = match refP h r with | some (i, k) => [(i : Int), (k : Int)] | none => [] := by
  unfold refF
  rw [if_neg h2, if_neg h8]
theorem refF_2 : refF h 2 = match refU h with | some i => [(i : Int)] | none => [] := rfl
theorem refF_8 : refF h 8 = match refT h with | some (u, w, r) => [(u : Int), (w : Int), (r : Int)] | none => [] := rfl
theorem firstR_pair {r : Nat} (h2 : ¬ r = 2) (h8 : ¬ r = 8) (rs : List Nat) : firstR h (r :: rs) = pairR (r : Int) (refP h r) (firstR h rs) := by
  rw [firstR_cons, refF_p h2 h8]
  unfold pairR
  cases refP h r with
  | none => exact if_pos rfl
  | some p => exact if_neg (by simp)
theorem res_first (hw : Well h) : res2 h = firstR h [2, 3, 4, 5, 6, 7, 8] := by
  have e8 : res8 h = firstR h [8] := by
    rw [firstR_cons, refF_8, refT_eq hw]
    unfold res8
    cases tripF h with
    | none => exact (if_pos rfl).symm
    | some p => exact (if_neg (by simp)).symm
  have e7 : res7 h = firstR h [7, 8] := by rw [firstR_pair (by decide) (by decide), refP7 hw, ← e8]; rfl
  have e6 : res6 h = firstR h [6, 7, 8] := by rw [firstR_pair (by decide) (by decide), refP6 hw, ← e7]; rfl
  have e5 : res5 h = firstR h [5, 6, 7, 8] := by rw [firstR_pair (by decide) (by decide), refP5 hw, ← e6]; rfl
  have e4 : res4 h = firstR h [4, 5, 6, 7, 8] := by
    rw [firstR_pair (by decide) (by decide), refP4, ← e5, ← apart_eq]; rfl
  have e3 : res3 h = firstR h [3, 4, 5, 6, 7, 8] := by rw [firstR_pair (by decide) (by decide), refP3, ← e4]; rfl
  rw [firstR_cons, ← e3, refF_2, refU_eq]
  unfold res2
  cases (rdK h h.length).find? (unkB h) with
  | none => exact (if_pos rfl).symm
  | some r => exact (if_neg (by simp)).symm
/-- Up to a reason nothing, then something; nothing at all. -/
theorem res_at (hw : Well h) {q : Nat} (h2 : 2 ≤ q) (h8 : q ≤ 8) (hno : ∀ r, 2 ≤ r → r < q → refF h r = []) (hq : ¬ refF h q = []) : res2 h = ((q : Int), refF h q) := by
  rw [res_first hw]
  have hs : q = 2 ∨ q = 3 ∨ q = 4 ∨ q = 5 ∨ q = 6 ∨ q = 7 ∨ q = 8 := by omega
  have f : ∀ r, 2 ≤ r → r < q → ∀ rs, firstR h (r :: rs) = firstR h rs := fun r a b rs => by
    show (if refF h r = [] then firstR h rs else ((r : Int), refF h r)) = _
    rw [if_pos (hno r a b)]
  have g : ∀ rs, firstR h (q :: rs) = ((q : Int), refF h q) := fun rs => by
    show (if refF h q = [] then firstR h rs else ((q : Int), refF h q)) = _
    rw [if_neg hq]
  rcases hs with rfl | rfl | rfl | rfl | rfl | rfl | rfl
  · exact g _
  · rw [f 2 (by omega) (by omega)]; exact g _
  · rw [f 2 (by omega) (by omega), f 3 (by omega) (by omega)]; exact g _
  · rw [f 2 (by omega) (by omega), f 3 (by omega) (by omega), f 4 (by omega) (by omega)]; exact g _
  · rw [f 2 (by omega) (by omega), f 3 (by omega) (by omega), f 4 (by omega) (by omega), f 5 (by omega) (by omega)]; exact g _
  · rw [f 2 (by omega) (by omega), f 3 (by omega) (by omega), f 4 (by omega) (by omega), f 5 (by omega) (by omega), f 6 (by omega) (by omega)]; exact g _
  · rw [f 2 (by omega) (by omega), f 3 (by omega) (by omega), f 4 (by omega) (by omega), f 5 (by omega) (by omega), f 6 (by omega) (by omega), f 7 (by omega) (by omega)]; exact g _
theorem res_non (hw : Well h) (hno : ∀ r, 2 ≤ r → r ≤ 8 → refF h r = []) : res2 h = (0, []) := by
  rw [res_first hw]
  have f : ∀ r, 2 ≤ r → r ≤ 8 → ∀ rs, firstR h (r :: rs) = firstR h rs := fun r a b rs => by
    show (if refF h r = [] then firstR h rs else ((r : Int), refF h r)) = _
    rw [if_pos (hno r a b)]
  rw [f 2 (by omega) (by omega), f 3 (by omega) (by omega), f 4 (by omega) (by omega), f 5 (by omega) (by omega), f 6 (by omega) (by omega), f 7 (by omega) (by omega), f 8 (by omega) (by omega)]
  rfl
end
end Go.Proofs.YtjijlhjggpibjaaGreat
