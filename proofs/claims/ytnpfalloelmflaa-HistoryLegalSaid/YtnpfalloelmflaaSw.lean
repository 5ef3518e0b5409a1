/-
  Chapter 54: two elements of a row of the call's own change places in a region that draws its order.
-/
import Derived.Test.YtnpfalloelmflaaRv
import Derived.Test.YtnpfalloelmflaaPm
import Derived.IntWalk
namespace Go.Proofs.Ytnpfalloelmflaa
open Go.RowKit

theorem vint {a b : Int} (h : a = b) : Value.int .i64 a = Value.int .i64 b := by rw [h]
theorem row_open {w : World} {base n : Nat} {v : Value} {xs : List Int} (h : w.ownsRow base 3 1 v n (xs.map vi)) (h0 : 0 < n) :
    ∃ g cap cur, v = .slice (some ⟨g, 0, none⟩) n cap ∧ base ≤ g ∧ n ≤ cap ∧ cap ≤ maxLen ∧ Blk w g 3 cur ∧ cur.size = cap ∧ n = xs.length ∧ ∀ j (hj : j < xs.length), cur[j]? = some (vi xs[j]) := by
  have hl : xs.length = n := by simpa using h.1
  rcases h.2 with ⟨_, h1⟩ | ⟨g, cap, cur, rfl, hb, hg, hn, hm, hs, ht⟩
  · omega
  · refine ⟨g, cap, cur, rfl, hb, hn, hm, hg, by omega, hl.symm, fun j hj => ?_⟩
    have e1 : (cur.toList.take (n * 1))[j]? = (xs.map vi)[j]? := by rw [ht]
    rw [List.getElem?_take, if_pos (by omega), Array.getElem?_toList, List.getElem?_map, List.getElem?_eq_getElem hj] at e1
    rw [e1]; rfl
theorem row_close {w : World} {base n g cap : Nat} {cur : Array Value} {xs : List Int} (hb : base ≤ g) (hn : n ≤ cap) (hm : cap ≤ maxLen) (hB : Blk w g 3 cur) (hs : cur.size = cap) (hl : n = xs.length) (hx : ∀ j (hj : j < xs.length), cur[j]? = some (vi xs[j])) :
    w.ownsRow base 3 1 (.slice (some ⟨g, 0, none⟩) n cap) n (xs.map vi) := by
  refine ⟨by simp [hl], .inr ⟨g, cap, cur, rfl, hb, hB, hn, hm, by omega, ?_⟩⟩
  apply List.ext_getElem?
  intro j
  rw [List.getElem?_take, Array.getElem?_toList, List.getElem?_map]
  by_cases hj : j < xs.length
  · rw [if_pos (by omega), hx j hj, List.getElem?_eq_getElem hj]; rfl
  · rw [if_neg (by omega), List.getElem?_eq_none (by omega)]; rfl
theorem swap_at {cur : Array Value} {xs : List Int} {r p : Nat} (hr : r < xs.length) (hp : p < xs.length) (hx : ∀ j (hj : j < xs.length), cur[j]? = some (vi xs[j])) (j : Nat) (hj : j < ((xs.set r xs[p]).set p xs[r]).length) :
    ((cur.setIfInBounds r (vi xs[p])).setIfInBounds p (vi xs[r]))[j]? = some (vi ((xs.set r xs[p]).set p xs[r])[j]) := by
  have hj' : j < xs.length := by simpa using hj
  have hc : ∀ k, k < xs.length → k < cur.size := fun k hk => (Array.getElem?_eq_some_iff.1 (hx k hk)).1
  rw [Array.getElem?_setIfInBounds, Array.getElem?_setIfInBounds, List.getElem_set, List.getElem_set, Array.size_setIfInBounds]
  by_cases h1 : p = j
  · rw [if_pos h1, if_pos h1, if_pos (hc p hp)]
  · rw [if_neg h1, if_neg h1]
    by_cases h2 : r = j
    · rw [if_pos h2, if_pos h2, if_pos (hc r hr)]
    · rw [if_neg h2, if_neg h2, hx j hj']
def JW (g : Nat) (A B C : Array Value) : Inv := fun D _ w => (D 15 = true → D 9 = true ∧ D 13 = true) ∧ (D 17 = true → D 15 = true) ∧ Blk w g 3 (if D 17 = true then C else if D 15 = true then B else A)
section
variable {g : Nat} {A B C : Array Value} {D : Nat → Bool} {st : Nat → Value} {w w' : World}
theorem JW.start (h : Blk w g 3 A) (st : Nat → Value) : JW g A B C (fun _ => false) st w.drew := ⟨(fun h => by cases h), (fun h => by cases h), h⟩
theorem JW.pure (h : JW g A B C D st w) (i : Nat) (v : Value) (h15 : i ≠ 15) (h17 : i ≠ 17) : JW g A B C (upD D i) (upV st i v) w := by
  obtain ⟨h1, h2, h3⟩ := h
  unfold JW
  have e : ∀ j, D j = true → upD D i j = true := fun j hj => by unfold upD; split; rfl; exact hj
  have e15 : upD D i 15 = D 15 := by unfold upD; rw [if_neg (Ne.symm h15)]
  have e17 : upD D i 17 = D 17 := by unfold upD; rw [if_neg (Ne.symm h17)]
  rw [e15, e17]
  exact ⟨fun hd => ⟨e 9 (h1 hd).1, e 13 (h1 hd).2⟩, h2, h3⟩
theorem JW.no9 (h : JW g A B C D st w) (hD : D 9 = false) : D 15 = false := by
  cases e : D 15 with
  | false => rfl
  | true => rw [(h.1 e).1] at hD; cases hD
theorem JW.no13 (h : JW g A B C D st w) (hD : D 13 = false) : D 15 = false := by
  cases e : D 15 with
  | false => rfl
  | true => rw [(h.1 e).2] at hD; cases hD
theorem JW.no15 (h : JW g A B C D st w) (hD : D 15 = false) : D 17 = false := by
  cases e : D 17 with
  | false => rfl
  | true => rw [h.2.1 e] at hD; cases hD
theorem JW.atA (h : JW g A B C D st w) (hD : D 15 = false) : Blk w g 3 A := by
  have := h.2.2
  rwa [h.no15 hD, hD] at this
theorem JW.atB (h : JW g A B C D st w) (d15 : D 15 = true) (hD : D 17 = false) : Blk w g 3 B := by
  have := h.2.2
  rwa [hD, d15] at this
theorem JW.s15 (h : JW g A B C D st w) (hD : D 15 = false) (d9 : D 9 = true) (d13 : D 13 = true) (hB : Blk w' g 3 B) (v : Value) : JW g A B C (upD D 15) (upV st 15 v) w' := by
  unfold JW
  have e15 : upD D 15 15 = true := rfl
  have e17 : upD D 15 17 = false := by unfold upD; rw [if_neg (by decide)]; exact h.no15 hD
  have e9 : upD D 15 9 = true := by unfold upD; rw [if_neg (by decide)]; exact d9
  have e13 : upD D 15 13 = true := by unfold upD; rw [if_neg (by decide)]; exact d13
  rw [e15, e17]
  exact ⟨fun _ => ⟨e9, e13⟩, (fun e => by cases e), hB⟩
theorem JW.s17 (h : JW g A B C D st w) (d15 : D 15 = true) (hC : Blk w' g 3 C) (v : Value) : JW g A B C (upD D 17) (upV st 17 v) w' := by
  unfold JW
  have e17 : upD D 17 17 = true := rfl
  have e15 : upD D 17 15 = true := by unfold upD; rw [if_neg (by decide)]; exact d15
  have e9 : upD D 17 9 = true := by unfold upD; rw [if_neg (by decide)]; exact (h.1 d15).1
  have e13 : upD D 17 13 = true := by unfold upD; rw [if_neg (by decide)]; exact (h.1 d15).2
  rw [e15, e17]
  exact ⟨fun _ => ⟨e9, e13⟩, fun _ => rfl, hC⟩
theorem JW.fin (h : JW g A B C D st w) (d : ∀ j, j < 18 → D j = true) : Blk w g 3 C := by
  have := h.2.2
  rwa [if_pos (d 17 (by omega))] at this
end
end Go.Proofs.Ytnpfalloelmflaa
