/-
  Chapter 29: two events of a row of the call's own exchanged, in a region that draws its order; lists that All made.
-/
import Derived.Test.YtfdicndmebhmdaaNq
namespace Go.Proofs.Ytfdicndmebhmdaa
open Go.RowKit

/-- A block of events whose uses are read in an earlier world. -/
def NxE (W1 : World) (g c : Nat) (L : List Ev) (w : World) : Prop := ∃ cur : Array Value, Blk w g 29 cur ∧ L.length ≤ c ∧ c ≤ maxLen ∧ cur.size = c * 2 ∧ ∀ k (h : k < L.length), ∃ vu, cur[k * 2]? = some (.int .i64 L[k].1) ∧ cur[k * 2 + 1]? = some vu ∧ Reads vi W1 vu L[k].2
section
variable {W1 w w' : World} {g c : Nat} {L : List Ev}
theorem NxE.on (h : NxE W1 g c L w) (hb : Below w.heap.size w w') : NxE W1 g c L w' := by
  obtain ⟨cur, h1, h2⟩ := h
  exact ⟨cur, h1.on hb, h2⟩
theorem NxE.drew (h : NxE W1 g c L w) : NxE W1 g c L w.drew := h
theorem NxE.lt (h : NxE W1 g c L w) : g < w.heap.size := by
  obtain ⟨cur, h1, h2⟩ := h
  exact h1.lt
theorem NxE.of_own {B n : Nat} {w0 : World} {ao : Option Addr} (h : OwnE B (EvW W1) w0 w (.slice ao n c) L) (h0 : 0 < L.length) : ∃ g, ao = some ⟨g, 0, none⟩ ∧ n = L.length ∧ B ≤ g ∧ NxE W1 g c L w := by
  obtain ⟨_, cells, hrow, hc⟩ := h
  rcases hrow.2 with ⟨h1, h2⟩ | ⟨g, cap, cur, hv, hb, hg, hn, hm, hs, ht⟩
  · omega
  · injection hv with e1 e2 e3
    subst e3
    refine ⟨g, e1, e2, hb, cur, hg, hn, hm, hs, fun k hk => ?_⟩
    obtain ⟨cs, g1, g2, vu, rfl, g4⟩ := hc k hk
    have key : ∀ i x, i < 2 → (evCs L[k] vu)[i]? = some x → cur[k * 2 + i]? = some x := fun i x hi hx => by
      have h4 := g2 i hi
      rw [hx, ← ht, List.getElem?_take, if_pos (by omega), Array.getElem?_toList] at h4
      exact h4
    exact ⟨vu, key 0 _ (by omega) rfl, key 1 _ (by omega) rfl, g4⟩
theorem NxE.reads (h : NxE W1 g c L w) : ReadsW W1 w (.slice (some ⟨g, 0, none⟩) L.length c) L := by
  obtain ⟨cur, h1, hc, hm, h2, h3⟩ := h
  refine ⟨_, c, rfl, hc, hm, (fun e => by cases e), fun _ => ⟨g, 0, rfl, h1.lt, fun j hj => ?_⟩⟩
  obtain ⟨vu, g1, g2, g3⟩ := h3 j hj
  refine ⟨evCs L[j] vu, rfl, fun i x hx => ?_, vu, rfl, g3⟩
  rw [Nat.zero_add, h1.cell]
  match i, hx with
  | 0, hx => rw [Nat.add_zero, g1]; exact hx
  | 1, hx => rw [g2]; exact hx
/-- The same as a row of the call's own. -/
theorem NxE.evs (h : NxE W1 g c L w) : EvsW W1 w (.slice (some ⟨g, 0, none⟩) L.length c) L := by
  obtain ⟨cur, h1, hc, hm, h2, h3⟩ := h
  refine ⟨cur.toList.take (L.length * 2), ⟨by rw [List.length_take, show cur.toList.length = cur.size from rfl]; omega, .inr ⟨g, c, cur, rfl, Nat.zero_le _, h1, hc, hm, h2, rfl⟩⟩, fun k hk => ?_⟩
  obtain ⟨vu, g1, g2, g3⟩ := h3 k hk
  refine ⟨evCs L[k] vu, rfl, fun i hi => ?_, vu, rfl, g3⟩
  rw [List.getElem?_take, if_pos (by omega), Array.getElem?_toList]
  match i, hi with
  | 0, _ => exact g1
  | 1, _ => exact g2
theorem NxE.there (h : NxE W1 g c L w) {q : Nat} (hq : q < L.length) (cs : Array Value) (hcs : cs.size = 2) : w.there g (q * 2) cs.size := by
  obtain ⟨cur, h1, hc, hm, h2, h3⟩ := h
  intro j hj
  rw [h1.cell, h1.frozen]
  exact ⟨by rw [Array.getElem?_eq_getElem (by omega)]; rfl, rfl⟩
theorem NxE.put (h : NxE W1 g c L w) {q : Nat} (hq : q < L.length) {e : Ev} {s : Option Addr} {d : Nat} (hr : Reads vi W1 (.slice s e.2.length d) e.2) : NxE W1 g c (L.set q e) (w.setCells g (q * 2) (#[Value.int .i64 e.1, .slice s e.2.length d] : Array Value).toList) := by
  obtain ⟨cur, h1, hc, hm, h2, h3⟩ := h
  have hB : Blk (w.setCells g (q * 2) (#[Value.int .i64 e.1, .slice s e.2.length d] : Array Value).toList) g 29 ((cur.setIfInBounds (q * 2) (.int .i64 e.1)).setIfInBounds (q * 2 + 1) (.slice s e.2.length d)) := (h1.set_ (q * 2) _).set_ (q * 2 + 1) _
  refine ⟨_, hB, by rw [List.length_set]; exact hc, hm, by simpa using h2, fun k hk => ?_⟩
  rw [List.length_set] at hk
  by_cases hkq : k = q
  · subst hkq
    rw [List.getElem_set_self]
    refine ⟨_, ?_, ?_, hr⟩
    · rw [Array.getElem?_setIfInBounds, if_neg (by omega), Array.getElem?_setIfInBounds, if_pos rfl, if_pos (by omega)]
    · rw [Array.getElem?_setIfInBounds, if_pos rfl, if_pos (by rw [Array.size_setIfInBounds]; omega)]
  · rw [List.getElem_set_ne (fun e => hkq e.symm)]
    obtain ⟨vu, g1, g2, g3⟩ := h3 k hk
    refine ⟨vu, ?_, ?_, g3⟩
    · rw [Array.getElem?_setIfInBounds, if_neg (by omega), Array.getElem?_setIfInBounds, if_neg (by omega)]; exact g1
    · rw [Array.getElem?_setIfInBounds, if_neg (by omega), Array.getElem?_setIfInBounds, if_neg (by omega)]; exact g2
theorem below_put {B n : Nat} (hB : B ≤ g) (cs : List Value) : Below B w (w.setCells g n cs) := by
  induction cs generalizing w n with
  | nil => exact Below.refl _ _
  | cons c cs ih => exact ((Below.refl B w).setCell (p := ⟨g, n, none⟩) hB c).trans ih
end
/-- Two steps that write. -/
def JT (n1 n2 : Nat) (PA PB PC : World → Prop) : Inv := fun D _ w => (D n2 = true → D n1 = true) ∧ (if D n2 = true then PC w else if D n1 = true then PB w else PA w)
section
variable {n1 n2 : Nat} {PA PB PC : World → Prop} {D : Nat → Bool} {st : Nat → Value} {w w' : World}
theorem JT.start {w0 : World} (h : PA w0.drew) (st : Nat → Value) : JT n1 n2 PA PB PC (fun _ => false) st w0.drew := ⟨(fun h => by cases h), h⟩
theorem JT.pure (h : JT n1 n2 PA PB PC D st w) (i : Nat) (u : Value) (h1 : i ≠ n1) (h2 : i ≠ n2) : JT n1 n2 PA PB PC (upD D i) (upV st i u) w := by
  unfold JT at h ⊢
  simp only [upD, Ne.symm h1, Ne.symm h2, if_false]
  exact h
theorem JT.atA (h : JT n1 n2 PA PB PC D st w) (hD : D n1 = false) : PA w := by
  obtain ⟨a, b⟩ := h
  have h2 := off_of a hD
  simpa [h2, hD] using b
theorem JT.atB (h : JT n1 n2 PA PB PC D st w) (d1 : D n1 = true) (hD : D n2 = false) : PB w := by
  obtain ⟨a, b⟩ := h
  simpa [d1, hD] using b
theorem JT.s1 (h : JT n1 n2 PA PB PC D st w) (hD : D n1 = false) (hne : n1 ≠ n2) (hp : PB w') (u : Value) : JT n1 n2 PA PB PC (upD D n1) (upV st n1 u) w' := by
  have h2 := off_of h.1 hD
  unfold JT
  simp only [upD, if_true, Ne.symm hne, if_false, h2]
  exact ⟨(fun q => by cases q), by simpa using hp⟩
theorem JT.s2 (_h : JT n1 n2 PA PB PC D st w) (d1 : D n1 = true) (hne : n1 ≠ n2) (hp : PC w') (u : Value) : JT n1 n2 PA PB PC (upD D n2) (upV st n2 u) w' := by
  unfold JT
  simp only [upD, if_true, hne, if_false]
  exact ⟨fun _ => d1, hp⟩
theorem JT.fin (h : JT n1 n2 PA PB PC D st w) (hD : D n2 = true) : PC w := by
  obtain ⟨a, b⟩ := h
  simpa [hD] using b
end
theorem RowsF.slc {F : Nat → Prop} {B : Nat} {w : World} {v : Value} {LL : List (List Ev)} (h : RowsF F B w v LL) : ∃ a c, v = .slice a LL.length c := by
  obtain ⟨us, h1, -⟩ := h
  exact row_slc h1
theorem RowsF.cell {F : Nat → Prop} {B ga n c : Nat} {w : World} {LL : List (List Ev)} (h : RowsF F B w (.slice (some ⟨ga, 0, none⟩) n c) LL) {k : Nat} (hk : k < LL.length) : ∃ a c', (∀ wq, Below w.heap.size w wq → wq.cell? ⟨ga, k, none⟩ = some (.slice a LL[k].length c')) ∧ ReadsE w (.slice a LL[k].length c') LL[k] := by
  obtain ⟨us, h1, h2⟩ := h
  obtain ⟨u, a, b⟩ := h2 k hk
  obtain ⟨a', c', rfl⟩ : ∃ a' c', u = .slice a' LL[k].length c' := by obtain ⟨cells, q, -⟩ := b; exact row_slc q
  obtain ⟨a2, c2, e⟩ := row_slc h1
  injection e with e1 e2 e3
  subst e2 e3
  obtain ⟨g, e4, -, h5⟩ := row_at h1 (by omega)
  injection e4 with e4
  injection e4 with e4
  subst e4
  exact ⟨a', c', fun wq hq => h5 wq hq k _ a, b.reads⟩
theorem all_same (t : List Ev) (lim : Int) : rallE t.length t lim = allE t lim := by unfold rallE allE; rw [linsE_eq]
theorem cnt_same (t : List Ev) (lim : Int) : cntE t lim = ((allE t lim).length : Nat) := by
  unfold cntE allE
  split
  · rfl
  · rw [List.length_take]; unfold linsE; rw [List.length_map]
theorem all_720 {t : List Ev} (h : t.length ≤ 6) : allE t 720 = linsE t := by
  unfold allE
  rw [if_neg (by decide)]
  exact List.take_of_length_le (by have := lins_720 h; omega)
end Go.Proofs.Ytfdicndmebhmdaa
