/-
  Chapter 56: a history in a row of the call's own, of which two neighbours are exchanged.
-/
import Derived.Test.YtgaolgfjbgflgaaSm
import Derived.Test.YtgaolgfjbgflgaaHh
import Derived.Test.YtgaolgfjbgflgaaRv
import Derived.Deep.MidRow
namespace Go.Proofs.Ytgaolgfjbgflgaa
open Go.RowKit

/-! Plain. -/
theorem pw_swap {α : Type} {R : α → α → Prop} {x y : α} (hxy : R y x) {a b : List α} (h : (a ++ x :: y :: b).Pairwise R) : (a ++ y :: x :: b).Pairwise R := by
  rw [List.pairwise_append] at h ⊢
  obtain ⟨h1, h2, h3⟩ := h
  rw [List.pairwise_cons, List.pairwise_cons] at h2
  obtain ⟨h4, h5, h6⟩ := h2
  refine ⟨h1, ?_, fun u hu v hv => h3 u hu v (by
    simp only [List.mem_cons] at hv ⊢
    rcases hv with rfl | rfl | hv
    · exact .inr (.inl rfl)
    · exact .inl rfl
    · exact .inr (.inr hv))⟩
  rw [List.pairwise_cons, List.pairwise_cons]
  refine ⟨fun u hu => ?_, fun u hu => h4 u (by simp [hu]), h6⟩
  rcases List.mem_cons.1 hu with rfl | hu
  · exact hxy
  · exact h5 u hu
theorem well_swap {a b : List Opn} {x y : Opn} (hc : ¬ cliO x = cliO y) (hw : Well (a ++ x :: y :: b)) : Well (a ++ y :: x :: b) := by
  obtain ⟨h1, h2, h3⟩ := hw
  refine ⟨fun o ho => h1 o ?_, pw_swap (fun e => absurd e.symm hc) h2, pw_swap (fun s hs hs2 => ?_) h3⟩
  · simp only [List.mem_append, List.mem_cons] at ho ⊢
    rcases ho with h | rfl | rfl | h
    · exact .inl h
    · exact .inr (.inr (.inl rfl))
    · exact .inr (.inl rfl)
    · exact .inr (.inr (.inr h))
  · have h4 := (List.pairwise_append.1 h3).2.1
    rw [List.pairwise_cons] at h4
    exact h4.1 y (by simp) s hs2 hs
/-- What stays as it was when neighbours of different clients change places. -/
def SwR (h ops : List Opn) : Prop := C h 0 = C ops 0 ∧ (Well h ↔ Well ops) ∧ ops.length = h.length ∧ ∀ o ∈ ops, o ∈ h
theorem SwR.refl (h : List Opn) : SwR h h := ⟨rfl, Iff.rfl, rfl, fun _ h => h⟩
theorem set_swap {α : Type} {l : List α} {q : Nat} (hq : q + 1 < l.length) : ∃ a b, l = a ++ l[q] :: l[q + 1] :: b ∧ (l.set q l[q + 1]).set (q + 1) l[q] = a ++ l[q + 1] :: l[q] :: b ∧ a.length = q := by
  refine ⟨l.take q, l.drop (q + 2), ?_, ?_, by rw [List.length_take]; omega⟩
  · rw [← List.drop_eq_getElem_cons hq, ← List.drop_eq_getElem_cons (by omega), List.take_append_drop]
  · apply List.ext_getElem?
    intro i
    have hl : (l.take q).length = q := by rw [List.length_take]; omega
    rw [List.getElem?_set, List.getElem?_set, List.length_set]
    by_cases h1 : q + 1 = i
    · subst h1
      rw [if_pos rfl, if_pos hq, List.getElem?_append_right (by omega), hl, show q + 1 - q = 1 by omega]; rfl
    · rw [if_neg h1]
      by_cases h2 : q = i
      · subst h2
        rw [if_pos rfl, if_pos (by omega), List.getElem?_append_right (by omega), hl, show q - q = 0 by omega]; rfl
      · rw [if_neg h2]
        by_cases h3 : i < q
        · rw [List.getElem?_append_left (by omega), List.getElem?_take, if_pos h3]
        · obtain ⟨k, rfl⟩ : ∃ k, i = q + 2 + k := ⟨i - q - 2, by omega⟩
          rw [List.getElem?_append_right (by omega), hl, show q + 2 + k - q = k + 2 by omega, List.getElem?_cons_succ, List.getElem?_cons_succ, List.getElem?_drop]
theorem SwR.step {h ops : List Opn} (hs : SwR h ops) {q : Nat} (hq : q + 1 < ops.length) (hc : cliO ops[q + 1] < cliO ops[q]) : SwR h ((ops.set q ops[q + 1]).set (q + 1) ops[q]) := by
  obtain ⟨h1, h2, h3, h4⟩ := hs
  obtain ⟨a, b, e1, e2, -⟩ := set_swap hq
  rw [e2]
  generalize ops[q] = x at *
  generalize ops[q + 1] = y at *
  subst e1
  obtain ⟨φ, M⟩ := moves_swap a b x y
  refine ⟨h1.trans M.count, h2.trans ⟨well_swap (by omega), well_swap (by omega)⟩, by rw [← h3]; simp, fun o ho => h4 o ?_⟩
  simp only [List.mem_append, List.mem_cons] at ho ⊢
  rcases ho with h | rfl | rfl | h
  · exact .inl h
  · exact .inr (.inr (.inl rfl))
  · exact .inr (.inl rfl)
  · exact .inr (.inr (.inr h))

/-! The row. -/
theorem below_setCells {B : Nat} {W : World} {g : Nat} (hg : B ≤ g) : ∀ (vs : List Value) (o : Nat) (w : World), Below B W w → Below B W (w.setCells g o vs)
  | [], _, _, h => h
  | v :: r, o, w, h => by
    rw [World.setCells]
    exact below_setCells hg r (o + 1) _ (h.setCell (p := ⟨g, o, none⟩) hg v)
theorem size_setCells (g : Nat) : ∀ (vs : List Value) (o : Nat) (w : World), (w.setCells g o vs).heap.size = w.heap.size
  | [], _, _ => rfl
  | v :: r, o, w => by
    rw [World.setCells, size_setCells g r]
    simp [World.setCell]
/-- Operations in a row of the call's own, cell by cell. -/
structure HisRow (W w : World) (g : Nat) (css : List (List Value)) : Prop where
  bel : Below W.heap.size W w
  bg : W.heap.size ≤ g
  lt : g < w.heap.size
  at_ : ∀ j (h : j < css.length), w.rangeAt g (j * 6) css[j]
  six : ∀ cs ∈ css, cs.length = 6 ∧ ∀ u ∈ cs, u.oneCell' = true
  thr : w.there g 0 (css.length * 6)
theorem HisRow.drew {W w : World} {g : Nat} {css : List (List Value)} (h : HisRow W w g css) : HisRow W w.drew g css := ⟨⟨h.bel.os, h.bel.tape, h.bel.output, h.bel.size, h.bel.block⟩, h.bg, h.lt, h.at_, h.six, h.thr⟩
theorem HisRow.on {W w w' : World} {g : Nat} {css : List (List Value)} (h : HisRow W w g css) (hb : Below w.heap.size w w') : HisRow W w' g css where
  bel := h.bel.trans (hb.mono h.bel.size)
  bg := h.bg
  lt := Nat.lt_of_lt_of_le h.lt hb.size
  at_ := fun j hj i v hv => (hb.cell (p := ⟨g, j * 6 + i, none⟩) h.lt).trans (h.at_ j hj i v hv)
  six := h.six
  thr := fun i hi => ⟨by rw [hb.cell (p := ⟨g, 0 + i, none⟩) h.lt]; exact (h.thr i hi).1, by rw [hb.frozen (p := ⟨g, 0 + i, none⟩) h.lt]; exact (h.thr i hi).2⟩
theorem HisRow.room {W w : World} {g : Nat} {css : List (List Value)} (h : HisRow W w g css) {p : Nat} (hp : p < css.length) : w.there g (p * 6) 6 := fun i hi => by
  have := h.thr (p * 6 + i) (by omega)
  rwa [Nat.zero_add] at this
theorem HisRow.put {W w : World} {g : Nat} {css : List (List Value)} (h : HisRow W w g css) {p : Nat} (hp : p < css.length) {cs : List Value} (hc : cs.length = 6 ∧ ∀ u ∈ cs, u.oneCell' = true) : HisRow W (w.setCells g (p * 6) cs) g (css.set p cs) where
  bel := below_setCells h.bg _ _ _ h.bel
  bg := h.bg
  lt := by rw [size_setCells]; exact h.lt
  at_ := fun j hj => by
    have hj' : j < css.length := by simpa using hj
    rw [List.getElem_set]
    by_cases e : p = j
    · subst e
      rw [if_pos rfl]
      exact World.rangeAt_setCells_same w g _ cs (by rw [hc.1]; exact h.room hp)
    · rw [if_neg e]
      have h6 := (h.six _ (List.getElem_mem hj')).1
      refine World.rangeAt_setCells_apart (h.at_ j hj') g _ cs ?_
      right
      rw [h6, hc.1]
      omega
  six := fun x hx => by
    rcases List.mem_or_eq_of_mem_set hx with h1 | rfl
    · exact h.six x h1
    · exact hc
  thr := by rw [List.length_set]; exact World.there_setCells h.thr g _ cs
def OpL (W : World) (css : List (List Value)) (ops : List Opn) : Prop := css.length = ops.length ∧ ∀ j (h : j < ops.length) (h' : j < css.length), OpE W css[j] ops[j]
theorem OpL.set {W : World} {css : List (List Value)} {ops : List Opn} (h : OpL W css ops) {p : Nat} {cs : List Value} {o : Opn} (he : OpE W cs o) : OpL W (css.set p cs) (ops.set p o) := by
  refine ⟨by rw [List.length_set, List.length_set]; exact h.1, fun j h1 h2 => ?_⟩
  rw [List.getElem_set, List.getElem_set]
  by_cases e : p = j
  · rw [if_pos e, if_pos e]; exact he
  · rw [if_neg e, if_neg e]
    exact h.2 j (by simpa using h1) (by simpa using h2)
/-- A history in a row of the call's own. -/
def HRow (W w : World) (v : Value) (ops : List Opn) : Prop :=
  ∃ ao cap, v = .slice ao ops.length cap ∧ ops.length ≤ cap ∧ cap ≤ maxLen ∧ (ao = none → cap = 0) ∧ Below W.heap.size W w ∧ (ops ≠ [] → ∃ g css, ao = some ⟨g, 0, none⟩ ∧ HisRow W w g css ∧ OpL W css ops)
theorem opE_keep {W w : World} {cs : List Value} {o : Opn} (hb : Below W.heap.size W w) (h : OpE W cs o) : OpE w cs o := keepsOp _ _ _ _ hb h
theorem HRow.reads {W w : World} {v : Value} {ops : List Opn} (h : HRow W w v ops) : ReadsO w v ops := by
  obtain ⟨ao, cap, h1, h2, h3, h4, hb, h5⟩ := h
  refine ⟨ao, cap, h1, h2, h3, h4, fun hne => ?_⟩
  obtain ⟨g, css, e, hr, hl⟩ := h5 hne
  refine ⟨g, 0, e, hr.lt, fun j hj => ?_⟩
  have hj' : j < css.length := by rw [hl.1]; exact hj
  refine ⟨css[j], (hr.six _ (List.getElem_mem hj')).1, fun i u hu => ?_, opE_keep hb (hl.2 j hj hj')⟩
  rw [Nat.zero_add]
  exact hr.at_ j hj' i u hu
theorem flat_at : ∀ (css : List (List Value)), (∀ cs ∈ css, cs.length = 6) → ∀ j (hj : j < css.length) i, i < 6 → css.flatten[j * 6 + i]? = css[j][i]?
  | [], _, _, hj, _, _ => by simp at hj
  | a :: css, hs, 0, _, i, hi => by
    have := hs a (by simp)
    rw [List.flatten_cons, List.getElem?_append_left (by omega), Nat.zero_mul, Nat.zero_add]; rfl
  | a :: css, hs, j + 1, hj, i, hi => by
    have h6 := hs a (by simp)
    rw [List.flatten_cons, List.getElem?_append_right (by omega), h6, show (j + 1) * 6 + i - 6 = j * 6 + i by omega, flat_at css (fun cs hc => hs cs (by simp [hc])) j (by simpa using hj) i hi]; rfl
theorem flat_len : ∀ (css : List (List Value)), (∀ cs ∈ css, cs.length = 6) → css.flatten.length = css.length * 6
  | [], _ => rfl
  | a :: css, hs => by
    have h6 := hs a (by simp)
    rw [List.flatten_cons, List.length_append, flat_len css fun cs hc => hs cs (by simp [hc]), h6, List.length_cons]; omega
theorem choose_list {α : Type} {P : Nat → α → Prop} : ∀ n, (∀ j, j < n → ∃ x, P j x) → ∃ l : List α, l.length = n ∧ ∀ j (hj : j < l.length), P j l[j]
  | 0, _ => ⟨[], rfl, fun j hj => by simp at hj⟩
  | n + 1, h => by
    obtain ⟨l, h1, h2⟩ := choose_list n fun j hj => h j (by omega)
    obtain ⟨x, hx⟩ := h n (by omega)
    refine ⟨l ++ [x], by simp [h1], fun j hj => ?_⟩
    by_cases e : j < l.length
    · rw [List.getElem_append_left e]; exact h2 j e
    · have : j = l.length := by simp at hj; omega
      subst this
      rw [List.getElem_append_right (Nat.le_refl _)]
      simpa [h1] using hx
theorem opE_one {w : World} {cs : List Value} {o : Opn} (h : OpE w cs o) : cs.length = 6 ∧ ∀ u ∈ cs, u.oneCell' = true := (stableW w w).one w cs o h
set_option maxRecDepth 100000 in
/-- append([]api.Operation{}, h...). -/
theorem append_hist {ops : Array Oper} {rest : List Oper} {o : Oper} {a : Act} {w : World} {Q : Exit → Act → World → Prop} (hgd : o.guard = none) (s x : Operand)
    (ho : o.op = .call { callee := .builtin .append, args := #[s, x], argTypes := #[22, 22] })
    (W : World) (u : Value) (h : List Opn) (hb : Below W.heap.size W w) (v0 : Value) (hs : a.eval s = v0) (hv0 : ∃ b, v0 = .slice (some b) 0 0) (hown : w.ownsRow W.heap.size 37 6 v0 0 []) (hx : a.eval x = u) (hu : ReadsO W u h) (hn : h.length ≤ 1000)
    (hK : ∀ v' w', HRow W w' v' h → wpList Try.prog ops Q rest (a.put o.dst v') w') : wpList Try.prog ops Q (o :: rest) a w := by
  obtain ⟨i0, hinf, hz0, hz1, hz2⟩ := info_parts Try.infoOp
  obtain ⟨ao, cap, rfl, h1, h2, h3, h4⟩ := hu.on hb
  obtain ⟨b0, rfl⟩ := hv0
  cases ao with
  | none =>
    have hc := h3 rfl
    subst hc
    have hh : h = [] := List.length_eq_zero_iff.1 (by omega)
    subst hh
    refine wpList_append_own_none hgd s x 22 ho W.heap.size 37 i0 6 Try.underlying22 hinf _ 0 [] hs hown hx ?_
    exact hK _ _ ⟨_, _, rfl, Nat.le_refl _, Nat.zero_le _, fun _ => rfl, hb, fun hne => absurd rfl hne⟩
  | some ad =>
    have hsrc : ∃ css : List (List Value), css.length = h.length ∧ ∀ j (hj : j < css.length), css[j].length = 6 ∧ (∀ i v, css[j][i]? = some v → w.cell? (ad.add (j * 6 + i)) = some v) ∧ ∃ hj' : j < h.length, OpE W css[j] h[j] := by
      refine choose_list (P := fun j cs => cs.length = 6 ∧ (∀ i v, cs[i]? = some v → w.cell? (ad.add (j * 6 + i)) = some v) ∧ ∃ hj' : j < h.length, OpE W cs h[j]) h.length fun j hj => ?_
      obtain ⟨aoW, capW, eW, _, _, _, h4W⟩ := hu
      obtain ⟨b, off, e, hb2, hc⟩ := h4W (by rintro rfl; simp at hj)
      injection eW with e1 _ _
      rw [← e1] at e
      injection e with e
      obtain ⟨cs, c1, c2, c3⟩ := hc j hj
      refine ⟨cs, c1, fun i v hv => ?_, hj, c3⟩
      subst e
      have h9 := (hb.cell (p := ⟨b, off + j * 6 + i, none⟩) hb2).trans (c2 i v hv)
      rw [Addr.add_mid, ← Nat.add_assoc]
      exact h9
    obtain ⟨css, hcl, hcs⟩ := hsrc
    have hsix : ∀ cs ∈ css, cs.length = 6 := fun cs hc => by
      obtain ⟨j, hj, rfl⟩ := List.getElem_of_mem hc
      exact (hcs j hj).1
    have hone : ∀ cs ∈ css, cs.length = 6 ∧ ∀ u ∈ cs, u.oneCell' = true := fun cs hc => by
      obtain ⟨j, hj, rfl⟩ := List.getElem_of_mem hc
      obtain ⟨_, _, _, h9⟩ := hcs j hj
      exact opE_one h9
    refine wpList_append_own w hgd s x 22 ho W.heap.size 37 i0 _ 6 80 Try.underlying22 hinf hz0 hz1 hz2 rfl (by decide) _ 0 [] hs hown ad h.length cap css.flatten hx (by rw [flat_len css hsix, hcl]) (fun j v hj => ?_) (fun v hv => ?_) (by unfold maxLen; omega) (by omega) hb.size ?_
    · have hlt := (List.getElem?_eq_some_iff.1 hj).1
      rw [flat_len css hsix] at hlt
      have hm : j % 6 < 6 := Nat.mod_lt _ (by decide)
      have hd : j / 6 < css.length := by omega
      have e : j = j / 6 * 6 + j % 6 := by omega
      rw [e, flat_at css hsix _ hd _ hm] at hj
      rw [e]
      exact (hcs _ hd).2.1 _ _ hj
    · obtain ⟨cs, hc, hvc⟩ := List.mem_flatten.1 hv
      exact (hone cs hc).2 v hvc
    · intro v' w' hrow hgr hnil
      refine hK v' w' ?_
      have hb' : Below W.heap.size W w' := hb.grown hgr hb.size (fun j hj => (hown.lt j hj).1)
      rw [Nat.zero_add, List.nil_append] at hrow
      rcases hrow.2 with ⟨rfl, h0⟩ | ⟨g, cap', cur, rfl, hbase, hg, hn1, hm1, hs1, ht⟩
      · have hh : h = [] := List.length_eq_zero_iff.1 h0
        subst hh
        exact ⟨none, 0, rfl, Nat.le_refl _, Nat.zero_le _, fun _ => rfl, hb', fun hne => absurd rfl hne⟩
      · refine ⟨_, cap', rfl, hn1, hm1, (fun e => by cases e), hb', fun hne => ⟨g, css, rfl, ⟨hb', hbase, (Array.getElem?_eq_some_iff.1 hg).1, fun j hj => ?_, hone, fun j hj => ?_⟩, hcl, fun j h7 h8 => ?_⟩⟩
        · intro i v hv
          have hi : i < 6 := by
            have := (List.getElem?_eq_some_iff.1 hv).1
            rw [(hcs j hj).1] at this
            exact this
          rw [hrow.cellAt (j * 6 + i) (by omega), flat_at css hsix j hj i hi]
          exact hv
        · rw [Nat.zero_add]
          refine ⟨?_, hrow.frozenAt j⟩
          rw [hrow.cellAt j (by omega), List.getElem?_eq_getElem (by rw [flat_len css hsix]; exact hj)]
          rfl
        · obtain ⟨_, _, _, h9⟩ := hcs j h8
          exact h9

/-! Two elements change places in a region that draws its order. -/
def JX (PA PB PC : World → Prop) : Inv := fun D _ w => (D 15 = true → D 8 = true ∧ D 13 = true) ∧ (D 17 = true → D 15 = true) ∧ (if D 17 = true then PC w else if D 15 = true then PB w else PA w)
section
variable {PA PB PC : World → Prop} {D : Nat → Bool} {st : Nat → Value} {w w' : World}
theorem JX.start (h : PA w) (st : Nat → Value) : JX PA PB PC (fun _ => false) st w := ⟨(fun h => by cases h), (fun h => by cases h), h⟩
theorem JX.pure (h : JX PA PB PC D st w) (i : Nat) (v : Value) (h15 : i ≠ 15) (h17 : i ≠ 17) : JX PA PB PC (upD D i) (upV st i v) w := by
  obtain ⟨h1, h2, h3⟩ := h
  unfold JX
  have e : ∀ j, D j = true → upD D i j = true := fun j hj => by unfold upD; split; rfl; exact hj
  have e15 : upD D i 15 = D 15 := by unfold upD; rw [if_neg (Ne.symm h15)]
  have e17 : upD D i 17 = D 17 := by unfold upD; rw [if_neg (Ne.symm h17)]
  rw [e15, e17]
  exact ⟨fun hd => ⟨e 8 (h1 hd).1, e 13 (h1 hd).2⟩, h2, h3⟩
theorem JX.no8 (h : JX PA PB PC D st w) (hD : D 8 = false) : D 15 = false := by
  cases e : D 15 with
  | false => rfl
  | true => rw [(h.1 e).1] at hD; cases hD
theorem JX.no13 (h : JX PA PB PC D st w) (hD : D 13 = false) : D 15 = false := by
  cases e : D 15 with
  | false => rfl
  | true => rw [(h.1 e).2] at hD; cases hD
theorem JX.no15 (h : JX PA PB PC D st w) (hD : D 15 = false) : D 17 = false := by
  cases e : D 17 with
  | false => rfl
  | true => rw [h.2.1 e] at hD; cases hD
theorem JX.atA (h : JX PA PB PC D st w) (hD : D 15 = false) : PA w := by
  have := h.2.2
  rw [h.no15 hD, hD] at this
  simpa using this
theorem JX.atB (h : JX PA PB PC D st w) (d15 : D 15 = true) (hD : D 17 = false) : PB w := by
  have := h.2.2
  rw [hD, d15] at this
  simpa using this
theorem JX.s15 (h : JX PA PB PC D st w) (hD : D 15 = false) (d8 : D 8 = true) (d13 : D 13 = true) (hB : PB w') (v : Value) : JX PA PB PC (upD D 15) (upV st 15 v) w' := by
  unfold JX
  have e15 : upD D 15 15 = true := rfl
  have e17 : upD D 15 17 = false := by unfold upD; rw [if_neg (by decide)]; exact h.no15 hD
  have e8 : upD D 15 8 = true := by unfold upD; rw [if_neg (by decide)]; exact d8
  have e13 : upD D 15 13 = true := by unfold upD; rw [if_neg (by decide)]; exact d13
  rw [e15, e17]
  exact ⟨fun _ => ⟨e8, e13⟩, (fun e => by cases e), by simpa using hB⟩
theorem JX.s17 (h : JX PA PB PC D st w) (d15 : D 15 = true) (hC : PC w') (v : Value) : JX PA PB PC (upD D 17) (upV st 17 v) w' := by
  unfold JX
  have e17 : upD D 17 17 = true := rfl
  have e15 : upD D 17 15 = true := by unfold upD; rw [if_neg (by decide)]; exact d15
  have e8 : upD D 17 8 = true := by unfold upD; rw [if_neg (by decide)]; exact (h.1 d15).1
  have e13 : upD D 17 13 = true := by unfold upD; rw [if_neg (by decide)]; exact (h.1 d15).2
  rw [e15, e17]
  exact ⟨fun _ => ⟨e8, e13⟩, fun _ => rfl, by simpa using hC⟩
theorem JX.fin (h : JX PA PB PC D st w) (d : ∀ j, j < 18 → D j = true) : PC w := by
  have := h.2.2
  rw [d 17 (by omega)] at this
  simpa using this
end
end Go.Proofs.Ytgaolgfjbgflgaa
