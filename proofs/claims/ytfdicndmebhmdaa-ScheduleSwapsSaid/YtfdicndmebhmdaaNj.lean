/-
  Chapter 29: three writes, each after the other, in a region that draws its order; append of a trace that is read, in such a region; the front of a row.
-/
import Derived.Test.YtfdicndmebhmdaaNb
import Derived.Test.YtfdicndmebhmdaaEp
namespace Go.Proofs.Ytfdicndmebhmdaa
open Go.RowKit

/-- Three steps that write: nB, then nA, then nC; nR takes what nC gave. -/
def JW (nB nA nC nR : Nat) (Z : World → Prop) (P0 P1 P2 : Value → World → Prop) : Inv := fun D st w =>
  (D nA = true → D nB = true) ∧ (D nC = true → D nA = true) ∧ (D nR = true → D nC = true ∧ st nR = st nC) ∧ (D nB = false → Z w) ∧ (D nB = true → D nA = false → P0 (st nB) w) ∧
  (D nA = true → D nC = false → P1 (st nA) w) ∧ (D nC = true → P2 (st nC) w)
section
variable {nB nA nC nR : Nat} {Z : World → Prop} {P0 P1 P2 : Value → World → Prop} {D : Nat → Bool} {st : Nat → Value} {w w' : World}
theorem JW.start {w0 : World} (hz : Z w0.drew) (st : Nat → Value) : JW nB nA nC nR Z P0 P1 P2 (fun _ => false) st w0.drew :=
  ⟨(fun h => by cases h), (fun h => by cases h), (fun h => by cases h), (fun _ => hz), (fun h => by cases h), (fun h => by cases h), (fun h => by cases h)⟩
theorem JW.pure (h : JW nB nA nC nR Z P0 P1 P2 D st w) (i : Nat) (u : Value) (h1 : i ≠ nB) (h2 : i ≠ nA) (h3 : i ≠ nC) (h4 : i ≠ nR) : JW nB nA nC nR Z P0 P1 P2 (upD D i) (upV st i u) w := by
  obtain ⟨a, b, r, c, d, e, f⟩ := h
  unfold JW
  simp only [upD, upV, Ne.symm h1, Ne.symm h2, Ne.symm h3, Ne.symm h4, if_false]
  exact ⟨a, b, r, c, d, e, f⟩
theorem JW.getz (h : JW nB nA nC nR Z P0 P1 P2 D st w) (hD : D nB = false) : Z w := h.2.2.2.1 hD
theorem JW.get0 (h : JW nB nA nC nR Z P0 P1 P2 D st w) (hD : D nB = true) (hA : D nA = false) : P0 (st nB) w := h.2.2.2.2.1 hD hA
theorem JW.get1 (h : JW nB nA nC nR Z P0 P1 P2 D st w) (hD : D nA = true) (hC : D nC = false) : P1 (st nA) w := h.2.2.2.2.2.1 hD hC
theorem JW.get2 (h : JW nB nA nC nR Z P0 P1 P2 D st w) (hD : D nR = true) : P2 (st nR) w := by
  obtain ⟨a, b⟩ := h.2.2.1 hD
  rw [b]; exact h.2.2.2.2.2.2 a
theorem off_of {p q : Bool} (h : p = true → q = true) (hq : q = false) : p = false := by
  cases e : p with
  | false => rfl
  | true => rw [h e] at hq; cases hq
theorem JW.s0 (h : JW nB nA nC nR Z P0 P1 P2 D st w) (hD : D nB = false) (h1 : nB ≠ nA) (h2 : nB ≠ nC) (h3 : nB ≠ nR) {u : Value} (hp : P0 u w') : JW nB nA nC nR Z P0 P1 P2 (upD D nB) (upV st nB u) w' := by
  obtain ⟨a, b, r, c, d, e, f⟩ := h
  have hA := off_of a hD
  have hC := off_of b hA
  have hR := off_of (fun q => (r q).1) hC
  unfold JW
  simp only [upD, upV, Ne.symm h1, Ne.symm h2, Ne.symm h3, if_false, if_true, hA, hC, hR]
  exact ⟨(fun q => by cases q), (fun q => by cases q), (fun q => by cases q), (fun q => by cases q), (fun _ _ => hp), (fun q => by cases q), (fun q => by cases q)⟩
theorem JW.s1 (h : JW nB nA nC nR Z P0 P1 P2 D st w) (hB : D nB = true) (hD : D nA = false) (h1 : nB ≠ nA) (h2 : nA ≠ nC) (h3 : nA ≠ nR) {u : Value} (hp : P1 u w') : JW nB nA nC nR Z P0 P1 P2 (upD D nA) (upV st nA u) w' := by
  obtain ⟨a, b, r, c, d, e, f⟩ := h
  have hC := off_of b hD
  have hR := off_of (fun q => (r q).1) hC
  unfold JW
  simp only [upD, upV, h1, Ne.symm h2, Ne.symm h3, if_false, if_true, hB, hC, hR]
  exact ⟨(fun _ => trivial), (fun q => by cases q), (fun q => by cases q), (fun q => by cases q), (fun _ q => by cases q), (fun _ _ => hp), (fun q => by cases q)⟩
theorem JW.s2 (h : JW nB nA nC nR Z P0 P1 P2 D st w) (hA : D nA = true) (hD : D nC = false) (h1 : nB ≠ nC) (h2 : nA ≠ nC) (h3 : nC ≠ nR) {u : Value} (hp : P2 u w') : JW nB nA nC nR Z P0 P1 P2 (upD D nC) (upV st nC u) w' := by
  obtain ⟨a, b, r, c, d, e, f⟩ := h
  have hR := off_of (fun q => (r q).1) hD
  unfold JW
  simp only [upD, upV, h1, h2, Ne.symm h3, if_false, if_true, hA, a hA, hR]
  exact ⟨(fun _ => trivial), (fun _ => trivial), (fun q => by cases q), (fun q => by cases q), (fun _ q => by cases q), (fun _ q => by cases q), (fun _ => hp)⟩
theorem JW.s3 (h : JW nB nA nC nR Z P0 P1 P2 D st w) (hC : D nC = true) (h1 : nB ≠ nR) (h2 : nA ≠ nR) (h3 : nC ≠ nR) : JW nB nA nC nR Z P0 P1 P2 (upD D nR) (upV st nR (st nC)) w := by
  obtain ⟨a, b, r, c, d, e, f⟩ := h
  unfold JW
  simp only [upD, upV, h1, h2, h3, if_false, if_true]
  exact ⟨a, b, (fun _ => ⟨hC, trivial⟩), c, d, e, f⟩
end
/-- A trace whose uses are read in an earlier world. -/
abbrev ReadsW (W1 w : World) (v : Value) (t : List Ev) : Prop := ReadsK 2 (EvW W1) w v t
theorem keepsW (W1 : World) : Keeps (EvW W1) := fun _ _ _ _ _ h => h
theorem ReadsW.on {W1 w w' : World} {v : Value} {t : List Ev} (h : ReadsW W1 w v t) (hb : Below w.heap.size w w') : ReadsW W1 w' v t := ReadsK.keep (keepsW W1) h hb
theorem ReadsK.turn {α : Type} {K : Nat} {E E' : World → List Value → α → Prop} {w : World} {v : Value} {xs : List α} (h : ReadsK K E w v xs) (hE : ∀ cs x, E w cs x → E' w cs x) : ReadsK K E' w v xs := by
  obtain ⟨ao, cap, hv, h1, h2, h3, h4⟩ := h
  refine ⟨ao, cap, hv, h1, h2, h3, fun hne => ?_⟩
  obtain ⟨b, off, ha, hb, hc⟩ := h4 hne
  refine ⟨b, off, ha, hb, fun j hj => ?_⟩
  obtain ⟨cs, g1, g2, g3⟩ := hc j hj
  exact ⟨cs, g1, g2, hE _ _ g3⟩
theorem ReadsW.toE {W1 w : World} {v : Value} {t : List Ev} (h : ReadsW W1 w v t) (hb : Below W1.heap.size W1 w) : ReadsE w v t := ReadsK.turn h (EvW.ev hb)
theorem ReadsE.toW {w : World} {v : Value} {t : List Ev} (h : ReadsE w v t) : ReadsW w w v t := h
theorem ReadsW.news {w W1 : World} {ad : Addr} {n cap : Nat} {t : List Ev} (h : ReadsW W1 w (.slice (some ad) n cap) t) : n = t.length ∧ cap ≤ maxLen ∧ ∃ news : List Value, news.length = n * 2 ∧ (∀ j u, news[j]? = some u → w.cell? (ad.add j) = some u ∧ (0 < n → ad.block < w.heap.size)) ∧ (∀ u ∈ news, u.oneCell' = true) ∧
    ∀ k (h : k < t.length), ∃ cs : List Value, cs.length = 2 ∧ (∀ i, i < 2 → news[k * 2 + i]? = cs[i]?) ∧ EvE W1 cs t[k] := by
  obtain ⟨ao, cap', hv, h1, h2, h3, h4⟩ := h
  injection hv with e1 e2 e3
  subst e3
  refine ⟨e2, h2, ?_⟩
  by_cases h0 : t = []
  · subst h0
    exact ⟨[], by rw [e2]; rfl, (fun j u hu => by simp at hu), (fun u hu => by cases hu), fun k h => by simp at h⟩
  · obtain ⟨b, off, ha, hb, hc⟩ := h4 h0
    rw [ha] at e1
    injection e1 with e1
    subst e1
    obtain ⟨us, hl, hus⟩ := pick (n := t.length) (p := fun k u => ∀ h : k < t.length, (∀ i x, (evCs t[k] u)[i]? = some x → w.cell? ⟨b, off + k * 2 + i, none⟩ = some x) ∧ Reads vi W1 u t[k].2) fun k hk => by
      obtain ⟨cs, _, h6, vu, rfl, r1⟩ := hc k hk
      exact ⟨vu, fun _ => ⟨h6, r1⟩⟩
    have hfl := flatE_len hl
    refine ⟨flatE t us, by rw [hfl, e2], fun j u hu => ?_, fun u hu => ?_, fun k hk => ?_⟩
    · have hj : j < t.length * 2 := by rw [← hfl]; exact (List.getElem?_eq_some_iff.1 hu).1
      have hk : j / 2 < t.length := by omega
      obtain ⟨x, hx, hxx⟩ := hus (j / 2) hk
      obtain ⟨g1, g2⟩ := flatE_get hl (j / 2) hk
      have g3 := (hxx hk).1
      refine ⟨?_, fun _ => hb⟩
      rw [show Addr.add ⟨b, off, none⟩ j = (⟨b, off + j, none⟩ : Addr) by by_cases h0 : j = 0 <;> simp [Addr.add, h0]]
      rcases Nat.mod_two_eq_zero_or_one j with e | e
      · have e2 : j = j / 2 * 2 := by omega
        rw [e2, g1] at hu
        have := g3 0 _ rfl
        rw [Nat.add_zero] at this
        rw [e2, this]; exact hu
      · have e2 : j = j / 2 * 2 + 1 := by omega
        rw [e2, g2, hx] at hu
        have := g3 1 _ rfl
        rw [e2, ← Nat.add_assoc, this]; exact hu
    · obtain ⟨j, hj, rfl⟩ := List.mem_iff_getElem.1 hu
      rw [hfl] at hj
      have hk : j / 2 < t.length := by omega
      obtain ⟨x, hx, hxx⟩ := hus (j / 2) hk
      obtain ⟨g1, g2⟩ := flatE_get hl (j / 2) hk
      have hge : (flatE t us)[j]? = some (flatE t us)[j] := List.getElem?_eq_getElem _
      rcases Nat.mod_two_eq_zero_or_one j with e | e
      · have e2 : j = j / 2 * 2 := by omega
        have h5 : (flatE t us)[j]? = some (.int .i64 t[j / 2].1) := by rw [← g1, ← e2]
        rw [hge] at h5
        injection h5 with h5
        rw [h5]; rfl
      · have e2 : j = j / 2 * 2 + 1 := by omega
        have h5 : (flatE t us)[j]? = some x := by rw [← hx, ← g2, ← e2]
        rw [hge] at h5
        injection h5 with h5
        obtain ⟨a1, n1, c1, rfl⟩ := Slc.of_reads (hxx hk).2
        rw [h5]; rfl
    · obtain ⟨x, hx, hxx⟩ := hus k hk
      obtain ⟨g1, g2⟩ := flatE_get hl k hk
      refine ⟨evCs t[k] x, rfl, fun i hi => ?_, x, rfl, (hxx hk).2⟩
      match i, hi with
      | 0, _ => exact g1
      | 1, _ => exact g2.trans hx
set_option maxRecDepth 100000 in
/-- append of a trace that is read, an operation alone. -/
theorem wp_append_evw {B : Nat} {o : Oper} {a : Act} {w w0 W1 : World} {K : Act → World → Prop} {Q : Exit → Act → World → Prop} (s x : Operand)
    (ho : o.op = .call { callee := .builtin .append, args := #[s, x], argTypes := #[22, 22] })
    (v u : Value) (L ys : List Ev) (hs : a.eval s = v) (hown : OwnE B (EvW W1) w0 w v L) (hx : a.eval x = u) (hu : ReadsW W1 w u ys) (hlen : L.length + ys.length ≤ 100000)
    (h : ∀ v' w', OwnE B (EvW W1) w0 w' v' (L ++ ys) → Kept (fun k => B ≤ k) w w' → K (a.put o.dst v') w') : o.wp Try.prog a w K Q := by
  obtain ⟨i0, hinf, hz0, hz1, hz2⟩ := info_parts Try.infoEv
  obtain ⟨hb, cells, hrow, hc⟩ := hown
  obtain ⟨au, n, c, rfl⟩ := Slc.of_readsK hu
  cases au with
  | none =>
    obtain ⟨ao, cap', hv, h1, h2, h3, h4⟩ := hu
    injection hv with e1 e2 e3
    have h5 := h3 e1.symm
    have h0 : ys = [] := List.length_eq_zero_iff.1 (by omega)
    subst h0
    have en : n = 0 := e2
    have ec : c = 0 := by omega
    subst en ec
    have hrun := run_append_owned_none (P := Try.prog) (w := w) B 22 o.type 29 i0 2 Try.underlying22 hinf v L.length cells hrow
    unfold Oper.wp
    simp [execOp, ho, resolve, invoke, builtin, hs, hx, hrun, Result.andThen]
    exact h v w ⟨hb, cells, by simpa using hrow, by simpa using hc⟩ (Kept.refl _ _)
  | some ad =>
    obtain ⟨e2, hcm, news, hl, hcell, hone, hev⟩ := hu.news
    subst e2
    refine wp_append_own w s x 22 ho B 29 i0 _ 2 32 Try.underlying22 hinf hz0 hz1 hz2 rfl (by decide) v L.length cells hs hrow ad ys.length c news hx hl ?_ hone (by unfold maxLen; omega) (by omega) hb.2.1 ?_
    · intro j u hu
      have h1 := hcell j u hu
      have hpos : 0 < ys.length := by have := (List.getElem?_eq_some_iff.1 hu).1; omega
      exact h1.1
    · intro v' w' h1 h2 _
      have hk : Kept (fun k => B ≤ k) w w' := Kept.ofG h2 fun k hk => (hrow.lt k hk.symm).1
      refine h v' w' ⟨⟨hb.1, Nat.le_trans hb.2.1 h2.size, hb.2.2.trans (hk.below hb.2.2.size fun k hk => by have := hb.1; omega)⟩, cells ++ news, by rw [List.length_append]; exact h1, fun k hk => ?_⟩ hk
      have hcl : cells.length = L.length * 2 := hrow.1
      by_cases hlt : k < L.length
      · obtain ⟨ds, h5, h6, h7⟩ := hc k hlt
        refine ⟨ds, h5, fun i hi => ?_, by rw [List.getElem_append_left hlt]; exact h7⟩
        rw [List.getElem?_append_left (by omega)]
        exact h6 i hi
      · have hk' : k - L.length < ys.length := by rw [List.length_append] at hk; omega
        obtain ⟨ds, h5, h6, h7⟩ := hev (k - L.length) hk'
        refine ⟨ds, h5, fun i hi => ?_, by rw [List.getElem_append_right (by omega)]; exact h7⟩
        rw [List.getElem?_append_right (by omega), hcl, ← h6 i hi]
        congr 1
        omega
theorem append_evw {B : Nat} {ops : Array Oper} {rest : List Oper} {o : Oper} {a : Act} {w w0 W1 : World} {Q : Exit → Act → World → Prop} (hgd : o.guard = none) (s x : Operand)
    (ho : o.op = .call { callee := .builtin .append, args := #[s, x], argTypes := #[22, 22] })
    (v u : Value) (L ys : List Ev) (hs : a.eval s = v) (hown : OwnE B (EvW W1) w0 w v L) (hx : a.eval x = u) (hu : ReadsW W1 w u ys) (hlen : L.length + ys.length ≤ 100000)
    (h : ∀ v' w', OwnE B (EvW W1) w0 w' v' (L ++ ys) → Kept (fun k => B ≤ k) w w' → wpList Try.prog ops Q rest (a.put o.dst v') w') : wpList Try.prog ops Q (o :: rest) a w :=
  wpList_plain hgd fun _ hK => wp_append_evw s x ho v u L ys hs hown hx hu hlen fun v' w' h2 h3 => hK _ _ (h v' w' h2 h3)
theorem OwnE.readsW {B : Nat} {W1 w0 wr : World} {v : Value} {L : List Ev} (h : OwnE B (EvW W1) w0 wr v L) : ReadsW W1 wr v L := by
  obtain ⟨hb, cells, hown, hc⟩ := h
  rcases hown.2 with ⟨rfl, h0⟩ | ⟨g, cap, cur, rfl, hbg, hg, hn, hm, hs, ht⟩
  · have : L = [] := List.length_eq_zero_iff.1 h0
    subst this
    exact ReadsK.nil wr
  · refine ⟨_, cap, rfl, hn, hm, (fun e => by cases e), fun _ => ⟨g, 0, rfl, (Array.getElem?_eq_some_iff.1 hg).1, fun j hj => ?_⟩⟩
    obtain ⟨cs, h1, h2, h3⟩ := hc j hj
    refine ⟨cs, h1, fun i u hu => ?_, h3⟩
    have hi : i < 2 := by have := (List.getElem?_eq_some_iff.1 hu).1; omega
    rw [cell_of_row wr g _ cur _ (0, 0) hg, Nat.zero_add]
    have h4 := h2 i hi
    rw [hu, ← ht, List.getElem?_take, if_pos (by omega), Array.getElem?_toList] at h4
    exact h4
/-- The front of a row. -/
theorem row_take {w : World} {B n c k : Nat} {e : TypeId} {a : Option Addr} {xs : List Value} (h : w.ownsRow B e 1 (.slice a n c) n xs) (hk : k ≤ n) : w.ownsRow B e 1 (.slice a k c) k (xs.take k) := by
  obtain ⟨h0, h⟩ := h
  refine ⟨by rw [List.length_take]; omega, ?_⟩
  rcases h with ⟨h1, h2⟩ | ⟨g, cap, cur, hv, hb, hg, hn, hm, hs, ht⟩
  · injection h1 with e1 e2 e3
    subst e1 e3
    have : k = 0 := by omega
    subst this
    exact .inl ⟨rfl, rfl⟩
  · injection hv with e1 e2 e3
    subst e1 e3
    refine .inr ⟨g, c, cur, rfl, hb, hg, by omega, hm, hs, ?_⟩
    rw [← ht, List.take_take]
    congr 1
    omega
/-- A part of a trace that is read. -/
theorem ReadsK.part {E : World → List Value → Ev → Prop} {w : World} {b off cap i j : Nat} {t : List Ev} (h : ReadsK 2 E w (.slice (some ⟨b, off, none⟩) t.length cap) t) (hij : i ≤ j) (hj : j ≤ t.length) : ReadsK 2 E w (.slice (some ⟨b, off + i * 2, none⟩) (j - i) (cap - i)) ((t.take j).drop i) := by
  obtain ⟨ao, cap', hv, h1, h2, h3, h4⟩ := h
  injection hv with e1 e2 e3
  subst e1 e3
  have hl : ((t.take j).drop i).length = j - i := by rw [List.length_drop, List.length_take]; omega
  refine ⟨_, cap - i, by rw [hl], by rw [hl]; omega, by omega, (fun e => by cases e), fun hne => ?_⟩
  have h5 : 0 < j - i := by have := List.length_pos_iff.2 hne; omega
  obtain ⟨b', off', e, hb, hc⟩ := h4 (fun e => by rw [e] at hj; simp at hj; omega)
  injection e with e
  injection e with e4 e5
  subst e4 e5
  refine ⟨b, off + i * 2, rfl, hb, fun k hk => ?_⟩
  rw [hl] at hk
  obtain ⟨cs, g1, g2, g3⟩ := hc (i + k) (by omega)
  refine ⟨cs, g1, fun q u hu => ?_, ?_⟩
  · rw [← g2 q u hu]; congr 2; omega
  · rw [List.getElem_drop, List.getElem_take]; exact g3
theorem ReadsK.tail_ {E : World → List Value → Ev → Prop} {w : World} {b off cap i : Nat} {t : List Ev} (h : ReadsK 2 E w (.slice (some ⟨b, off, none⟩) t.length cap) t) (hi : i ≤ t.length) : ReadsK 2 E w (.slice (if cap = i then some ⟨b, off, none⟩ else some ⟨b, off + i * 2, none⟩) (t.length - i) (cap - i)) ((t.take t.length).drop i) := by
  by_cases e : cap = i
  · rw [if_pos e]
    obtain ⟨ao, cap', hv, h1, h2, -, -⟩ := id h
    injection hv with e1 e2 e3
    subst e1 e3
    have hl : (t.take t.length).drop i = [] := by rw [List.take_length]; exact List.drop_eq_nil_of_le (by omega)
    rw [hl]
    exact ⟨_, cap - i, by rw [show t.length - i = 0 by omega]; rfl, Nat.zero_le _, by omega, (fun e => by cases e), fun h => absurd rfl h⟩
  · rw [if_neg e]; exact h.part hi (Nat.le_refl _)
end Go.Proofs.Ytfdicndmebhmdaa
