/-
  Chapter 29: newSearch.
-/
import Derived.Test.YtfdicndmebhmdaaEc
namespace Go.Proofs.Ytfdicndmebhmdaa
open Go.RowKit

/-- One value appended to a row of the call's own, and the row stored, in a region that draws its order. -/
def JA (B nB nA nS : Nat) (w0 : World) (v : Value) (m : Nat) (xs : List Value) (x : Value) (F : World → Prop) : Inv := fun D st w =>
  (D nA = true → D nB = true) ∧ (D nS = true → ∀ j, j < nS → D j = true) ∧
  (D nS = false → Below B w0 w) ∧ (D nA = false → w.ownsRow B 3 1 v m xs) ∧
  (D nB = true → D nA = false → ∃ g, st nB = .slice (some ⟨g, 0, none⟩) 1 1 ∧ Blk w g 3 #[x]) ∧
  (D nA = true → D nS = false → w.ownsRow B 3 1 (st nA) (m + 1) (xs ++ [x])) ∧ (D nS = true → F w)
section
variable {B nB nA nS m : Nat} {w0 w w' : World} {v : Value} {xs : List Value} {x : Value} {F : World → Prop} {D : Nat → Bool} {st : Nat → Value}
theorem JA.start (hr : w0.ownsRow B 3 1 v m xs) (st : Nat → Value) : JA B nB nA nS w0 v m xs x F (fun _ => false) st w0.drew :=
  ⟨(fun h => by cases h), (fun h => by cases h), fun _ => ⟨rfl, rfl, rfl, Nat.le_refl _, fun _ _ => rfl⟩, fun _ => hr, (fun h => by cases h), (fun h => by cases h), (fun h => by cases h)⟩
theorem JA.open_ (h : JA B nB nA nS w0 v m xs x F D st w) {i : Nat} (hi : i < nS) (hD : D i = false) : D nS = false ∧ Below B w0 w := by
  have : D nS = false := by
    cases e : D nS with
    | false => rfl
    | true => rw [h.2.1 e i hi] at hD; cases hD
  exact ⟨this, h.2.2.1 this⟩
theorem JA.pure (h : JA B nB nA nS w0 v m xs x F D st w) (i : Nat) (u : Value) (h1 : i ≠ nB) (h2 : i ≠ nA) (h3 : i ≠ nS) : JA B nB nA nS w0 v m xs x F (upD D i) (upV st i u) w := by
  obtain ⟨a, b, c, d, e, f, g⟩ := h
  unfold JA
  simp only [upD, upV, Ne.symm h1, Ne.symm h2, Ne.symm h3, if_false]
  refine ⟨a, fun hs j hj => ?_, c, d, e, f, g⟩
  split
  · rfl
  · exact b hs j hj
theorem JA.made (h : JA B nB nA nS w0 v m xs x F D st w) (hD : D nB = false) (h1 : nB ≠ nA) (h2 : nB < nS) : JA B nB nA nS w0 v m xs x F (upD D nB) (upV st nB (.slice (some ⟨w.heap.size, 0, none⟩) 1 1)) (w.alloc (.cells #[x] 3)) ∧ Below B w (w.alloc (.cells #[x] 3)) ∨ ¬ B ≤ w.heap.size := by
  by_cases hB : B ≤ w.heap.size
  · refine .inl ⟨?_, (Below.refl _ _).alloc hB _⟩
    have hS := (h.open_ h2 hD).1
    obtain ⟨a, b, c, d, e, f, g⟩ := h
    have hA : D nA = false := by
      cases e : D nA with
      | false => rfl
      | true => rw [a e] at hD; cases hD
    unfold JA
    simp only [upD, upV, Ne.symm h1, if_false, if_true, show ¬ nS = nB by omega, hS, hA]
    refine ⟨(fun q => by cases q), (fun q => by cases q), fun _ => (c hS).alloc hB _, fun _ => (d hA).alloc _, fun _ _ => ⟨_, rfl, Blk.new w _ _⟩, (fun q => by cases q), (fun q => by cases q)⟩
  · exact .inr hB
theorem JA.more (h : JA B nB nA nS w0 v m xs x F D st w) (hD : D nA = false) (hB : D nB = true) (h1 : nB ≠ nA) (h2 : nA < nS) {u : Value} (hr : w'.ownsRow B 3 1 u (m + 1) (xs ++ [x])) (hg : w.grownBy w' v.ownBlock) (hsz : B ≤ w.heap.size) :
    JA B nB nA nS w0 v m xs x F (upD D nA) (upV st nA u) w' ∧ Below B w w' := by
  have hS := (h.open_ h2 hD).1
  obtain ⟨a, b, c, d, e, f, g⟩ := h
  have hb : Below B w w' := ⟨hg.os, hg.tape, hg.output, hg.size, fun i hi => hg.block i (by omega) fun q => by have := ((d hD).lt i q.symm).1; omega⟩
  refine ⟨?_, hb⟩
  unfold JA
  simp only [upD, upV, h1, if_false, if_true, show ¬ nS = nA by omega, hS, hB]
  exact ⟨(fun _ => trivial), (fun q => by cases q), fun _ => (c hS).trans hb, (fun q => by cases q), (fun _ q => by cases q), fun _ _ => hr, (fun q => by cases q)⟩
theorem JA.fin (h : JA B nB nA nS w0 v m xs x F D st w) (hall : ∀ j, j < nS → D j = true) (hA : D nA = true) (h1 : nA < nS) (h2 : nB < nS) (hF : F w') : JA B nB nA nS w0 v m xs x F (upD D nS) (upV st nS undef) w' := by
  obtain ⟨a, b, c, d, e, f, g⟩ := h
  unfold JA
  simp only [upD, upV, if_true, show ¬ nA = nS by omega, show ¬ nB = nS by omega, if_false, hA]
  refine ⟨fun _ => a hA, fun _ j hj => ?_, (fun q => by cases q), (fun q => by cases q), (fun _ q => by cases q), (fun _ q => by cases q), fun _ => hF⟩
  rw [if_neg (by omega)]; exact hall j hj
end

theorem all_of {o : Oper} {D : Nat → Bool} {n : Nat} (h : (List.range n).all (fun j => (depsOf o).contains j) = true) (hdp : ∀ j ∈ depsOf o, D j = true) : ∀ j, j < n → D j = true := fun j hj => by
  rw [List.all_eq_true] at h
  exact hdp j (by simpa using h j (List.mem_range.2 hj))
/-! What the loops of newSearch have done. -/
def nwt (t : List Ev) (i k j : Nat) : Nat := ((List.range j).countP fun a => decide (a < i) && depI t a j) + if i < j ∧ j < k ∧ depI t i j = true then 1 else 0
def sucK (t : List Ev) (i k : Nat) : List Nat := (List.range k).filter fun j => decide (i < j) && depI t i j
theorem sucK_all (t : List Ev) (i : Nat) : sucK t i t.length = sucE t i := rfl
theorem sucK_none (t : List Ev) {i k : Nat} (h : k ≤ i + 1) : sucK t i k = [] := by
  unfold sucK
  rw [List.filter_eq_nil_iff]
  intro a ha
  have := List.mem_range.1 ha
  simp only [Bool.and_eq_true, decide_eq_true_eq, not_and]
  intro h1; omega
theorem sucK_yes {t : List Ev} {i k : Nat} (hi : i < k) (hd : depI t i k = true) : sucK t i (k + 1) = sucK t i k ++ [k] := by
  unfold sucK
  rw [List.range_succ, List.filter_append]
  simp [hi, hd]
theorem sucK_no {t : List Ev} {i k : Nat} (hd : depI t i k = false) : sucK t i (k + 1) = sucK t i k := by
  unfold sucK
  rw [List.range_succ, List.filter_append]
  simp [hd]
theorem sucK_len (t : List Ev) (i k : Nat) : (sucK t i k).length ≤ k := Nat.le_trans (List.length_filter_le _ _) (by simp)
theorem nwt_zero (t : List Ev) (j : Nat) : nwt t 0 1 j = 0 := by
  unfold nwt
  rw [if_neg (by omega), List.countP_eq_zero.2 (by simp)]
theorem nwt_last (t : List Ev) {i j : Nat} (hj : j < i) (k : Nat) : nwt t i k j = wtE t noU j := by
  unfold nwt wtE
  rw [if_neg (by omega), Nat.add_zero]
  refine List.countP_congr fun a ha => ?_
  have := List.mem_range.1 ha
  rw [decide_eq_true (show a < i by omega)]; rfl
theorem nwt_no {t : List Ev} {i k : Nat} (hd : depI t i k = false) (j : Nat) : nwt t i (k + 1) j = nwt t i k j := by
  unfold nwt
  congr 1
  by_cases e : j = k
  · subst e
    rw [if_neg (by rw [hd]; simp), if_neg (by omega)]
  · by_cases h : i < j ∧ j < k ∧ depI t i j = true
    · rw [if_pos h, if_pos ⟨h.1, by omega, h.2.2⟩]
    · rw [if_neg h, if_neg (fun q => h ⟨q.1, by omega, q.2.2⟩)]
theorem nwt_yes {t : List Ev} {i k : Nat} (hi : i < k) (hd : depI t i k = true) (j : Nat) : nwt t i (k + 1) j = if j = k then nwt t i k k + 1 else nwt t i k j := by
  unfold nwt
  by_cases e : j = k
  · subst e
    rw [if_pos rfl, if_pos ⟨hi, by omega, hd⟩, if_neg (by omega)]
  · rw [if_neg e]
    congr 1
    by_cases h : i < j ∧ j < k ∧ depI t i j = true
    · rw [if_pos h, if_pos ⟨h.1, by omega, h.2.2⟩]
    · rw [if_neg h, if_neg (fun q => h ⟨q.1, by omega, q.2.2⟩)]
theorem nwt_next (t : List Ev) (i n j : Nat) (hj : j < n) : nwt t (i + 1) (i + 2) j = nwt t i n j := by
  unfold nwt
  rw [if_neg (by omega), Nat.add_zero]
  by_cases h : i < j ∧ depI t i j = true
  · rw [if_pos ⟨h.1, hj, h.2⟩]
    exact countP_one (i := i) (by rw [decide_eq_true (show i < i + 1 by omega), h.2]; rfl) (by simp) (fun a ha => by
      congr 1
      by_cases q : a < i
      · rw [decide_eq_true q, decide_eq_true (by omega)]
      · rw [decide_eq_false q, decide_eq_false (by omega)]) h.1
  · rw [if_neg (fun q => h ⟨q.1, q.2.2⟩), Nat.add_zero]
    refine List.countP_congr fun a ha => ?_
    have := List.mem_range.1 ha
    by_cases q : a = i
    · subst q
      have : depI t a j = false := Bool.eq_false_iff.2 fun hd => h ⟨this, hd⟩
      rw [this]; simp
    · by_cases q' : a < i
      · rw [decide_eq_true q', decide_eq_true (show a < i + 1 by omega)]
      · rw [decide_eq_false q', decide_eq_false (show ¬ a < i + 1 by omega)]
theorem nwt_le (t : List Ev) (i k j : Nat) : nwt t i k j ≤ j + 1 := by
  unfold nwt
  have : ((List.range j).countP fun a => decide (a < i) && depI t a j) ≤ j := Nat.le_trans List.countP_le_length (by simp)
  split <;> omega
structure NewS (W wi wr : World) (gs gw gn gu : Nat) (tv : Value) (t : List Ev) (i kw kr : Nat) (f : Nat → Value) : Prop where
  bs : Blk wr gs 65 #[tv, .slice (some ⟨gw, 0, none⟩) t.length t.length, .slice (some ⟨gn, 0, none⟩) t.length t.length, .slice (some ⟨gu, 0, none⟩) t.length t.length]
  bw : Blk wr gw 3 (rowF t.length fun j => .int .i64 ((nwt t i kw j : Nat) : Int))
  bu : Blk wr gu 4 (rowF t.length fun _ => .bool false)
  bn : Blk wr gn 25 (rowF t.length f)
  ord : W.heap.size ≤ gw ∧ W.heap.size ≤ gn ∧ W.heap.size ≤ gu ∧ gw < gs ∧ gn < gs ∧ gu < gs ∧ gs < wi.heap.size ∧ wi.heap.size ≤ wr.heap.size
  ne : gw ≠ gn ∧ gu ≠ gn ∧ gw ≠ gu
  done : ∀ a, a < i → a < t.length → Reads nv wr (f a) (sucE t a) ∧ ∀ b, (f a).ownBlock = some b → gs < b ∧ b < wi.heap.size
  cur : i < t.length → wr.ownsRow wi.heap.size 3 1 (f i) (sucK t i kr).length ((sucK t i kr).map nv)
  later : ∀ a, i < a → f a = .slice none 0 0
  bel : Below W.heap.size W wr
section
variable {W wi wr w' : World} {gs gw gn gu : Nat} {tv : Value} {t : List Ev} {i kw kr : Nat} {f : Nat → Value}
theorem NewS.on (h : NewS W wi wr gs gw gn gu tv t i kw kr f) (hb : Below wr.heap.size wr w') : NewS W wi w' gs gw gn gu tv t i kw kr f :=
  ⟨h.bs.on hb, h.bw.on hb, h.bu.on hb, h.bn.on hb, ⟨h.ord.1, h.ord.2.1, h.ord.2.2.1, h.ord.2.2.2.1, h.ord.2.2.2.2.1, h.ord.2.2.2.2.2.1, h.ord.2.2.2.2.2.2.1, Nat.le_trans h.ord.2.2.2.2.2.2.2 hb.size⟩, h.ne,
    fun a ha hn => ⟨((h.done a ha hn).1).keep hb, (h.done a ha hn).2⟩, fun hi => below_row (h.cur hi) hb, h.later, h.bel.trans (hb.mono h.bel.size)⟩
theorem NewS.low (h : NewS W wi wr gs gw gn gu tv t i kw kr f) {B : Nat} (hB : B = wi.heap.size) (hb : Below B wr w') : Blk w' gs 65 #[tv, .slice (some ⟨gw, 0, none⟩) t.length t.length, .slice (some ⟨gn, 0, none⟩) t.length t.length, .slice (some ⟨gu, 0, none⟩) t.length t.length] ∧ Blk w' gn 25 (rowF t.length f) := by
  subst hB
  have := h.ord
  exact ⟨h.bs.below hb (by omega), h.bn.below hb (by omega)⟩
/-- wait[k]++ -/
theorem NewS.wait (h : NewS W wi wr gs gw gn gu tv t i kw kr f) (hi : i < kw) (hd : depI t i kw = true) (x : Nat) (hx : nwt t i kw kw = x) : NewS W wi (wr.setCell ⟨gw, kw, none⟩ (.int .i64 ((x + 1 : Nat) : Int))) gs gw gn gu tv t i (kw + 1) kr f := by
  have ho := h.ord
  have hk : Kept (fun b => b = gw) wr (wr.setCell ⟨gw, kw, none⟩ (.int .i64 ((x + 1 : Nat) : Int))) := Kept.set _ rfl
  refine ⟨hk.blk h.bs (by omega), ?_, hk.blk h.bu h.ne.2.2.symm, hk.blk h.bn h.ne.1.symm, ⟨ho.1, ho.2.1, ho.2.2.1, ho.2.2.2.1, ho.2.2.2.2.1, ho.2.2.2.2.2.1, ho.2.2.2.2.2.2.1, by simpa [World.setCell] using ho.2.2.2.2.2.2.2⟩, h.ne,
    fun a ha hn => ⟨hk.reads (h.done a ha hn).1 fun b hb => by have := ((h.done a ha hn).2 b hb).1; omega, (h.done a ha hn).2⟩, fun hi => hk.row (h.cur hi) fun b hb => by have := ((h.cur hi).lt b hb).1; omega, h.later, h.bel.setCell (p := ⟨gw, kw, none⟩) ho.1 _⟩
  have h1 := h.bw.set_ kw (.int .i64 ((x + 1 : Nat) : Int))
  rw [rowF_set] at h1
  rw [rowF_congr (g' := fun j => .int .i64 ((nwt t i (kw + 1) j : Nat) : Int)) (fun j _ => by
    rw [nwt_yes hi hd j]
    by_cases e : j = kw
    · rw [if_pos e, if_pos e, hx]
    · rw [if_neg e, if_neg e])] at h1
  exact h1
/-- next[i] = append(next[i], k), behind the append. -/
theorem NewS.row {wq : World} (h : NewS W wi wr gs gw gn gu tv t i (kr + 1) kr f) (_hi : i < t.length) (hk : i < kr) (hd : depI t i kr = true) {u : Value} (hb : Below wi.heap.size wr wq) (hr : wq.ownsRow wi.heap.size 3 1 u ((sucK t i kr).length + 1) ((sucK t i kr).map nv ++ [nv kr])) :
    NewS W wi (wq.setCell ⟨gn, i, none⟩ u) gs gw gn gu tv t i (kr + 1) (kr + 1) (fun j => if j = i then u else f j) := by
  have ho := h.ord
  have hkp : Kept (fun b => b = gn) wq (wq.setCell ⟨gn, i, none⟩ u) := Kept.set _ rfl
  have hW : Below W.heap.size W wq := h.bel.trans (hb.mono (by omega))
  refine ⟨hkp.blk (h.bs.below hb (by omega)) (by omega), hkp.blk (h.bw.below hb (by omega)) h.ne.1, hkp.blk (h.bu.below hb (by omega)) h.ne.2.1, ?_, ⟨ho.1, ho.2.1, ho.2.2.1, ho.2.2.2.1, ho.2.2.2.2.1, ho.2.2.2.2.2.1, ho.2.2.2.2.2.2.1, ?_⟩, h.ne,
    fun a ha hn => ?_, fun _ => ?_, fun a ha => ?_, hW.setCell (p := ⟨gn, i, none⟩) ho.2.1 _⟩
  · have h1 := (h.bn.below hb (by omega)).set_ i u
    rw [rowF_set] at h1
    exact h1
  · have := hb.size
    simp [World.setCell]; omega
  · simp only [show ¬ a = i by omega, if_false]
    have h1 := h.done a ha hn
    have h2 : Kept (fun b => wi.heap.size ≤ b) wr wq := ⟨hb.os, hb.tape, hb.output, hb.size, fun k _ hk => hb.block k (by omega)⟩
    exact ⟨hkp.reads (h2.reads h1.1 fun b hb => by have := (h1.2 b hb).2; omega) fun b hb => by have := (h1.2 b hb).1; omega, h1.2⟩
  · simp only [if_true]
    rw [sucK_yes hk hd, List.length_append, List.map_append]
    exact hkp.row hr fun b hb => by have := (hr.lt b hb).1; omega
  · simp only [show ¬ a = i by omega, if_false]
    exact h.later a ha
theorem NewS.skip (h : NewS W wi wr gs gw gn gu tv t i kr kr f) (hd : depI t i kr = false) : NewS W wi wr gs gw gn gu tv t i (kr + 1) (kr + 1) f :=
  ⟨h.bs, by
    have h1 := h.bw
    rw [rowF_congr (g' := fun j => .int .i64 ((nwt t i (kr + 1) j : Nat) : Int)) (fun j _ => by rw [nwt_no hd])] at h1
    exact h1, h.bu, h.bn, h.ord, h.ne, h.done, fun hi => by rw [sucK_no hd]; exact h.cur hi, h.later, h.bel⟩
theorem NewS.next (h : NewS W wi wr gs gw gn gu tv t i t.length t.length f) (hi : i < t.length) : NewS W wr wr gs gw gn gu tv t (i + 1) (i + 2) (i + 2) f := by
  have ho := h.ord
  refine ⟨h.bs, ?_, h.bu, h.bn, ⟨ho.1, ho.2.1, ho.2.2.1, ho.2.2.2.1, ho.2.2.2.2.1, ho.2.2.2.2.2.1, by omega, Nat.le_refl _⟩, h.ne, fun a ha hn => ?_, fun _ => ?_, fun a ha => h.later a (by omega), h.bel⟩
  · have h1 := h.bw
    rw [rowF_congr (g' := fun j => .int .i64 ((nwt t (i + 1) (i + 2) j : Nat) : Int)) (fun j hj => by rw [nwt_next t i t.length j hj])] at h1
    exact h1
  · by_cases e : a = i
    · subst e
      have h1 := h.cur hi
      rw [sucK_all] at h1
      exact ⟨Reads.of_owns h1, fun b hb => by have := h1.lt b hb; omega⟩
    · have h1 := h.done a (by omega) hn
      exact ⟨h1.1, fun b hb => by have := h1.2 b hb; omega⟩
  · rw [sucK_none t (by omega), h.later (i + 1) (by omega)]
    exact World.ownsRow_nil _ _ _ _
theorem NewS.srch (h : NewS W wr wr gs gw gn gu tv t t.length kw kr f) : Srch W.heap.size wr.heap.size wr gs gw gn gu tv t noU := by
  have ho := h.ord
  refine ⟨h.bs, ?_, h.bu, ⟨f, h.bn, fun k hk => ?_⟩, by omega, by omega⟩
  · have h1 := h.bw
    rw [rowF_congr (g' := fun j => .int .i64 ((wtE t noU j : Nat) : Int)) (fun j hj => by rw [nwt_last t hj])] at h1
    exact h1
  · have h1 := h.done k hk hk
    exact ⟨h1.1, fun b hb => by have := h1.2 b hb; omega⟩
end
theorem made_rowF (z : Value) (n : Nat) : madeCells #[z] n = rowF n fun _ => z := by
  apply Array.ext
  · simp [madeCells, rowF]
  · intro j h1 h2
    simp [madeCells, rowF, Nat.mod_one]
/-- A row that make has made. -/
def leftMk (B n : Nat) (T : TypeId) (z : Value) : Left := .has (fun x w => ∃ g : Nat, x = .slice (some ⟨g, 0, none⟩) n n ∧ B ≤ g ∧ Blk w g T (rowF n fun _ => z)) (fun _ _ _ hb ⟨g, h1, h2, h3⟩ => ⟨g, h1, h2, h3.on hb⟩)
def slc (g n : Nat) : Value := .slice (some ⟨g, 0, none⟩) n n
def SrRows (B n : Nat) (w : World) (gw gn gu : Nat) : Prop := (B ≤ gw ∧ B ≤ gn ∧ B ≤ gu) ∧ Blk w gw 3 (rowF n fun _ => .int .i64 0) ∧ Blk w gn 25 (rowF n fun _ => .slice none 0 0) ∧ Blk w gu 4 (rowF n fun _ => .bool false)
theorem SrRows.on {B n gw gn gu : Nat} {w w' : World} (h : SrRows B n w gw gn gu) (hb : Below w.heap.size w w') : SrRows B n w' gw gn gu := ⟨h.1, h.2.1.on hb, h.2.2.1.on hb, h.2.2.2.on hb⟩
def leftAg (B n : Nat) (tv : Value) : Left := .has (fun x w => ∃ gw gn gu : Nat, x = .agg #[tv, slc gw n, slc gn n, slc gu n] ∧ SrRows B n w gw gn gu) (fun _ _ _ hb ⟨a, b, c, h1, h2⟩ => ⟨a, b, c, h1, h2.on hb⟩)
def leftSr (B n : Nat) (tv : Value) : Left := .has (fun x w => ∃ gs gw gn gu : Nat, x = .pointer (some ⟨gs, 0, none⟩) ∧ Blk w gs 65 #[tv, slc gw n, slc gn n, slc gu n] ∧ SrRows B n w gw gn gu ∧ gw < gs ∧ gn < gs ∧ gu < gs) (fun _ _ _ hb ⟨s, a, b, c, h1, h2, h3, h4⟩ => ⟨s, a, b, c, h1, h2.on hb, h3.on hb, h4⟩)
theorem Try.infoBool29 : (Try.prog.info? 4).map (fun i => (i.zero, i.size, i.bytes)) = some (some (.bool false), 1, 1) := by kernel_rfl
theorem Try.infoInts29 : (Try.prog.info? 25).map (fun i => (i.zero, i.size, i.bytes)) = some (some (.slice none 0 0), 1, 24) := by kernel_rfl
theorem make_ints (n : Nat) (hn : n ≤ 1000000) (w1 : World) : (Instr.makeSlice 25 (.int .i64 (n : Int)) (.int .i64 (n : Int))).run Try.prog w1 = .ok (.slice (some ⟨w1.heap.size, 0, none⟩) n n) (w1.alloc (.cells (rowF n fun _ => .int .i64 0) 3)) := by
  obtain ⟨i0, hinf, hz0, hz1, hz2⟩ := info_parts Try.infoInt1
  have h0 := run_make (P := Try.prog) w1 25 3 i0 (.int .i64 0) Try.underlying25 hinf hz0 .i64 .i64 (n : Int) (n : Int) (by omega) (Int.le_refl _) (by rw [hz2]; omega) (by omega)
  have e : ((n : Nat) : Int).toNat = n := by omega
  rw [e] at h0
  have e2 : madeCells (Value.int .i64 0).cells (n * i0.size) = rowF n fun _ => .int .i64 0 := by rw [hz1, Nat.mul_one]; exact made_rowF _ _
  rw [e2] at h0
  exact h0
theorem make_bools (n : Nat) (hn : n ≤ 1000000) (w1 : World) : (Instr.makeSlice 58 (.int .i64 (n : Int)) (.int .i64 (n : Int))).run Try.prog w1 = .ok (.slice (some ⟨w1.heap.size, 0, none⟩) n n) (w1.alloc (.cells (rowF n fun _ => .bool false) 4)) := by
  obtain ⟨i0, hinf, hz0, hz1, hz2⟩ := info_parts Try.infoBool29
  have h0 := run_make (P := Try.prog) w1 58 4 i0 (.bool false) Try.underlying58 hinf hz0 .i64 .i64 (n : Int) (n : Int) (by omega) (Int.le_refl _) (by rw [hz2]; omega) (by omega)
  have e : ((n : Nat) : Int).toNat = n := by omega
  rw [e] at h0
  have e2 : madeCells (Value.bool false).cells (n * i0.size) = rowF n fun _ => .bool false := by rw [hz1, Nat.mul_one]; exact made_rowF _ _
  rw [e2] at h0
  exact h0
theorem make_lists (n : Nat) (hn : n ≤ 1000000) (w1 : World) : (Instr.makeSlice 34 (.int .i64 (n : Int)) (.int .i64 (n : Int))).run Try.prog w1 = .ok (.slice (some ⟨w1.heap.size, 0, none⟩) n n) (w1.alloc (.cells (rowF n fun _ => .slice none 0 0) 25)) := by
  obtain ⟨i0, hinf, hz0, hz1, hz2⟩ := info_parts Try.infoInts29
  have h0 := run_make (P := Try.prog) w1 34 25 i0 (.slice none 0 0) Try.underlying34 hinf hz0 .i64 .i64 (n : Int) (n : Int) (by omega) (Int.le_refl _) (by rw [hz2]; omega) (by omega)
  have e : ((n : Nat) : Int).toNat = n := by omega
  rw [e] at h0
  have e2 : madeCells (Value.slice none 0 0).cells (n * i0.size) = rowF n fun _ => .slice none 0 0 := by rw [hz1, Nat.mul_one]; exact made_rowF _ _
  rw [e2] at h0
  exact h0
def NewMade (W : World) (tv : Value) (t : List Ev) (e : Ending) (w' : World) : Prop := ∃ gs gw gn gu : Nat, e = .returned (.pointer (some ⟨gs, 0, none⟩)) ∧ W.heap.size ≤ gw ∧ W.heap.size ≤ gu ∧ Srch W.heap.size w'.heap.size w' gs gw gn gu tv t noU ∧ Below W.heap.size W w'

set_option maxRecDepth 100000 in
set_option maxHeartbeats 8000000 in
theorem new_any (tv : Value) (t : List Ev) (W : World) (hr : ReadsE W tv t) (hn : t.length ≤ 1000) : Calls Try.prog 33 #[tv] W (NewMade W tv t) := by
  have HR := Lib.hid hr
  obtain ⟨ao, cap, rfl, hl, hm, -, -⟩ := hr
  unfold maxLen at hm
  have HM1 := Lib.hid (make_ints t.length (by omega))
  have HM2 := Lib.hid (make_lists t.length (by omega))
  have HM3 := Lib.hid (make_bools t.length (by omega))
  go_enter Try.func33, Try.ntmps33
  go_upto_region 1 with fail
  refine region_tail [.is (.slice ao t.length cap), .is (.slice ao t.length cap), .is (.int .i64 (t.length : Int)), (leftMk W.heap.size t.length 3 (.int .i64 0)), .is (.slice ao t.length cap), .is (.int .i64 (t.length : Int)), (leftMk W.heap.size t.length 25 (.slice none 0 0)), .is (.slice ao t.length cap), .is (.int .i64 (t.length : Int)), (leftMk W.heap.size t.length 4 (.bool false)), (leftAg W.heap.size t.length (.slice ao t.length cap)), (leftSr W.heap.size t.length (.slice ao t.length cap)), .is undef] 12 (by kernel_rfl) rfl (by kernel_rfl) (by kernel_rfl) (by kernel_rfl) (by kernel_rfl) rfl (.cons ?m0 (.cons ?m1 (.cons ?m2 (.cons ?m3 (.cons ?m4 (.cons ?m5 (.cons ?m6 (.cons ?m7 (.cons ?m8 (.cons ?m9 (.cons ?m10 (.cons ?m11 .nil)))))))))))) ?mfin
  case m0 =>
    intro wq hbw st  K hK
    simp only [Act.put, List.setIfInBounds_toArray, List.set_cons_zero, List.set_cons_succ] at hK ⊢
    unfold opStep
    rw [if_pos (by rfl)]
    go_simp
    exact hK.out _ _ (Below.refl _ _) rfl _ rfl
  case m1 =>
    intro wq hbw st  K hK
    simp only [Act.put, List.setIfInBounds_toArray, List.set_cons_zero, List.set_cons_succ] at hK ⊢
    unfold opStep
    rw [if_pos (by rfl)]
    go_simp
    exact hK.out _ _ (Below.refl _ _) rfl _ rfl
  case m2 =>
    intro wq hbw st  K hK
    simp only [Act.put, List.setIfInBounds_toArray, List.set_cons_zero, List.set_cons_succ] at hK ⊢
    unfold opStep
    rw [if_pos (by rfl)]
    go_simp
    exact hK.out _ _ (Below.refl _ _) rfl _ rfl
  case m3 =>
    intro wq hbw st  K hK
    simp only [Act.put, List.setIfInBounds_toArray, List.set_cons_zero, List.set_cons_succ] at hK ⊢
    unfold opStep
    rw [if_pos (by rfl)]
    have hmk := HM1.out wq
    go_simp
    exact hK.out _ _ ((Below.refl _ _).alloc (Nat.le_refl _) _) ⟨_, rfl, hbw.size, Blk.new _ _ _⟩ _ rfl
  case m4 =>
    intro wq hbw st  K hK
    simp only [Act.put, List.setIfInBounds_toArray, List.set_cons_zero, List.set_cons_succ] at hK ⊢
    unfold opStep
    rw [if_pos (by rfl)]
    go_simp
    exact hK.out _ _ (Below.refl _ _) rfl _ rfl
  case m5 =>
    intro wq hbw st  K hK
    simp only [Act.put, List.setIfInBounds_toArray, List.set_cons_zero, List.set_cons_succ] at hK ⊢
    unfold opStep
    rw [if_pos (by rfl)]
    go_simp
    exact hK.out _ _ (Below.refl _ _) rfl _ rfl
  case m6 =>
    intro wq hbw st  K hK
    simp only [Act.put, List.setIfInBounds_toArray, List.set_cons_zero, List.set_cons_succ] at hK ⊢
    unfold opStep
    rw [if_pos (by rfl)]
    have hmk := HM2.out wq
    go_simp
    exact hK.out _ _ ((Below.refl _ _).alloc (Nat.le_refl _) _) ⟨_, rfl, hbw.size, Blk.new _ _ _⟩ _ rfl
  case m7 =>
    intro wq hbw st  K hK
    simp only [Act.put, List.setIfInBounds_toArray, List.set_cons_zero, List.set_cons_succ] at hK ⊢
    unfold opStep
    rw [if_pos (by rfl)]
    go_simp
    exact hK.out _ _ (Below.refl _ _) rfl _ rfl
  case m8 =>
    intro wq hbw st  K hK
    simp only [Act.put, List.setIfInBounds_toArray, List.set_cons_zero, List.set_cons_succ] at hK ⊢
    unfold opStep
    rw [if_pos (by rfl)]
    go_simp
    exact hK.out _ _ (Below.refl _ _) rfl _ rfl
  case m9 =>
    intro wq hbw st  K hK
    simp only [Act.put, List.setIfInBounds_toArray, List.set_cons_zero, List.set_cons_succ] at hK ⊢
    unfold opStep
    rw [if_pos (by rfl)]
    have hmk := HM3.out wq
    go_simp
    exact hK.out _ _ ((Below.refl _ _).alloc (Nat.le_refl _) _) ⟨_, rfl, hbw.size, Blk.new _ _ _⟩ _ rfl
  case m10 =>
    intro wq hbw st x3 h3 x6 h6 x9 h9 K hK
    simp only [Act.put, List.setIfInBounds_toArray, List.set_cons_zero, List.set_cons_succ] at hK ⊢
    unfold opStep
    rw [if_pos (by rfl)]
    obtain ⟨gw, rfl, hgw, hbw1⟩ := h3
    obtain ⟨gn, rfl, hgn, hbn1⟩ := h6
    obtain ⟨gu, rfl, hgu, hbu1⟩ := h9
    go_simp
    exact hK.out _ _ (Below.refl _ _) ⟨gw, gn, gu, rfl, ⟨hgw, hgn, hgu⟩, hbw1, hbn1, hbu1⟩ _ rfl
  case m11 =>
    intro wq hbw st x10 h10 K hK
    simp only [Act.put, List.setIfInBounds_toArray, List.set_cons_zero, List.set_cons_succ] at hK ⊢
    unfold opStep
    rw [if_pos (by rfl)]
    obtain ⟨gw, gn, gu, rfl, hsr⟩ := h10
    unfold slc at *
    go_simp
    exact hK.out _ _ ((Below.refl _ _).alloc (Nat.le_refl _) _) ⟨_, gw, gn, gu, rfl, Blk.new _ _ _, hsr.on ((Below.refl _ _).alloc (Nat.le_refl _) _), hsr.2.1.lt, hsr.2.2.1.lt, hsr.2.2.2.lt⟩ _ rfl
  case mfin =>
    intro wq hbw
    intro x3 h3 x6 h6 x9 h9 x10 h10 x11 h11
    try simp only [FinAll]
    simp only [List.drop_succ_cons, List.drop_zero]
    simp only [Act.put, List.setIfInBounds_toArray, List.set_cons_zero, List.set_cons_succ]
    obtain ⟨gs, gw, gn, gu, rfl, hbs, hsr, hl1, hl2, hl3⟩ := h11
    clear h3 h6 h9 h10
    unfold slc at hbs
    have HNW : Hid (NewS W wq wq gs gw gn gu (.slice ao t.length cap) t 0 1 1 (fun _ => .slice none 0 0)) := Lib.hid (by
      refine ⟨hbs, ?_, hsr.2.2.2, hsr.2.2.1, ⟨hsr.1.1, hsr.1.2.1, hsr.1.2.2, hl1, hl2, hl3, hbs.lt, Nat.le_refl _⟩, ⟨blk_ne hsr.2.1 hsr.2.2.1 (by decide), blk_ne hsr.2.2.2 hsr.2.2.1 (by decide), blk_ne hsr.2.1 hsr.2.2.2 (by decide)⟩, (fun a h => by omega), fun _ => by rw [sucK_none t (by omega)]; exact World.ownsRow_nil _ _ _ _, (fun _ _ => rfl), hbw⟩
      have h1 := hsr.2.1
      rw [rowF_congr (g' := fun j => .int .i64 ((nwt t 0 1 j : Nat) : Int)) (fun j _ => by rw [nwt_zero]; rfl)] at h1
      exact h1)
    clear hbs hsr hl1 hl2 hl3 hbw HM1 HM2 HM3
    generalize hw1 : wq = w1 at *
    clear hw1
    go_wp2
    have HN0 := Lib.hid HNW.out
    clear HNW
    go_loopg [4, 5, 20] t.length (fun m _ _ idx wr => ∃ (i : Nat) (f : Nat → Value), m + i = t.length ∧ idx = .int .i64 i ∧ NewS W wr wr gs gw gn gu (.slice ao t.length cap) t i (i + 1) (i + 1) f)
    case atStart => exact ⟨0, _, by omega, rfl, HN0.out⟩
    case round =>
      clear HN0
      obtain ⟨i, f, hmi, rfl, hns⟩ := hrel
      have HM := Lib.hid hmi
      have HNS := Lib.hid hns
      have hi : i ≤ t.length := by omega
      clear hmi hns
      by_cases hlt : i < t.length
      · have hii : (i : Int) < t.length := by omega
        have hi0 : (0 : Int) ≤ (i : Int) := by omega
        have HI := Lib.hid (And.intro hlt trivial)
        go_wp2
        obtain ⟨G1, hG1⟩ : ∃ G, G = gk := ⟨_, rfl⟩
        subst hG1
        obtain ⟨wi, hwi⟩ : ∃ wi, wi = wr := ⟨_, rfl⟩
        subst hwi
        go_loopg [5] (t.length - (i + 1)) (fun m kk wl => ∃ (k : Nat) (f : Nat → Value), m + k = t.length ∧ i < k ∧ kk = .int .i64 k ∧ NewS W wi wl gs gw gn gu (.slice ao t.length cap) t i k k f)
        case atStart => exact ⟨i + 1, f, by omega, by omega, by go_num, HNS.out⟩
        case round =>
          clear HNS
          obtain ⟨k, f, hmk, hik, rfl, hns⟩ := hrel
          have HM2 := Lib.hid (And.intro hmk hik)
          have HNS := Lib.hid hns
          have KW := Lib.hid hns.bel
          have hk : k ≤ t.length := by omega
          clear hmk hns
          by_cases hkl : k < t.length
          · have hki : (k : Int) < t.length := by omega
            have hk0 : (0 : Int) ≤ (k : Int) := by omega
            have HKL := Lib.hid (And.intro hkl trivial)
            obtain ⟨b, off, cap1, s1, c1, hv, hcell, r1⟩ := HR.out.at2 hlt
            injection hv with e1 e2 e3
            subst e1
            obtain ⟨b', off', cap2, s2, c2, hv, hcell', r2⟩ := HR.out.at2 hkl
            injection hv with e1 e2' e3'
            injection e1 with e1
            injection e1 with e1 e4
            subst e1 e4
            have hdi : depI t i k = depE t[i] t[k] := by unfold depI; rw [nthE_eq hlt, nthE_eq hkl]
            have HX := Lib.hid (And.intro hcell r1)
            have HY := Lib.hid (And.intro hcell' r2)
            clear e2 e3 e2' e3' hcell hcell' r1 r2
            generalize t[i] = x at *
            generalize t[k] = y at *
            by_cases hd : depE x y = true
            · have HD := Lib.hid hd
              have HDI := Lib.hid (hdi.trans hd)
              clear hd hdi
              go_wp2
              refine region_left [.is (.slice (some ⟨b, off, none⟩) t.length cap), .is (.int .i64 (i : Int)), .is (.pointer (some ⟨b, off + i * 2, none⟩)), .is (.agg #[.int .i64 x.1, .slice s1 x.2.length c1]), .is (.slice (some ⟨b, off, none⟩) t.length cap), .is (.int .i64 (k : Int)), .is (.pointer (some ⟨b, off + k * 2, none⟩)), .is (.agg #[.int .i64 y.1, .slice s2 y.2.length c2]), .is (.bool true)] (by kernel_rfl) rfl (by kernel_rfl) (by kernel_rfl) (.cons ?y0 (.cons ?y1 (.cons ?y2 (.cons ?y3 (.cons ?y4 (.cons ?y5 (.cons ?y6 (.cons ?y7 (.cons ?y8 .nil))))))))) ?yfin
              case y0 =>
                intro wq hbw st  K hK
                have KQ := KW.out.trans (hbw.mono KW.out.size)
                simp only [Act.put, List.setIfInBounds_toArray, List.set_cons_zero, List.set_cons_succ] at hK ⊢
                unfold opStep
                rw [if_pos (by rfl)]
                go_simp
                exact hK.out _ _ (Below.refl _ _) rfl _ rfl
              case y1 =>
                intro wq hbw st  K hK
                have KQ := KW.out.trans (hbw.mono KW.out.size)
                simp only [Act.put, List.setIfInBounds_toArray, List.set_cons_zero, List.set_cons_succ] at hK ⊢
                unfold opStep
                rw [if_pos (by rfl)]
                go_simp
                exact hK.out _ _ (Below.refl _ _) rfl _ rfl
              case y2 =>
                intro wq hbw st  K hK
                have KQ := KW.out.trans (hbw.mono KW.out.size)
                simp only [Act.put, List.setIfInBounds_toArray, List.set_cons_zero, List.set_cons_succ] at hK ⊢
                unfold opStep
                rw [if_pos (by rfl)]
                go_simp
                exact hK.out _ _ (Below.refl _ _) rfl _ rfl
              case y3 =>
                intro wq hbw st  K hK
                have KQ := KW.out.trans (hbw.mono KW.out.size)
                simp only [Act.put, List.setIfInBounds_toArray, List.set_cons_zero, List.set_cons_succ] at hK ⊢
                unfold opStep
                rw [if_pos (by rfl)]
                have dd := Lib.hid (HX.out.1 _ KQ)
                have d0 := dd.out.1
                have d1 := dd.out.2
                go_simp
                exact hK.out _ _ (Below.refl _ _) rfl _ rfl
              case y4 =>
                intro wq hbw st  K hK
                have KQ := KW.out.trans (hbw.mono KW.out.size)
                simp only [Act.put, List.setIfInBounds_toArray, List.set_cons_zero, List.set_cons_succ] at hK ⊢
                unfold opStep
                rw [if_pos (by rfl)]
                go_simp
                exact hK.out _ _ (Below.refl _ _) rfl _ rfl
              case y5 =>
                intro wq hbw st  K hK
                have KQ := KW.out.trans (hbw.mono KW.out.size)
                simp only [Act.put, List.setIfInBounds_toArray, List.set_cons_zero, List.set_cons_succ] at hK ⊢
                unfold opStep
                rw [if_pos (by rfl)]
                go_simp
                exact hK.out _ _ (Below.refl _ _) rfl _ rfl
              case y6 =>
                intro wq hbw st  K hK
                have KQ := KW.out.trans (hbw.mono KW.out.size)
                simp only [Act.put, List.setIfInBounds_toArray, List.set_cons_zero, List.set_cons_succ] at hK ⊢
                unfold opStep
                rw [if_pos (by rfl)]
                go_simp
                exact hK.out _ _ (Below.refl _ _) rfl _ rfl
              case y7 =>
                intro wq hbw st  K hK
                have KQ := KW.out.trans (hbw.mono KW.out.size)
                simp only [Act.put, List.setIfInBounds_toArray, List.set_cons_zero, List.set_cons_succ] at hK ⊢
                unfold opStep
                rw [if_pos (by rfl)]
                have dd := Lib.hid (HY.out.1 _ KQ)
                have d0 := dd.out.1
                have d1 := dd.out.2
                go_simp
                exact hK.out _ _ (Below.refl _ _) rfl _ rfl
              case y8 =>
                intro wq hbw st  K hK
                have KQ := KW.out.trans (hbw.mono KW.out.size)
                simp only [Act.put, List.setIfInBounds_toArray, List.set_cons_zero, List.set_cons_succ] at hK ⊢
                unfold opStep
                rw [if_pos (by rfl)]
                go_simp
                have hpc := dep_any _ _ x y wq ⟨_, rfl, HX.out.2.keep KQ⟩ ⟨_, rfl, HY.out.2.keep KQ⟩
                rw [HD.out] at hpc
                refine hpc.mono ?_
                rintro e wz ⟨rfl, hbz⟩
                go_simp
                exact hK.out _ _ hbz rfl _ rfl
              case yfin =>
                intro wq hbw
                try simp only [FinAll]
                simp only [Act.put, List.setIfInBounds_toArray, List.set_cons_zero, List.set_cons_succ]
                have HNS2 := Lib.hid (HNS.out.on hbw)
                clear HNS hbw
                have KW2 := Lib.hid HNS2.out.bel
                clear KW HX HY HD
                have q1 : wq.cell? ⟨gs, 1, none⟩ = some (.slice (some ⟨gw, 0, none⟩) t.length t.length) := HNS2.out.bs.cell 1
                have cw := (HNS2.out.bw.cell k).trans (rowF_get HKL.out.1)
                have fw := HNS2.out.bw.frozen k
                have lw := HNS2.out.bw.lt
                have hle := nwt_le t i k k
                have HW3 := Lib.hid (fun x hx => HNS2.out.wait HM2.out.2 HDI.out x hx)
                generalize nwt t i k k = z at *
                replace HW3 := Lib.hid (HW3.out z rfl)
                go_upto_region 10 with fail
                have ez : ((z : Int) + 1) = ((z + 1 : Nat) : Int) := by omega
                try rw [ez]
                generalize hw3 : World.setCell wq _ _ = w3 at *
                have HNS3 := Lib.hid HW3.out
                clear HW3 hw3 q1 cw fw lw HNS2 ez
                have ho := HNS3.out.ord
                have HO := Lib.hid ho
                have hsl : (sucK t i k).length ≤ 1000 := Nat.le_trans (sucK_len t i k) (by omega)
                have HSL := Lib.hid hsl
                have hcur := HNS3.out.cur HI.out.1
                have HCUR := Lib.hid hcur
                obtain ⟨ra, rc, hra⟩ := row_slc hcur
                have HRA := Lib.hid hra
                clear ho hcur hra
                refine region_inv W.heap.size (JA wi.heap.size 13 14 16 w3 (f i) (sucK t i k).length ((sucK t i k).map nv) (nv k) (fun w => ∃ f, NewS W wi w gs gw gn gu (.slice (some ⟨b, off, none⟩) t.length cap) t i (k + 1) (k + 1) f)) [some (.pointer (some ⟨gs, 0, none⟩)), some (.pointer (some ⟨gs, 0, none⟩)), some (.pointer (some ⟨gs, 2, none⟩)), some (.slice (some ⟨gn, 0, none⟩) t.length t.length), some (.int .i64 (i : Int)), some (.pointer (some ⟨gs, 0, none⟩)), some (.pointer (some ⟨gs, 0, none⟩)), some (.pointer (some ⟨gs, 2, none⟩)), some (.slice (some ⟨gn, 0, none⟩) t.length t.length), some (.int .i64 (i : Int)), some (.pointer (some ⟨gn, i, none⟩)), some (.slice ra (sucK t i k).length rc), some (.int .i64 (k : Int)), none, none, some (.pointer (some ⟨gn, i, none⟩)), none] (by kernel_rfl) rfl (by kernel_rfl) (by kernel_rfl) (JA.start HCUR.out) (.cons ?z0 (.cons ?z1 (.cons ?z2 (.cons ?z3 (.cons ?z4 (.cons ?z5 (.cons ?z6 (.cons ?z7 (.cons ?z8 (.cons ?z9 (.cons ?z10 (.cons ?z11 (.cons ?z12 (.cons ?z13 (.cons ?z14 (.cons ?z15 (.cons ?z16 .nil))))))))))))))))) ?zfin
                case z0 =>
                  intro wq hbw D st hJ hD hdp K hK
                  have hop := hJ.open_ (i := 0) (by decide) hD
                  have HLOW := Lib.hid (HNS3.out.low rfl hop.2)
                  simp only [Act.put, List.setIfInBounds_toArray, List.set_cons_zero, List.set_cons_succ] at hK ⊢
                  unfold opStep
                  rw [if_pos (by rfl)]
                  go_simp
                  exact hK.out _ _ (Below.refl _ _) (fun u hu => Option.some.inj hu) (hJ.pure 0 _ (by decide) (by decide) (by decide)) _ rfl
                case z1 =>
                  intro wq hbw D st hJ hD hdp K hK
                  have hop := hJ.open_ (i := 1) (by decide) hD
                  have HLOW := Lib.hid (HNS3.out.low rfl hop.2)
                  simp only [Act.put, List.setIfInBounds_toArray, List.set_cons_zero, List.set_cons_succ] at hK ⊢
                  unfold opStep
                  rw [if_pos (by rfl)]
                  go_simp
                  exact hK.out _ _ (Below.refl _ _) (fun u hu => Option.some.inj hu) (hJ.pure 1 _ (by decide) (by decide) (by decide)) _ rfl
                case z2 =>
                  intro wq hbw D st hJ hD hdp K hK
                  have hop := hJ.open_ (i := 2) (by decide) hD
                  have HLOW := Lib.hid (HNS3.out.low rfl hop.2)
                  simp only [Act.put, List.setIfInBounds_toArray, List.set_cons_zero, List.set_cons_succ] at hK ⊢
                  unfold opStep
                  rw [if_pos (by rfl)]
                  go_simp
                  exact hK.out _ _ (Below.refl _ _) (fun u hu => Option.some.inj hu) (hJ.pure 2 _ (by decide) (by decide) (by decide)) _ rfl
                case z3 =>
                  intro wq hbw D st hJ hD hdp K hK
                  have hop := hJ.open_ (i := 3) (by decide) hD
                  have HLOW := Lib.hid (HNS3.out.low rfl hop.2)
                  simp only [Act.put, List.setIfInBounds_toArray, List.set_cons_zero, List.set_cons_succ] at hK ⊢
                  unfold opStep
                  rw [if_pos (by rfl)]
                  have q2 : wq.cell? ⟨gs, 2, none⟩ = some (.slice (some ⟨gn, 0, none⟩) t.length t.length) := HLOW.out.1.cell 2
                  go_simp
                  exact hK.out _ _ (Below.refl _ _) (fun u hu => Option.some.inj hu) (hJ.pure 3 _ (by decide) (by decide) (by decide)) _ rfl
                case z4 =>
                  intro wq hbw D st hJ hD hdp K hK
                  have hop := hJ.open_ (i := 4) (by decide) hD
                  have HLOW := Lib.hid (HNS3.out.low rfl hop.2)
                  simp only [Act.put, List.setIfInBounds_toArray, List.set_cons_zero, List.set_cons_succ] at hK ⊢
                  unfold opStep
                  rw [if_pos (by rfl)]
                  go_simp
                  exact hK.out _ _ (Below.refl _ _) (fun u hu => Option.some.inj hu) (hJ.pure 4 _ (by decide) (by decide) (by decide)) _ rfl
                case z5 =>
                  intro wq hbw D st hJ hD hdp K hK
                  have hop := hJ.open_ (i := 5) (by decide) hD
                  have HLOW := Lib.hid (HNS3.out.low rfl hop.2)
                  simp only [Act.put, List.setIfInBounds_toArray, List.set_cons_zero, List.set_cons_succ] at hK ⊢
                  unfold opStep
                  rw [if_pos (by rfl)]
                  go_simp
                  exact hK.out _ _ (Below.refl _ _) (fun u hu => Option.some.inj hu) (hJ.pure 5 _ (by decide) (by decide) (by decide)) _ rfl
                case z6 =>
                  intro wq hbw D st hJ hD hdp K hK
                  have hop := hJ.open_ (i := 6) (by decide) hD
                  have HLOW := Lib.hid (HNS3.out.low rfl hop.2)
                  simp only [Act.put, List.setIfInBounds_toArray, List.set_cons_zero, List.set_cons_succ] at hK ⊢
                  unfold opStep
                  rw [if_pos (by rfl)]
                  go_simp
                  exact hK.out _ _ (Below.refl _ _) (fun u hu => Option.some.inj hu) (hJ.pure 6 _ (by decide) (by decide) (by decide)) _ rfl
                case z7 =>
                  intro wq hbw D st hJ hD hdp K hK
                  have hop := hJ.open_ (i := 7) (by decide) hD
                  have HLOW := Lib.hid (HNS3.out.low rfl hop.2)
                  simp only [Act.put, List.setIfInBounds_toArray, List.set_cons_zero, List.set_cons_succ] at hK ⊢
                  unfold opStep
                  rw [if_pos (by rfl)]
                  go_simp
                  exact hK.out _ _ (Below.refl _ _) (fun u hu => Option.some.inj hu) (hJ.pure 7 _ (by decide) (by decide) (by decide)) _ rfl
                case z8 =>
                  intro wq hbw D st hJ hD hdp K hK
                  have hop := hJ.open_ (i := 8) (by decide) hD
                  have HLOW := Lib.hid (HNS3.out.low rfl hop.2)
                  simp only [Act.put, List.setIfInBounds_toArray, List.set_cons_zero, List.set_cons_succ] at hK ⊢
                  unfold opStep
                  rw [if_pos (by rfl)]
                  have q2 : wq.cell? ⟨gs, 2, none⟩ = some (.slice (some ⟨gn, 0, none⟩) t.length t.length) := HLOW.out.1.cell 2
                  go_simp
                  exact hK.out _ _ (Below.refl _ _) (fun u hu => Option.some.inj hu) (hJ.pure 8 _ (by decide) (by decide) (by decide)) _ rfl
                case z9 =>
                  intro wq hbw D st hJ hD hdp K hK
                  have hop := hJ.open_ (i := 9) (by decide) hD
                  have HLOW := Lib.hid (HNS3.out.low rfl hop.2)
                  simp only [Act.put, List.setIfInBounds_toArray, List.set_cons_zero, List.set_cons_succ] at hK ⊢
                  unfold opStep
                  rw [if_pos (by rfl)]
                  go_simp
                  exact hK.out _ _ (Below.refl _ _) (fun u hu => Option.some.inj hu) (hJ.pure 9 _ (by decide) (by decide) (by decide)) _ rfl
                case z10 =>
                  intro wq hbw D st hJ hD hdp K hK
                  have hop := hJ.open_ (i := 10) (by decide) hD
                  have HLOW := Lib.hid (HNS3.out.low rfl hop.2)
                  simp only [Act.put, List.setIfInBounds_toArray, List.set_cons_zero, List.set_cons_succ] at hK ⊢
                  unfold opStep
                  rw [if_pos (by rfl)]
                  go_simp
                  exact hK.out _ _ (Below.refl _ _) (fun u hu => Option.some.inj hu) (hJ.pure 10 _ (by decide) (by decide) (by decide)) _ rfl
                case z11 =>
                  intro wq hbw D st hJ hD hdp K hK
                  have hop := hJ.open_ (i := 11) (by decide) hD
                  have HLOW := Lib.hid (HNS3.out.low rfl hop.2)
                  simp only [Act.put, List.setIfInBounds_toArray, List.set_cons_zero, List.set_cons_succ] at hK ⊢
                  unfold opStep
                  rw [if_pos (by rfl)]
                  have qn := (HLOW.out.2.cell i).trans (rowF_get HI.out.1)
                  rw [HRA.out] at qn
                  go_simp
                  exact hK.out _ _ (Below.refl _ _) (fun u hu => Option.some.inj hu) (hJ.pure 11 _ (by decide) (by decide) (by decide)) _ rfl
                case z12 =>
                  intro wq hbw D st hJ hD hdp K hK
                  have hop := hJ.open_ (i := 12) (by decide) hD
                  have HLOW := Lib.hid (HNS3.out.low rfl hop.2)
                  simp only [Act.put, List.setIfInBounds_toArray, List.set_cons_zero, List.set_cons_succ] at hK ⊢
                  unfold opStep
                  rw [if_pos (by rfl)]
                  go_simp
                  exact hK.out _ _ (Below.refl _ _) (fun u hu => Option.some.inj hu) (hJ.pure 12 _ (by decide) (by decide) (by decide)) _ rfl
                case z13 =>
                  intro wq hbw D st hJ hD hdp K hK
                  have hop := hJ.open_ (i := 13) (by decide) hD
                  have HLOW := Lib.hid (HNS3.out.low rfl hop.2)
                  simp only [Act.put, List.setIfInBounds_toArray, List.set_cons_zero, List.set_cons_succ] at hK ⊢
                  unfold opStep
                  rw [if_pos (by rfl)]
                  go_simp
                  have hsz : wi.heap.size ≤ wq.heap.size := Nat.le_trans HO.out.2.2.2.2.2.2.2 hop.2.size
                  rcases hJ.made hD (by decide) (by decide) with ⟨k1, k2⟩ | k1
                  · exact hK.out _ _ (k2.mono (by have := HO.out; omega)) (fun u hu => by cases hu) k1 _ rfl
                  · exact absurd hsz k1
                case z14 =>
                  intro wq hbw D st hJ hD hdp K hK
                  have hop := hJ.open_ (i := 14) (by decide) hD
                  have HLOW := Lib.hid (HNS3.out.low rfl hop.2)
                  simp only [Act.put, List.setIfInBounds_toArray, List.set_cons_zero, List.set_cons_succ] at hK ⊢
                  unfold opStep
                  rw [if_pos (by rfl)]
                  have d13 := hdp 13 (of_decide_eq_true (by kernel_rfl))
                  obtain ⟨g, hg, hB⟩ := hJ.2.2.2.2.1 d13 hD
                  have hsz : wi.heap.size ≤ wq.heap.size := Nat.le_trans HO.out.2.2.2.2.2.2.2 hop.2.size
                  rw [hg] at hK ⊢
                  obtain ⟨i0, hinf, hz0, hz1, hz2⟩ := info_parts Try.infoInt1
                  have hrow := hJ.2.2.2.1 hD
                  rw [HRA.out] at hrow hJ
                  refine wp_append_own wq (.tmp 60) (.tmp 62) 25 rfl wi.heap.size 3 i0 (.int .i64 0) 1 8 Try.underlying25 hinf hz0 hz1 hz2 rfl (by decide) (.slice ra (sucK t i k).length rc) (sucK t i k).length ((sucK t i k).map nv) rfl hrow ⟨g, 0, none⟩ 1 1 [nv k] rfl rfl ?_ ?_ (by unfold maxLen; have := HSL.out; omega) (by have := HSL.out; omega) hsz ?_
                  · intro j u hu
                    have h2 : (#[nv k] : Array Value)[j]? = some u := by simpa using hu
                    rw [← h2, ← hB.cell j]
                    by_cases h0 : j = 0 <;> simp [Addr.add, h0]
                  · intro u hu
                    rw [List.mem_singleton.1 hu]; rfl
                  · intro v5 w5 hr5 hg5 _
                    obtain ⟨k1, k2⟩ := hJ.more hD d13 (by decide) (by decide) hr5 hg5 hsz
                    exact hK.out _ _ (k2.mono (by have := HO.out; omega)) (fun u hu => by cases hu) (by rw [HRA.out]; exact k1) _ rfl
                case z15 =>
                  intro wq hbw D st hJ hD hdp K hK
                  have hop := hJ.open_ (i := 15) (by decide) hD
                  have HLOW := Lib.hid (HNS3.out.low rfl hop.2)
                  simp only [Act.put, List.setIfInBounds_toArray, List.set_cons_zero, List.set_cons_succ] at hK ⊢
                  unfold opStep
                  rw [if_pos (by rfl)]
                  go_simp
                  exact hK.out _ _ (Below.refl _ _) (fun u hu => Option.some.inj hu) (hJ.pure 15 _ (by decide) (by decide) (by decide)) _ rfl
                case z16 =>
                  intro wq hbw D st hJ hD hdp K hK
                  simp only [Act.put, List.setIfInBounds_toArray, List.set_cons_zero, List.set_cons_succ] at hK ⊢
                  unfold opStep
                  rw [if_pos (by rfl)]
                  have hall : ∀ j, j < 16 → D j = true := all_of (n := 16) (by kernel_rfl) hdp
                  have hA := hall 14 (by decide)
                  have hr5 := hJ.2.2.2.2.2.1 hA hD
                  obtain ⟨a5, c5, e5⟩ := row_slc hr5
                  rw [e5] at hK hr5 ⊢
                  have hb5 := hJ.2.2.1 hD
                  have HLOW := Lib.hid (HNS3.out.low rfl hb5)
                  have cn := (HLOW.out.2.cell i).trans (rowF_get HI.out.1)
                  have fn := HLOW.out.2.frozen i
                  have ln := HLOW.out.2.lt
                  have HF := Lib.hid (HNS3.out.row HI.out.1 HM2.out.2 HDI.out hb5 hr5)
                  go_simp
                  exact hK.out _ _ ((Below.refl _ _).setCell (p := ⟨gn, i, none⟩) HO.out.2.1 _) (fun u hu => by cases hu) (hJ.fin hall hA (by decide) (by decide) ⟨_, HF.out⟩) _ rfl
                case zfin =>
                  intro wq hbw D st hall hJ
                  simp only [FinAll, lfOf]
                  simp only [Act.put, List.setIfInBounds_toArray, List.set_cons_zero, List.set_cons_succ]
                  skip
                  have HNS4 := Lib.hid (hJ.2.2.2.2.2.2 (hall 16 (by decide)))
                  clear hJ hall HCUR HNS3
                  obtain ⟨f', hf'⟩ := HNS4.out
                  have HNS5 := Lib.hid hf'
                  clear hf' HNS4
                  generalize st 13 = x13
                  generalize st 14 = x14
                  go_wp2
                  go_roundg (t.length - (k + 1))
                  case measure => have := HM2.out; omega
                  case rel => exact ⟨k + 1, f', by have := HM2.out; have := HKL.out.1; omega, by have := HM2.out; omega, by go_num, HNS5.out⟩
            · rw [Bool.not_eq_true] at hd
              have HD := Lib.hid hd
              have HDI := Lib.hid (hdi.trans hd)
              clear hd hdi
              go_wp2
              refine region_left [.is (.slice (some ⟨b, off, none⟩) t.length cap), .is (.int .i64 (i : Int)), .is (.pointer (some ⟨b, off + i * 2, none⟩)), .is (.agg #[.int .i64 x.1, .slice s1 x.2.length c1]), .is (.slice (some ⟨b, off, none⟩) t.length cap), .is (.int .i64 (k : Int)), .is (.pointer (some ⟨b, off + k * 2, none⟩)), .is (.agg #[.int .i64 y.1, .slice s2 y.2.length c2]), .is (.bool false)] (by kernel_rfl) rfl (by kernel_rfl) (by kernel_rfl) (.cons ?x0 (.cons ?x1 (.cons ?x2 (.cons ?x3 (.cons ?x4 (.cons ?x5 (.cons ?x6 (.cons ?x7 (.cons ?x8 .nil))))))))) ?xfin
              case x0 =>
                intro wq hbw st  K hK
                have KQ := KW.out.trans (hbw.mono KW.out.size)
                simp only [Act.put, List.setIfInBounds_toArray, List.set_cons_zero, List.set_cons_succ] at hK ⊢
                unfold opStep
                rw [if_pos (by rfl)]
                go_simp
                exact hK.out _ _ (Below.refl _ _) rfl _ rfl
              case x1 =>
                intro wq hbw st  K hK
                have KQ := KW.out.trans (hbw.mono KW.out.size)
                simp only [Act.put, List.setIfInBounds_toArray, List.set_cons_zero, List.set_cons_succ] at hK ⊢
                unfold opStep
                rw [if_pos (by rfl)]
                go_simp
                exact hK.out _ _ (Below.refl _ _) rfl _ rfl
              case x2 =>
                intro wq hbw st  K hK
                have KQ := KW.out.trans (hbw.mono KW.out.size)
                simp only [Act.put, List.setIfInBounds_toArray, List.set_cons_zero, List.set_cons_succ] at hK ⊢
                unfold opStep
                rw [if_pos (by rfl)]
                go_simp
                exact hK.out _ _ (Below.refl _ _) rfl _ rfl
              case x3 =>
                intro wq hbw st  K hK
                have KQ := KW.out.trans (hbw.mono KW.out.size)
                simp only [Act.put, List.setIfInBounds_toArray, List.set_cons_zero, List.set_cons_succ] at hK ⊢
                unfold opStep
                rw [if_pos (by rfl)]
                have dd := Lib.hid (HX.out.1 _ KQ)
                have d0 := dd.out.1
                have d1 := dd.out.2
                go_simp
                exact hK.out _ _ (Below.refl _ _) rfl _ rfl
              case x4 =>
                intro wq hbw st  K hK
                have KQ := KW.out.trans (hbw.mono KW.out.size)
                simp only [Act.put, List.setIfInBounds_toArray, List.set_cons_zero, List.set_cons_succ] at hK ⊢
                unfold opStep
                rw [if_pos (by rfl)]
                go_simp
                exact hK.out _ _ (Below.refl _ _) rfl _ rfl
              case x5 =>
                intro wq hbw st  K hK
                have KQ := KW.out.trans (hbw.mono KW.out.size)
                simp only [Act.put, List.setIfInBounds_toArray, List.set_cons_zero, List.set_cons_succ] at hK ⊢
                unfold opStep
                rw [if_pos (by rfl)]
                go_simp
                exact hK.out _ _ (Below.refl _ _) rfl _ rfl
              case x6 =>
                intro wq hbw st  K hK
                have KQ := KW.out.trans (hbw.mono KW.out.size)
                simp only [Act.put, List.setIfInBounds_toArray, List.set_cons_zero, List.set_cons_succ] at hK ⊢
                unfold opStep
                rw [if_pos (by rfl)]
                go_simp
                exact hK.out _ _ (Below.refl _ _) rfl _ rfl
              case x7 =>
                intro wq hbw st  K hK
                have KQ := KW.out.trans (hbw.mono KW.out.size)
                simp only [Act.put, List.setIfInBounds_toArray, List.set_cons_zero, List.set_cons_succ] at hK ⊢
                unfold opStep
                rw [if_pos (by rfl)]
                have dd := Lib.hid (HY.out.1 _ KQ)
                have d0 := dd.out.1
                have d1 := dd.out.2
                go_simp
                exact hK.out _ _ (Below.refl _ _) rfl _ rfl
              case x8 =>
                intro wq hbw st  K hK
                have KQ := KW.out.trans (hbw.mono KW.out.size)
                simp only [Act.put, List.setIfInBounds_toArray, List.set_cons_zero, List.set_cons_succ] at hK ⊢
                unfold opStep
                rw [if_pos (by rfl)]
                go_simp
                have hpc := dep_any _ _ x y wq ⟨_, rfl, HX.out.2.keep KQ⟩ ⟨_, rfl, HY.out.2.keep KQ⟩
                rw [HD.out] at hpc
                refine hpc.mono ?_
                rintro e wz ⟨rfl, hbz⟩
                go_simp
                exact hK.out _ _ hbz rfl _ rfl
              case xfin =>
                intro wq hbw
                try simp only [FinAll]
                simp only [Act.put, List.setIfInBounds_toArray, List.set_cons_zero, List.set_cons_succ]
                have HNS2 := Lib.hid ((HNS.out.on hbw).skip HDI.out)
                clear HNS hbw KW HX HY HD
                go_wp2
                go_roundg (t.length - (k + 1))
                case measure => have := HM2.out; omega
                case rel => exact ⟨k + 1, f, by have := HM2.out; have := HKL.out.1; omega, by have := HM2.out; omega, by go_num, HNS2.out⟩
          · have e : k = t.length := by omega
            subst e
            have HNX := Lib.hid (HNS.out.next HI.out.1)
            go_wp2
            go_roundg (t.length - (i + 1))
            case measure => have := HM.out; omega
            case rel => exact ⟨i + 1, f, by have := HM.out; have := HI.out.1; omega, by go_num, HNX.out⟩
      · have e : i = t.length := by omega
        subst e
        have HSR := Lib.hid (And.intro HNS.out.srch (And.intro HNS.out.ord HNS.out.bel))
        go_wp2
        go_ret
        exact ⟨gs, gw, gn, gu, rfl, HSR.out.2.1.1, HSR.out.2.1.2.2.1, HSR.out.1, HSR.out.2.2⟩
end Go.Proofs.Ytfdicndmebhmdaa
