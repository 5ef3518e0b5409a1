/-
  Chapter 29: lists of lists of ints that the reference's Layers keeps; a row made by three appends and stored, in a region that draws its order.
-/
import Derived.Test.YtfdicndmebhmdaaNc
import Derived.Test.YtfdicndmebhmdaaFk
import Derived.Test.YtfdicndmebhmdaaPg
namespace Go.Proofs.Ytfdicndmebhmdaa
open Go.RowKit

/-- append of values that are read, to a row of ints of the call's own: the row's block is the one it was, or the next new one. -/
theorem run_append_blkM {base : Nat} {w : World} {ty : TypeId} {v : Value} {n : Nat} {xs : List Value} {ad : Addr} {m c : Nat} {news : List Value} (hl : news.length = m) (hn1 : ∀ j u, news[j]? = some u → w.cell? (ad.add j) = some u) (h1 : ∀ u ∈ news, u.oneCell' = true)
    (hown : w.ownsRow base 3 1 v n xs) (hlen : n + m ≤ 100000) (hbase : base ≤ w.heap.size) :
    ∃ v' w', (Builtin.append_ #[25, 25] ty #[v, .slice (some ad) m c]).run Try.prog w = .ok v' w' ∧ w'.ownsRow base 3 1 v' (n + m) (xs ++ news) ∧ w.grownBy w' v.ownBlock ∧ (v'.ownBlock = v.ownBlock ∨ v'.ownBlock = some w.heap.size) := by
  obtain ⟨i0, hinf, hz0, hz1, hz2⟩ := info_parts Try.infoInt1
  have hxl : xs.length = n := by have := hown.1; omega
  obtain ⟨v', w', hr, h2, h3, h4⟩ := run_append_own (P := Try.prog) w base 25 ty 3 i0 (.int .i64 0) 1 8 Try.underlying25 hinf hz0 hz1 hz2 rfl (by decide) v n xs hown ad m c news (by omega) hn1 h1 (by unfold maxLen; omega) (by omega) hbase
  refine ⟨v', w', hr, h2, h3, ?_⟩
  have hown2 := hown
  rcases hown.2 with ⟨rfl, h0⟩ | ⟨g0, cap, cur, rfl, hbg, hg, hnc, hcm, hcs, htake⟩
  · by_cases hm : m = 0
    · left; rw [h4.2 ⟨rfl, hm⟩]
    · have hr2 := run_append_nil (P := Try.prog) w 25 ty 3 i0 (.int .i64 0) Try.underlying25 hinf hz0 ad m c news (by rw [hz1]; omega) hn1 (by omega) (by omega) (by rw [hz2]; omega)
      rw [hr2] at hr
      injection hr with hr _
      right; rw [← hr]; rfl
  · by_cases hroom : n + m ≤ cap
    · have hr2 := run_append_room (P := Try.prog) w 25 ty 3 i0 Try.underlying25 hinf g0 n cap cur hg ad m c news (by rw [hz1]; omega) hn1 h1 hroom (by rw [hz1, hcs]; simp; omega)
      rw [hr2] at hr
      injection hr with hr _
      left; rw [← hr]; rfl
    · have hr2 := run_append_grow (P := Try.prog) w 25 ty 3 i0 (.int .i64 0) Try.underlying25 hinf hz0 ⟨g0, 0, none⟩ n cap xs (by rw [hz1]; omega) (hown2.cells (g := g0) rfl) ad m c news (by rw [hz1]; omega) hn1 (by omega) (by unfold maxLen at hcm; omega) (growslice_fits (by omega) (by rw [hz2]; omega))
      rw [hr2] at hr
      injection hr with hr _
      right; rw [← hr]; rfl
theorem wp_append_blkM {o : Oper} {a : Act} {w : World} {K : Act → World → Prop} {Q : Exit → Act → World → Prop} (s x : Operand)
    (ho : o.op = .call { callee := .builtin .append, args := #[s, x], argTypes := #[25, 25] }) (base : Nat) (v : Value) (n : Nat) (xs : List Value) (ad : Addr) (m c : Nat) (news : List Value) (hs : a.eval s = v) (hx : a.eval x = .slice (some ad) m c)
    (hl : news.length = m) (hn1 : ∀ j u, news[j]? = some u → w.cell? (ad.add j) = some u) (h1 : ∀ u ∈ news, u.oneCell' = true) (hown : w.ownsRow base 3 1 v n xs) (hlen : n + m ≤ 100000) (hbase : base ≤ w.heap.size)
    (h : ∀ v' w', w'.ownsRow base 3 1 v' (n + m) (xs ++ news) → w.grownBy w' v.ownBlock → (v'.ownBlock = v.ownBlock ∨ v'.ownBlock = some w.heap.size) → K (a.put o.dst v') w') : o.wp Try.prog a w K Q := by
  obtain ⟨v', w', hr, h1, h2, h3⟩ := run_append_blkM (ty := o.type) (c := c) hl hn1 h1 hown hlen hbase
  unfold Oper.wp execOp
  simp only [ho, resolve, invoke, builtin, Sem.run_bind, Sem.run_pure, Result.andThen_ok, List.map_toArray, List.map_cons, List.map_nil, hs, hx, hr]
  exact h v' w' h1 h2 h3

/-- A row of ints that is not nil. -/
def RowZ (w : World) (u : Value) (l : List Int) : Prop := ∃ g c, u = .slice (some ⟨g, 0, none⟩) l.length c ∧ w.ownsRow 0 3 1 u l.length (l.map vi)
theorem RowZ.on {w w' : World} {u : Value} {l : List Int} (h : RowZ w u l) (hb : Below w.heap.size w w') : RowZ w' u l := by
  obtain ⟨g, c, e, h⟩ := h
  exact ⟨g, c, e, below_row h hb⟩
theorem RowZ.reads {w : World} {u : Value} {l : List Int} (h : RowZ w u l) : Reads vi w u l := by
  obtain ⟨g, c, e, h⟩ := h
  exact Reads.of_owns h
theorem RowZ.grown {w w' : World} {B n : Nat} {v u : Value} {xs : List Value} {l : List Int} (h : RowZ w u l) (hv : w.ownsRow B 25 1 v n xs) (hg : w.grownBy w' v.ownBlock) : RowZ w' u l := by
  obtain ⟨g, c, e, h⟩ := h
  exact ⟨g, c, e, h.kept hg (rows_ne h hv (by decide))⟩
theorem row_any {w : World} {b : Nat} {e : TypeId} {s n : Nat} {v : Value} {xs : List Value} (h : w.ownsRow b e s v n xs) : w.ownsRow 0 e s v n xs := by
  refine ⟨h.1, ?_⟩
  rcases h.2 with hn | ⟨g, cap, cur, hv, hbb, rest⟩
  · exact .inl hn
  · exact .inr ⟨g, cap, cur, hv, Nat.zero_le _, rest⟩
/-- A list of lists of the call's own. -/
def OutZ (w0 wr : World) (v : Value) (LL : List (List Int)) : Prop :=
  Below w0.heap.size w0 wr ∧ ∃ cells : List Value, wr.ownsRow w0.heap.size 25 1 v LL.length cells ∧ ∀ k (h : k < LL.length), ∃ u, cells[k]? = some u ∧ RowZ wr u LL[k]
theorem OutZ.later {w0 wr w' : World} {v : Value} {LL : List (List Int)} (h : OutZ w0 wr v LL) (hb : Below wr.heap.size wr w') : OutZ w0 w' v LL := by
  obtain ⟨h1, cells, h2, h3⟩ := h
  exact ⟨h1.trans (hb.mono h1.size), cells, below_row h2 hb, fun k hk => by obtain ⟨u, a, b⟩ := h3 k hk; exact ⟨u, a, b.on hb⟩⟩
theorem OutZ.slc {w0 wr : World} {v : Value} {LL : List (List Int)} (h : OutZ w0 wr v LL) : ∃ a c, v = .slice a LL.length c := by
  obtain ⟨_, cells, h2, _⟩ := h
  exact row_slc h2
theorem OutZ.cell {w0 wr : World} {a : Option Addr} {n c : Nat} {LL : List (List Int)} (h : OutZ w0 wr (.slice a n c) LL) {k : Nat} (hk : k < LL.length) : ∃ ga g2 c2, a = some ⟨ga, 0, none⟩ ∧ (∀ wq, Below wr.heap.size wr wq → wq.cell? ⟨ga, k, none⟩ = some (.slice (some ⟨g2, 0, none⟩) LL[k].length c2)) ∧ RowZ wr (.slice (some ⟨g2, 0, none⟩) LL[k].length c2) LL[k] := by
  obtain ⟨_, cells, h2, h3⟩ := h
  obtain ⟨u, q1, q2⟩ := h3 k hk
  obtain ⟨a', c', e⟩ := row_slc h2
  injection e with e1 e2 e3
  subst e2
  obtain ⟨g, rfl, -, h5⟩ := row_at h2 (by omega)
  obtain ⟨g2, c2, rfl, h6⟩ := q2
  exact ⟨g, g2, c2, rfl, fun wq hq => h5 wq hq k _ q1, g2, c2, rfl, h6⟩
theorem OutZ.made (w : World) : OutZ w (w.alloc (.cells #[] 25)) (.slice (some ⟨w.heap.size, 0, none⟩) 0 0) [] :=
  ⟨(Below.refl _ _).alloc (Nat.le_refl _) _, [], World.ownsRow_made w #[] 0 (Nat.le_refl _) (Nat.zero_le _) rfl, fun _k h => absurd h (Nat.not_lt_zero _)⟩
/-- A row of the list replaced. -/
theorem OutZ.put {w0 wr : World} {g n c k : Nat} {LL : List (List Int)} {u : Value} {l : List Int} (h : OutZ w0 wr (.slice (some ⟨g, 0, none⟩) n c) LL) (hk : k < LL.length) (hu : RowZ wr u l) : OutZ w0 (wr.setCell ⟨g, k, none⟩ u) (.slice (some ⟨g, 0, none⟩) n c) (LL.set k l) := by
  obtain ⟨h1, cells, h2, h3⟩ := h
  have hn : n = LL.length := by obtain ⟨a', c', e⟩ := row_slc h2; injection e
  subst hn
  have hlt := h2.lt g rfl
  have hkg : Kept (fun b => b = g) wr (wr.setCell ⟨g, k, none⟩ u) := Kept.set _ rfl
  have hrow : ∀ {u : Value} {l : List Int}, RowZ wr u l → RowZ (wr.setCell ⟨g, k, none⟩ u) u l → True := fun _ _ => trivial
  have hkeep : ∀ {u' : Value} {l : List Int}, RowZ wr u' l → RowZ (wr.setCell ⟨g, k, none⟩ u) u' l := by
    intro u' l hr
    obtain ⟨g', c', e, hr⟩ := hr
    refine ⟨g', c', e, hkg.row hr fun b hb e => ?_⟩
    subst e
    rcases rows_ne hr h2 (by decide) with q | q
    · rw [q] at hb; cases hb
    · exact q (by rw [hb]; rfl)
  refine ⟨h1.setCell (p := ⟨g, k, none⟩) hlt.1 _, cells.set k u, by rw [List.length_set]; exact row_put h2 u hk, fun j hj => ?_⟩
  rw [List.length_set] at hj
  have hcl : cells.length = LL.length := by simpa using h2.1
  by_cases e : k = j
  · subst e
    exact ⟨u, by rw [List.getElem?_set_self (by omega)], by rw [List.getElem_set_self]; exact hkeep hu⟩
  · obtain ⟨z, q1, q2⟩ := h3 j hj
    exact ⟨z, by rw [List.getElem?_set_ne e]; exact q1, by rw [List.getElem_set_ne e]; exact hkeep q2⟩
set_option maxRecDepth 100000 in
/-- append of one list. -/
theorem append_listZ {ops : Array Oper} {rest : List Oper} {o : Oper} {a : Act} {w w0 : World} {Q : Exit → Act → World → Prop} (hgd : o.guard = none) (s x : Operand)
    (ho : o.op = .call { callee := .builtin .append, args := #[s, x], argTypes := #[34, 34] })
    (v : Value) (LL : List (List Int)) (l : List Int) (u : Value) (g : Nat) (hs : a.eval s = v) (hown : OutZ w0 w v LL) (hx : a.eval x = .slice (some ⟨g, 0, none⟩) 1 1) (hB : Blk w g 25 #[u]) (hu : RowZ w u l) (hlen : LL.length ≤ 100000)
    (h : ∀ v' w', OutZ w0 w' v' (LL ++ [l]) → wpList Try.prog ops Q rest (a.put o.dst v') w') : wpList Try.prog ops Q (o :: rest) a w := by
  obtain ⟨i0, hinf, hz0, hz1, hz2⟩ := info_parts Try.infoInts29
  obtain ⟨hb, cells, hrow, hc⟩ := hown
  have hone : u.oneCell' = true := by obtain ⟨g2, c2, rfl, _⟩ := hu; rfl
  refine wpList_append_own w hgd s x 34 ho w0.heap.size 25 i0 _ 1 24 Try.underlying34 hinf hz0 hz1 hz2 rfl (by decide) v LL.length cells hs hrow ⟨g, 0, none⟩ 1 1 [u] hx rfl ?_ (fun z hz => by rw [List.mem_singleton.1 hz]; exact hone) (by unfold maxLen; omega) (by omega) hb.size ?_
  · intro j z hz
    have h1 := hB.cell j
    have h2 : (#[u] : Array Value)[j]? = some z := by simpa using hz
    rw [← h2, ← h1]
    by_cases h0 : j = 0 <;> simp [Addr.add, h0]
  · intro v' w' h1 h2 _
    refine h v' w' ⟨hb.grown h2 hb.size (fun j hj => (hrow.lt j hj).1), cells ++ [u], by rw [List.length_append]; exact h1, fun k hkl => ?_⟩
    have hcl : cells.length = LL.length := by simpa using hrow.1
    by_cases hlt : k < LL.length
    · obtain ⟨z, q1, q2⟩ := hc k hlt
      exact ⟨z, by rw [List.getElem?_append_left (by omega)]; exact q1, by rw [List.getElem_append_left hlt]; exact q2.grown hrow h2⟩
    · have hk' : k = LL.length := by simp at hkl; omega
      subst hk'
      exact ⟨u, by rw [List.getElem?_append_right (by omega), hcl, Nat.sub_self]; rfl, by rw [List.getElem_append_right (Nat.le_refl _)]; simpa using hu.grown hrow h2⟩

/-- The box of the appended value, apart from the row. -/
def BoxQ (D : Nat → Bool) (st : Nat → Value) (w : World) (x : Value) (v : Value) : Prop := D 13 = true → ∃ g, st 13 = .slice (some ⟨g, 0, none⟩) 1 1 ∧ Blk w g 3 #[x] ∧ v.ownBlock ≠ some g
/-- Region: empty row at 3, the front appended at 7, a box at 13, the value appended at 14, the rest appended at 18, the row stored at 20. -/
def JL (B : Nat) (w0 : World) (x : Value) (xs ys : List Value) (F : World → Prop) : Inv := fun D st w =>
  (D 7 = true → D 3 = true) ∧ (D 14 = true → D 7 = true ∧ D 13 = true) ∧ (D 18 = true → D 14 = true) ∧ (D 20 = true → ∀ j, j < 20 → D j = true) ∧
  (if D 20 = true then F w else Below B w0 w ∧
    (if D 18 = true then w.ownsRow B 3 1 (st 18) (xs.length + 1 + ys.length) (xs ++ [x] ++ ys)
     else if D 14 = true then w.ownsRow B 3 1 (st 14) (xs.length + 1) (xs ++ [x])
     else if D 7 = true then w.ownsRow B 3 1 (st 7) xs.length xs ∧ BoxQ D st w x (st 7)
     else if D 3 = true then w.ownsRow B 3 1 (st 3) 0 [] ∧ BoxQ D st w x (st 3)
     else BoxQ D st w x (.slice none 0 0)))
section
variable {B : Nat} {w0 w w' : World} {x : Value} {xs ys : List Value} {F : World → Prop} {D : Nat → Bool} {st : Nat → Value}
theorem JL.start (st : Nat → Value) : JL B w0 x xs ys F (fun _ => false) st w0.drew :=
  ⟨(fun h => by cases h), (fun h => by cases h), (fun h => by cases h), (fun h => by cases h), ⟨rfl, rfl, rfl, Nat.le_refl _, fun _ _ => rfl⟩, (fun h => by cases h)⟩
theorem JL.no20 (h : JL B w0 x xs ys F D st w) {i : Nat} (hi : i < 20) (hD : D i = false) : D 20 = false := off_of (fun q => h.2.2.2.1 q i hi) hD
theorem JL.pure (h : JL B w0 x xs ys F D st w) (i : Nat) (u : Value) (hi : i < 20) (hD : D i = false) (h3 : i ≠ 3) (h7 : i ≠ 7) (h13 : i ≠ 13) (h14 : i ≠ 14) (h18 : i ≠ 18) : JL B w0 x xs ys F (upD D i) (upV st i u) w := by
  have h20 := h.no20 hi hD
  obtain ⟨a, b, c, d, e⟩ := h
  unfold JL BoxQ at *
  simp only [upD, upV, Ne.symm h3, Ne.symm h7, Ne.symm h13, Ne.symm h14, Ne.symm h18, show ¬ 20 = i by omega, if_false]
  exact ⟨a, b, c, (fun q => by rw [h20] at q; cases q), e⟩
/-- Last pure step (19). -/
theorem JL.bel (h : JL B w0 x xs ys F D st w) {i : Nat} (hi : i < 20) (hD : D i = false) : Below B w0 w := by
  have h20 := h.no20 hi hD
  have e := h.2.2.2.2
  rw [if_neg (by rw [h20]; decide)] at e
  exact e.1
theorem BoxQ.keep {v v' : Value} {D' : Nat → Bool} {st' : Nat → Value} (h : BoxQ D st w x v) (hD : D' 13 = D 13) (hs : st' 13 = st 13) (hk : w.grownBy w' v.ownBlock) (hv : v'.ownBlock = v.ownBlock ∨ v'.ownBlock = some w.heap.size) : BoxQ D' st' w' x v' := by
  intro hq
  rw [hD] at hq
  obtain ⟨g, h1, h2, h3⟩ := h hq
  refine ⟨g, by rw [hs]; exact h1, ?_, ?_⟩
  · exact (hk.block g h2.lt h3.symm).trans h2
  · rcases hv with e | e
    · rw [e]; exact h3
    · rw [e]; intro q; injection q with q; have := h2.lt; omega
theorem JL.s3 (h : JL B w0 x xs ys F D st w) (hD : D 3 = false) (hB : B ≤ w.heap.size) : JL B w0 x xs ys F (upD D 3) (upV st 3 (.slice (some ⟨w.heap.size, 0, none⟩) 0 0)) (w.alloc (.cells #[] 3)) := by
  have h20 := h.no20 (by decide) hD
  obtain ⟨a, b, c, d, e⟩ := h
  have h7 := off_of a hD
  have h14 := off_of (fun q => (b q).1) h7
  have h18 := off_of c h14
  unfold JL
  simp only [h20, h18, h14, h7, hD, if_false, Bool.false_eq_true] at e
  simp only [upD, upV, if_true, if_false, show ¬ 7 = 3 by decide, show ¬ 14 = 3 by decide, show ¬ 18 = 3 by decide, show ¬ 20 = 3 by decide, show ¬ 13 = 3 by decide, h7, h14, h18, h20, Bool.false_eq_true]
  have hg : w.grownBy (w.alloc (.cells #[] 3)) (Value.slice none 0 0).ownBlock := ⟨rfl, rfl, rfl, by simp, fun i hi _ => Below.heap_alloc w _ i hi⟩
  exact ⟨(fun _ => trivial), (fun q => by cases q), (fun q => by cases q), (fun q => by cases q), e.1.alloc hB _, World.ownsRow_made w #[] 0 hB (Nat.zero_le _) rfl, e.2.keep rfl rfl hg (.inr rfl)⟩
theorem JL.s13 (h : JL B w0 x xs ys F D st w) (hD : D 13 = false) (hB : B ≤ w.heap.size) : JL B w0 x xs ys F (upD D 13) (upV st 13 (.slice (some ⟨w.heap.size, 0, none⟩) 1 1)) (w.alloc (.cells #[x] 3)) := by
  have h20 := h.no20 (by decide) hD
  obtain ⟨a, b, c, d, e⟩ := h
  have h14 := off_of (fun q => (b q).2) hD
  have h18 := off_of c h14
  have hbox : ∀ {v : Value} {n : Nat} {zs : List Value}, w.ownsRow B 3 1 v n zs → BoxQ (upD D 13) (upV st 13 (.slice (some ⟨w.heap.size, 0, none⟩) 1 1)) (w.alloc (.cells #[x] 3)) x v := by
    intro v n zs hr _
    refine ⟨w.heap.size, by simp [upV], Blk.new w _ _, fun q => ?_⟩
    have := (hr.lt _ q).2
    omega
  unfold JL
  simp only [h20, h18, h14, if_false, Bool.false_eq_true] at e
  refine ⟨?_, ?_, ?_, ?_, ?_⟩
  · simpa [upD] using a
  · simp only [upD, if_true, show ¬ 14 = 13 by decide, if_false, h14]; intro q; cases q
  · simp only [upD, show ¬ 14 = 13 by decide, show ¬ 18 = 13 by decide, if_false, h18]; intro q; cases q
  · simp only [upD, show ¬ 20 = 13 by decide, if_false, h20]; intro q; cases q
  · have e20 : upD D 13 20 = false := h20
    have e18 : upD D 13 18 = false := h18
    have e14 : upD D 13 14 = false := h14
    have e7 : upD D 13 7 = D 7 := rfl
    have e3 : upD D 13 3 = D 3 := rfl
    simp only [e20, e18, e14, e7, e3, if_false, Bool.false_eq_true]
    refine ⟨e.1.alloc hB _, ?_⟩
    have s7 : upV st 13 (.slice (some ⟨w.heap.size, 0, none⟩) 1 1) 7 = st 7 := rfl
    have s3 : upV st 13 (.slice (some ⟨w.heap.size, 0, none⟩) 1 1) 3 = st 3 := rfl
    rw [s7, s3]
    have e2 := e.2
    by_cases q7 : D 7 = true
    · rw [if_pos q7] at e2 ⊢
      exact ⟨e2.1.alloc _, hbox e2.1⟩
    · rw [if_neg q7] at e2 ⊢
      by_cases q3 : D 3 = true
      · rw [if_pos q3] at e2 ⊢
        exact ⟨e2.1.alloc _, hbox e2.1⟩
      · rw [if_neg q3] at e2 ⊢
        exact hbox (World.ownsRow_nil _ _ _ _)
theorem JL.at3 (h : JL B w0 x xs ys F D st w) (h3 : D 3 = true) (hD : D 7 = false) : w.ownsRow B 3 1 (st 3) 0 [] ∧ BoxQ D st w x (st 3) := by
  have h20 := h.no20 (by decide) hD
  obtain ⟨a, b, c, d, e⟩ := h
  have h14 := off_of (fun q => (b q).1) hD
  have h18 := off_of c h14
  simp only [h20, h18, h14, hD, h3, if_false, if_true, Bool.false_eq_true] at e
  exact e.2
theorem JL.at7 (h : JL B w0 x xs ys F D st w) (h7 : D 7 = true) (hD : D 14 = false) : w.ownsRow B 3 1 (st 7) xs.length xs ∧ BoxQ D st w x (st 7) := by
  have h20 := h.no20 (by decide) hD
  obtain ⟨a, b, c, d, e⟩ := h
  have h18 := off_of c hD
  simp only [h20, h18, hD, h7, if_false, if_true, Bool.false_eq_true] at e
  exact e.2
theorem JL.at14 (h : JL B w0 x xs ys F D st w) (h14 : D 14 = true) (hD : D 18 = false) : w.ownsRow B 3 1 (st 14) (xs.length + 1) (xs ++ [x]) := by
  have h20 := h.no20 (by decide) hD
  obtain ⟨a, b, c, d, e⟩ := h
  simp only [h20, hD, h14, if_false, if_true, Bool.false_eq_true] at e
  exact e.2
theorem JL.at18 (h : JL B w0 x xs ys F D st w) (h18 : D 18 = true) (hD : D 20 = false) : w.ownsRow B 3 1 (st 18) (xs.length + 1 + ys.length) (xs ++ [x] ++ ys) ∧ Below B w0 w := by
  obtain ⟨a, b, c, d, e⟩ := h
  simp only [hD, h18, if_false, if_true, Bool.false_eq_true] at e
  exact ⟨e.2, e.1⟩
theorem JL.s7 (h : JL B w0 x xs ys F D st w) (h3 : D 3 = true) (hD : D 7 = false) (hB : B ≤ w.heap.size) {u : Value} (hr : w'.ownsRow B 3 1 u (0 + xs.length) ([] ++ xs)) (hg : w.grownBy w' (st 3).ownBlock) (hu : u.ownBlock = (st 3).ownBlock ∨ u.ownBlock = some w.heap.size) : JL B w0 x xs ys F (upD D 7) (upV st 7 u) w' ∧ Below B w w' := by
  have h20 := h.no20 (by decide) hD
  have hx := h.at3 h3 hD
  have hbl := h.bel (by decide) hD
  have hb : Below B w w' := below_own (Nat.le_refl _) hx.1 hg hB
  obtain ⟨a, b, c, d, e⟩ := h
  have h14 := off_of (fun q => (b q).1) hD
  have h18 := off_of c h14
  refine ⟨?_, hb⟩
  unfold JL
  simp only [upD, upV, if_true, if_false, show ¬ 3 = 7 by decide, show ¬ 14 = 7 by decide, show ¬ 18 = 7 by decide, show ¬ 20 = 7 by decide, show ¬ 13 = 7 by decide, h3, h14, h18, h20, Bool.false_eq_true]
  exact ⟨(fun _ => trivial), (fun q => by cases q), (fun q => by cases q), (fun q => by cases q), hbl.trans hb, by simpa using hr, hx.2.keep rfl rfl hg hu⟩
theorem JL.s14 (h : JL B w0 x xs ys F D st w) (h7 : D 7 = true) (h13 : D 13 = true) (hD : D 14 = false) (hB : B ≤ w.heap.size) {u : Value} (hr : w'.ownsRow B 3 1 u (xs.length + 1) (xs ++ [x])) (hg : w.grownBy w' (st 7).ownBlock) : JL B w0 x xs ys F (upD D 14) (upV st 14 u) w' ∧ Below B w w' := by
  have h20 := h.no20 (by decide) hD
  have hx := h.at7 h7 hD
  have hbl := h.bel (by decide) hD
  have hb : Below B w w' := below_own (Nat.le_refl _) hx.1 hg hB
  obtain ⟨a, b, c, d, e⟩ := h
  have h18 := off_of c hD
  refine ⟨?_, hb⟩
  unfold JL
  simp only [upD, upV, if_true, if_false, show ¬ 3 = 14 by decide, show ¬ 7 = 14 by decide, show ¬ 18 = 14 by decide, show ¬ 20 = 14 by decide, show ¬ 13 = 14 by decide, h7, h13, h18, h20, Bool.false_eq_true]
  exact ⟨(fun _ => a h7), (fun _ => ⟨trivial, trivial⟩), (fun q => by cases q), (fun q => by cases q), hbl.trans hb, hr⟩
theorem JL.s18 (h : JL B w0 x xs ys F D st w) (h14 : D 14 = true) (hD : D 18 = false) (hB : B ≤ w.heap.size) {u : Value} (hr : w'.ownsRow B 3 1 u (xs.length + 1 + ys.length) (xs ++ [x] ++ ys)) (hg : w.grownBy w' (st 14).ownBlock) : JL B w0 x xs ys F (upD D 18) (upV st 18 u) w' ∧ Below B w w' := by
  have h20 := h.no20 (by decide) hD
  have hx := h.at14 h14 hD
  have hbl := h.bel (by decide) hD
  have hb : Below B w w' := below_own (Nat.le_refl _) hx hg hB
  obtain ⟨a, b, c, d, e⟩ := h
  refine ⟨?_, hb⟩
  unfold JL
  simp only [upD, upV, if_true, if_false, show ¬ 3 = 18 by decide, show ¬ 7 = 18 by decide, show ¬ 14 = 18 by decide, show ¬ 20 = 18 by decide, show ¬ 13 = 18 by decide, h14, h20, Bool.false_eq_true]
  exact ⟨a, (fun q => b h14), (fun q => trivial), (fun q => by cases q), hbl.trans hb, hr⟩
theorem JL.s20 (h : JL B w0 x xs ys F D st w) (hall : ∀ j, j < 20 → D j = true) (hF : F w') (u : Value) : JL B w0 x xs ys F (upD D 20) (upV st 20 u) w' := by
  obtain ⟨a, b, c, d, e⟩ := h
  unfold JL
  simp only [upD, if_true, show ¬ 3 = 20 by decide, show ¬ 7 = 20 by decide, show ¬ 14 = 20 by decide, show ¬ 18 = 20 by decide, show ¬ 13 = 20 by decide, if_false]
  refine ⟨a, b, c, fun _ j hj => ?_, hF⟩
  rw [if_neg (by omega)]; exact hall j hj
theorem JL.fin (h : JL B w0 x xs ys F D st w) (hD : D 20 = true) : F w := by
  have e := h.2.2.2.2
  rwa [if_pos hD] at e
end
end Go.Proofs.Ytfdicndmebhmdaa
