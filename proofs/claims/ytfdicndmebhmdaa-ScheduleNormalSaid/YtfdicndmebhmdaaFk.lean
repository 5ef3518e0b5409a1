/-
  Chapter 29: Layers.
-/
import Derived.Test.YtfdicndmebhmdaaEj
import Derived.Test.YtfdicndmebhmdaaPd
import Derived.Test.YtfdicndmebhmdaaShelf
import Derived.Sort.OwnSorted
namespace Go.Proofs.Ytfdicndmebhmdaa
open Go.RowKit

theorem row_put {w : World} {B g n c l : Nat} {e : TypeId} {xs : List Value} (h : w.ownsRow B e 1 (.slice (some ⟨g, 0, none⟩) n c) n xs) (u : Value) (_hl : l < n) : (w.setCell ⟨g, l, none⟩ u).ownsRow B e 1 (.slice (some ⟨g, 0, none⟩) n c) n (xs.set l u) := by
  refine ⟨by simpa using h.1, ?_⟩
  rcases h.2 with ⟨h1, _⟩ | ⟨g', cap, cur, h1, hb, hg, hn, hm, hs, ht⟩
  · cases h1
  · injection h1 with e1 e2 e3
    injection e1 with e1
    injection e1 with e1
    subst e1 e3
    refine .inr ⟨g, c, cur.setIfInBounds l u, rfl, hb, ?_, hn, hm, by simpa using hs, ?_⟩
    · have hB : Blk w g e cur := hg
      exact hB.set_ l u
    · rw [Array.toList_setIfInBounds, Nat.mul_one, ← ht, Nat.mul_one, List.take_set]
theorem row_cell {w : World} {B g n c l : Nat} {e : TypeId} {xs : List Value} {u : Value} (h : w.ownsRow B e 1 (.slice (some ⟨g, 0, none⟩) n c) n xs) (hu : xs[l]? = some u) : w.cell? ⟨g, l, none⟩ = some u ∧ w.frozen? ⟨g, l, none⟩ = false ∧ g < w.heap.size := by
  have hlt := h.lt g rfl
  rcases h.2 with ⟨h1, _⟩ | ⟨g', cap, cur, h1, hb, hg, hn, hm, hs, ht⟩
  · cases h1
  · injection h1 with e1 e2 e3
    injection e1 with e1
    injection e1 with e1
    subst e1 e3
    have hB : Blk w g e cur := hg
    rw [← ht, List.getElem?_take] at hu
    split at hu
    · exact ⟨(hB.cell l).trans (by simpa using hu), hB.frozen l, hlt.2⟩
    · cases hu
/-- One value appended to a row of ints of the call's own: the row's block is the one it was, or the next new one. -/
theorem run_append_blkI {base : Nat} {w : World} {ty : TypeId} {v x : Value} {n : Nat} {xs : List Value} {g : Nat} (hone : x.oneCell' = true) (hown : w.ownsRow base 3 1 v n xs) (hB : Blk w g 3 #[x]) (hlen : n ≤ 100000) (hbase : base ≤ w.heap.size) :
    ∃ v' w', (Builtin.append_ #[25, 25] ty #[v, .slice (some ⟨g, 0, none⟩) 1 1]).run Try.prog w = .ok v' w' ∧ w'.ownsRow base 3 1 v' (n + 1) (xs ++ [x]) ∧ w.grownBy w' v.ownBlock ∧ (v'.ownBlock = v.ownBlock ∨ v'.ownBlock = some w.heap.size) := by
  obtain ⟨i0, hinf, hz0, hz1, hz2⟩ := info_parts Try.infoInt1
  have hn1 : ∀ j u, [x][j]? = some u → w.cell? ((⟨g, 0, none⟩ : Addr).add j) = some u := by
    intro j u hu
    have h2 : (#[x] : Array Value)[j]? = some u := by simpa using hu
    rw [← h2, ← hB.cell j]
    by_cases h0 : j = 0 <;> simp [Addr.add, h0]
  have h1 : ∀ u ∈ [x], u.oneCell' = true := by intro u hu; rw [List.mem_singleton.1 hu]; exact hone
  have hxl : xs.length = n := by have := hown.1; omega
  obtain ⟨v', w', hr, h2, h3, _⟩ := run_append_own (P := Try.prog) w base 25 ty 3 i0 (.int .i64 0) 1 8 Try.underlying25 hinf hz0 hz1 hz2 rfl (by decide) v n xs hown ⟨g, 0, none⟩ 1 1 [x] rfl hn1 h1 (by unfold maxLen; omega) (by omega) hbase
  refine ⟨v', w', hr, h2, h3, ?_⟩
  have hown2 := hown
  rcases hown.2 with ⟨rfl, h0⟩ | ⟨g0, cap, cur, rfl, hbg, hg, hnc, hcm, hcs, htake⟩
  · have hr2 := run_append_nil (P := Try.prog) w 25 ty 3 i0 (.int .i64 0) Try.underlying25 hinf hz0 ⟨g, 0, none⟩ 1 1 [x] (by rw [hz1]; rfl) hn1 (by omega) (by omega) (by omega)
    rw [hr2] at hr
    injection hr with hr _
    right; rw [← hr]; rfl
  · by_cases hroom : n + 1 ≤ cap
    · have hr2 := run_append_room (P := Try.prog) w 25 ty 3 i0 Try.underlying25 hinf g0 n cap cur hg ⟨g, 0, none⟩ 1 1 [x] (by rw [hz1]; rfl) hn1 h1 hroom (by rw [hz1, hcs]; simp; omega)
      rw [hr2] at hr
      injection hr with hr _
      left; rw [← hr]; rfl
    · have hr2 := run_append_grow (P := Try.prog) w 25 ty 3 i0 (.int .i64 0) Try.underlying25 hinf hz0 ⟨g0, 0, none⟩ n cap xs (by rw [hz1]; omega) (hown2.cells (g := g0) rfl) ⟨g, 0, none⟩ 1 1 [x] (by rw [hz1]; rfl) hn1 (by omega) (by unfold maxLen at hcm; omega) (growslice_fits (by omega) (by rw [hz2]; omega))
      rw [hr2] at hr
      injection hr with hr _
      right; rw [← hr]; rfl
/-- slices.Sort of a row of the call's own. -/
theorem isort_own {B : Nat} {w1 : World} {v : Value} {l : List Int} (hown : w1.ownsRow B 3 1 v l.length (l.map vi)) (hn : l.length ≤ 1000000) :
    Calls Try.prog 41 #[v] w1 fun e w' => e = .returned (.tuple #[]) ∧ w'.ownsRow B 3 1 v (sortI l).length ((sortI l).map vi) ∧ w1.grownBy w' v.ownBlock := by
  rcases hown.2 with ⟨rfl, h0⟩ | ⟨g, cap, cur, rfl, hbase, hb, h1, h2, h3, h4⟩
  · have hl : l = [] := List.length_eq_zero_iff.1 h0
    subst hl
    refine (Try.slices_Sort_int_none none 0 w1).mono fun e w' ⟨he, hw⟩ => ⟨he, ?_⟩
    subst hw
    rw [show sortI [] = [] by simp [sortI]]
    exact ⟨hown, grown_refl _ _⟩
  · have hgl : g < w1.heap.size := (Array.getElem?_eq_some_iff.1 hb).1
    have hH : Sort.Holds (Value.int .i64) w1 g 0 l.toArray := fun j hj => by
      have hj' : j < l.length := by simpa using hj
      rw [Nat.zero_add, hown.cellAt j (by omega), hown.frozenAt j, List.getElem?_map, List.getElem?_eq_getElem hj', getElem!_pos _ _ (by simpa using hj')]
      exact ⟨rfl, rfl⟩
    refine (Try.slices_Sort_int g 0 cap l w1 hH hgl (by omega)).mono fun e w' ⟨he, nn, os, hw⟩ => ⟨he, ?_⟩
    subst hw
    have hs := Lib.ownsRow_putRow (enc := Value.int .i64) (q := nn) (k := l.length) (ys := sortI l) hown (sortI_len l) (Nat.le_refl _)
    rw [List.take_of_length_le (by rw [sortI_len]; omega)] at hs
    have hg : (Sort.putRow (Value.int .i64) (Sort.ahead w1 nn) g 0 (sortI l).toArray).grownBy (Sort.grow (Sort.putRow (Value.int .i64) (Sort.ahead w1 nn) g 0 (sortI l).toArray) os) none := ⟨rfl, rfl, rfl, by simp [Sort.grow], fun k hk _ => Sort.heap_grow_old _ os hk⟩
    refine ⟨by rw [sortI_len]; exact hs.kept hg (.inr (by simp [Value.ownBlock])), rfl, rfl, rfl, by simp [Sort.grow, Sort.putRow, Sort.mapBlock, Sort.ahead], fun k hk hne => ?_⟩
    have hgk : g ≠ k := fun e => hne (by rw [e]; rfl)
    have e1 := Sort.heap_grow_old (Sort.putRow (Value.int .i64) (Sort.ahead w1 nn) g 0 (sortI l).toArray) os (k := k) (by simpa [Sort.putRow, Sort.mapBlock, Sort.ahead] using hk)
    refine e1.trans ?_
    simp [Sort.putRow, Sort.mapBlock, Sort.ahead, Array.getElem?_modify, hgk]

/-- Rows of ints of the call's own, in a row of the call's own. -/
def OutL (B : Nat) (w : World) (v : Value) (m : Nat) (LL : Nat → List Int) : Prop := ∃ f : Nat → Value, w.ownsRow B 25 1 v m ((List.range m).map f) ∧ (∀ l, l < m → w.ownsRow B 3 1 (f l) (LL l).length ((LL l).map vi)) ∧
  ∀ l l', l < m → l' < m → l ≠ l' → ∀ b, (f l).ownBlock = some b → (f l').ownBlock ≠ some b
section
variable {B m : Nat} {w w' : World} {v v' : Value} {LL : Nat → List Int}
theorem OutL.kept {S : Nat → Prop} (h : OutL B w v m LL) (hk : Kept S w w') (hs : ∀ b, S b → b < B) : OutL B w' v m LL := by
  obtain ⟨f, h1, h2, h3⟩ := h
  exact ⟨f, hk.row h1 fun b hb q => by have := (h1.lt b hb).1; have := hs b q; omega, fun l hl => hk.row (h2 l hl) fun b hb q => by have := ((h2 l hl).lt b hb).1; have := hs b q; omega, h3⟩
theorem OutL.on (h : OutL B w v m LL) (hb : Below w.heap.size w w') : OutL B w' v m LL := h.kept (Kept.of (S := fun _ => False) hb) fun _ q => q.elim
theorem OutL.same (h : OutL B w v m LL) {LL' : Nat → List Int} (he : ∀ l, l < m → LL' l = LL l) : OutL B w v m LL' := by
  obtain ⟨f, h1, h2, h3⟩ := h
  exact ⟨f, h1, fun l hl => by rw [he l hl]; exact h2 l hl, h3⟩
theorem OutL.push (h : OutL B w v m LL) (hm : LL m = []) (hr : ∀ f, w.ownsRow B 25 1 v m ((List.range m).map f) → w'.ownsRow B 25 1 v' (m + 1) ((List.range m).map f ++ [.slice none 0 0])) (hg : w.grownBy w' v.ownBlock) : OutL B w' v' (m + 1) LL := by
  obtain ⟨f, h1, h2, h3⟩ := h
  have hn : ∀ l, l < m → ∀ l', l' ≠ m → (fun l => if l = m then Value.slice none 0 0 else f l) l' = f l' := fun l _ l' hl' => if_neg hl'
  refine ⟨fun l => if l = m then .slice none 0 0 else f l, ?_, fun l hl => ?_, fun l l' hl hl' hne b hb => ?_⟩
  · rw [List.range_succ, List.map_append]
    have e : (List.range m).map (fun l => if l = m then Value.slice none 0 0 else f l) = (List.range m).map f := List.map_congr_left fun l hl => if_neg (by have := List.mem_range.1 hl; omega)
    rw [e]
    simpa using hr f h1
  · by_cases e : l = m
    · subst e
      simp only [if_true]
      rw [hm]
      exact World.ownsRow_nil _ _ _ _
    · simp only [e, if_false]
      exact (h2 l (by omega)).kept hg (rows_ne (h2 l (by omega)) h1 (by decide))
  · by_cases e : l = m
    · simp only [e, if_true] at hb; cases hb
    · by_cases e' : l' = m
      · simp only [e', if_true]; intro q; cases q
      · simp only [e, if_false] at hb
        simp only [e', if_false]
        exact h3 l l' (by omega) (by omega) hne b hb
/-- A value appended to the row l; the row stored. -/
theorem OutL.item {g c l : Nat} {x : Int} {f : Nat → Value} {w1 : World} {u : Value} (hv : w.ownsRow B 25 1 (.slice (some ⟨g, 0, none⟩) m c) m ((List.range m).map f)) (h2 : ∀ l, l < m → w.ownsRow B 3 1 (f l) (LL l).length ((LL l).map vi)) (h3 : ∀ l l', l < m → l' < m → l ≠ l' → ∀ b, (f l).ownBlock = some b → (f l').ownBlock ≠ some b) (hl : l < m)
    (hk : Kept (fun b => some b = (f l).ownBlock) w w1) (hr : w1.ownsRow B 3 1 u ((LL l).length + 1) ((LL l).map vi ++ [vi x])) (hb : u.ownBlock = (f l).ownBlock ∨ ∀ b, u.ownBlock = some b → w.heap.size ≤ b) :
    OutL B (w1.setCell ⟨g, l, none⟩ u) (.slice (some ⟨g, 0, none⟩) m c) m (fun l' => if l' = l then LL l ++ [x] else LL l') := by
  have hne : ∀ b, some b = (f l).ownBlock → b ≠ g := fun b q e => by
    subst e
    rcases rows_ne (h2 l hl) hv (by decide) with q' | q'
    · rw [q'] at q; cases q
    · exact q' (by rw [← q]; rfl)
  have hv1 := hk.row hv fun b hb q => by injection hb with hb; exact hne b q hb.symm
  have hkg : Kept (fun b => b = g) w1 (w1.setCell ⟨g, l, none⟩ u) := Kept.set _ rfl
  have hng : ∀ {v : Value} {n : Nat} {xs : List Value}, w1.ownsRow B 3 1 v n xs → ∀ b, v.ownBlock = some b → ¬ b = g := fun h b hb e => by
    subst e
    rcases rows_ne h hv1 (by decide) with q' | q'
    · rw [q'] at hb; cases hb
    · exact q' (by rw [hb]; rfl)
  refine ⟨fun l' => if l' = l then u else f l', ?_, fun l' hl' => ?_, fun a b ha hb' hab x hx => ?_⟩
  · have h5 := row_put hv1 u hl
    have e : ((List.range m).map f).set l u = (List.range m).map fun l' => if l' = l then u else f l' := by
      apply List.ext_getElem?
      intro j
      rw [List.getElem?_set, List.length_map, List.length_range, List.getElem?_map, List.getElem?_map]
      by_cases hj : l = j
      · subst hj
        rw [if_pos rfl, if_pos hl, List.getElem?_range hl]
        simp
      · rw [if_neg hj]
        by_cases hjm : j < m
        · rw [List.getElem?_range hjm]
          simp [show ¬ j = l from fun e => hj e.symm]
        · rw [List.getElem?_eq_none (by simpa using hjm)]; rfl
    rwa [e] at h5
  · by_cases e : l' = l
    · simp only [e, if_true]
      rw [List.length_append, List.map_append]
      exact hkg.row hr (hng hr)
    · simp only [e, if_false]
      have h6 := hk.row (h2 l' hl') fun b hb q => h3 l l' hl hl' (fun e' => e e'.symm) b q.symm hb
      exact hkg.row h6 (hng h6)
  · have hold : ∀ l', l' < m → ∀ b, (f l').ownBlock = some b → b < w.heap.size := fun l' hl' b hb => ((h2 l' hl').lt b hb).2
    by_cases e : a = l
    · simp only [e, if_true] at hx
      have e' : ¬ b = l := fun q => hab (e.trans q.symm)
      simp only [e', if_false]
      intro q
      rcases hb with q' | q'
      · exact h3 l b hl hb' (fun q => e' q.symm) x (q' ▸ hx) q
      · have := q' x hx; have := hold b hb' x q; omega
    · simp only [e, if_false] at hx
      by_cases e' : b = l
      · simp only [e', if_true]
        intro q
        rcases hb with q' | q'
        · exact h3 a l ha hl e x hx (q' ▸ q)
        · have := q' x q; have := hold a ha x hx; omega
      · simp only [e', if_false]
        exact h3 a b ha hb' hab x hx
end
/-- What Layers works on. -/
structure LyS (W wr : World) (B ga : Nat) (t : List Ev) (A : Nat → Nat) (v : Value) (m : Nat) (LL : Nat → List Int) : Prop where
  la : Blk wr ga 3 (rowF t.length fun j => .int .i64 ((A j : Nat) : Int))
  out : OutL B wr v m LL
  bel : Below W.heap.size W wr
  ord : W.heap.size ≤ ga ∧ ga < B ∧ B ≤ wr.heap.size
section
variable {W wr w' : World} {B ga m : Nat} {t : List Ev} {A : Nat → Nat} {v : Value} {LL : Nat → List Int}
theorem LyS.on (h : LyS W wr B ga t A v m LL) (hb : Below wr.heap.size wr w') : LyS W w' B ga t A v m LL := ⟨h.la.on hb, h.out.on hb, h.bel.trans (hb.mono h.bel.size), h.ord.1, h.ord.2.1, Nat.le_trans h.ord.2.2 hb.size⟩
theorem LyS.same (h : LyS W wr B ga t A v m LL) {A' : Nat → Nat} {LL' : Nat → List Int} (hA : ∀ j, j < t.length → A' j = A j) (hL : ∀ l, l < m → LL' l = LL l) : LyS W wr B ga t A' v m LL' :=
  ⟨by have h1 := h.la; rw [rowF_congr (g' := fun j => .int .i64 ((A' j : Nat) : Int)) (fun j hj => by rw [hA j hj])] at h1; exact h1, h.out.same hL, h.bel, h.ord⟩
theorem LyS.set (h : LyS W wr B ga t A v m LL) (k x : Nat) {A' : Nat → Nat} (hA : ∀ j, j < t.length → A' j = if j = k then x else A j) : LyS W (wr.setCell ⟨ga, k, none⟩ (.int .i64 (x : Int))) B ga t A' v m LL := by
  have hk : Kept (fun b => b = ga) wr (wr.setCell ⟨ga, k, none⟩ (.int .i64 (x : Int))) := Kept.set _ rfl
  refine ⟨?_, h.out.kept hk fun b hb => by rw [hb]; exact h.ord.2.1, h.bel.setCell (p := ⟨ga, k, none⟩) h.ord.1 _, h.ord.1, h.ord.2.1, by simpa [World.setCell] using h.ord.2.2⟩
  have h1 := h.la.set_ k (.int .i64 (x : Int))
  rw [rowF_set] at h1
  rw [rowF_congr (g' := fun j => .int .i64 ((A' j : Nat) : Int)) (fun j hj => by
    rw [hA j hj]
    by_cases e : j = k
    · rw [if_pos e, if_pos e]
    · rw [if_neg e, if_neg e])] at h1
  exact h1
end
end Go.Proofs.Ytfdicndmebhmdaa
