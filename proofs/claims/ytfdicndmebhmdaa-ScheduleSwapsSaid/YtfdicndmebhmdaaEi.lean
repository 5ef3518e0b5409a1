/-
  Chapter 29: lists of events of the call's own; fresh.
-/
import Derived.Test.YtfdicndmebhmdaaEc
import Derived.Test.YtfdicndmebhmdaaShelf
namespace Go.Proofs.Ytfdicndmebhmdaa
open Go.RowKit

/-- A list of events of the call's own; its row lies from block B on; what holds of an element: E. -/
def OwnE (B : Nat) (E : World → List Value → Ev → Prop) (w0 wr : World) (v : Value) (L : List Ev) : Prop :=
  (w0.heap.size ≤ B ∧ B ≤ wr.heap.size ∧ Below w0.heap.size w0 wr) ∧ ∃ cells : List Value, wr.ownsRow B 29 2 v L.length cells ∧ ∀ k (h : k < L.length), ∃ cs : List Value, cs.length = 2 ∧ (∀ i, i < 2 → cells[k * 2 + i]? = cs[i]?) ∧ E wr cs L[k]
structure StableE (B : Nat) (E : World → List Value → Ev → Prop) : Prop where
  below : ∀ w w' cs o, Below w.heap.size w w' → E w cs o → E w' cs o
  grown : ∀ w w' v n xs cs o, w.ownsRow B 29 2 v n xs → w.grownBy w' v.ownBlock → E w cs o → E w' cs o
  one : ∀ w cs o, E w cs o → cs.length = 2 ∧ ∀ u ∈ cs, u.oneCell' = true
/-- An event whose list is a row of the call's own. -/
def EvR (B : Nat) (w : World) (cs : List Value) (e : Ev) : Prop := ∃ vu, cs = evCs e vu ∧ w.ownsRow B 3 1 vu e.2.length (e.2.map vi)
theorem stableR (B B' : Nat) : StableE B (EvR B') where
  below := fun _ _ _ _ hb ⟨vu, h, h1⟩ => ⟨vu, h, below_row h1 hb⟩
  grown := fun _ _ _ _ _ _ _ hr hg ⟨vu, h, h1⟩ => ⟨vu, h, h1.kept hg (rows_ne h1 hr (by decide))⟩
  one := fun w cs o ⟨vu, h, h1⟩ => by
    obtain ⟨a1, c1, rfl⟩ := row_slc h1
    subst h
    refine ⟨rfl, fun u hu => ?_⟩
    simp only [evCs, List.mem_cons, List.not_mem_nil, or_false] at hu
    rcases hu with rfl | rfl <;> rfl
theorem stableW (B : Nat) (w1 : World) : StableE B (fun _ cs o => EvE w1 cs o) where
  below := fun _ _ _ _ _ h => h
  grown := fun _ _ _ _ _ _ _ _ _ h => h
  one := fun w cs o ⟨vu, h, h1⟩ => by
    obtain ⟨a1, n1, c1, rfl⟩ := Slc.of_reads h1
    subst h
    refine ⟨rfl, fun u hu => ?_⟩
    simp only [evCs, List.mem_cons, List.not_mem_nil, or_false] at hu
    rcases hu with rfl | rfl <;> rfl
section
variable {B : Nat} {E : World → List Value → Ev → Prop} {w0 wr w' : World} {v : Value} {L : List Ev}
theorem OwnE.nil (E : World → List Value → Ev → Prop) {B : Nat} {w0 w : World} (h1 : w0.heap.size ≤ B) (h2 : B ≤ w.heap.size) (h3 : Below w0.heap.size w0 w) : OwnE B E w0 w (.slice none 0 0) [] := ⟨⟨h1, h2, h3⟩, [], World.ownsRow_nil _ _ _ _, fun k h => by simp at h⟩
theorem OwnE.later (hE : StableE B E) (h : OwnE B E w0 wr v L) (hb : Below wr.heap.size wr w') : OwnE B E w0 w' v L := by
  obtain ⟨h1, cells, h2, h3⟩ := h
  refine ⟨⟨h1.1, Nat.le_trans h1.2.1 hb.size, h1.2.2.trans (hb.mono h1.2.2.size)⟩, cells, below_row h2 hb, fun k hk => ?_⟩
  obtain ⟨cs, a, b, c⟩ := h3 k hk
  exact ⟨cs, a, b, hE.below _ _ _ _ hb c⟩
theorem OwnE.reads (h : OwnE B E w0 wr v L) (hop : ∀ cs o, E wr cs o → EvE wr cs o) : ReadsE wr v L := by
  obtain ⟨hb, cells, hown, hc⟩ := h
  rcases hown.2 with ⟨rfl, h0⟩ | ⟨g, cap, cur, rfl, hbg, hg, hn, hm, hs, ht⟩
  · have : L = [] := List.length_eq_zero_iff.1 h0
    subst this
    exact ReadsK.nil wr
  · refine ⟨_, cap, rfl, hn, hm, (fun e => by cases e), fun _ => ⟨g, 0, rfl, (Array.getElem?_eq_some_iff.1 hg).1, fun j hj => ?_⟩⟩
    obtain ⟨cs, h1, h2, h3⟩ := hc j hj
    refine ⟨cs, h1, fun i u hu => ?_, hop _ _ h3⟩
    have hi : i < 2 := by have := (List.getElem?_eq_some_iff.1 hu).1; omega
    rw [cell_of_row wr g _ cur _ (0, 0) hg, Nat.zero_add]
    have h4 := h2 i hi
    rw [hu, ← ht, List.getElem?_take, if_pos (by omega), Array.getElem?_toList] at h4
    exact h4
theorem EvR.ev {B : Nat} {w : World} {cs : List Value} {o : Ev} (h : EvR B w cs o) : EvE w cs o := by
  obtain ⟨vu, h0, h1⟩ := h
  exact ⟨vu, h0, Reads.of_owns h1⟩
end
theorem Try.infoEv : (Try.prog.info? 29).map (fun i => (i.zero, i.size, i.bytes)) = some (some (.agg #[.int .i64 0, .slice none 0 0]), 2, 32) := by kernel_rfl
theorem ev_info : (Try.prog.info? 29).map (·.size) = some 2 := by kernel_rfl
set_option maxRecDepth 100000 in
/-- append of one event. -/
theorem append_ev {B : Nat} {E : World → List Value → Ev → Prop} {ops : Array Oper} {rest : List Oper} {o : Oper} {a : Act} {w w0 : World} {Q : Exit → Act → World → Prop} (hE : StableE B E) (hgd : o.guard = none) (s x : Operand)
    (ho : o.op = .call { callee := .builtin .append, args := #[s, x], argTypes := #[22, 22] })
    (v : Value) (L : List Ev) (y : Ev) (cs : List Value) (g : Nat) (hs : a.eval s = v) (hown : OwnE B E w0 w v L) (hx : a.eval x = .slice (some ⟨g, 0, none⟩) 1 1) (hB : Blk w g 29 cs.toArray) (he : E w cs y) (hlen : L.length ≤ 100000)
    (h : ∀ v' w', OwnE B E w0 w' v' (L ++ [y]) → Kept (fun k => B ≤ k) w w' → wpList Try.prog ops Q rest (a.put o.dst v') w') : wpList Try.prog ops Q (o :: rest) a w := by
  obtain ⟨i0, hinf, hz0, hz1, hz2⟩ := info_parts Try.infoEv
  obtain ⟨hb, cells, hrow, hc⟩ := hown
  obtain ⟨hl2, hone⟩ := hE.one _ _ _ he
  refine wpList_append_own w hgd s x 22 ho B 29 i0 _ 2 32 Try.underlying22 hinf hz0 hz1 hz2 rfl (by decide) v L.length cells hs hrow ⟨g, 0, none⟩ 1 1 cs hx (by omega) ?_ hone (by unfold maxLen; omega) (by omega) hb.2.1 ?_
  · intro j u hu
    have h1 := hB.cell j
    have h2 : (cs.toArray)[j]? = some u := by simpa using hu
    rw [← h2, ← h1]
    by_cases h0 : j = 0 <;> simp [Addr.add, h0]
  · intro v' w' h1 h2 _
    have hk : Kept (fun k => B ≤ k) w w' := Kept.ofG h2 fun k hk => (hrow.lt k hk.symm).1
    refine h v' w' ⟨⟨hb.1, Nat.le_trans hb.2.1 h2.size, hb.2.2.trans (hk.below hb.2.2.size fun k hk => by have := hb.1; omega)⟩, cells ++ cs, by rw [List.length_append]; exact h1, fun k hk => ?_⟩ hk
    have hcl : cells.length = L.length * 2 := hrow.1
    by_cases hlt : k < L.length
    · obtain ⟨ds, h5, h6, h7⟩ := hc k hlt
      refine ⟨ds, h5, fun i hi => ?_, by rw [List.getElem_append_left hlt]; exact hE.grown _ _ _ _ _ _ _ hrow h2 h7⟩
      rw [List.getElem?_append_left (by omega)]
      exact h6 i hi
    · have hk' : k = L.length := by simp at hk; omega
      subst hk'
      refine ⟨cs, hl2, fun i hi => ?_, by rw [List.getElem_append_right (Nat.le_refl _)]; simpa using hE.grown _ _ _ _ _ _ _ hrow h2 he⟩
      rw [List.getElem?_append_right (by omega), hcl, show L.length * 2 + i - L.length * 2 = i by omega]
theorem row_blk_ne {w : World} {base s n g : Nat} {e t : TypeId} {v : Value} {xs : List Value} {cs : Array Value} (h : w.ownsRow base e s v n xs) (hB : Blk w g t cs) (hne : e ≠ t) : ∀ b, v.ownBlock = some b → b ≠ g := by
  rintro b hb rfl
  rcases h.2 with ⟨rfl, _⟩ | ⟨g1, c1, cur1, rfl, _, hg1, _⟩
  · simp [Value.ownBlock] at hb
  · simp [Value.ownBlock] at hb
    subst hb
    unfold Blk at hB
    rw [hg1] at hB
    injection hB with hB
    injection hB with _ ht
    exact hne ht
theorem OwnE.kept {B B' gw gu : Nat} {w0 wr w' : World} {v : Value} {L : List Ev} (h : OwnE B (EvR B') w0 wr v L) (hk : Kept (PlS gw gu) wr w') (hw : w0.heap.size ≤ gw) (hu : w0.heap.size ≤ gu) (hB : gw < B) (hB2 : gu < B) (hC : gw < B') (hC2 : gu < B') : OwnE B (EvR B') w0 w' v L := by
  obtain ⟨hb, cells, hrow, hc⟩ := h
  refine ⟨⟨hb.1, Nat.le_trans hb.2.1 hk.size, hb.2.2.trans (hk.below hb.2.2.size fun k hk => by rintro (e | e) <;> omega)⟩, cells, hk.row hrow fun b hb => ?_, fun k hk' => ?_⟩
  · have := (hrow.lt b hb).1; rintro (e | e) <;> omega
  · obtain ⟨cs, a, b, vu, c, d⟩ := hc k hk'
    exact ⟨cs, a, b, vu, c, hk.row d fun b hb => by have := (d.lt b hb).1; rintro (e | e) <;> omega⟩

/-- An event by value, its list in a row of the call's own. -/
def EvRow (B : Nat) (w : World) (v : Value) (e : Ev) : Prop := ∃ vu, v = evV e vu ∧ w.ownsRow B 3 1 vu e.2.length (e.2.map vi)
def FreshMade (w : World) (o : Ev) (e : Ending) (w' : World) : Prop := ∃ v, e = .returned v ∧ EvRow w.heap.size w' v o ∧ Below w.heap.size w w'
def OwnI (w : World) (xs : List Int) (e : Ending) (w' : World) : Prop := ∃ v', e = .returned v' ∧ w'.ownsRow w.heap.size 3 1 v' xs.length (xs.map vi) ∧ Below w.heap.size w w'
theorem iclone_any (v : Value) (xs : List Int) (w : World) (hr : Reads vi w v xs) (hb : xs.length ≤ 1000000) : Calls Try.prog 54 #[v] w (OwnI w xs) := by
  rcases hr.cases with ⟨rfl, ao, cap, rfl, hm, hn⟩ | ⟨h0, b, off, cap, rfl, hl, hm, hlt, hc⟩
  · cases ao with
    | none =>
      refine (Try.slices_Clone_int_nil _ _ _).mono ?_
      rintro e w1 ⟨rfl, rfl⟩
      exact ⟨_, rfl, World.ownsRow_nil _ _ _ _, Below.refl _ _⟩
    | some a =>
      refine (Try.slices_Clone_int_zero a cap w).mono ?_
      rintro e w1 ⟨v', rfl, h1, _, h2⟩
      exact ⟨_, rfl, h1, h2⟩
  · have hcl := Try.slices_Clone_int b off xs.length cap xs w (by omega) (by omega) (fun j hj => by rw [List.getD_eq_getElem?_getD, List.getElem?_eq_getElem hj]; exact hc j hj)
    rw [List.take_of_length_le (Nat.le_refl _)] at hcl
    refine hcl.mono ?_
    rintro e w1 ⟨v', rfl, h1, _, h2⟩
    exact ⟨_, rfl, h1, h2⟩
theorem blk2 {w : World} {g : Nat} {t : TypeId} {v0 v1 : Value} (h : Blk w g t #[v0, v1]) : w.cell? ⟨g, 0, none⟩ = some v0 ∧ w.cell? ⟨g, 1, none⟩ = some v1 ∧ g < w.heap.size := ⟨h.cell 0, h.cell 1, h.lt⟩
set_option maxRecDepth 100000 in
set_option maxHeartbeats 2000000 in
theorem fresh_any (v : Value) (e : Ev) (W : World) (he : EvAt W v e) (h1 : e.2.length ≤ 1000) : Calls Try.prog 36 #[v] W (FreshMade W e) := by
  obtain ⟨vu, rfl, r1⟩ := he
  have HR := Lib.hid r1
  obtain ⟨x1, cx1, rfl, -, hm1, -, -⟩ := r1
  unfold maxLen at hm1
  have HO : Hid (∀ (w : World) (vu : Value), w.ownsRow W.heap.size 3 1 vu e.2.length (e.2.map vi) → EvRow W.heap.size w (.agg #[.int .i64 e.1, vu]) e) := Lib.hid fun w vu h1 => ⟨vu, rfl, h1⟩
  unfold evV
  generalize e.1 = a0 at *
  generalize e.2 = la at *
  go_enter Try.func36, Try.ntmps36
  go_upto_region 1 with fail
  have HK0 : Hid (Blk ((W.alloc (.cells #[.int .i64 a0, .slice x1 la.length cx1] 29)).alloc (.cells #[.int .i64 0, .slice none 0 0] 29)) W.heap.size 29 #[.int .i64 a0, .slice x1 la.length cx1]) := Lib.hid ((Blk.new _ _ _).alloc _)
  have HK1 : Hid (Blk ((W.alloc (.cells #[.int .i64 a0, .slice x1 la.length cx1] 29)).alloc (.cells #[.int .i64 0, .slice none 0 0] 29)) (W.heap.size + 1) 29 #[.int .i64 0, .slice none 0 0]) := Lib.hid (by have h := Blk.new (W.alloc (.cells #[.int .i64 a0, .slice x1 la.length cx1] 29)) 29 #[.int .i64 0, .slice none 0 0]; rwa [World.size_alloc] at h)
  have HKW := Lib.hid (below_two W (.cells #[.int .i64 a0, .slice x1 la.length cx1] 29) (.cells #[.int .i64 0, .slice none 0 0] 29))
  generalize hw1 : World.alloc (World.alloc W _) _ = w1 at HK0 HK1 HKW ⊢
  have HZ : Hid (w1.heap.size = W.heap.size + 2) := Lib.hid (by rw [← hw1]; simp)
  clear hw1
  have q1 : w1.cell? ⟨W.heap.size, 1, none⟩ = some (.slice x1 la.length cx1) := HK0.out.cell 1
  have HCL := Lib.hid (iclone_any _ la w1 (HR.out.keep HKW.out) (by omega))
  go_wp2_with fail
  refine HCL.out.mono ?_
  rintro r w2 ⟨v', rfl, hrow, hb2⟩
  have HX := Lib.hid hrow
  have HB2 := Lib.hid (And.intro (HK0.out.on hb2) (HK1.out.on hb2))
  have HW2 := Lib.hid (HKW.out.trans (hb2.mono HKW.out.size))
  obtain ⟨a4, c4, rfl⟩ := row_slc hrow
  clear hrow hb2 HCL q1
  have dd := Lib.hid (blk2 HB2.out.1)
  have d0 := dd.out.1
  have d1 := dd.out.2.1
  have dlt := dd.out.2.2
  have f1 := HB2.out.1.frozen 1
  go_upto_region 2 with fail
  have HB3 : Hid (Blk (w2.setCell ⟨W.heap.size, 1, none⟩ (.slice a4 la.length c4)) W.heap.size 29 #[.int .i64 a0, .slice a4 la.length c4] ∧ Blk (w2.setCell ⟨W.heap.size, 1, none⟩ (.slice a4 la.length c4)) (W.heap.size + 1) 29 #[.int .i64 0, .slice none 0 0]) := Lib.hid ⟨HB2.out.1.set_ 1 _, HB2.out.2.far (p := ⟨W.heap.size, 1, none⟩) (by simp) _⟩
  have HX3 : Hid ((w2.setCell ⟨W.heap.size, 1, none⟩ (.slice a4 la.length c4)).ownsRow w1.heap.size 3 1 (.slice a4 la.length c4) la.length (la.map vi)) := Lib.hid (row_blk HX.out fun g cur hg hB => hB.far (p := ⟨W.heap.size, 1, none⟩) (by have := HZ.out; show g ≠ W.heap.size; omega) _)
  have HW3 := Lib.hid (HW2.out.setCell (p := ⟨W.heap.size, 1, none⟩) (Nat.le_refl _) (.slice a4 la.length c4))
  generalize hw3 : World.setCell w2 _ _ = w3 at *
  clear hw3 d0 d1 dlt f1 dd HB2 HX HW2
  have dd := Lib.hid (blk2 HB3.out.1)
  have d0 := dd.out.1
  have d1 := dd.out.2.1
  have HONE : Hid ((#[.int .i64 a0, .slice a4 la.length c4] : Array Value).all (·.oneCell') = true) := Lib.hid (by simp [Value.oneCell'])
  go_wp2_with (refine wpList_store_blk rfl 29 (.tmp 2) (.tmp 7) rfl (W.heap.size + 1) 29 _ #[.int .i64 a0, .slice a4 la.length c4] rfl rfl HB3.out.2 ev_info rfl HONE.out ?_)
  intro w9 hB9 hs9 hf9 hk9
  have HE := Lib.hid (row_blk HX3.out (w' := w9) fun g cur hg hB => hk9 g _ cur (by have := HZ.out; omega) hB)
  have HG := Lib.hid (hf9 W.heap.size W (by omega) HW3.out)
  have HL := Lib.hid (run_loadVar_mid (P := Try.prog) w9 (W.heap.size + 1) 0 29 _ _ (Blk.range hB9) Try.underlying29 rfl ev_info)
  clear hk9 hf9
  go_wp2
  refine bodyPost_ret (results_cell rfl rfl HL.out) rfl ⟨_, rfl, HO.out _ _ (ownsRow_base HE.out (by have := HZ.out; omega)), HG.out⟩
end Go.Proofs.Ytfdicndmebhmdaa
