/-
  Chapter 54: lists of operations of the call's own.
-/
import Derived.Test.YtjijlhjggpibjaaHg
import Derived.Laws.AppendOwnNone
namespace Go.Proofs.Ytjijlhjggpibjaa
open Go.RowKit

/-- A list of operations of the call's own; what holds of an element: E. -/
def OwnE (E : World → List Value → Opn → Prop) (w0 wr : World) (v : Value) (L : List Opn) : Prop :=
  Below w0.heap.size w0 wr ∧ ∃ cells : List Value, wr.ownsRow w0.heap.size 36 6 v L.length cells ∧ ∀ k (h : k < L.length), ∃ cs : List Value, cs.length = 6 ∧ (∀ i, i < 6 → cells[k * 6 + i]? = cs[i]?) ∧ E wr cs L[k]
structure StableE (w0 : World) (E : World → List Value → Opn → Prop) : Prop where
  below : ∀ w w' cs o, Below w.heap.size w w' → E w cs o → E w' cs o
  grown : ∀ w w' v n xs cs o, w.ownsRow w0.heap.size 36 6 v n xs → w.grownBy w' v.ownBlock → E w cs o → E w' cs o
  one : ∀ w cs o, E w cs o → cs.length = 6 ∧ ∀ u ∈ cs, u.oneCell' = true
/-- An operation whose lists are rows of the call's own. -/
def OpR (w : World) (cs : List Value) (o : Opn) : Prop := ∃ va vz, cs = opCs o va vz ∧ w.ownsRow 0 9 1 va (addO o).length ((addO o).map vs) ∧ w.ownsRow 0 9 1 vz (seeO o).length ((seeO o).map vs)
theorem rows_ne {w : World} {b1 b2 n1 n2 s1 s2 : Nat} {e1 e2 : TypeId} {v1 v2 : Value} {xs1 xs2 : List Value} (h1 : w.ownsRow b1 e1 s1 v1 n1 xs1) (h2 : w.ownsRow b2 e2 s2 v2 n2 xs2) (hne : e1 ≠ e2) :
    v1.ownBlock = none ∨ v1.ownBlock ≠ v2.ownBlock := by
  rcases h1.2 with ⟨rfl, _⟩ | ⟨g1, c1, cur1, rfl, _, hg1, _⟩
  · exact .inl rfl
  · rcases h2.2 with ⟨rfl, _⟩ | ⟨g2, c2, cur2, rfl, _, hg2, _⟩
    · right; simp [Value.ownBlock]
    · right
      intro e
      simp [Value.ownBlock] at e
      subst e
      rw [hg1] at hg2
      injection hg2 with hg2
      injection hg2 with _ ht
      exact hne ht
theorem stableR (w0 : World) : StableE w0 OpR where
  below := fun _ _ _ _ hb ⟨va, vz, h, h1, h2⟩ => ⟨va, vz, h, below_row h1 hb, below_row h2 hb⟩
  grown := fun _ _ _ _ _ _ _ hr hg ⟨va, vz, h, h1, h2⟩ => ⟨va, vz, h, h1.kept hg (rows_ne h1 hr (by decide)), h2.kept hg (rows_ne h2 hr (by decide))⟩
  one := fun w cs o ⟨va, vz, h, h1, h2⟩ => by
    obtain ⟨a1, c1, rfl⟩ := row_slc h1
    obtain ⟨a2, c2, rfl⟩ := row_slc h2
    subst h
    refine ⟨rfl, fun u hu => ?_⟩
    simp only [opCs, List.mem_cons, List.not_mem_nil, or_false] at hu
    rcases hu with rfl | rfl | rfl | rfl | rfl | rfl <;> rfl
theorem stableW (w0 w1 : World) : StableE w0 (fun _ cs o => OpE w1 cs o) where
  below := fun _ _ _ _ _ h => h
  grown := fun _ _ _ _ _ _ _ _ _ h => h
  one := fun w cs o ⟨va, vz, h, h1, h2⟩ => by
    obtain ⟨a1, n1, c1, rfl⟩ := Slc.of_reads h1
    obtain ⟨a2, n2, c2, rfl⟩ := Slc.of_reads h2
    subst h
    refine ⟨rfl, fun u hu => ?_⟩
    simp only [opCs, List.mem_cons, List.not_mem_nil, or_false] at hu
    rcases hu with rfl | rfl | rfl | rfl | rfl | rfl <;> rfl
section
variable {E : World → List Value → Opn → Prop} {w0 wr w' : World} {v : Value} {L : List Opn}
theorem OwnE.nil (E : World → List Value → Opn → Prop) (w : World) : OwnE E w w (.slice none 0 0) [] := ⟨Below.refl _ _, [], by simp [World.ownsRow], fun k h => by simp at h⟩
theorem OwnE.later (hE : StableE w0 E) (h : OwnE E w0 wr v L) (hb : Below wr.heap.size wr w') : OwnE E w0 w' v L := by
  obtain ⟨h1, cells, h2, h3⟩ := h
  refine ⟨h1.trans (hb.mono h1.size), cells, below_row h2 hb, fun k hk => ?_⟩
  obtain ⟨cs, a, b, c⟩ := h3 k hk
  exact ⟨cs, a, b, hE.below _ _ _ _ hb c⟩
theorem OwnE.reads (h : OwnE E w0 wr v L) (hop : ∀ cs o, E wr cs o → OpE wr cs o) : ReadsO wr v L := by
  obtain ⟨hb, cells, hown, hc⟩ := h
  rcases hown.2 with ⟨rfl, h0⟩ | ⟨g, cap, cur, rfl, hbg, hg, hn, hm, hs, ht⟩
  · have : L = [] := List.length_eq_zero_iff.1 h0
    subst this
    exact ReadsK.nil wr
  · refine ⟨_, cap, rfl, hn, hm, (fun e => by cases e), fun _ => ⟨g, 0, rfl, (Array.getElem?_eq_some_iff.1 hg).1, fun j hj => ?_⟩⟩
    obtain ⟨cs, h1, h2, h3⟩ := hc j hj
    refine ⟨cs, h1, fun i u hu => ?_, hop _ _ h3⟩
    have hi : i < 6 := by have := (List.getElem?_eq_some_iff.1 hu).1; omega
    rw [cell_of_row wr g _ cur _ (0, 0) hg, Nat.zero_add]
    have h4 := h2 i hi
    rw [hu, ← ht, List.getElem?_take, if_pos (by omega), Array.getElem?_toList] at h4
    exact h4
theorem OpR.op {w : World} {cs : List Value} {o : Opn} (h : OpR w cs o) : OpE w cs o := by
  obtain ⟨va, vz, h0, h1, h2⟩ := h
  exact ⟨va, vz, h0, Reads.of_owns h1, Reads.of_owns h2⟩
end
theorem Try.infoOp : (Try.prog.info? 36).map (fun i => (i.zero, i.size, i.bytes)) = some (some (.agg #[.int .i64 0, .int .i64 0, .int .i64 0, .int .i64 0, .slice none 0 0, .slice none 0 0]), 6, 80) := by kernel_rfl
set_option maxRecDepth 100000 in
/-- append of one operation. -/
theorem append_op {E : World → List Value → Opn → Prop} {ops : Array Oper} {rest : List Oper} {o : Oper} {a : Act} {w w0 : World} {Q : Exit → Act → World → Prop} (hE : StableE w0 E) (hgd : o.guard = none) (s x : Operand)
    (ho : o.op = .call { callee := .builtin .append, args := #[s, x], argTypes := #[22, 22] })
    (v : Value) (L : List Opn) (y : Opn) (cs : List Value) (g : Nat) (hs : a.eval s = v) (hown : OwnE E w0 w v L) (hx : a.eval x = .slice (some ⟨g, 0, none⟩) 1 1) (hB : Blk w g 36 cs.toArray) (he : E w cs y) (hlen : L.length ≤ 100000)
    (h : ∀ v' w', OwnE E w0 w' v' (L ++ [y]) → wpList Try.prog ops Q rest (a.put o.dst v') w') : wpList Try.prog ops Q (o :: rest) a w := by
  obtain ⟨i0, hinf, hz0, hz1, hz2⟩ := info_parts Try.infoOp
  obtain ⟨hb, cells, hrow, hc⟩ := hown
  obtain ⟨hl6, hone⟩ := hE.one _ _ _ he
  refine wpList_append_own w hgd s x 22 ho w0.heap.size 36 i0 _ 6 80 Try.underlying22 hinf hz0 hz1 hz2 rfl (by decide) v L.length cells hs hrow ⟨g, 0, none⟩ 1 1 cs hx (by omega) ?_ hone (by unfold maxLen; omega) (by omega) hb.size ?_
  · intro j u hu
    have h1 := hB.cell j
    have h2 : (cs.toArray)[j]? = some u := by simpa using hu
    rw [← h2, ← h1]
    by_cases h0 : j = 0 <;> simp [Addr.add, h0]
  · intro v' w' h1 h2 _
    refine h v' w' ⟨⟨h2.os.trans hb.os, h2.tape.trans hb.tape, h2.output.trans hb.output, Nat.le_trans hb.size h2.size, fun k hk => ?_⟩, cells ++ cs, by rw [List.length_append]; exact h1, fun k hk => ?_⟩
    · have h4 := hb.size
      rw [h2.block k (by omega) (fun e => by have := (hrow.lt k e.symm).1; omega)]
      exact hb.block k hk
    · have hcl : cells.length = L.length * 6 := hrow.1
      by_cases hlt : k < L.length
      · obtain ⟨ds, h5, h6, h7⟩ := hc k hlt
        refine ⟨ds, h5, fun i hi => ?_, by rw [List.getElem_append_left hlt]; exact hE.grown _ _ _ _ _ _ _ hrow h2 h7⟩
        rw [List.getElem?_append_left (by omega)]
        exact h6 i hi
      · have hk' : k = L.length := by simp at hk; omega
        subst hk'
        refine ⟨cs, hl6, fun i hi => ?_, by rw [List.getElem_append_right (Nat.le_refl _)]; simpa using hE.grown _ _ _ _ _ _ _ hrow h2 he⟩
        rw [List.getElem?_append_right (by omega), hcl, show L.length * 6 + i - L.length * 6 = i by omega]
end Go.Proofs.Ytjijlhjggpibjaa
