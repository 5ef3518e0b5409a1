/-
  Chapter 39: append to a list of commands of the call's own; chosen.
-/
import Derived.Test.YtahpecbcpgjinaaCg
import Derived.Laws.AppendOwnNone
namespace Go.Proofs.Ytahpecbcpgjinaa
open Go.RowKit

set_option maxRecDepth 100000 in
theorem Try.infoCmd : (Try.prog.info? 52).map (fun i => (i.zero, i.size, i.bytes)) = some (some (.agg #[.int .i64 0, .int .i64 0, .int .i64 0, .slice none 0 0, .int .i64 0, .slice none 0 0]), 6, 80) := by kernel_rfl

/-- The commands of a list of the call's own: what they refer to was there at the start. -/
def OwnC (w0 wr : World) (v : Value) (L : List Cmd) : Prop :=
  Below w0.heap.size w0 wr ∧ ∃ cells : List Value, wr.ownsRow w0.heap.size 52 6 v L.length cells ∧ ∀ k (h : k < L.length), ∃ cs : List Value, cs.length = 6 ∧ (∀ i, i < 6 → cells[k * 6 + i]? = cs[i]?) ∧ CmdE w0 cs L[k]
/-- Commands from which one copies. -/
def SrcC (w0 wr : World) (u : Value) (B : List Cmd) : Prop :=
  (u = .slice none 0 0 ∧ B = []) ∨ ∃ ad cap, u = .slice (some ad) B.length cap ∧ ∀ j (h : j < B.length), ∃ cs : List Value, cs.length = 6 ∧ (∀ i x, cs[i]? = some x → wr.cell? (ad.add (j * 6 + i)) = some x) ∧ CmdE w0 cs B[j]

theorem addr_add (b off n : Nat) : Addr.add ⟨b, off, none⟩ n = (⟨b, off + n, none⟩ : Addr) := by by_cases h0 : n = 0 <;> simp [Addr.add, h0]

theorem SrcC.of_reads {w0 wr : World} {u : Value} {B : List Cmd} (h : ReadsC w0 u B) (hb : Below w0.heap.size w0 wr) : SrcC w0 wr u B := by
  obtain ⟨ao, cap, rfl, hl, hm, hn, hx⟩ := h
  cases ao with
  | none =>
    have := hn rfl
    subst this
    have h0 : B = [] := List.length_eq_zero_iff.1 (by omega)
    subst h0
    exact .inl ⟨rfl, rfl⟩
  | some ad =>
    refine .inr ⟨ad, cap, rfl, fun j hj => ?_⟩
    obtain ⟨b, off, e, hlt, hc⟩ := hx (by intro e; subst e; simp at hj)
    injection e with e
    subst e
    obtain ⟨cs, h1, h2, h3⟩ := hc j hj
    refine ⟨cs, h1, fun i x hi => ?_, h3⟩
    rw [addr_add, ← Nat.add_assoc]
    exact (hb.cell (p := ⟨b, off + j * 6 + i, none⟩) hlt).trans (h2 i x hi)

theorem SrcC.of_new {w0 wr : World} {c : Cmd} {vw vt : Value} {t : TypeId} (h1 : ReadsK 2 WriteE w0 vw c.2.2.2.1) (h2 : Reads vb w0 vt c.2.2.2.2.2) :
    SrcC w0 (wr.alloc (.cells #[.int .i64 c.1, .int .i64 c.2.1, .int .i64 (kindC c), vw, .int .i64 (repC c), vt] t)) (.slice (some ⟨wr.heap.size, 0, none⟩) 1 1) [c] := by
  refine .inr ⟨_, 1, rfl, fun j hj => ?_⟩
  have h0 : j = 0 := by simp at hj; omega
  subst h0
  refine ⟨[.int .i64 c.1, .int .i64 c.2.1, .int .i64 (kindC c), vw, .int .i64 (repC c), vt], rfl, fun i x hi => ?_, vw, vt, rfl, h1, h2⟩
  rw [show Addr.add ⟨wr.heap.size, 0, none⟩ (0 * 6 + i) = (⟨wr.heap.size, i, none⟩ : Addr) by by_cases h0 : i = 0 <;> simp [Addr.add, h0], cell_of_row _ wr.heap.size i _ t (0, 0) (heap_alloc_new wr _)]
  simpa using hi

theorem SrcC.two {w0 wr : World} {c d : Cmd} {vw vt vw' vt' : Value} {t : TypeId} (h1 : ReadsK 2 WriteE w0 vw c.2.2.2.1) (h2 : Reads vb w0 vt c.2.2.2.2.2) (h3 : ReadsK 2 WriteE w0 vw' d.2.2.2.1) (h4 : Reads vb w0 vt' d.2.2.2.2.2) :
    SrcC w0 (wr.alloc (.cells #[.int .i64 c.1, .int .i64 c.2.1, .int .i64 (kindC c), vw, .int .i64 (repC c), vt, .int .i64 d.1, .int .i64 d.2.1, .int .i64 (kindC d), vw', .int .i64 (repC d), vt'] t)) (.slice (some ⟨wr.heap.size, 0, none⟩) 2 2) [c, d] := by
  refine .inr ⟨_, 2, rfl, fun j hj => ?_⟩
  have hadd : ∀ n, Addr.add ⟨wr.heap.size, 0, none⟩ n = (⟨wr.heap.size, n, none⟩ : Addr) := fun n => by by_cases h0 : n = 0 <;> simp [Addr.add, h0]
  rcases (by simp at hj; omega : j = 0 ∨ j = 1) with h0 | h0
  · subst h0
    refine ⟨[.int .i64 c.1, .int .i64 c.2.1, .int .i64 (kindC c), vw, .int .i64 (repC c), vt], rfl, fun i x hi => ?_, vw, vt, rfl, h1, h2⟩
    rw [hadd, cell_of_row _ wr.heap.size _ _ t (0, 0) (heap_alloc_new wr _)]
    have hlt : i < 6 := (List.getElem?_eq_some_iff.1 hi).1
    rcases (by omega : i = 0 ∨ i = 1 ∨ i = 2 ∨ i = 3 ∨ i = 4 ∨ i = 5) with rfl | rfl | rfl | rfl | rfl | rfl <;> simpa using hi
  · subst h0
    refine ⟨[.int .i64 d.1, .int .i64 d.2.1, .int .i64 (kindC d), vw', .int .i64 (repC d), vt'], rfl, fun i x hi => ?_, vw', vt', rfl, h3, h4⟩
    rw [hadd, cell_of_row _ wr.heap.size _ _ t (0, 0) (heap_alloc_new wr _)]
    have hlt : i < 6 := (List.getElem?_eq_some_iff.1 hi).1
    rcases (by omega : i = 0 ∨ i = 1 ∨ i = 2 ∨ i = 3 ∨ i = 4 ∨ i = 5) with rfl | rfl | rfl | rfl | rfl | rfl <;> simpa using hi

theorem OwnC.nil (w : World) : OwnC w w (.slice none 0 0) [] := ⟨Below.refl _ _, [], by simp [World.ownsRow], fun k h => by simp at h⟩
theorem OwnC.empty {w wr : World} (hb : Below w.heap.size w wr) : OwnC w (wr.alloc (.cells #[] 52)) (.slice (some ⟨wr.heap.size, 0, none⟩) 0 0) [] := by
  have hs := hb.size
  refine ⟨hb.alloc (by omega) _, [], ⟨by simp, .inr ⟨wr.heap.size, 0, #[], rfl, by omega, heap_alloc_new wr _, Nat.le_refl _, by simp [maxLen], by simp, by simp⟩⟩, fun k h => by simp at h⟩

theorem cmdE_one {w : World} {cs : List Value} {c : Cmd} (h : CmdE w cs c) : ∀ u ∈ cs, u.oneCell' = true := by
  obtain ⟨vw, vt, rfl, h1, h2⟩ := h
  obtain ⟨a4, n4, k4, rfl⟩ := Slc.of_readsK h1
  obtain ⟨a5, n5, k5, rfl⟩ := Slc.of_reads h2
  intro u hu
  simp only [List.mem_cons, List.not_mem_nil, or_false] at hu
  rcases hu with rfl | rfl | rfl | rfl | rfl | rfl <;> rfl

/-- The commands of a list of the call's own, read. -/
theorem OwnC.reads {w0 wr : World} {v : Value} {L : List Cmd} (h : OwnC w0 wr v L) : ReadsC wr v L := by
  obtain ⟨hb, cells, hown, hc⟩ := h
  rcases hown.2 with ⟨rfl, h0⟩ | ⟨g, cap, cur, rfl, hbg, hg, hn, hm, hs, ht⟩
  · have : L = [] := List.length_eq_zero_iff.1 h0
    subst this
    exact ReadsK.nil wr
  · have hlt : g < wr.heap.size := by
      rcases Nat.lt_or_ge g wr.heap.size with h' | h'
      · exact h'
      · rw [Array.getElem?_eq_none h'] at hg; cases hg
    refine ⟨_, cap, rfl, hn, hm, (fun e => by cases e), fun _ => ⟨g, 0, rfl, hlt, fun j hj => ?_⟩⟩
    obtain ⟨cs, h1, h2, h3⟩ := hc j hj
    refine ⟨cs, h1, fun i u hu => ?_, keepsCmd _ _ _ _ hb h3⟩
    have hi : i < 6 := by have := (List.getElem?_eq_some_iff.1 hu).1; omega
    rw [cell_of_row wr g _ cur _ (0, 0) hg, Nat.zero_add]
    have h4 := h2 i hi
    rw [hu, ← ht, List.getElem?_take, if_pos (by omega), Array.getElem?_toList] at h4
    exact h4

theorem OwnC.later {w0 wr wx : World} {v : Value} {L : List Cmd} (h : OwnC w0 wr v L) (hb : Below wr.heap.size wr wx) : OwnC w0 wx v L := by
  obtain ⟨hb0, cells, hown, hc⟩ := h
  refine ⟨hb0.trans (hb.mono hb0.size), cells, ⟨hown.1, ?_⟩, hc⟩
  rcases hown.2 with h0 | ⟨g, cap, cur, rfl, hbg, hg, rest⟩
  · exact .inl h0
  · refine .inr ⟨g, cap, cur, rfl, hbg, ?_, rest⟩
    have hlt : g < wr.heap.size := by
      rcases Nat.lt_or_ge g wr.heap.size with h' | h'
      · exact h'
      · rw [Array.getElem?_eq_none h'] at hg; cases hg
    rw [hb.block g hlt]; exact hg

set_option maxRecDepth 100000 in
/-- append of commands to a list of the call's own. -/
theorem append_cmds {ops : Array Oper} {rest : List Oper} {o : Oper} {a : Act} {w w0 : World} {Q : Exit → Act → World → Prop} (hgd : o.guard = none) (s x : Operand)
    (ho : o.op = .call { callee := .builtin .append, args := #[s, x], argTypes := #[26, 26] })
    (v u : Value) (L B : List Cmd) (hs : a.eval s = v) (hx : a.eval x = u) (hown : OwnC w0 w v L) (hu : SrcC w0 w u B) (hlen : L.length + B.length ≤ 2000000)
    (h : ∀ v' w', OwnC w0 w' v' (L ++ B) → wpList Try.prog ops Q rest (a.put o.dst v') w') : wpList Try.prog ops Q (o :: rest) a w := by
  obtain ⟨i0, hinf, hz0, hz1, hz2⟩ := info_parts Try.infoCmd
  obtain ⟨hb, cells, hrow, hc⟩ := hown
  rcases hu with ⟨rfl, rfl⟩ | ⟨ad, cap, rfl, hB⟩
  · refine wpList_append_own_none hgd s x 26 ho w0.heap.size 52 i0 6 Try.underlying26 hinf v L.length cells hs hrow hx ?_
    refine h v w ?_
    rw [List.append_nil]
    exact ⟨hb, cells, hrow, hc⟩
  · obtain ⟨news, hnl, hnc, hn1⟩ : ∃ news : List Value, news.length = B.length * 6 ∧ (∀ j (h : j < B.length), ∃ cs : List Value, cs.length = 6 ∧ (∀ i, i < 6 → news[j * 6 + i]? = cs[i]?) ∧ (∀ i x, cs[i]? = some x → w.cell? (ad.add (j * 6 + i)) = some x) ∧ CmdE w0 cs B[j]) ∧ True := by
      refine ⟨(List.range (B.length * 6)).map fun j => (w.cell? (ad.add j)).getD (.bool false), by simp, fun j hj => ?_, trivial⟩
      obtain ⟨cs, h1, h2, h3⟩ := hB j hj
      refine ⟨cs, h1, fun i hi => ?_, h2, h3⟩
      rw [List.getElem?_map, List.getElem?_range (by omega), List.getElem?_eq_getElem (show i < cs.length by omega)]
      simp only [Option.map_some]
      rw [h2 i _ (List.getElem?_eq_getElem (show i < cs.length by omega))]
      rfl
    have split : ∀ j, j < B.length * 6 → ∃ k i, k < B.length ∧ i < 6 ∧ j = k * 6 + i := fun j hj => ⟨j / 6, j % 6, by omega, by omega, by omega⟩
    refine wpList_append_own w hgd s x 26 ho w0.heap.size 52 i0 _ 6 80 Try.underlying26 hinf hz0 hz1 hz2 rfl (by decide) v L.length cells hs hrow ad B.length cap news hx hnl ?_ ?_ (by unfold maxLen; omega) (by omega) hb.size ?_
    · intro j u hu
      have hj : j < B.length * 6 := by rw [← hnl]; exact (List.getElem?_eq_some_iff.1 hu).1
      obtain ⟨k, i, hk, hi, rfl⟩ := split j hj
      obtain ⟨cs, h1, h2, h3, _⟩ := hnc k hk
      rw [h2 i hi] at hu
      exact h3 i u hu
    · intro u hu
      obtain ⟨j, hj, rfl⟩ := List.mem_iff_getElem.1 hu
      rw [hnl] at hj
      obtain ⟨k, i, hk, hi, rfl⟩ := split j hj
      obtain ⟨cs, h1, h2, _, h4⟩ := hnc k hk
      have h5 := h2 i hi
      rw [List.getElem?_eq_getElem (by omega), List.getElem?_eq_getElem (by omega)] at h5
      injection h5 with h5
      rw [h5]
      exact cmdE_one h4 _ (List.getElem_mem _)
    · intro v' w' h1 h2 _
      refine h v' w' ⟨⟨h2.os.trans hb.os, h2.tape.trans hb.tape, h2.output.trans hb.output, ?_, fun k hk => ?_⟩, cells ++ news, by rw [List.length_append]; exact h1, fun k hk => ?_⟩
      · have h3 := h2.size
        have h4 := hb.size
        omega
      · have h4 := hb.size
        rw [h2.block k (by omega) (fun e => by have := (hrow.lt k e.symm).1; omega)]
        exact hb.block k hk
      · have hcl : cells.length = L.length * 6 := hrow.1
        by_cases hlt : k < L.length
        · obtain ⟨cs, h5, h6, h7⟩ := hc k hlt
          refine ⟨cs, h5, fun i hi => ?_, by rw [List.getElem_append_left hlt]; exact h7⟩
          rw [List.getElem?_append_left (by omega)]
          exact h6 i hi
        · rw [List.length_append] at hk
          obtain ⟨cs, h5, h6, _, h7⟩ := hnc (k - L.length) (by omega)
          refine ⟨cs, h5, fun i hi => ?_, by rw [List.getElem_append_right (by omega)]; exact h7⟩
          rw [List.getElem?_append_right (by omega), hcl, show k * 6 + i - L.length * 6 = (k - L.length) * 6 + i by omega]
          exact h6 i hi
end Go.Proofs.Ytahpecbcpgjinaa
