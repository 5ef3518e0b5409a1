/-
  Chapter 39: lists of lists of commands of the call's own.
-/
import Derived.Test.YtahpecbcpgjinaaCx
import Derived.Test.YtahpecbcpgjinaaRe
import Derived.Laws.AppendOwnNone
namespace Go.Proofs.Ytahpecbcpgjinaa
open Go.RowKit

theorem Try.infoSl : (Try.prog.info? 26).map (fun i => (i.zero, i.size, i.bytes)) = some (some (.slice none 0 0), 1, 24) := by kernel_rfl

/-- Rows whose elements are of different types lie in different blocks. -/
theorem rows_ne {w : World} {b1 b2 n1 n2 s1 s2 : Nat} {e1 e2 : TypeId} {v1 v2 : Value} {xs1 xs2 : List Value} (h1 : w.ownsRow b1 e1 s1 v1 n1 xs1) (h2 : w.ownsRow b2 e2 s2 v2 n2 xs2) (hne : e1 ≠ e2) :
    v1.ownBlock = none ∨ v1.ownBlock ≠ v2.ownBlock := by
  rcases h1.2 with ⟨rfl, _⟩ | ⟨g1, c1, cur1, rfl, _, hg1, _⟩
  · exact .inl rfl
  · rcases h2.2 with ⟨rfl, _⟩ | ⟨g2, c2, cur2, rfl, _, hg2, _⟩
    · right; simp [Value.ownBlock]
    · right
      intro e
      simp [Value.ownBlock] at e
      subst e
      rw [hg1] at hg2
      injection hg2 with hg2
      injection hg2 with _ ht
      exact hne ht
theorem ownsRow_base {w : World} {b b' : Nat} {e : TypeId} {s n : Nat} {v : Value} {xs : List Value} (h : w.ownsRow b e s v n xs) (hb : b' ≤ b) : w.ownsRow b' e s v n xs := by
  refine ⟨h.1, ?_⟩
  rcases h.2 with hn | ⟨g, cap, cur, hv, hbb, rest⟩
  · exact .inl hn
  · exact .inr ⟨g, cap, cur, hv, Nat.le_trans hb hbb, rest⟩

/-- The cells of a list of commands, read in w0. -/
def CellsC (w0 : World) (cells : List Value) (D : List Cmd) : Prop := ∀ k (h : k < D.length), ∃ cs : List Value, cs.length = 6 ∧ (∀ i, i < 6 → cells[k * 6 + i]? = cs[i]?) ∧ CmdE w0 cs D[k]
/-- A row of commands. -/
def RowC (w0 wr : World) (u : Value) (D : List Cmd) : Prop := ∃ cells, wr.ownsRow 0 52 6 u D.length cells ∧ CellsC w0 cells D
theorem RowC.of_own {w1 w0 wr : World} {v : Value} {L : List Cmd} (h : OwnC w1 wr v L) (hb : Below w1.heap.size w1 w0) : RowC w0 wr v L := by
  obtain ⟨_, cells, hown, hc⟩ := h
  refine ⟨cells, ownsRow_base hown (Nat.zero_le _), fun k hk => ?_⟩
  obtain ⟨cs, h1, h2, h3⟩ := hc k hk
  exact ⟨cs, h1, h2, keepsCmd _ _ _ _ hb h3⟩
theorem RowC.on {w0 wr w' : World} {u : Value} {D : List Cmd} (h : RowC w0 wr u D) (hb : Below wr.heap.size wr w') : RowC w0 w' u D := by
  obtain ⟨cells, h1, h2⟩ := h
  exact ⟨cells, below_row h1 hb, h2⟩
theorem RowC.grown {w0 wr w' : World} {u : Value} {D : List Cmd} {row : Option Nat} (h : RowC w0 wr u D) (hg : wr.grownBy w' row) (hne : u.ownBlock = none ∨ u.ownBlock ≠ row) : RowC w0 w' u D := by
  obtain ⟨cells, h1, h2⟩ := h
  exact ⟨cells, h1.kept hg hne, h2⟩
theorem CellsC.one {w0 : World} {cells : List Value} {D : List Cmd} (h : CellsC w0 cells D) (hl : cells.length = D.length * 6) : ∀ u ∈ cells, u.oneCell' = true := by
  intro u hu
  obtain ⟨j, hj, rfl⟩ := List.mem_iff_getElem.1 hu
  have hk : j / 6 < D.length := by omega
  obtain ⟨cs, h1, h2, h3⟩ := h (j / 6) hk
  have h5 := h2 (j % 6) (by omega)
  rw [show j / 6 * 6 + j % 6 = j by omega, List.getElem?_eq_getElem hj, List.getElem?_eq_getElem (by omega)] at h5
  injection h5 with h5
  rw [h5]
  exact cmdE_one h3 _ (List.getElem_mem _)
theorem CellsC.snoc {w0 : World} {cells cs : List Value} {D : List Cmd} {c : Cmd} (h : CellsC w0 cells D) (hl : cells.length = D.length * 6) (hcs : cs.length = 6) (hc : CmdE w0 cs c) : CellsC w0 (cells ++ cs) (D ++ [c]) := by
  intro k hk
  by_cases hlt : k < D.length
  · obtain ⟨cs', h1, h2, h3⟩ := h k hlt
    refine ⟨cs', h1, fun i hi => ?_, by rw [List.getElem_append_left hlt]; exact h3⟩
    rw [List.getElem?_append_left (by omega)]
    exact h2 i hi
  · have hk' : k = D.length := by simp at hk; omega
    subst hk'
    refine ⟨cs, hcs, fun i hi => ?_, by rw [List.getElem_append_right (Nat.le_refl _)]; simpa using hc⟩
    rw [List.getElem?_append_right (by omega), hl, show D.length * 6 + i - D.length * 6 = i by omega]
theorem RowC.reads {w0 wr : World} {u : Value} {D : List Cmd} (h : RowC w0 wr u D) (hb : Below w0.heap.size w0 wr) : ReadsC wr u D := by
  obtain ⟨cells, hown, hc⟩ := h
  rcases hown.2 with ⟨rfl, h0⟩ | ⟨g, cap, cur, rfl, hbg, hg, hn, hm, hs, ht⟩
  · have : D = [] := List.length_eq_zero_iff.1 h0
    subst this
    exact ReadsK.nil wr
  · have hlt : g < wr.heap.size := by
      rcases Nat.lt_or_ge g wr.heap.size with h' | h'
      · exact h'
      · rw [Array.getElem?_eq_none h'] at hg; cases hg
    refine ⟨_, cap, rfl, hn, hm, (fun e => by cases e), fun _ => ⟨g, 0, rfl, hlt, fun j hj => ?_⟩⟩
    obtain ⟨cs, h1, h2, h3⟩ := hc j hj
    refine ⟨cs, h1, fun i u hu => ?_, keepsCmd _ _ _ _ hb h3⟩
    have hi : i < 6 := by have := (List.getElem?_eq_some_iff.1 hu).1; omega
    rw [cell_of_row wr g _ cur _ (0, 0) hg, Nat.zero_add]
    have h4 := h2 i hi
    rw [hu, ← ht, List.getElem?_take, if_pos (by omega), Array.getElem?_toList] at h4
    exact h4
/-- The cells of a row, where they lie. -/
theorem RowC.cells {w0 wr : World} {u : Value} {D : List Cmd} (h : RowC w0 wr u D) : ∃ cells : List Value, cells.length = D.length * 6 ∧ CellsC w0 cells D ∧
    ((u = .slice none 0 0 ∧ D.length = 0 ∧ cells = []) ∨ ∃ g cap, u = .slice (some ⟨g, 0, none⟩) D.length cap ∧ g < wr.heap.size ∧ ∀ j x, cells[j]? = some x → wr.cell? ⟨g, j, none⟩ = some x) := by
  obtain ⟨cells, hown, hc⟩ := h
  refine ⟨cells, hown.1, hc, ?_⟩
  rcases hown.2 with ⟨rfl, h0⟩ | ⟨g, cap, cur, rfl, hbg, hg, hn, hm, hs, ht⟩
  · exact .inl ⟨rfl, h0, List.eq_nil_of_length_eq_zero (by rw [hown.1, h0])⟩
  · refine .inr ⟨g, cap, rfl, (Array.getElem?_eq_some_iff.1 hg).1, fun j x hx => ?_⟩
    have hj : j < D.length * 6 := by rw [← hown.1]; exact (List.getElem?_eq_some_iff.1 hx).1
    rw [cell_of_row wr g _ cur _ (0, 0) hg]
    rw [← ht, List.getElem?_take, if_pos hj, Array.getElem?_toList] at hx
    exact hx

/-- A list of lists of commands of the call's own. -/
def OwnL (w0 wr : World) (v : Value) (Ls : List (List Cmd)) : Prop :=
  Below w0.heap.size w0 wr ∧ ∃ us : List Value, wr.ownsRow w0.heap.size 26 1 v Ls.length us ∧ ∀ i (h : i < Ls.length), ∃ u, us[i]? = some u ∧ RowC w0 wr u Ls[i]
theorem OwnL.later {w0 wr w' : World} {v : Value} {Ls : List (List Cmd)} (h : OwnL w0 wr v Ls) (hb : Below wr.heap.size wr w') : OwnL w0 w' v Ls := by
  obtain ⟨h1, us, h2, h3⟩ := h
  refine ⟨h1.trans (hb.mono h1.size), us, below_row h2 hb, fun i hi => ?_⟩
  obtain ⟨u, hu, hr⟩ := h3 i hi
  exact ⟨u, hu, hr.on hb⟩
theorem OwnL.snoc {w0 w w' : World} {v v' u : Value} {Ls : List (List Cmd)} {us : List Value} {D : List Cmd} (hb : Below w0.heap.size w0 w) (hrow : w.ownsRow w0.heap.size 26 1 v Ls.length us)
    (hus : ∀ i (h : i < Ls.length), ∃ u, us[i]? = some u ∧ RowC w0 w u Ls[i]) (hu : RowC w0 w u D) (hrow' : w'.ownsRow w0.heap.size 26 1 v' (Ls.length + 1) (us ++ [u])) (hg : w.grownBy w' v.ownBlock) : OwnL w0 w' v' (Ls ++ [D]) := by
  have hne : ∀ {x : Value} {E : List Cmd}, RowC w0 w x E → x.ownBlock = none ∨ x.ownBlock ≠ v.ownBlock := fun ⟨_, h1, _⟩ => rows_ne h1 hrow (by decide)
  have hul : us.length = Ls.length := by rw [hrow.1, Nat.mul_one]
  refine ⟨⟨hg.os.trans hb.os, hg.tape.trans hb.tape, hg.output.trans hb.output, ?_, fun k hk => ?_⟩, us ++ [u], by rw [List.length_append]; exact hrow', fun i hi => ?_⟩
  · have h3 := hg.size
    have h4 := hb.size
    omega
  · have h4 := hb.size
    rw [hg.block k (by omega) (fun e => by have := (hrow.lt k e.symm).1; omega)]
    exact hb.block k hk
  · by_cases hlt : i < Ls.length
    · obtain ⟨x, hx, hr⟩ := hus i hlt
      refine ⟨x, by rw [List.getElem?_append_left (by omega)]; exact hx, ?_⟩
      rw [List.getElem_append_left hlt]
      exact hr.grown hg (hne hr)
    · have hi' : i = Ls.length := by simp at hi; omega
      subst hi'
      refine ⟨u, by rw [List.getElem?_append_right (by omega), hul]; simp, ?_⟩
      rw [List.getElem_append_right (Nat.le_refl _)]
      simpa using hu.grown hg (hne hu)

/-- A list of lists of commands, as it reads. -/
def SliE (w : World) (cs : List Value) (D : List Cmd) : Prop := ∃ v, cs = [v] ∧ ReadsC w v D
theorem keepsSli : Keeps SliE := fun _ _ _ _ hb ⟨v, h, h1⟩ => ⟨v, h, h1.on hb⟩
abbrev ReadsL (w : World) (v : Value) (Ls : List (List Cmd)) : Prop := ReadsK 1 SliE w v Ls
theorem ReadsL.on {w w' : World} {v : Value} {Ls : List (List Cmd)} (h : ReadsL w v Ls) (hb : Below w.heap.size w w') : ReadsL w' v Ls := ReadsK.keep keepsSli h hb
theorem OwnL.reads {w0 wr : World} {v : Value} {Ls : List (List Cmd)} (h : OwnL w0 wr v Ls) : ReadsL wr v Ls := by
  obtain ⟨hb, us, hown, hc⟩ := h
  rcases hown.2 with ⟨rfl, h0⟩ | ⟨g, cap, cur, rfl, hbg, hg, hn, hm, hs, ht⟩
  · have : Ls = [] := List.length_eq_zero_iff.1 h0
    subst this
    exact ReadsK.nil wr
  · refine ⟨_, cap, rfl, hn, hm, (fun e => by cases e), fun _ => ⟨g, 0, rfl, (Array.getElem?_eq_some_iff.1 hg).1, fun j hj => ?_⟩⟩
    obtain ⟨u, hu, hr⟩ := hc j hj
    refine ⟨[u], rfl, fun i x hx => ?_, u, rfl, hr.reads hb⟩
    have hi : i = 0 := by have := (List.getElem?_eq_some_iff.1 hx).1; simp at this; omega
    subst hi
    simp at hx
    subst hx
    rw [cell_of_row wr g _ cur _ (0, 0) hg, Nat.zero_add]
    rw [← ht, List.getElem?_take, if_pos (by omega), Array.getElem?_toList] at hu
    simpa using hu
/-- An element of a list of lists: its cell. -/
theorem ReadsL.at_ {w : World} {v : Value} {Ls : List (List Cmd)} (h : ReadsL w v Ls) {k : Nat} (hk : k < Ls.length) : ∃ b off cap u, v = .slice (some ⟨b, off, none⟩) Ls.length cap ∧ Ls.length ≤ cap ∧ cap ≤ maxLen ∧ b < w.heap.size ∧ w.cell? ⟨b, off + k, none⟩ = some u ∧ ReadsC w u Ls[k] := by
  obtain ⟨ao, cap, rfl, h1, h2, h3, h4⟩ := h
  obtain ⟨b, off, rfl, hb, hc⟩ := h4 (by rintro rfl; simp at hk)
  obtain ⟨cs, _, h6, u, rfl, h7⟩ := hc k hk
  exact ⟨b, off, cap, u, rfl, h1, h2, hb, by simpa using h6 0 u rfl, h7⟩
/-- .. of the call's own. -/
theorem OwnL.at_ {w0 w : World} {v : Value} {Ls : List (List Cmd)} (h : OwnL w0 w v Ls) {k : Nat} (hk : k < Ls.length) : ∃ b cap u, v = .slice (some ⟨b, 0, none⟩) Ls.length cap ∧ Ls.length ≤ cap ∧ cap ≤ maxLen ∧ b < w.heap.size ∧ w.cell? ⟨b, k, none⟩ = some u ∧ RowC w0 w u Ls[k] := by
  obtain ⟨hb, us, hown, hc⟩ := h
  rcases hown.2 with ⟨rfl, h0⟩ | ⟨g, cap, cur, rfl, hbg, hg, hn, hm, hs, ht⟩
  · omega
  · obtain ⟨u, hu, hr⟩ := hc k hk
    refine ⟨g, cap, u, rfl, hn, hm, (Array.getElem?_eq_some_iff.1 hg).1, ?_, hr⟩
    rw [cell_of_row w g _ cur _ (0, 0) hg]
    rw [← ht, List.getElem?_take, if_pos (by omega), Array.getElem?_toList] at hu
    simpa using hu

/-- append to an empty slice that the region made, of a list's cells. -/
theorem wp_append_copy {o : Oper} {a : Act} {w w0 : World} {K : Act → World → Prop} {Q : Exit → Act → World → Prop} (s x : Operand)
    (ho : o.op = .call { callee := .builtin .append, args := #[s, x], argTypes := #[26, 26] })
    (N g m : Nat) (u : Value) (cells : List Value) (hs : a.eval s = .slice (some ⟨g, 0, none⟩) 0 0) (hx : a.eval x = u) (hg : w.heap[g]? = some (.cells #[] 52 (0, 0))) (hN : N ≤ g)
    (hl : cells.length = m * 6) (h1 : ∀ x ∈ cells, x.oneCell' = true) (hm : m ≤ 1000000)
    (hu : (u = .slice none 0 0 ∧ m = 0 ∧ cells = []) ∨ ∃ b cap, u = .slice (some ⟨b, 0, none⟩) m cap ∧ ∀ j x, cells[j]? = some x → w.cell? ⟨b, j, none⟩ = some x)
    (h : ∀ v' w', w'.ownsRow N 52 6 v' m cells → Below w.heap.size w w' → K (a.put o.dst v') w') : o.wp Try.prog a w K Q := by
  obtain ⟨i0, hinf, hz0, hz1, hz2⟩ := info_parts Try.infoCmd
  rcases hu with ⟨rfl, rfl, rfl⟩ | ⟨b, cap, rfl, hc⟩
  · have hrow : w.ownsRow N 52 6 (.slice (some ⟨g, 0, none⟩) 0 0) 0 [] := ⟨rfl, .inr ⟨g, 0, #[], rfl, hN, hg, Nat.le_refl _, by simp [maxLen], by simp, by simp⟩⟩
    have hrun := run_append_owned_none (P := Try.prog) (w := w) N 26 o.type 52 i0 6 Try.underlying26 hinf _ 0 [] hrow
    unfold Oper.wp
    simp [execOp, ho, resolve, invoke, builtin, hs, hx, hrun, Result.andThen]
    exact h _ w hrow (Below.refl _ _)
  · exact wp_append_fresh s x 26 ho N 52 i0 _ 6 80 Try.underlying26 hinf hz0 hz1 hz2 rfl g hs hg hN ⟨b, 0, none⟩ m cap cells hx hl
      (fun j y hy => by have := hc j y hy; simpa [Addr.add] using (by by_cases h0 : j = 0 <;> simp_all [Addr.add] : w.cell? ((⟨b, 0, none⟩ : Addr).add j) = some y)) h1 (by unfold maxLen; omega) (by omega) h
end Go.Proofs.Ytahpecbcpgjinaa
