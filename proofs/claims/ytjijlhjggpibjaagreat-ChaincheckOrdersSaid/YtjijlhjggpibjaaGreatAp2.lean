/-
  Appending a read slice of strings, or of ints, to an own row.
-/
import Derived.Test.YtjijlhjggpibjaaGreatJa
import Derived.Lib.QuietBelow
import Derived.Laws.AppendOwnNone
namespace Go.Proofs.YtjijlhjggpibjaaGreat
open Go.RowKit

theorem below_row_grown {W wr wd w' : World} {t : TypeId} {size n : Nat} {v : Value} {xs : List Value} (hb : Below W.heap.size W wr) (hd : Below wr.heap.size wr wd) (hrow : wr.ownsRow W.heap.size t size v n xs) (hg : wd.grownBy w' v.ownBlock) : Below W.heap.size W w' := by
  have h1 := hb.trans (hd.mono hb.size)
  refine ⟨hg.os.trans h1.os, hg.tape.trans h1.tape, hg.output.trans h1.output, Nat.le_trans h1.size hg.size, fun k hk => ?_⟩
  have h4 := h1.size
  rw [hg.block k (by omega) (fun e => by have := (hrow.lt k e.symm).1; omega)]
  exact h1.block k hk
theorem Tryz.infoInt1 : (Tryz.prog.info? 3).map (fun i => (i.zero, i.size, i.bytes)) = some (some (.int .i64 0), 1, 8) := by kernel_rfl
theorem src_cells {α : Type} {enc : α → Value} {w : World} {ad : Addr} {n c : Nat} {xs : List α} (h : Reads enc w (.slice (some ad) n c) xs) : n = xs.length ∧ ∀ j u, (xs.map enc)[j]? = some u → w.cell? (ad.add j) = some u := by
  obtain ⟨ao, cap, hv, hl, hm, hn, hx⟩ := h
  injection hv with e1 e2 e3
  refine ⟨e2, fun j u hu => ?_⟩
  rw [List.getElem?_map] at hu
  by_cases hj : j < xs.length
  · rw [List.getElem?_eq_getElem hj] at hu
    simp at hu
    obtain ⟨b, off, rfl, hb, hc⟩ := hx (by intro e; subst e; simp at hj)
    injection e1 with e1
    subst e1
    rw [show Addr.add ⟨b, off, none⟩ j = (⟨b, off + j, none⟩ : Addr) by by_cases h0 : j = 0 <;> simp [Addr.add, h0], hc j hj, hu]
  · rw [List.getElem?_eq_none (by omega)] at hu; simp at hu
theorem grown_refl (w : World) (row : Option Nat) : w.grownBy w row := ⟨rfl, rfl, rfl, Nat.le_refl _, fun _ _ _ => rfl⟩
theorem one_vs (xs : List Str) : ∀ u ∈ xs.map vs, u.oneCell' = true := by
  intro u hu
  simp only [List.mem_map] at hu
  obtain ⟨s, _, rfl⟩ := hu
  rfl
theorem one_vi (xs : List Int) : ∀ u ∈ xs.map vi, u.oneCell' = true := by
  intro u hu
  simp only [List.mem_map] at hu
  obtain ⟨s, _, rfl⟩ := hu
  rfl
theorem Reads.none {α : Type} {enc : α → Value} {w : World} {n c : Nat} {xs : List α} (h : Reads enc w (.slice Option.none n c) xs) : n = 0 ∧ c = 0 ∧ xs = [] := by
  obtain ⟨ao, cap, hv, hl, hm, hn, hx⟩ := h
  injection hv with e1 e2 e3
  have := hn e1.symm
  have h0 : xs.length = 0 := by omega
  exact ⟨by omega, by omega, List.length_eq_zero_iff.1 h0⟩
theorem append_reads2 {ops : Array Oper} {rest : List Oper} {o : Oper} {a : Act} {w : World} {Q : Exit → Act → World → Prop} (hgd : o.guard = none) (s x : Operand)
    (ho : o.op = .call { callee := .builtin .append, args := #[s, x], argTypes := #[33, 33] })
    (base : Nat) (v u : Value) (n : Nat) (xs ys : List Str) (hs : a.eval s = v) (hown : w.ownsRow base 9 1 v n (xs.map vs)) (hx : a.eval x = u) (hu : Reads vs w u ys) (hlen : n + ys.length ≤ 1000000) (hbase : base ≤ w.heap.size)
    (h : ∀ v' w', w'.ownsRow base 9 1 v' (n + ys.length) ((xs ++ ys).map vs) → w.grownBy w' v.ownBlock → wpList Tryz.prog ops Q rest (a.put o.dst v') w') : wpList Tryz.prog ops Q (o :: rest) a w := by
  obtain ⟨i0, hinf, hz0, hz1, hz2⟩ := info_parts Tryz.infoStr
  obtain ⟨au, c, rfl, hl⟩ := hu
  have hu : Reads vs w (.slice au ys.length c) ys := ⟨au, c, rfl, hl⟩
  cases au with
  | none =>
    obtain ⟨h0, hc, rfl⟩ := Reads.none hu
    subst hc
    refine wpList_append_own_none hgd s x 33 ho base 9 i0 1 Tryz.underlying33 hinf v n (xs.map vs) hs hown hx ?_
    exact h v w (by simpa using hown) (grown_refl _ _)
  | some au =>
    obtain ⟨_, hc⟩ := src_cells hu
    refine wpList_append_own w hgd s x 33 ho base 9 i0 (.string ⟨#[]⟩) 1 16 Tryz.underlying33 hinf hz0 hz1 hz2 rfl (by decide) v n (xs.map vs) hs hown au ys.length c (ys.map vs) hx (by simp) hc (one_vs _) (by unfold maxLen; omega) (by omega) hbase ?_
    intro v' w' h1 h2 _
    exact h v' w' (by rw [List.map_append]; exact h1) h2
theorem appendi_reads2 {ops : Array Oper} {rest : List Oper} {o : Oper} {a : Act} {w : World} {Q : Exit → Act → World → Prop} (hgd : o.guard = none) (s x : Operand)
    (ho : o.op = .call { callee := .builtin .append, args := #[s, x], argTypes := #[25, 25] })
    (base : Nat) (v u : Value) (n : Nat) (xs ys : List Int) (hs : a.eval s = v) (hown : w.ownsRow base 3 1 v n (xs.map vi)) (hx : a.eval x = u) (hu : Reads vi w u ys) (hlen : n + ys.length ≤ 1000000) (hbase : base ≤ w.heap.size)
    (h : ∀ v' w', w'.ownsRow base 3 1 v' (n + ys.length) ((xs ++ ys).map vi) → w.grownBy w' v.ownBlock → wpList Tryz.prog ops Q rest (a.put o.dst v') w') : wpList Tryz.prog ops Q (o :: rest) a w := by
  obtain ⟨i0, hinf, hz0, hz1, hz2⟩ := info_parts Tryz.infoInt1
  obtain ⟨au, c, rfl, hl⟩ := hu
  have hu : Reads vi w (.slice au ys.length c) ys := ⟨au, c, rfl, hl⟩
  cases au with
  | none =>
    obtain ⟨h0, hc, rfl⟩ := Reads.none hu
    subst hc
    refine wpList_append_own_none hgd s x 25 ho base 3 i0 1 Tryz.underlying25 hinf v n (xs.map vi) hs hown hx ?_
    exact h v w (by simpa using hown) (grown_refl _ _)
  | some au =>
    obtain ⟨_, hc⟩ := src_cells hu
    refine wpList_append_own w hgd s x 25 ho base 3 i0 (.int .i64 0) 1 8 Tryz.underlying25 hinf hz0 hz1 hz2 rfl (by decide) v n (xs.map vi) hs hown au ys.length c (ys.map vi) hx (by simp) hc (one_vi _) (by unfold maxLen; omega) (by omega) hbase ?_
    intro v' w' h1 h2 _
    exact h v' w' (by rw [List.map_append]; exact h1) h2
end Go.Proofs.YtjijlhjggpibjaaGreat
