/-
  Chapter 39: append of commands as one operation of a region; a list of one command; what a region keeps.
-/
import Derived.Test.YtahpecbcpgjinaaDd
import Derived.Laws.AppendOwnNone
namespace Go.Proofs.Ytahpecbcpgjinaa
open Go.RowKit
set_option maxRecDepth 100000 in
/-- append of commands, one operation. -/
theorem wp_append_cmds {o : Oper} {a : Act} {w w0 : World} {K : Act → World → Prop} {Q : Exit → Act → World → Prop} (s x : Operand)
    (ho : o.op = .call { callee := .builtin .append, args := #[s, x], argTypes := #[26, 26] })
    (v u : Value) (L B : List Cmd) (hs : a.eval s = v) (hx : a.eval x = u) (hown : OwnC w0 w v L) (hu : SrcC w0 w u B) (hlen : L.length + B.length ≤ 1000000)
    (h : ∀ v' w', OwnC w0 w' v' (L ++ B) → K (a.put o.dst v') w') : o.wp Try.prog a w K Q := by
  obtain ⟨i0, hinf, hz0, hz1, hz2⟩ := info_parts Try.infoCmd
  obtain ⟨hb, cells, hrow, hc⟩ := hown
  rcases hu with ⟨rfl, rfl⟩ | ⟨ad, cap, rfl, hB⟩
  · have hrun := run_append_owned_none (P := Try.prog) (w := w) w0.heap.size 26 o.type 52 i0 6 Try.underlying26 hinf v L.length cells hrow
    unfold Oper.wp
    simp [execOp, ho, resolve, invoke, builtin, hs, hx, hrun, Result.andThen]
    refine h v w ?_
    rw [List.append_nil]
    exact ⟨hb, cells, hrow, hc⟩
  · obtain ⟨news, hnl, hnc, hn1⟩ : ∃ news : List Value, news.length = B.length * 6 ∧ (∀ j (h : j < B.length), ∃ cs : List Value, cs.length = 6 ∧ (∀ i, i < 6 → news[j * 6 + i]? = cs[i]?) ∧ (∀ i x, cs[i]? = some x → w.cell? (ad.add (j * 6 + i)) = some x) ∧ CmdE w0 cs B[j]) ∧ True := by
      refine ⟨(List.range (B.length * 6)).map fun j => (w.cell? (ad.add j)).getD (.bool false), by simp, fun j hj => ?_, trivial⟩
      obtain ⟨cs, h1, h2, h3⟩ := hB j hj
      refine ⟨cs, h1, fun i hi => ?_, h2, h3⟩
      rw [List.getElem?_map, List.getElem?_range (by omega), List.getElem?_eq_getElem (show i < cs.length by omega)]
      simp only [Option.map_some]
      rw [h2 i _ (List.getElem?_eq_getElem (show i < cs.length by omega))]
      rfl
    have split : ∀ j, j < B.length * 6 → ∃ k i, k < B.length ∧ i < 6 ∧ j = k * 6 + i := fun j hj => ⟨j / 6, j % 6, by omega, by omega, by omega⟩
    refine wp_append_own w s x 26 ho w0.heap.size 52 i0 _ 6 80 Try.underlying26 hinf hz0 hz1 hz2 rfl (by decide) v L.length cells hs hrow ad B.length cap news hx hnl ?_ ?_ (by unfold maxLen; omega) (by omega) hb.size ?_
    · intro j u hu
      have hj : j < B.length * 6 := by rw [← hnl]; exact (List.getElem?_eq_some_iff.1 hu).1
      obtain ⟨k, i, hk, hi, rfl⟩ := split j hj
      obtain ⟨cs, h1, h2, h3, _⟩ := hnc k hk
      rw [h2 i hi] at hu
      exact h3 i u hu
    · intro u hu
      obtain ⟨j, hj, rfl⟩ := List.mem_iff_getElem.1 hu
      rw [hnl] at hj
      obtain ⟨k, i, hk, hi, rfl⟩ := split j hj
      obtain ⟨cs, h1, h2, _, h4⟩ := hnc k hk
      have h5 := h2 i hi
      rw [List.getElem?_eq_getElem (by omega), List.getElem?_eq_getElem (by omega)] at h5
      injection h5 with h5
      rw [h5]
      exact cmdE_one h4 _ (List.getElem_mem _)
    · intro v' w' h1 h2 _
      refine h v' w' ⟨⟨h2.os.trans hb.os, h2.tape.trans hb.tape, h2.output.trans hb.output, ?_, fun k hk => ?_⟩, cells ++ news, by rw [List.length_append]; exact h1, fun k hk => ?_⟩
      · have h3 := h2.size
        have h4 := hb.size
        omega
      · have h4 := hb.size
        rw [h2.block k (by omega) (fun e => by have := (hrow.lt k e.symm).1; omega)]
        exact hb.block k hk
      · have hcl : cells.length = L.length * 6 := hrow.1
        by_cases hlt : k < L.length
        · obtain ⟨cs, h5, h6, h7⟩ := hc k hlt
          refine ⟨cs, h5, fun i hi => ?_, by rw [List.getElem_append_left hlt]; exact h7⟩
          rw [List.getElem?_append_left (by omega)]
          exact h6 i hi
        · rw [List.length_append] at hk
          obtain ⟨cs, h5, h6, _, h7⟩ := hnc (k - L.length) (by omega)
          refine ⟨cs, h5, fun i hi => ?_, by rw [List.getElem_append_right (by omega)]; exact h7⟩
          rw [List.getElem?_append_right (by omega), hcl, show k * 6 + i - L.length * 6 = (k - L.length) * 6 + i by omega]
          exact h6 i hi

theorem SrcC.on {w0 w w' : World} {u : Value} {B : List Cmd} (h : SrcC w0 w u B) (hb : Below w.heap.size w w') : SrcC w0 w' u B := by
  rcases h with h | ⟨ad, cap, rfl, hB⟩
  · exact .inl h
  · refine .inr ⟨ad, cap, rfl, fun j hj => ?_⟩
    obtain ⟨cs, h1, h2, h3⟩ := hB j hj
    refine ⟨cs, h1, fun i x hx => ?_, h3⟩
    have h4 := h2 i x hx
    rw [← h4]
    exact hb.cell (World.block_lt_of_cell? w _ h4)
def leftSrc (w0 : World) (B : List Cmd) : Left := .has (fun x w => SrcC w0 w x B) (fun _ _ _ hb h => h.on hb)
def leftOwn (w0 : World) (B : List Cmd) : Left := .has (fun x w => OwnC w0 w x B) (fun _ _ _ hb h => h.later hb)

/-- A list of one command, made by the call. -/
theorem OwnC.one {w wr : World} {c : Cmd} {vw vt : Value} (hb : Below w.heap.size w wr) (h1 : ReadsK 2 WriteE w vw c.2.2.2.1) (h2 : Reads vb w vt c.2.2.2.2.2) :
    OwnC w (wr.alloc (.cells #[.int .i64 c.1, .int .i64 c.2.1, .int .i64 (kindC c), vw, .int .i64 (repC c), vt] 52)) (.slice (some ⟨wr.heap.size, 0, none⟩) 1 1) [c] := by
  have hs := hb.size
  refine ⟨hb.alloc (by omega) _, [.int .i64 c.1, .int .i64 c.2.1, .int .i64 (kindC c), vw, .int .i64 (repC c), vt], ⟨rfl, .inr ⟨wr.heap.size, 1, _, rfl, by omega, heap_alloc_new wr _, Nat.le_refl _, by simp [maxLen], rfl, rfl⟩⟩, fun k hk => ?_⟩
  have h0 : k = 0 := by simp at hk; omega
  subst h0
  exact ⟨_, rfl, fun i hi => by rw [Nat.zero_mul, Nat.zero_add]; rfl, vw, vt, rfl, h1, h2⟩
end Go.Proofs.Ytahpecbcpgjinaa
