/-
  Chapter 28: an act's cells; a message in a slice of its own, and its append to those that were sent.
-/
import Derived.Test.YtmcdmcnbnnfhnaaXa
import Derived.Test.YtmcdmcnbnnfhnaaVd
namespace Go.Proofs.Ytmcdmcnbnnfhnaa
open Go.ChangeShapes Go.WideShapes Go.ChangeAt Go.RowKit
set_option maxRecDepth 100000

theorem act_size : (Try.prog.info? 54).map (·.size) = some 19 := by kernel_rfl
/-- An act's cells. -/
theorem act_split {P : Nat → Prop} {w : World} {cs : List Value} {x : ActM} (h : CellsD P w cs (actD x)) : ∃ (mc : List Value) (gv : Value), cs = .int .i64 x.kind :: .int .i64 x.a.n :: .int .i64 x.b.n :: (mc ++ [gv]) ∧ mc.length = 15 ∧ CellsD P w mc (msgD x.m) ∧ ReadsD P w gv (groupsD x.gs) := by
  obtain ⟨v0, cs, rfl, r0, ha⟩ := h.cons
  clear h
  obtain ⟨v1, cs, rfl, r1, hb⟩ := ha.cons
  clear ha
  obtain ⟨v2, cs, rfl, r2, h⟩ := hb.cons
  clear hb
  have e0 := r0.i
  have e1 := r1.i
  have e2 := r2.i
  subst e0 e1 e2
  have hl : cs.length = 16 := h.1
  refine ⟨cs.take 15, cs[15], ?_, by rw [List.length_take, hl]; rfl, ⟨by rw [List.length_take, hl]; rfl, fun i u d h1 h2 => ?_⟩, ?_⟩
  · congr 3
    have h3 := List.take_append_drop 15 cs
    rw [List.drop_eq_getElem_cons (by omega), List.drop_eq_nil_of_le (by omega)] at h3
    exact h3.symm
  · have hi : i < 15 := by have := (List.getElem?_eq_some_iff.1 h2).1; exact this
    rw [List.getElem?_take, if_pos hi] at h1
    exact h.2 i u d h1 (by
      show (msgD x.m ++ [groupsD x.gs])[i]? = some d
      rw [List.getElem?_append_left (show i < (msgD x.m).length from hi)]; exact h2)
  · exact h.2 15 _ _ (List.getElem?_eq_getElem (by omega)) rfl
theorem act_range {w : World} {b : Nat} {k a c : Value} {mc : List Value} {gv : Value} {t : TypeId} (h : Blk w b t (k :: a :: c :: (mc ++ [gv])).toArray) : w.rangeAt b 3 mc := fun q u hu => by
  have hq := (List.getElem?_eq_some_iff.1 hu).1
  rw [h.cell, List.getElem?_toArray, show 3 + q = q + 1 + 1 + 1 by omega, List.getElem?_cons_succ, List.getElem?_cons_succ, List.getElem?_cons_succ, List.getElem?_append_left hq]
  exact hu
theorem act_cells {w : World} {b : Nat} {k a c : Value} {mc : List Value} {gv : Value} {t : TypeId} (h : Blk w b t (k :: a :: c :: (mc ++ [gv])).toArray) : w.cell? ⟨b, 0, none⟩ = some k ∧ w.cell? ⟨b, 1, none⟩ = some a ∧ w.cell? ⟨b, 2, none⟩ = some c := ⟨h.cell 0, h.cell 1, h.cell 2⟩
theorem run_build_msg (w : World) (cs : List Value) (hl : cs.length = 15) : (Instr.buildSlice 50 1 #[(0, .agg cs.toArray)]).run Try.prog w = .ok (.slice (some ⟨w.heap.size, 0, none⟩) 1 1) (w.alloc (.cells cs.toArray 39)) := by
  obtain ⟨c0, cs, rfl⟩ := List.exists_cons_of_length_pos (l := cs) (by first | omega | (simp only [List.length_cons] at hl; omega))
  obtain ⟨c1, cs, rfl⟩ := List.exists_cons_of_length_pos (l := cs) (by first | omega | (simp only [List.length_cons] at hl; omega))
  obtain ⟨c2, cs, rfl⟩ := List.exists_cons_of_length_pos (l := cs) (by first | omega | (simp only [List.length_cons] at hl; omega))
  obtain ⟨c3, cs, rfl⟩ := List.exists_cons_of_length_pos (l := cs) (by first | omega | (simp only [List.length_cons] at hl; omega))
  obtain ⟨c4, cs, rfl⟩ := List.exists_cons_of_length_pos (l := cs) (by first | omega | (simp only [List.length_cons] at hl; omega))
  obtain ⟨c5, cs, rfl⟩ := List.exists_cons_of_length_pos (l := cs) (by first | omega | (simp only [List.length_cons] at hl; omega))
  obtain ⟨c6, cs, rfl⟩ := List.exists_cons_of_length_pos (l := cs) (by first | omega | (simp only [List.length_cons] at hl; omega))
  obtain ⟨c7, cs, rfl⟩ := List.exists_cons_of_length_pos (l := cs) (by first | omega | (simp only [List.length_cons] at hl; omega))
  obtain ⟨c8, cs, rfl⟩ := List.exists_cons_of_length_pos (l := cs) (by first | omega | (simp only [List.length_cons] at hl; omega))
  obtain ⟨c9, cs, rfl⟩ := List.exists_cons_of_length_pos (l := cs) (by first | omega | (simp only [List.length_cons] at hl; omega))
  obtain ⟨c10, cs, rfl⟩ := List.exists_cons_of_length_pos (l := cs) (by first | omega | (simp only [List.length_cons] at hl; omega))
  obtain ⟨c11, cs, rfl⟩ := List.exists_cons_of_length_pos (l := cs) (by first | omega | (simp only [List.length_cons] at hl; omega))
  obtain ⟨c12, cs, rfl⟩ := List.exists_cons_of_length_pos (l := cs) (by first | omega | (simp only [List.length_cons] at hl; omega))
  obtain ⟨c13, cs, rfl⟩ := List.exists_cons_of_length_pos (l := cs) (by first | omega | (simp only [List.length_cons] at hl; omega))
  obtain ⟨c14, cs, rfl⟩ := List.exists_cons_of_length_pos (l := cs) (by first | omega | (simp only [List.length_cons] at hl; omega))
  obtain rfl : cs = [] := List.length_eq_zero_iff.1 (by simp only [List.length_cons] at hl; omega)
  clear hl
  kernel_rfl
section
variable {ops : Array Oper} {rest : List Oper} {op : Oper} {a : Act} {w : World} {Q : Exit → Act → World → Prop}
theorem wpList_build_msg (hgd : op.guard = none) (y : Operand) (ho : op.op = .buildSlice 50 1 #[(0, y)]) (cs : List Value) (hy : a.eval y = .agg cs.toArray) (hl : cs.length = 15)
    (h : wpList Try.prog ops Q rest (a.put op.dst (.slice (some ⟨w.heap.size, 0, none⟩) 1 1)) (w.alloc (.cells cs.toArray 39))) : wpList Try.prog ops Q (op :: rest) a w :=
  wpList_plain hgd fun _ hK => by
    have hr := run_build_msg w cs hl
    unfold Oper.wp
    simp [execOp, ho, hy, hr, Result.andThen]
    exact hK _ _ h
end
/-- One more message, from a slice of its own. -/
theorem append_msg {W w : World} {n b : Nat} {gn kv gv : Value} {s : NetS} {L : List MsgM} {G : List Bool} {ops : Array Oper} {rest : List Oper} {o : Oper} {a : Act} {Q : Exit → Act → World → Prop} (hgd : o.guard = none) (x y : Operand)
    (ho : o.op = .call { callee := .builtin .append, args := #[x, y], argTypes := #[50, 50] }) (h : CW W w n b gn kv gv s L G) (hx : a.eval x = kv) (g : Nat) (hy : a.eval y = .slice (some ⟨g, 0, none⟩) 1 1) (cs : List Value) (m : MsgM)
    (hB : Blk w g 39 cs.toArray) (hm : CellsD (fun b => b < W.heap.size) w cs (msgD m)) (h0 : 0 < L.length) (h1 : L.length ≤ 100000000)
    (hK : ∀ v' w', CW W w' n b gn v' gv s (L ++ [m]) G → wpList Try.prog ops Q rest (a.put o.dst v') w') : wpList Try.prog ops Q (o :: rest) a w := by
  obtain ⟨i0, hinf, hz0, hz1, hz2⟩ := info_parts Try.infoMsg
  obtain ⟨cells, hrow, hc⟩ := h.kl
  refine wpList_append_fresh hgd x y 50 ho W.heap.size 39 i0 _ 15 248 Try.underlying50 hinf hz0 hz1 hz2 rfl (by decide) kv L.length cells hx hrow ⟨g, 0, none⟩ 1 cs hy (by rw [msg_len hm]) ?_ ?_ (by unfold maxLen; omega) (by omega) h.bel.size h0 ?_
  · intro j u hu
    rw [addr0, hB.cell, List.getElem?_toArray]
    exact hu
  · intro u hu
    have h2 := CellsD.all hm
    rw [Array.all_eq_true'] at h2
    exact h2 u (by simpa using hu)
  · intro v' w' h2 h3 h4
    exact hK v' w' (h.appK (KeptL.app hrow hc hm (Nat.le_refl _) h2 h3) h3 h4)
/-- One more mark. -/
theorem append_mark {W w : World} {n b : Nat} {gn kv gv : Value} {s : NetS} {L : List MsgM} {G : List Bool} {ops : Array Oper} {rest : List Oper} {o : Oper} {a : Act} {Q : Exit → Act → World → Prop} (hgd : o.guard = none) (x y : Operand)
    (ho : o.op = .call { callee := .builtin .append, args := #[x, y], argTypes := #[51, 51] }) (h : CW W w n b gn kv gv s L G) (hx : a.eval x = gv) (g : Nat) (hy : a.eval y = .slice (some ⟨g, 0, none⟩) 1 1) (c : Bool)
    (hB : w.cell? ⟨g, 0, none⟩ = some (.bool c)) (h0 : 0 < G.length) (h1 : G.length ≤ 100000000)
    (hK : ∀ v' w', CW W w' n b gn kv v' s L (G ++ [c]) → wpList Try.prog ops Q rest (a.put o.dst v') w') : wpList Try.prog ops Q (o :: rest) a w := by
  obtain ⟨i0, hinf, hz0, hz1, hz2⟩ := info_parts (show (Try.prog.info? 4).map (fun i => (i.zero, i.size, i.bytes)) = some (some (.bool false), 1, 1) from by kernel_rfl)
  refine wpList_append_fresh hgd x y 51 ho W.heap.size 4 i0 _ 1 1 Try.underlying51 hinf hz0 hz1 hz2 rfl (by decide) gv G.length _ hx h.gl ⟨g, 0, none⟩ 1 [.bool c] hy rfl ?_ ?_ (by unfold maxLen; omega) (by omega) h.bel.size h0 ?_
  · intro j u hu
    rw [addr0]
    cases j with
    | zero => simp at hu; rw [hB, hu]
    | succ j => simp at hu
  · intro u hu
    simp at hu
    subst hu
    rfl
  · intro v' w' h2 h3 h4
    exact hK v' w' (h.appG (GoneL.app h2) h3 h4)
/-- At the start: nothing is sent. -/
theorem CW.start {W w : World} {n b : Nat} {l : Int} (hW : Below W.heap.size W w) (hn : NetAt (fun k => k = n ∨ k = b) n b (.map none) (newS l) w) (h1 : W.heap.size ≤ n) (h2 : W.heap.size ≤ b) :
    CW W ((w.alloc (.cells zeroC.toArray 39)).alloc (.cells #[.bool true] 4)) n b (.map none) (.slice (some ⟨w.heap.size, 0, none⟩) 1 1) (.slice (some ⟨w.heap.size + 1, 0, none⟩) 1 1) (newS l) [zeroM] [true] := by
  have hnl := hn.box.lt
  have hbl := hn.blt
  have hb1 : Below w.heap.size w (w.alloc (.cells zeroC.toArray 39)) := (Below.refl _ _).alloc (Nat.le_refl _) _
  have hb2 : Below w.heap.size w ((w.alloc (.cells zeroC.toArray 39)).alloc (.cells #[.bool true] 4)) := hb1.alloc hb1.size _
  have hs : (w.alloc (.cells zeroC.toArray 39)).heap.size = w.heap.size + 1 := World.size_alloc ..
  refine ⟨(hn.mono fun k hk _ => ?_).on hb2, ⟨zeroC, (ownK_new (n := 1) (K := 15) (by decide) rfl hW.size).alloc _, fun k hk => ?_⟩, ?_, fun k e e' => ?_, hW.trans (hb2.mono hW.size)⟩
  · have hkk : W.heap.size ≤ k ∧ k < w.heap.size := by rcases hk with rfl | rfl <;> omega
    refine ⟨hkk.1, fun e => ?_, fun e => ?_⟩
    · injection e with e
      simp only at e
      omega
    · injection e with e
      simp only at e
      omega
  · have hk0 : k = 0 := by simpa using hk
    subst hk0
    exact ⟨zeroC, fun i _ => by rw [Nat.zero_mul, Nat.zero_add], zero_cells _ _⟩
  · have h3 := ownK_new (w := w.alloc (.cells zeroC.toArray 39)) (B := W.heap.size) (T := 4) (n := 1) (K := 1) (xs := [.bool true]) (by decide) rfl (Nat.le_trans hW.size hb1.size)
    rw [hs] at h3
    exact h3
  · injection e with e
    injection e' with e'
    simp only at e e'
    omega
theorem KeptL.slc {B0 B : Nat} {w : World} {v : Value} {L : List MsgM} (h : KeptL B0 B w v L) : ∃ z : Option Addr × Nat, v = .slice z.1 L.length z.2 := by
  obtain ⟨cells, h1, -⟩ := h
  rcases h1.2 with ⟨rfl, e⟩ | ⟨g, cap, cur, rfl, -⟩
  · exact ⟨(none, 0), by rw [e]⟩
  · exact ⟨(some ⟨g, 0, none⟩, cap), rfl⟩
end Go.Proofs.Ytmcdmcnbnnfhnaa
