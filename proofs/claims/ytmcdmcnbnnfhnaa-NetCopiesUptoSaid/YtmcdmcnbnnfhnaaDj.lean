/-
  Chapter 28: what the copy of a message works on: rows that may be empty, lists of bases, proofs, digests, items.
-/
import Derived.Test.YtmcdmcnbnnfhnaaDi
namespace Go.Proofs.Ytmcdmcnbnnfhnaa
open Go.RowKit

/-- A clone that may be empty; Q hangs on the row's block. -/
def RowV (B : Nat) (w : World) (oa : Option Addr) (k : Nat) (T : TypeId) (K : Nat) (Q : Nat → Nat → Nat → Nat → Prop) (ds : List (List DV)) : Prop :=
  (ds = [] ∧ k ≤ maxLen ∧ (oa = none → k = 0)) ∨ (ds ≠ [] ∧ ∃ g, oa = some ⟨g, 0, none⟩ ∧ B ≤ g ∧ RowD w g k T K (Q g) ds)
section
variable {B k K : Nat} {P : Nat → Prop} {w w' : World} {oa : Option Addr} {T : TypeId} {Q Q' : Nat → Nat → Nat → Nat → Prop} {ds : List (List DV)} {v : Value}
theorem CloneOk.rowv (h : CloneOk P w T K ds v w') : Below w.heap.size w w' ∧ ds.length ≤ 1048576 ∧ ∃ oa k, v = .slice oa ds.length k ∧ RowV w.heap.size w' oa k T K (fun _ _ _ => P) ds := by
  obtain ⟨hb, ⟨rfl, ao, cap, rfl, h1, h2⟩ | ⟨hne, g, cap, rfl, hg, hrow⟩⟩ := h
  · exact ⟨hb, Nat.zero_le _, ao, cap, rfl, .inl ⟨rfl, h1, h2⟩⟩
  · exact ⟨hb, hrow.bounds.1.2, _, cap, rfl, .inr ⟨hne, g, rfl, hg, hrow⟩⟩
theorem RowV.on (h : RowV B w oa k T K Q ds) (hb : Below w.heap.size w w') : RowV B w' oa k T K Q ds := h.imp id fun ⟨a, g, b, c, d⟩ => ⟨a, g, b, c, d.on hb⟩
theorem RowV.kept {S : Nat → Prop} (h : RowV B w oa k T K Q ds) (hk : Kept S w w') (hS : ∀ g, B ≤ g → ¬ S g) (hs : ∀ g j i b, B ≤ g → Q g j i b → b < w.heap.size → ¬ S b) : RowV B w' oa k T K Q ds := h.imp id fun ⟨a, g, b, c, d⟩ => ⟨a, g, b, c, d.kept hk (hS g c) fun j i b => hs g j i b c⟩
theorem RowV.mono (h : RowV B w oa k T K Q ds) (hq : ∀ g j i b, B ≤ g → Q g j i b → b < w.heap.size → Q' g j i b) : RowV B w oa k T K Q' ds := h.imp id fun ⟨a, g, b, c, d⟩ => ⟨a, g, b, c, d.mono fun j i b => hq g j i b c⟩
theorem RowV.get (h : RowV B w oa k T K Q ds) {i : Nat} (hi : i < ds.length) : ∃ g, oa = some ⟨g, 0, none⟩ ∧ B ≤ g ∧ RowD w g k T K (Q g) ds := by
  rcases h with ⟨rfl, _⟩ | ⟨_, h⟩
  · exact absurd hi (Nat.not_lt_zero _)
  · exact h
theorem RowV.mk {g : Nat} (hi : 0 < ds.length) (hg : B ≤ g) (h : RowD w g k T K (Q g) ds) : RowV B w (some ⟨g, 0, none⟩) k T K Q ds := .inr ⟨List.length_pos_iff.1 hi, g, rfl, hg, h⟩
theorem RowV.reads {P : Nat → Prop} (h : RowV B w oa k T K Q ds) (hP : ∀ g, B ≤ g → P g) (hv : ∀ g, B ≤ g → ∀ j (hj : j < ds.length) i (hi : i < ds[j].length), isVal ds[j][i] ∨ ∀ b, Q g j i b → P b) : ReadsD P w (.slice oa ds.length k) (.ls K ds) := by
  rcases h with ⟨rfl, h1, h2⟩ | ⟨_, g, rfl, hg, h⟩
  · exact .nil K oa k h1 h2
  · exact RowD.reads (Q := fun _ _ => P) (h.vals fun j hj i hi => hv g hg j hj i hi) (hP g hg) fun _ _ _ hb _ => hb
end
theorem base_at {P : Nat → Prop} {w : World} {cs : List Value} {x : BaseM} (h : CellsD P w cs (baseD x)) : ∃ s0 t0 s1 t1, cs = [.slice s0 x.steps.length t0, .slice s1 x.taken.length t1] ∧ ReadsD P w (.slice s0 x.steps.length t0) (certsD x.steps) ∧ ReadsD P w (.slice s1 x.taken.length t1) (cmdsD x.taken) := by
  obtain ⟨v0, cs, rfl, r0, h⟩ := h.cons
  obtain ⟨v1, cs, rfl, r1, h⟩ := h.cons
  have hn := h.nil
  subst hn
  obtain ⟨s0, t0, rfl, -⟩ := ReadsD.slcM (f := certD) r0
  obtain ⟨s1, t1, rfl, -⟩ := ReadsD.slcM (f := cmdD) r1
  exact ⟨s0, t0, s1, t1, rfl, r0, r1⟩
theorem proof_at {P : Nat → Prop} {w : World} {cs : List Value} {x : ProofM} (h : CellsD P w cs (proofD x)) : ∃ s0 t0 cs', cs = .slice s0 x.steps.length t0 :: cs' ∧ ReadsD P w (.slice s0 x.steps.length t0) (certsD x.steps) ∧ CellsD P w cs' (certD x.last) := by
  obtain ⟨v0, cs, rfl, r0, h1⟩ := h.cons
  clear h
  obtain ⟨s0, t0, rfl, -⟩ := ReadsD.slcM (f := certD) r0
  exact ⟨s0, t0, cs, rfl, r0, h1⟩
/-- What a copy of a struct leaves in a region: the values that the calls gave. -/
def leftL (B : Nat) {α : Type} (K : Nat) (f : α → List DV) (l : List α) : Left := .has (fun v w => ∃ a k, v = .slice a l.length k ∧ ReadsD (fun b => B ≤ b) w v (.ls K (l.map f))) fun _ _ _ hb ⟨a, k, h1, h2⟩ => ⟨a, k, h1, h2.on hb⟩
def leftA (B : Nat) (ds : List DV) : Left := .has (fun v w => ∃ cs : List Value, v = .agg cs.toArray ∧ CellsD (fun b => B ≤ b) w cs ds) fun _ _ _ hb ⟨cs, h1, h2⟩ => ⟨cs, h1, h2.on hb⟩
/-- What the copy of a message keeps in a loop. -/
structure MsgL (W ws wr : World) (T : TypeId) (cells zs : Array Value) : Prop where
  box : BoxS W wr T cells zs
  kept : Kept (fun b => b = W.heap.size) ws wr
theorem MsgL.on {W ws wr w' : World} {T : TypeId} {cells zs : Array Value} (h : MsgL W ws wr T cells zs) (hb : Below wr.heap.size wr w') : MsgL W ws w' T cells zs := ⟨h.box.on hb, h.kept.trans (Kept.of hb)⟩
theorem MsgL.far {W ws wr w' : World} {T : TypeId} {cells zs : Array Value} {g : Nat} (h : MsgL W ws wr T cells zs) (hk : Kept (fun b => b = g) wr w') (hg : ws.heap.size ≤ g) (hg2 : W.heap.size + 2 ≤ g) : MsgL W ws w' T cells zs :=
  ⟨⟨hk.blk h.box.box (by omega), hk.blk h.box.res (by omega), h.box.bel.trans (hk.below h.box.bel.size fun b hb e => by omega), Nat.le_trans h.box.sz hk.size⟩, ⟨hk.os.trans h.kept.os, hk.tape.trans h.kept.tape, hk.output.trans h.kept.output, Nat.le_trans h.kept.size hk.size, fun b hb hne => (hk.block b (Nat.lt_of_lt_of_le hb h.kept.size) (by omega)).trans (h.kept.block b hb hne)⟩⟩
def leftRow (W ws : World) (T : TypeId) (cells zs : Array Value) (g k : Nat) (T2 : TypeId) (K : Nat) (Q : Nat → Nat → Nat → Prop) (ds : List (List DV)) : Left := .has (fun _ w => RowD w g k T2 K Q ds ∧ MsgL W ws w T cells zs) fun _ _ _ hb h => ⟨h.1.on hb, h.2.on hb⟩
end Go.Proofs.Ytmcdmcnbnnfhnaa
