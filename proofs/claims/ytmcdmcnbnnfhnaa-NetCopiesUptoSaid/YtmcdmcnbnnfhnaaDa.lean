/-
  Chapter 28: whole blocks, rows of the call's own, worlds that keep all but some blocks.
-/
import Derived.Test.YtmcdmcnbnnfhnaaLb
import Derived.Test.YtmcdmcnbnnfhnaaRg
import Derived.Test.YtmcdmcnbnnfhnaaRt
import Derived.Test.YtmcdmcnbnnfhnaaRv
import Derived.Deep.MidRow
import Derived.Lib.QuietBelow
import Derived.Laws.AppendOwnNone
import Derived.Deep.Cut
namespace Go.Proofs.Ytmcdmcnbnnfhnaa
open Go.RowKit

def vi (n : Int) : Value := .int .i64 n
theorem beq_t {a b : Int} (h : a = b) : (a == b) = true := beq_iff_eq.2 h
theorem beq_f {a b : Int} (h : ¬ a = b) : (a == b) = false := beq_eq_false_iff_ne.2 h
theorem bne_t {a b : Int} (h : ¬ a = b) : (a != b) = true := bne_iff_ne.2 h
theorem bne_f {a b : Int} (h : a = b) : (a != b) = false := by rw [bne, beq_t h]; rfl
def MadeI (w : World) (xs : List Int) (e : Ending) (w' : World) : Prop := ∃ v', e = .returned v' ∧ Reads vi w' v' xs ∧ Below w.heap.size w w'
def BoolMade (w : World) (r : Bool) (e : Ending) (w' : World) : Prop := e = .returned (.bool r) ∧ Below w.heap.size w w'
/-- A slice whose elements have K cells each. -/
def ReadsK {α : Type} (K : Nat) (E : World → List Value → α → Prop) (w : World) (v : Value) (xs : List α) : Prop :=
  ∃ ao cap, v = .slice ao xs.length cap ∧ xs.length ≤ cap ∧ cap ≤ maxLen ∧ (ao = none → cap = 0) ∧
    (xs ≠ [] → ∃ b off, ao = some ⟨b, off, none⟩ ∧ b < w.heap.size ∧ ∀ j (h : j < xs.length), ∃ cs : List Value, cs.length = K ∧ (∀ i u, cs[i]? = some u → w.cell? ⟨b, off + j * K + i, none⟩ = some u) ∧ E w cs xs[j])

/-- What holds of an element holds on. -/
def Keeps {α : Type} (E : World → List Value → α → Prop) : Prop := ∀ w w' cs x, Below w.heap.size w w' → E w cs x → E w' cs x

section
variable {α : Type} {K : Nat} {E : World → List Value → α → Prop} {w w' : World} {v : Value} {xs : List α}
theorem ReadsK.nil (w : World) : ReadsK K E w (.slice none 0 0) ([] : List α) := ⟨none, 0, rfl, Nat.le_refl _, by simp [maxLen], fun _ => rfl, fun h => absurd rfl h⟩
theorem ReadsK.len (h : ReadsK K E w v xs) : xs.length ≤ maxLen := by
  obtain ⟨ao, cap, rfl, hl, hm, _⟩ := h; omega
theorem ReadsK.keep (hE : Keeps E) (h : ReadsK K E w v xs) (hb : Below w.heap.size w w') : ReadsK K E w' v xs := by
  obtain ⟨ao, cap, rfl, hl, hm, hn, hx⟩ := h
  refine ⟨ao, cap, rfl, hl, hm, hn, fun he => ?_⟩
  obtain ⟨b, off, rfl, hlt, hc⟩ := hx he
  refine ⟨b, off, rfl, Nat.lt_of_lt_of_le hlt hb.size, fun j hj => ?_⟩
  obtain ⟨cs, h1, h2, h3⟩ := hc j hj
  exact ⟨cs, h1, fun i u hu => (hb.cell (p := ⟨b, off + j * K + i, none⟩) hlt).trans (h2 i u hu), hE _ _ _ _ hb h3⟩
end


theorem below_two (w : World) (o1 o2 : Obj) : Below w.heap.size w ((w.alloc o1).alloc o2) := ((Below.refl _ _).alloc (Nat.le_refl _) _).alloc (by simp) _

def Slc (v : Value) : Prop := ∃ ao n k, v = .slice ao n k
theorem Slc.of_reads {α : Type} {enc : α → Value} {w : World} {v : Value} {xs : List α} (h : Reads enc w v xs) : Slc v := by obtain ⟨ao, cap, rfl, _⟩ := h; exact ⟨_, _, _, rfl⟩
theorem Slc.of_readsK {α : Type} {K : Nat} {E : World → List Value → α → Prop} {w : World} {v : Value} {xs : List α} (h : ReadsK K E w v xs) : Slc v := by obtain ⟨ao, cap, rfl, _⟩ := h; exact ⟨_, _, _, rfl⟩


/-- Block g is just the cells cs, none frozen. -/
def Blk (w : World) (g : Nat) (t : TypeId) (cs : Array Value) : Prop := w.heap[g]? = some (.cells cs t (0, 0))
section
variable {w w' : World} {g : Nat} {t : TypeId} {cs : Array Value}
theorem Blk.lt (h : Blk w g t cs) : g < w.heap.size := by
  rcases Nat.lt_or_ge g w.heap.size with hlt | hge
  · exact hlt
  · unfold Blk at h; rw [Array.getElem?_eq_none hge] at h; cases h
theorem Blk.cell (h : Blk w g t cs) (i : Nat) : w.cell? ⟨g, i, none⟩ = cs[i]? := cell_of_row w g i cs t (0, 0) h
theorem Blk.frozen (h : Blk w g t cs) (i : Nat) : w.frozen? ⟨g, i, none⟩ = false := by
  unfold Blk at h
  simp [World.frozen?, h]
theorem Blk.new (w : World) (t : TypeId) (cs : Array Value) : Blk (w.alloc (.cells cs t)) w.heap.size t cs := heap_alloc_new w _
theorem Blk.drewN (h : Blk w g t cs) (n : Nat) : Blk (w.drewN n) g t cs := h
theorem Blk.alloc (h : Blk w g t cs) (o : Obj) : Blk (w.alloc o) g t cs := (Below.heap_alloc w o g h.lt).trans h
theorem Blk.set_ (h : Blk w g t cs) (i : Nat) (u : Value) : Blk (w.setCell ⟨g, i, none⟩ u) g t (cs.setIfInBounds i u) := by
  unfold Blk at h ⊢
  simp [World.setCell, Array.getElem?_modify, h]
theorem Blk.far (h : Blk w g t cs) {p : Addr} (hp : g ≠ p.block) (u : Value) : Blk (w.setCell p u) g t cs := (Below.heap_setCell w p u g hp).trans h
theorem Blk.below {B : Nat} (h : Blk w g t cs) (hb : Below B w w') (hg : g < B) : Blk w' g t cs := (hb.block g hg).trans h
theorem Blk.on (h : Blk w g t cs) (hb : Below w.heap.size w w') : Blk w' g t cs := h.below hb h.lt
theorem Blk.range (h : Blk w g t cs) : w.rangeAt g 0 cs.toList := fun j v hv => by
  rw [Nat.zero_add, h.cell, ← Array.getElem?_toList]; exact hv
theorem Blk.load {P : Program} (h : Blk w g t cs) {n : Nat} (hn : cs.size = n) : (loadCellsFrom ⟨g, 0, none⟩ 0 n #[]).run P w = .ok cs w := by
  subst hn
  have := run_loadCells_list (P := P) w ⟨g, 0, none⟩ cs.toList (fun j v hv => by
    rw [Addr.add_mid]; exact h.range j v hv)
  simpa [loadCells] using this
theorem Blk.store {P : Program} (h : Blk w g t cs) {n : Array Value} (hn : n.size = cs.size) (h1 : ∀ v ∈ n.toList, v.oneCell' = true) :
    (storeCells ⟨g, 0, none⟩ n.toList 0).run P w = .ok () (w.setRow g n) := by
  have := run_storeCells_from (P := P) g t n.toList 0 cs w h (by simp; omega) h1
  simpa using this
theorem Blk.setRow (h : Blk w g t cs) (n : Array Value) : Blk (w.setRow g n) g t n := by
  unfold Blk at h ⊢
  simp [World.setRow, Array.getElem?_modify, h]
theorem below_setRow {B : Nat} {w0 w : World} {g : Nat} {n : Array Value} (h : Below B w0 w) (hg : B ≤ g) : Below B w0 (w.setRow g n) :=
  ⟨h.os, h.tape, h.output, by simpa [World.setRow] using h.size, fun i hi => by
    rw [← h.block i hi]
    simp only [World.setRow, Array.getElem?_modify]
    rw [if_neg (by omega)]⟩
end

/-- A whole block is stored. -/
theorem wpList_store_blk {P : Program} {ops : Array Oper} {rest : List Oper} {op : Oper} {a : Act} {w : World} {Q : Exit → Act → World → Prop} (hgd : op.guard = none) (ty : TypeId) (x y : Operand) (ho : op.op = .store ty x y)
    (g : Nat) (t : TypeId) (old cells : Array Value) (hx : a.eval x = .pointer (some ⟨g, 0, none⟩)) (hy : a.eval y = .agg cells) (hB : Blk w g t old)
    (hi : (P.info? ty).map (·.size) = some cells.size) (hsz : old.size = cells.size) (h1 : cells.all (·.oneCell') = true)
    (h : ∀ w', Blk w' g t cells → w'.heap.size = w.heap.size → (∀ B w0, B ≤ g → Below B w0 w → Below B w0 w') → (∀ g' t' cs', g' ≠ g → Blk w g' t' cs' → Blk w' g' t' cs') → wpList P ops Q rest (a.put op.dst undef) w') : wpList P ops Q (op :: rest) a w := by
  refine wpList_plain hgd fun _ hK => ?_
  unfold Oper.wp execOp
  simp only [ho, hx, hy, Instr.storeAt, Instr.sureAddr, Sem.run_bind, Sem.run_pure, Result.andThen_ok, run_storeVar_row w g t ty old cells hB hi hsz h1]
  refine hK _ _ (h _ (hB.setRow cells) (by simp [World.setRow]) (fun B w0 hg hb => below_setRow hb hg) fun g' t' cs' hne hb => ?_)
  unfold Blk at *
  simp only [World.setRow, Array.getElem?_modify]
  rw [if_neg (fun e => hne e.symm)]; exact hb

theorem wp_store_blk {P : Program} {op : Oper} {a : Act} {w : World} {K : Act → World → Prop} {Q : Exit → Act → World → Prop} (ty : TypeId) (x y : Operand) (ho : op.op = .store ty x y)
    (g : Nat) (t : TypeId) (old cells : Array Value) (hx : a.eval x = .pointer (some ⟨g, 0, none⟩)) (hy : a.eval y = .agg cells) (hB : Blk w g t old)
    (hi : (P.info? ty).map (·.size) = some cells.size) (hsz : old.size = cells.size) (h1 : cells.all (·.oneCell') = true)
    (h : ∀ w', Blk w' g t cells → w'.heap.size = w.heap.size → (∀ B w0, B ≤ g → Below B w0 w → Below B w0 w') → (∀ g' t' cs', g' ≠ g → Blk w g' t' cs' → Blk w' g' t' cs') → K (a.put op.dst undef) w') : op.wp P a w K Q := by
  unfold Oper.wp execOp
  simp only [ho, hx, hy, Instr.storeAt, Instr.sureAddr, Sem.run_bind, Sem.run_pure, Result.andThen_ok, run_storeVar_row w g t ty old cells hB hi hsz h1]
  refine h _ (hB.setRow cells) (by simp [World.setRow]) (fun B w0 hg hb => below_setRow hb hg) fun g' t' cs' hne hb => ?_
  unfold Blk at *
  simp only [World.setRow, Array.getElem?_modify]
  rw [if_neg (fun e => hne e.symm)]; exact hb

theorem blk6 {w : World} {g : Nat} {t : TypeId} {v0 v1 v2 v3 v4 v5 : Value} (h : Blk w g t #[v0, v1, v2, v3, v4, v5]) :
    w.cell? ⟨g, 0, none⟩ = some v0 ∧ w.cell? ⟨g, 1, none⟩ = some v1 ∧ w.cell? ⟨g, 2, none⟩ = some v2 ∧ w.cell? ⟨g, 3, none⟩ = some v3 ∧ w.cell? ⟨g, 4, none⟩ = some v4 ∧ w.cell? ⟨g, 5, none⟩ = some v5 ∧ g < w.heap.size :=
  ⟨h.cell 0, h.cell 1, h.cell 2, h.cell 3, h.cell 4, h.cell 5, h.lt⟩
theorem boxed_of {w w1 : World} {cs : Array Value} {t : TypeId} (h : w.alloc (.cells cs t) = w1) : Blk w1 w.heap.size t cs ∧ Below w.heap.size w w1 := by
  subst h; exact ⟨Blk.new w t cs, (Below.refl _ _).alloc (Nat.le_refl _) _⟩

theorem results_cell {P : Program} {fn : Func} {a : Tmp} {t : TypeId} {tmps : Array Value} {b o : Nat} {v : Value} {w : World} (h : fn.results = #[.cell a t]) (ha : tmps.getD a undef = .pointer (some ⟨b, o, none⟩)) (hl : (loadVar t ⟨b, o, none⟩).run P w = .ok v w) :
    (results fn tmps).run P w = .ok v w := by
  rw [Array.getD_eq_getD_getElem?] at ha
  simp [results, h, ha, asAddr, hl]
theorem ownsRow_base {w : World} {b b' : Nat} {e : TypeId} {s n : Nat} {v : Value} {xs : List Value} (h : w.ownsRow b e s v n xs) (hb : b' ≤ b) : w.ownsRow b' e s v n xs := by
  refine ⟨h.1, ?_⟩
  rcases h.2 with hn | ⟨g, cap, cur, hv, hbb, rest⟩
  · exact .inl hn
  · exact .inr ⟨g, cap, cur, hv, Nat.le_trans hb hbb, rest⟩
theorem row_slc {w : World} {b s n : Nat} {t : TypeId} {v : Value} {xs : List Value} (h : w.ownsRow b t s v n xs) : ∃ a c, v = .slice a n c := by
  rcases h.2 with ⟨h1, h0⟩ | ⟨_, _, _, h1, _⟩
  · subst h0; exact ⟨_, _, h1⟩
  · exact ⟨_, _, h1⟩
theorem row_ne {w : World} {b s n g : Nat} {t : TypeId} {v : Value} {xs : List Value} (h : w.ownsRow b t s v n xs) (hg : g < b) : v.ownBlock = none ∨ v.ownBlock ≠ some g := by
  cases e : v.ownBlock with
  | none => exact .inl rfl
  | some k => exact .inr (fun h' => by have := (h.lt k e).1; injection h' with h'; omega)
theorem row_blk {w w' : World} {base s n : Nat} {e : TypeId} {v : Value} {xs : List Value} (h : w.ownsRow base e s v n xs) (hk : ∀ g cur, base ≤ g → Blk w g e cur → Blk w' g e cur) : w'.ownsRow base e s v n xs := by
  refine ⟨h.1, ?_⟩
  rcases h.2 with hn | ⟨g, cap, cur, hv, hb, hg, rest⟩
  · exact .inl hn
  · exact .inr ⟨g, cap, cur, hv, hb, hk g cur hb hg, rest⟩
theorem rows_ne {w : World} {b1 b2 n1 n2 s1 s2 : Nat} {e1 e2 : TypeId} {v1 v2 : Value} {xs1 xs2 : List Value} (h1 : w.ownsRow b1 e1 s1 v1 n1 xs1) (h2 : w.ownsRow b2 e2 s2 v2 n2 xs2) (hne : e1 ≠ e2) :
    v1.ownBlock = none ∨ v1.ownBlock ≠ v2.ownBlock := by
  rcases h1.2 with ⟨rfl, _⟩ | ⟨g1, c1, cur1, rfl, _, hg1, _⟩
  · exact .inl rfl
  · rcases h2.2 with ⟨rfl, _⟩ | ⟨g2, c2, cur2, rfl, _, hg2, _⟩
    · right; simp [Value.ownBlock]
    · right
      intro e
      simp [Value.ownBlock] at e
      subst e
      rw [hg1] at hg2
      injection hg2 with hg2
      injection hg2 with _ ht
      exact hne ht
theorem int_at {w : World} {v : Value} {xs : List Int} (h : Reads vi w v xs) {k : Nat} (hk : k < xs.length) : ∃ b off cap, v = .slice (some ⟨b, off, none⟩) xs.length cap ∧ b < w.heap.size ∧ w.cell? ⟨b, off + k, none⟩ = some (vi xs[k]) := by
  obtain ⟨ao, cap, rfl, _, _, _, hx⟩ := h
  obtain ⟨b, off, rfl, hb, hc⟩ := hx (by rintro rfl; simp at hk)
  exact ⟨b, off, cap, rfl, hb, hc k hk⟩
theorem row_zero {w : World} {b : Nat} {e : TypeId} {s n : Nat} {v : Value} {xs : List Value} (h : w.ownsRow b e s v n xs) : w.ownsRow 0 e s v n xs := by
  refine ⟨h.1, ?_⟩
  rcases h.2 with hn | ⟨g, cap, cur, hv, hbb, rest⟩
  · exact .inl hn
  · exact .inr ⟨g, cap, cur, hv, Nat.zero_le _, rest⟩
theorem below_row_grown {W wr wd w' : World} {t : TypeId} {size n : Nat} {v : Value} {xs : List Value} (hb : Below W.heap.size W wr) (hd : Below wr.heap.size wr wd) (hrow : wr.ownsRow W.heap.size t size v n xs) (hg : wd.grownBy w' v.ownBlock) : Below W.heap.size W w' := by
  have h1 := hb.trans (hd.mono hb.size)
  refine ⟨hg.os.trans h1.os, hg.tape.trans h1.tape, hg.output.trans h1.output, Nat.le_trans h1.size hg.size, fun k hk => ?_⟩
  have h4 := h1.size
  rw [hg.block k (by omega) (fun e => by have := (hrow.lt k e.symm).1; omega)]
  exact h1.block k hk
theorem Try.infoInt1 : (Try.prog.info? 3).map (fun i => (i.zero, i.size, i.bytes)) = some (some (.int .i64 0), 1, 8) := by kernel_rfl
/-- All blocks but those of S are as before. -/
structure Kept (S : Nat → Prop) (w w' : World) : Prop where
  os : w'.os = w.os
  tape : w'.tape = w.tape
  output : w'.output = w.output
  size : w.heap.size ≤ w'.heap.size
  block : ∀ k, k < w.heap.size → ¬ S k → w'.heap[k]? = w.heap[k]?
section
variable {S S' : Nat → Prop} {w w' w'' : World}
theorem Kept.refl (S : Nat → Prop) (w : World) : Kept S w w := ⟨rfl, rfl, rfl, Nat.le_refl _, fun _ _ _ => rfl⟩
theorem Kept.trans (h : Kept S w w') (k : Kept S w' w'') : Kept S w w'' := ⟨k.os.trans h.os, k.tape.trans h.tape, k.output.trans h.output, Nat.le_trans h.size k.size, fun i hi hs => (k.block i (Nat.lt_of_lt_of_le hi h.size) hs).trans (h.block i hi hs)⟩
theorem Kept.mono (h : Kept S w w') (hs : ∀ k, k < w.heap.size → S k → S' k) : Kept S' w w' := ⟨h.os, h.tape, h.output, h.size, fun i hi hn => h.block i hi fun q => hn (hs i hi q)⟩
theorem Kept.of (h : Below w.heap.size w w') : Kept S w w' := ⟨h.os, h.tape, h.output, h.size, fun i hi _ => h.block i hi⟩
theorem Kept.ofG {row : Option Nat} (h : w.grownBy w' row) (hs : ∀ k, some k = row → S k) : Kept S w w' := ⟨h.os, h.tape, h.output, h.size, fun i hi hn => h.block i hi fun q => hn (hs i q)⟩
theorem Kept.below {B : Nat} (h : Kept S w w') (hB : B ≤ w.heap.size) (hs : ∀ k, k < B → ¬ S k) : Below B w w' := ⟨h.os, h.tape, h.output, h.size, fun i hi => h.block i (by omega) (hs i hi)⟩
theorem Kept.set {p : Addr} (u : Value) (hp : S p.block) : Kept S w (w.setCell p u) :=
  ⟨rfl, rfl, rfl, by simp [World.setCell], fun i _ hs => Below.heap_setCell w p u i (fun e => hs (e ▸ hp))⟩
theorem Kept.blk {g : Nat} {t : TypeId} {cs : Array Value} (h : Kept S w w') (hb : Blk w g t cs) (hg : ¬ S g) : Blk w' g t cs := (h.block g hb.lt hg).trans hb
theorem Reads.own_lt {α : Type} {enc : α → Value} {w : World} {v : Value} {xs : List α} (h : Reads enc w v xs) (hne : xs ≠ []) {b : Nat} (hb : v.ownBlock = some b) : b < w.heap.size := by
  obtain ⟨ao, cap, rfl, hl, hm, hn, hx⟩ := h
  obtain ⟨b', off, rfl, hlt, _⟩ := hx hne
  simp [Value.ownBlock] at hb
  omega
theorem Kept.reads {α : Type} {enc : α → Value} {v : Value} {xs : List α} (h : Kept S w w') (hr : Reads enc w v xs) (hs : ∀ b, v.ownBlock = some b → ¬ S b) : Reads enc w' v xs := by
  obtain ⟨ao, cap, rfl, hl, hm, hn, hx⟩ := hr
  refine ⟨ao, cap, rfl, hl, hm, hn, fun hne => ?_⟩
  obtain ⟨b, off, rfl, hlt, hc⟩ := hx hne
  exact ⟨b, off, rfl, Nat.lt_of_lt_of_le hlt h.size, fun j hj => (World.cell?_of_block (a := ⟨b, off + j, none⟩) (h.block b hlt (hs b rfl))).trans (hc j hj)⟩
theorem Kept.row {base s n : Nat} {e : TypeId} {v : Value} {xs : List Value} (h : Kept S w w') (hr : w.ownsRow base e s v n xs) (hs : ∀ b, v.ownBlock = some b → ¬ S b) : w'.ownsRow base e s v n xs := by
  refine ⟨hr.1, ?_⟩
  rcases hr.2 with hn | ⟨g, cap, cur, rfl, hb, hg, rest⟩
  · exact .inl hn
  · refine .inr ⟨g, cap, cur, rfl, hb, ?_, rest⟩
    rw [h.block g (Array.getElem?_eq_some_iff.1 hg).1 (hs g rfl)]
    exact hg
end
section
variable {nB nA nC nR : Nat} {Z : World → Prop} {P0 P1 P2 : Value → World → Prop} {D : Nat → Bool} {st : Nat → Value} {w w' : World}
theorem off_of {p q : Bool} (h : p = true → q = true) (hq : q = false) : p = false := by
  cases e : p with
  | false => rfl
  | true => rw [h e] at hq; cases hq
end
theorem row_take {w : World} {B n c k : Nat} {e : TypeId} {a : Option Addr} {xs : List Value} (h : w.ownsRow B e 1 (.slice a n c) n xs) (hk : k ≤ n) : w.ownsRow B e 1 (.slice a k c) k (xs.take k) := by
  obtain ⟨h0, h⟩ := h
  refine ⟨by rw [List.length_take]; omega, ?_⟩
  rcases h with ⟨h1, h2⟩ | ⟨g, cap, cur, hv, hb, hg, hn, hm, hs, ht⟩
  · injection h1 with e1 e2 e3
    subst e1 e3
    have : k = 0 := by omega
    subst this
    exact .inl ⟨rfl, rfl⟩
  · injection hv with e1 e2 e3
    subst e1 e3
    refine .inr ⟨g, c, cur, rfl, hb, hg, by omega, hm, hs, ?_⟩
    rw [← ht, List.take_take]
    congr 1
    omega
/-- A part of a trace that is read. -/
theorem row_put {w : World} {B g n c l : Nat} {e : TypeId} {xs : List Value} (h : w.ownsRow B e 1 (.slice (some ⟨g, 0, none⟩) n c) n xs) (u : Value) (_hl : l < n) : (w.setCell ⟨g, l, none⟩ u).ownsRow B e 1 (.slice (some ⟨g, 0, none⟩) n c) n (xs.set l u) := by
  refine ⟨by simpa using h.1, ?_⟩
  rcases h.2 with ⟨h1, _⟩ | ⟨g', cap, cur, h1, hb, hg, hn, hm, hs, ht⟩
  · cases h1
  · injection h1 with e1 e2 e3
    injection e1 with e1
    injection e1 with e1
    subst e1 e3
    refine .inr ⟨g, c, cur.setIfInBounds l u, rfl, hb, ?_, hn, hm, by simpa using hs, ?_⟩
    · have hB : Blk w g e cur := hg
      exact hB.set_ l u
    · rw [Array.toList_setIfInBounds, Nat.mul_one, ← ht, Nat.mul_one, List.take_set]
theorem row_cell {w : World} {B g n c l : Nat} {e : TypeId} {xs : List Value} {u : Value} (h : w.ownsRow B e 1 (.slice (some ⟨g, 0, none⟩) n c) n xs) (hu : xs[l]? = some u) : w.cell? ⟨g, l, none⟩ = some u ∧ w.frozen? ⟨g, l, none⟩ = false ∧ g < w.heap.size := by
  have hlt := h.lt g rfl
  rcases h.2 with ⟨h1, _⟩ | ⟨g', cap, cur, h1, hb, hg, hn, hm, hs, ht⟩
  · cases h1
  · injection h1 with e1 e2 e3
    injection e1 with e1
    injection e1 with e1
    subst e1 e3
    have hB : Blk w g e cur := hg
    rw [← ht, List.getElem?_take] at hu
    split at hu
    · exact ⟨(hB.cell l).trans (by simpa using hu), hB.frozen l, hlt.2⟩
    · cases hu
/-- One value appended to a row of ints of the call's own: the row's block is the one it was, or the next new one. -/
theorem addr0 (g j : Nat) : (⟨g, 0, none⟩ : Addr).add j = ⟨g, j, none⟩ := by unfold Addr.add; split <;> simp_all
theorem row_new {B : Nat} {e : TypeId} (w : World) (x : Value) (hB : B ≤ w.heap.size) : (w.alloc (.cells #[x] e)).ownsRow B e 1 (.slice (some ⟨w.heap.size, 0, none⟩) 1 1) 1 [x] :=
  ⟨rfl, .inr ⟨w.heap.size, 1, #[x], rfl, hB, Blk.new w e #[x], Nat.le_refl _, by decide, rfl, rfl⟩⟩
theorem below_own {B B' s n : Nat} {e : TypeId} {v : Value} {xs : List Value} {w w' : World} (h1 : B ≤ B') (h : w.ownsRow B' e s v n xs) (hg : w.grownBy w' v.ownBlock) (h2 : B' ≤ w.heap.size) : Below B w w' :=
  ⟨hg.os, hg.tape, hg.output, hg.size, fun i hi => hg.block i (by omega) fun q => by have := (h.lt i q.symm).1; omega⟩
theorem row_cap {w : World} {B s n c : Nat} {e : TypeId} {a : Option Addr} {xs : List Value} (h : w.ownsRow B e s (.slice a n c) n xs) : n ≤ c ∧ c ≤ maxLen := by
  rcases h.2 with ⟨h1, h0⟩ | ⟨g, cap, cur, h1, _, _, h2, h3, _⟩
  · injection h1 with _ _ e3
    subst e3
    exact ⟨by omega, by unfold maxLen; omega⟩
  · injection h1 with _ _ e3
    subst e3
    exact ⟨h2, h3⟩
theorem row_at {w : World} {B s n c : Nat} {e : TypeId} {a : Option Addr} {xs : List Value} (h : w.ownsRow B e s (.slice a n c) n xs) (h0 : 0 < n) : ∃ g, a = some ⟨g, 0, none⟩ ∧ g < w.heap.size ∧ ∀ wq, Below w.heap.size w wq → ∀ (l : Nat) (u : Value), xs[l]? = some u → wq.cell? ⟨g, l, none⟩ = some u := by
  rcases h.2 with ⟨_, e⟩ | ⟨g, cap, cur, hv, hb, hg, hn, hm, hs, ht⟩
  · omega
  · injection hv with e1
    have hlt := h.lt g (by rw [e1]; rfl)
    refine ⟨g, e1, hlt.2, fun wq hq l u hu => ?_⟩
    have hB : Blk w g e cur := hg
    rw [← ht, List.getElem?_take] at hu
    split at hu
    · exact ((hB.on hq).cell l).trans (by simpa using hu)
    · cases hu
end Go.Proofs.Ytmcdmcnbnnfhnaa
