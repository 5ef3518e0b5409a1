/-
  Histories: slices of structs, whole blocks, operations as plain data.
-/
import Derived.Test.YtjijlhjggpibjaaGreatH4
import Derived.Test.YtjijlhjggpibjaaGreatMa
import Derived.Deep.MidRow
namespace Go.Proofs.YtjijlhjggpibjaaGreat
open Go.RowKit

def vi (n : Int) : Value := .int .i64 n
theorem beq_t {a b : Int} (h : a = b) : (a == b) = true := beq_iff_eq.2 h
theorem beq_f {a b : Int} (h : ¬ a = b) : (a == b) = false := beq_eq_false_iff_ne.2 h
theorem bne_t {a b : Int} (h : ¬ a = b) : (a != b) = true := bne_iff_ne.2 h
theorem bne_f {a b : Int} (h : a = b) : (a != b) = false := by rw [bne, beq_t h]; rfl
def MadeI (w : World) (xs : List Int) (e : Ending) (w' : World) : Prop := ∃ v', e = .returned v' ∧ Reads vi w' v' xs ∧ Below w.heap.size w w'
def BoolMade (w : World) (r : Bool) (e : Ending) (w' : World) : Prop := e = .returned (.bool r) ∧ Below w.heap.size w w'
/-- A slice whose elements have K cells each. -/
def ReadsK {α : Type} (K : Nat) (E : World → List Value → α → Prop) (w : World) (v : Value) (xs : List α) : Prop :=
  ∃ ao cap, v = .slice ao xs.length cap ∧ xs.length ≤ cap ∧ cap ≤ maxLen ∧ (ao = none → cap = 0) ∧
    (xs ≠ [] → ∃ b off, ao = some ⟨b, off, none⟩ ∧ b < w.heap.size ∧ ∀ j (h : j < xs.length), ∃ cs : List Value, cs.length = K ∧ (∀ i u, cs[i]? = some u → w.cell? ⟨b, off + j * K + i, none⟩ = some u) ∧ E w cs xs[j])

/-- What holds of an element holds on. -/
def Keeps {α : Type} (E : World → List Value → α → Prop) : Prop := ∀ w w' cs x, Below w.heap.size w w' → E w cs x → E w' cs x

section
variable {α : Type} {K : Nat} {E : World → List Value → α → Prop} {w w' : World} {v : Value} {xs : List α}
theorem ReadsK.nil (w : World) : ReadsK K E w (.slice none 0 0) ([] : List α) := ⟨none, 0, rfl, Nat.le_refl _, by simp [maxLen], fun _ => rfl, fun h => absurd rfl h⟩
theorem ReadsK.len (h : ReadsK K E w v xs) : xs.length ≤ maxLen := by
  obtain ⟨ao, cap, rfl, hl, hm, _⟩ := h; omega
theorem ReadsK.keep (hE : Keeps E) (h : ReadsK K E w v xs) (hb : Below w.heap.size w w') : ReadsK K E w' v xs := by
  obtain ⟨ao, cap, rfl, hl, hm, hn, hx⟩ := h
  refine ⟨ao, cap, rfl, hl, hm, hn, fun he => ?_⟩
  obtain ⟨b, off, rfl, hlt, hc⟩ := hx he
  refine ⟨b, off, rfl, Nat.lt_of_lt_of_le hlt hb.size, fun j hj => ?_⟩
  obtain ⟨cs, h1, h2, h3⟩ := hc j hj
  exact ⟨cs, h1, fun i u hu => (hb.cell (p := ⟨b, off + j * K + i, none⟩) hlt).trans (h2 i u hu), hE _ _ _ _ hb h3⟩
end


theorem below_two (w : World) (o1 o2 : Obj) : Below w.heap.size w ((w.alloc o1).alloc o2) := ((Below.refl _ _).alloc (Nat.le_refl _) _).alloc (by simp) _

def Slc (v : Value) : Prop := ∃ ao n k, v = .slice ao n k
theorem Slc.of_reads {α : Type} {enc : α → Value} {w : World} {v : Value} {xs : List α} (h : Reads enc w v xs) : Slc v := by obtain ⟨ao, cap, rfl, _⟩ := h; exact ⟨_, _, _, rfl⟩
theorem Slc.of_readsK {α : Type} {K : Nat} {E : World → List Value → α → Prop} {w : World} {v : Value} {xs : List α} (h : ReadsK K E w v xs) : Slc v := by obtain ⟨ao, cap, rfl, _⟩ := h; exact ⟨_, _, _, rfl⟩


/-- Block g is just the cells cs, none frozen. -/
def Blk (w : World) (g : Nat) (t : TypeId) (cs : Array Value) : Prop := w.heap[g]? = some (.cells cs t (0, 0))
section
variable {w w' : World} {g : Nat} {t : TypeId} {cs : Array Value}
theorem Blk.lt (h : Blk w g t cs) : g < w.heap.size := by
  rcases Nat.lt_or_ge g w.heap.size with hlt | hge
  · exact hlt
  · unfold Blk at h; rw [Array.getElem?_eq_none hge] at h; cases h
theorem Blk.cell (h : Blk w g t cs) (i : Nat) : w.cell? ⟨g, i, none⟩ = cs[i]? := cell_of_row w g i cs t (0, 0) h
theorem Blk.frozen (h : Blk w g t cs) (i : Nat) : w.frozen? ⟨g, i, none⟩ = false := by
  unfold Blk at h
  simp [World.frozen?, h]
theorem Blk.new (w : World) (t : TypeId) (cs : Array Value) : Blk (w.alloc (.cells cs t)) w.heap.size t cs := heap_alloc_new w _
theorem Blk.drewN (h : Blk w g t cs) (n : Nat) : Blk (w.drewN n) g t cs := h
theorem Blk.alloc (h : Blk w g t cs) (o : Obj) : Blk (w.alloc o) g t cs := (Below.heap_alloc w o g h.lt).trans h
theorem Blk.set_ (h : Blk w g t cs) (i : Nat) (u : Value) : Blk (w.setCell ⟨g, i, none⟩ u) g t (cs.setIfInBounds i u) := by
  unfold Blk at h ⊢
  simp [World.setCell, Array.getElem?_modify, h]
theorem Blk.far (h : Blk w g t cs) {p : Addr} (hp : g ≠ p.block) (u : Value) : Blk (w.setCell p u) g t cs := (Below.heap_setCell w p u g hp).trans h
theorem Blk.below {B : Nat} (h : Blk w g t cs) (hb : Below B w w') (hg : g < B) : Blk w' g t cs := (hb.block g hg).trans h
theorem Blk.on (h : Blk w g t cs) (hb : Below w.heap.size w w') : Blk w' g t cs := h.below hb h.lt
theorem Blk.range (h : Blk w g t cs) : w.rangeAt g 0 cs.toList := fun j v hv => by
  rw [Nat.zero_add, h.cell, ← Array.getElem?_toList]; exact hv
theorem Blk.load {P : Program} (h : Blk w g t cs) {n : Nat} (hn : cs.size = n) : (loadCellsFrom ⟨g, 0, none⟩ 0 n #[]).run P w = .ok cs w := by
  subst hn
  have := run_loadCells_list (P := P) w ⟨g, 0, none⟩ cs.toList (fun j v hv => by
    rw [Addr.add_mid]; exact h.range j v hv)
  simpa [loadCells] using this
theorem Blk.store {P : Program} (h : Blk w g t cs) {n : Array Value} (hn : n.size = cs.size) (h1 : ∀ v ∈ n.toList, v.oneCell' = true) :
    (storeCells ⟨g, 0, none⟩ n.toList 0).run P w = .ok () (w.setRow g n) := by
  have := run_storeCells_from (P := P) g t n.toList 0 cs w h (by simp; omega) h1
  simpa using this
theorem Blk.setRow (h : Blk w g t cs) (n : Array Value) : Blk (w.setRow g n) g t n := by
  unfold Blk at h ⊢
  simp [World.setRow, Array.getElem?_modify, h]
theorem below_setRow {B : Nat} {w0 w : World} {g : Nat} {n : Array Value} (h : Below B w0 w) (hg : B ≤ g) : Below B w0 (w.setRow g n) :=
  ⟨h.os, h.tape, h.output, by simpa [World.setRow] using h.size, fun i hi => by
    rw [← h.block i hi]
    simp only [World.setRow, Array.getElem?_modify]
    rw [if_neg (by omega)]⟩
end

/-- A whole block is stored. -/
theorem wpList_store_blk {P : Program} {ops : Array Oper} {rest : List Oper} {op : Oper} {a : Act} {w : World} {Q : Exit → Act → World → Prop} (hgd : op.guard = none) (ty : TypeId) (x y : Operand) (ho : op.op = .store ty x y)
    (g : Nat) (t : TypeId) (old cells : Array Value) (hx : a.eval x = .pointer (some ⟨g, 0, none⟩)) (hy : a.eval y = .agg cells) (hB : Blk w g t old)
    (hi : (P.info? ty).map (·.size) = some cells.size) (hsz : old.size = cells.size) (h1 : cells.all (·.oneCell') = true)
    (h : ∀ w', Blk w' g t cells → w'.heap.size = w.heap.size → (∀ B w0, B ≤ g → Below B w0 w → Below B w0 w') → (∀ g' t' cs', g' ≠ g → Blk w g' t' cs' → Blk w' g' t' cs') → wpList P ops Q rest (a.put op.dst undef) w') : wpList P ops Q (op :: rest) a w := by
  refine wpList_plain hgd fun _ hK => ?_
  unfold Oper.wp execOp
  simp only [ho, hx, hy, Instr.storeAt, Instr.sureAddr, Sem.run_bind, Sem.run_pure, Result.andThen_ok, run_storeVar_row w g t ty old cells hB hi hsz h1]
  refine hK _ _ (h _ (hB.setRow cells) (by simp [World.setRow]) (fun B w0 hg hb => below_setRow hb hg) fun g' t' cs' hne hb => ?_)
  unfold Blk at *
  simp only [World.setRow, Array.getElem?_modify]
  rw [if_neg (fun e => hne e.symm)]; exact hb

theorem wp_store_blk {P : Program} {op : Oper} {a : Act} {w : World} {K : Act → World → Prop} {Q : Exit → Act → World → Prop} (ty : TypeId) (x y : Operand) (ho : op.op = .store ty x y)
    (g : Nat) (t : TypeId) (old cells : Array Value) (hx : a.eval x = .pointer (some ⟨g, 0, none⟩)) (hy : a.eval y = .agg cells) (hB : Blk w g t old)
    (hi : (P.info? ty).map (·.size) = some cells.size) (hsz : old.size = cells.size) (h1 : cells.all (·.oneCell') = true)
    (h : ∀ w', Blk w' g t cells → w'.heap.size = w.heap.size → (∀ B w0, B ≤ g → Below B w0 w → Below B w0 w') → (∀ g' t' cs', g' ≠ g → Blk w g' t' cs' → Blk w' g' t' cs') → K (a.put op.dst undef) w') : op.wp P a w K Q := by
  unfold Oper.wp execOp
  simp only [ho, hx, hy, Instr.storeAt, Instr.sureAddr, Sem.run_bind, Sem.run_pure, Result.andThen_ok, run_storeVar_row w g t ty old cells hB hi hsz h1]
  refine h _ (hB.setRow cells) (by simp [World.setRow]) (fun B w0 hg hb => below_setRow hb hg) fun g' t' cs' hne hb => ?_
  unfold Blk at *
  simp only [World.setRow, Array.getElem?_modify]
  rw [if_neg (fun e => hne e.symm)]; exact hb

theorem blk6 {w : World} {g : Nat} {t : TypeId} {v0 v1 v2 v3 v4 v5 : Value} (h : Blk w g t #[v0, v1, v2, v3, v4, v5]) :
    w.cell? ⟨g, 0, none⟩ = some v0 ∧ w.cell? ⟨g, 1, none⟩ = some v1 ∧ w.cell? ⟨g, 2, none⟩ = some v2 ∧ w.cell? ⟨g, 3, none⟩ = some v3 ∧ w.cell? ⟨g, 4, none⟩ = some v4 ∧ w.cell? ⟨g, 5, none⟩ = some v5 ∧ g < w.heap.size :=
  ⟨h.cell 0, h.cell 1, h.cell 2, h.cell 3, h.cell 4, h.cell 5, h.lt⟩
theorem boxed_of {w w1 : World} {cs : Array Value} {t : TypeId} (h : w.alloc (.cells cs t) = w1) : Blk w1 w.heap.size t cs ∧ Below w.heap.size w w1 := by
  subst h; exact ⟨Blk.new w t cs, (Below.refl _ _).alloc (Nat.le_refl _) _⟩

/-- An operation as plain data: client, kind, begin, end, adds, sees. -/
abbrev Opn := Int × Int × Int × Int × List Str × List Str
def cliO (o : Opn) : Int := o.1
def kindO (o : Opn) : Int := o.2.1
def begO (o : Opn) : Int := o.2.2.1
def endO (o : Opn) : Int := o.2.2.2.1
def addO (o : Opn) : List Str := o.2.2.2.2.1
def seeO (o : Opn) : List Str := o.2.2.2.2.2
def opCs (o : Opn) (va vz : Value) : List Value := [.int .i64 (cliO o), .int .i64 (kindO o), .int .i64 (begO o), .int .i64 (endO o), va, vz]
def opV (o : Opn) (va vz : Value) : Value := .agg #[.int .i64 (cliO o), .int .i64 (kindO o), .int .i64 (begO o), .int .i64 (endO o), va, vz]
def OpE (w : World) (cs : List Value) (o : Opn) : Prop := ∃ va vz, cs = opCs o va vz ∧ Reads vs w va (addO o) ∧ Reads vs w vz (seeO o)
theorem keepsOp : Keeps OpE := fun _ _ _ _ hb ⟨va, vz, h, h1, h2⟩ => ⟨va, vz, h, h1.keep hb, h2.keep hb⟩
/-- A history. -/
abbrev ReadsO (w : World) (v : Value) (xs : List Opn) : Prop := ReadsK 6 OpE w v xs
theorem ReadsO.on {w w' : World} {v : Value} {xs : List Opn} (h : ReadsO w v xs) (hb : Below w.heap.size w w') : ReadsO w' v xs := ReadsK.keep keepsOp h hb
/-- An operation by value. -/
def OpAt (w : World) (v : Value) (o : Opn) : Prop := ∃ va vz, v = opV o va vz ∧ Reads vs w va (addO o) ∧ Reads vs w vz (seeO o)
theorem OpAt.on {w w' : World} {v : Value} {o : Opn} (h : OpAt w v o) (hb : Below w.heap.size w w') : OpAt w' v o := by
  obtain ⟨va, vz, rfl, h1, h2⟩ := h; exact ⟨va, vz, rfl, h1.keep hb, h2.keep hb⟩
/-- An element of a history: its six cells, in this world and each later one. -/
theorem ReadsO.at_ {w : World} {v : Value} {L : List Opn} (h : ReadsO w v L) {k : Nat} (hk : k < L.length) : ∃ b off cap va vz, v = .slice (some ⟨b, off, none⟩) L.length cap ∧ L.length ≤ cap ∧ cap ≤ maxLen ∧
    (∀ wq, Below w.heap.size w wq → wq.cell? ⟨b, off + k * 6, none⟩ = some (.int .i64 (cliO L[k])) ∧ wq.cell? ⟨b, off + k * 6 + 1, none⟩ = some (.int .i64 (kindO L[k])) ∧ wq.cell? ⟨b, off + k * 6 + 2, none⟩ = some (.int .i64 (begO L[k])) ∧
      wq.cell? ⟨b, off + k * 6 + 3, none⟩ = some (.int .i64 (endO L[k])) ∧ wq.cell? ⟨b, off + k * 6 + 4, none⟩ = some va ∧ wq.cell? ⟨b, off + k * 6 + 5, none⟩ = some vz) ∧
    Reads vs w va (addO L[k]) ∧ Reads vs w vz (seeO L[k]) := by
  obtain ⟨ao, cap, rfl, h1, h2, h3, h4⟩ := h
  obtain ⟨b, off, rfl, hb, hc⟩ := h4 (by rintro rfl; simp at hk)
  obtain ⟨cs, h5, h6, va, vz, rfl, r1, r2⟩ := hc k hk
  refine ⟨b, off, cap, va, vz, rfl, h1, h2, fun wq hq => ⟨(hq.cell (p := ⟨b, off + k * 6, none⟩) hb).trans (by simpa using h6 0 _ rfl), (hq.cell (p := ⟨b, off + k * 6 + 1, none⟩) hb).trans (h6 1 _ rfl), (hq.cell (p := ⟨b, off + k * 6 + 2, none⟩) hb).trans (h6 2 _ rfl),
    (hq.cell (p := ⟨b, off + k * 6 + 3, none⟩) hb).trans (h6 3 _ rfl), (hq.cell (p := ⟨b, off + k * 6 + 4, none⟩) hb).trans (h6 4 _ rfl), (hq.cell (p := ⟨b, off + k * 6 + 5, none⟩) hb).trans (h6 5 _ rfl)⟩, r1, r2⟩

def precB (a b : Opn) : Bool := decide (¬ endO a = -1 ∧ endO a < begO b)
def formB (o : Opn) : Bool := decide (0 ≤ cliO o ∧ 0 ≤ begO o ∧ (endO o = -1 ∨ begO o < endO o) ∧ incB (addO o) = true ∧ incB (seeO o) = true ∧
  ((kindO o = 1 ∧ addO o ≠ [] ∧ seeO o = []) ∨ (kindO o = 2 ∧ addO o = [] ∧ (¬ endO o = -1 ∨ seeO o = []))))
/-- What has been added before operation k. -/
def addedL (h : List Opn) (k : Nat) : List Str := (h.take k).flatMap addO
/-- The error of operation k: 1 its form, 9 its client, 3 an identity. -/
def errAt (h : List Opn) (k : Nat) : Int :=
  match h[k]? with
  | none => 0
  | some x => if formB x = false then 1 else if ∃ y ∈ h.take k, cliO y = cliO x ∧ precB y x = false then 9 else if ∃ s ∈ addO x, s ∈ addedL h k then 3 else 0
/-- The first error, its index first. -/
def chkL (h : List Opn) : Nat × Int := match (List.range h.length).find? (fun k => errAt h k != 0) with | some k => (k, errAt h k) | none => (0, 0)
theorem chk_at {h : List Opn} {k : Nat} (hk : k < h.length) (hp : ∀ j, j < k → errAt h j = 0) (he : ¬ errAt h k = 0) : chkL h = (k, errAt h k) := by
  unfold chkL
  have : (List.range h.length).find? (fun k => errAt h k != 0) = some k := by
    obtain ⟨m, hm⟩ : ∃ m, h.length = k + 1 + m := ⟨h.length - k - 1, by omega⟩
    rw [List.find?_eq_some_iff_append]
    refine ⟨by simpa using he, List.range k, (List.range m).map (k + 1 + ·), ?_, fun j hj => by simp at hj; simp [hp j hj]⟩
    rw [hm, List.range_add, List.range_succ, List.append_assoc]; rfl
  rw [this]
theorem chk_ok {h : List Opn} (hp : ∀ j, j < h.length → errAt h j = 0) : chkL h = (0, 0) := by
  unfold chkL
  have : (List.range h.length).find? (fun k => errAt h k != 0) = none := by
    rw [List.find?_eq_none]
    intro j hj
    simp at hj
    simp [hp j hj]
  rw [this]
end Go.Proofs.YtjijlhjggpibjaaGreat
