/-
  Chapter 54: the example, and what the functions answer there.
-/
import Derived.Test.YtnpfalloelmflaaHg
import Derived.Test.YtnpfalloelmflaaHn
import Derived.Test.YtnpfalloelmflaaHo
namespace Go.Proofs.Ytnpfalloelmflaa
open Go.RowKit

theorem reads_litI {w : World} {g : Nat} {t : TypeId} {cs : Array Value} {xs : List Int} (h : Blk w g t cs) (hc : cs = (xs.map vi).toArray) (hm : xs.length ≤ 1000000) : Reads vi w (.slice (some ⟨g, 0, none⟩) xs.length xs.length) xs := by
  refine Reads.at (Nat.le_refl _) (by unfold maxLen; omega) h.lt fun j hj => ?_
  rw [h.cell, hc]
  simp [hj]
theorem reads_litS {w : World} {g : Nat} {t : TypeId} {cs : Array Value} {xs : List Str} (h : Blk w g t cs) (hc : cs = (xs.map vs).toArray) (hm : xs.length ≤ 1000000) : Reads vs w (.slice (some ⟨g, 0, none⟩) xs.length xs.length) xs := by
  refine Reads.at (Nat.le_refl _) (by unfold maxLen; omega) h.lt fun j hj => ?_
  rw [h.cell, hc]
  simp [hj]
/-- The example, with the first two ends. -/
def exL (e0 e1 : Int) : List Opn := [(0, 1, 0, e0, [[120]], []), (1, 2, 1, e1, [], []), (1, 2, 3, 6, [], [[120]])]
def exBk (z1 z2 : Nat) (e0 e1 : Int) : Array Value := #[.int .i64 0, .int .i64 1, .int .i64 0, .int .i64 e0, .slice (some ⟨z1, 0, none⟩) 1 1, .slice none 0 0, .int .i64 1, .int .i64 2, .int .i64 1, .int .i64 e1, .slice none 0 0, .slice none 0 0, .int .i64 1, .int .i64 2, .int .i64 3, .int .i64 6, .slice none 0 0, .slice (some ⟨z2, 0, none⟩) 1 1]
def ExB (w : World) (g z1 z2 : Nat) (e0 e1 : Int) : Prop := Blk w g 31 (exBk z1 z2 e0 e1) ∧ Blk w z1 9 #[vs [120]] ∧ Blk w z2 9 #[vs [120]] ∧ g ≠ z1 ∧ g ≠ z2
theorem ExB.on {w w' : World} {g z1 z2 : Nat} {e0 e1 : Int} (h : ExB w g z1 z2 e0 e1) (hb : Below w.heap.size w w') : ExB w' g z1 z2 e0 e1 := ⟨h.1.on hb, h.2.1.on hb, h.2.2.1.on hb, h.2.2.2⟩
theorem ExB.reads {w : World} {g z1 z2 : Nat} {e0 e1 : Int} (h : ExB w g z1 z2 e0 e1) : ReadsO w (.slice (some ⟨g, 0, none⟩) 3 3) (exL e0 e1) := by
  obtain ⟨hB, h1, h2, -⟩ := h
  refine ⟨some ⟨g, 0, none⟩, 3, rfl, Nat.le_refl _, by unfold maxLen; omega, (fun h => by cases h), fun _ => ⟨g, 0, rfl, hB.lt, fun j hj => ?_⟩⟩
  have hj' : j < 3 := hj
  have r1 : Reads vs w (.slice (some ⟨z1, 0, none⟩) 1 1) [[120]] := reads_litS (xs := [[120]]) h1 rfl (by simp)
  have r2 : Reads vs w (.slice (some ⟨z2, 0, none⟩) 1 1) [[120]] := reads_litS (xs := [[120]]) h2 rfl (by simp)
  have key : ∀ (o : Opn) (va vz : Value) (hx : (exL e0 e1)[j] = o), Reads vs w va (addO o) → Reads vs w vz (seeO o) → (∀ i u, (opCs o va vz)[i]? = some u → w.cell? ⟨g, 0 + j * 6 + i, none⟩ = some u) →
      ∃ cs : List Value, cs.length = 6 ∧ (∀ i u, cs[i]? = some u → w.cell? ⟨g, 0 + j * 6 + i, none⟩ = some u) ∧ OpE w cs (exL e0 e1)[j] := fun o va vz hx ha hz hc =>
    ⟨opCs o va vz, rfl, hc, va, vz, by rw [hx], by rw [hx]; exact ha, by rw [hx]; exact hz⟩
  have cell6 : ∀ (k : Nat) (cs : List Value), cs.length = 6 → (∀ i, i < 6 → (exBk z1 z2 e0 e1)[k + i]? = cs[i]?) → ∀ i u, cs[i]? = some u → w.cell? ⟨g, k + i, none⟩ = some u := fun k cs hl hc i u hu => by
    have hi : i < 6 := by rw [← hl]; exact (List.getElem?_eq_some_iff.1 hu).1
    rw [hB.cell, hc i hi, hu]
  have h6 : ∀ i, i < 6 → i = 0 ∨ i = 1 ∨ i = 2 ∨ i = 3 ∨ i = 4 ∨ i = 5 := fun i h => by omega
  have h3 : j = 0 ∨ j = 1 ∨ j = 2 := by omega
  rcases h3 with rfl | rfl | rfl
  · exact key _ (.slice (some ⟨z1, 0, none⟩) 1 1) (.slice none 0 0) rfl r1 (Reads.nil _) (cell6 0 _ rfl fun i hi => by rcases h6 i hi with rfl | rfl | rfl | rfl | rfl | rfl <;> rfl)
  · exact key _ (.slice none 0 0) (.slice none 0 0) rfl (Reads.nil _) (Reads.nil _) (cell6 6 _ rfl fun i hi => by rcases h6 i hi with rfl | rfl | rfl | rfl | rfl | rfl <;> rfl)
  · exact key _ (.slice none 0 0) (.slice (some ⟨z2, 0, none⟩) 1 1) rfl (Reads.nil _) r2 (cell6 12 _ rfl fun i hi => by rcases h6 i hi with rfl | rfl | rfl | rfl | rfl | rfl <;> rfl)
theorem ex_chk : chkL (exL 4 2) = (0, 0) := by decide +kernel
theorem ex_chk2 : chkL (exL (-1) 3) = (2, 9) := by decide +kernel
theorem ex_ord : ordL (exL 4 2) 3 = [(1, 2)] := by decide +kernel
theorem ex_cut : cutL (exL 4 2) 2 = [(0, 1, 0, -1, [[120]], []), (1, 2, 1, 2, [], [])] := by kernel_rfl
theorem ex_leg1 : legB (exL 4 2) [1, 0, 2] = true := by decide +kernel
theorem ex_leg2 : legB (exL 4 2) [0, 1, 2] = false := by decide +kernel
theorem ex_comp9 : compErr (exL (-1) 2) 9 = 0 := by decide +kernel
theorem ex_comp6 : compErr (exL (-1) 2) 6 = 5 := by decide +kernel
theorem ex_compL : compL (seenL (exL (-1) 2)) 9 (exL (-1) 2) = exL 9 2 := by kernel_rfl
theorem ex_small (e0 e1 : Int) : SmallH (exL e0 e1) := by
  unfold SmallH
  refine ⟨by simp [exL], fun o ho => ?_⟩
  simp [exL] at ho
  rcases ho with rfl | rfl | rfl <;> simp [addO, seeO]

theorem three_blk (W : World) (t1 t2 t3 : TypeId) (c1 c2 c3 : Array Value) : Blk (((W.alloc (.cells c1 t1)).alloc (.cells c2 t2)).alloc (.cells c3 t3)) (W.heap.size + 1 + 1) t3 c3 ∧
    Blk (((W.alloc (.cells c1 t1)).alloc (.cells c2 t2)).alloc (.cells c3 t3)) W.heap.size t1 c1 ∧ Blk (((W.alloc (.cells c1 t1)).alloc (.cells c2 t2)).alloc (.cells c3 t3)) (W.heap.size + 1) t2 c2 ∧
    Below W.heap.size W (((W.alloc (.cells c1 t1)).alloc (.cells c2 t2)).alloc (.cells c3 t3)) := by
  have h1 := Blk.new W t1 c1
  have h2 := Blk.new (W.alloc (.cells c1 t1)) t2 c2
  have h3 := Blk.new ((W.alloc (.cells c1 t1)).alloc (.cells c2 t2)) t3 c3
  simp only [World.size_alloc] at h2 h3
  exact ⟨h3, (h1.alloc _).alloc _, h2.alloc _, (((Below.refl _ _).alloc (Nat.le_refl _) _).alloc (by simp) _).alloc (by simp; omega) _⟩
theorem below_set {B : Nat} {w0 w : World} {p : Addr} {u : Value} (h : Below B w0 w) (hp : B ≤ p.block) : Below B w0 (w.setCell p u) :=
  ⟨h.os, h.tape, h.output, by simpa [World.setCell] using h.size, fun k hk => by rw [← h.block k hk]; exact Below.heap_setCell w p u k (by omega)⟩
theorem ExB.set0 {w : World} {g z1 z2 : Nat} {e0 e1 : Int} (h : ExB w g z1 z2 e0 e1) (e : Int) : ExB (w.setCell ⟨g, 3, none⟩ (.int .i64 e)) g z1 z2 e e1 :=
  ⟨h.1.set_ 3 _, h.2.1.far (fun x => h.2.2.2.1 x.symm) _, h.2.2.1.far (fun x => h.2.2.2.2 x.symm) _, h.2.2.2⟩
theorem ExB.set1 {w : World} {g z1 z2 : Nat} {e0 e1 : Int} (h : ExB w g z1 z2 e0 e1) (e : Int) : ExB (w.setCell ⟨g, 9, none⟩ (.int .i64 e)) g z1 z2 e0 e :=
  ⟨h.1.set_ 9 _, h.2.1.far (fun x => h.2.2.2.1 x.symm) _, h.2.2.1.far (fun x => h.2.2.2.2 x.symm) _, h.2.2.2⟩
def ExMade (W : World) (e : Ending) (w' : World) : Prop := ∃ g z1 z2, e = .returned (.slice (some ⟨g, 0, none⟩) 3 3) ∧ W.heap.size ≤ g ∧ ExB w' g z1 z2 4 2 ∧ Below W.heap.size W w'
set_option maxRecDepth 100000 in
set_option maxHeartbeats 4000000 in
theorem example_any (W : World) : Calls Try.prog 32 #[] W (ExMade W) := by
  go_enter Try.func32, Try.ntmps32
  go_wp2
  go_ret
  have h3 := three_blk W 9 9 31 #[vs [120]] #[vs [120]] (exBk W.heap.size (W.heap.size + 1) 4 2)
  exact ⟨W.heap.size + 1 + 1, W.heap.size, W.heap.size + 1, rfl, by omega, ⟨h3.1, h3.2.1, h3.2.2.1, by omega, by omega⟩, h3.2.2.2⟩
end Go.Proofs.Ytnpfalloelmflaa
