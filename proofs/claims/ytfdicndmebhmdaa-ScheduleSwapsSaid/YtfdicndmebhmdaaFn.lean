/-
  Chapter 29: the example, walked.
-/
import Derived.Test.YtfdicndmebhmdaaFm
namespace Go.Proofs.Ytfdicndmebhmdaa
open Go.RowKit
theorem Try.infoInt0 : (Try.prog.info? 3).map (fun i => (i.zero, i.size, i.bytes)) = some (some (.int .i64 0), 1, 8) := by kernel_rfl
theorem run_eq_pair (w : World) (a b c d : Int) : (Op.equalIn 10000 43 (.agg #[.int .i64 a, .int .i64 b]) (.agg #[.int .i64 c, .int .i64 d])).run Try.prog w = .ok (a == c && b == d) w := by
  obtain ⟨i0, hinf, hz0, hz1, hz2⟩ := info_parts Try.infoInt0
  have hc : Try.prog.cellsOf 3 = 1 := by kernel_rfl
  rw [show (10000 : Nat) = 9999 + 1 from rfl, run_equalIn_array (n := 2) (e := 3) w 9999 _ _ Try.underlying43 hinf, hc]
  have hk : Try.prog.plainKey 3 = true := by kernel_rfl
  have he : ∀ x y : Int, (Op.equalIn 9999 3 (.int .i64 x) (.int .i64 y)).run Try.prog w = .ok (x == y) w := fun x y => run_equalIn_int (w := w) 9998 _ _ _ x y Try.underlying3
  have p0 : (part 3 #[.int .i64 a, .int .i64 b] (0 * 1)).run Try.prog w = .ok (.int .i64 a) w := run_part_plain (w := w) hk rfl
  have p1 : (part 3 #[.int .i64 a, .int .i64 b] (1 * 1)).run Try.prog w = .ok (.int .i64 b) w := run_part_plain (w := w) hk rfl
  have q0 : (part 3 #[.int .i64 c, .int .i64 d] (0 * 1)).run Try.prog w = .ok (.int .i64 c) w := run_part_plain (w := w) hk rfl
  have q1 : (part 3 #[.int .i64 c, .int .i64 d] (1 * 1)).run Try.prog w = .ok (.int .i64 d) w := run_part_plain (w := w) hk rfl
  have hr : List.range 2 = [0, 1] := rfl
  rw [hr]
  simp only [Op.eqItems, Sem.run_bind, p0, q0, Result.andThen_ok, he]
  cases hx : (a == c)
  · simp
  · simp only [Bool.not_true, Bool.false_eq_true, if_false, Sem.run_bind, p1, q1, Result.andThen_ok, he, Bool.true_and]
    cases hy : (b == d) <;> simp
attribute [local go_sem] run_eq_pair
theorem readsE_blk {w : World} {g : Nat} {L : List Ev} {us : List Value} {cs : Array Value} (hl : us.length = L.length) (hm : L.length ≤ 1000) (hB : Blk w g 29 cs) (hc : cs = (flatE L us).toArray) (hr : ∀ k (h : k < L.length), ∃ u, us[k]? = some u ∧ Reads vi w u L[k].2) : ReadsE w (.slice (some ⟨g, 0, none⟩) L.length L.length) L := by
  subst hc
  refine ⟨_, L.length, rfl, Nat.le_refl _, by unfold maxLen; omega, (fun e => by cases e), fun _ => ⟨g, 0, rfl, hB.lt, fun j hj => ?_⟩⟩
  obtain ⟨u, h1, h2⟩ := hr j hj
  obtain ⟨g1, g2⟩ := flatE_get hl j hj
  refine ⟨evCs L[j] u, rfl, fun i x hx => ?_, u, rfl, h2⟩
  rw [Nat.zero_add, hB.cell, List.getElem?_toArray]
  match i, hx with
  | 0, hx => rw [Nat.add_zero, g1]; exact hx
  | 1, hx => rw [g2, h1]; exact hx
theorem reads_blk {w : World} {g : Nat} {xs : List Int} {cs : Array Value} (hm : xs.length ≤ 1000) (hB : Blk w g 3 cs) (hc : cs = (xs.map vi).toArray) : Reads vi w (.slice (some ⟨g, 0, none⟩) xs.length xs.length) xs := by
  subst hc
  refine Reads.at (Nat.le_refl _) (by unfold maxLen; omega) hB.lt fun j hj => ?_
  rw [Nat.zero_add, hB.cell]
  simp [hj]
/-- The example's events, in this world and each later one. -/
structure Aw (w : World) (g0 g1 g2 gA gB gC gT : Nat) : Prop where
  b0 : Blk w g0 3 #[.int .i64 1]
  b1 : Blk w g1 3 #[.int .i64 2]
  b2 : Blk w g2 3 #[.int .i64 1, .int .i64 2]
  bA : Blk w gA 29 #[.int .i64 1, .slice (some ⟨g0, 0, none⟩) 1 1]
  bB : Blk w gB 29 #[.int .i64 2, .slice (some ⟨g1, 0, none⟩) 1 1]
  bC : Blk w gC 29 #[.int .i64 3, .slice (some ⟨g2, 0, none⟩) 2 2]
  bT : Blk w gT 29 #[.int .i64 2, .slice (some ⟨g1, 0, none⟩) 1 1, .int .i64 1, .slice (some ⟨g0, 0, none⟩) 1 1, .int .i64 3, .slice (some ⟨g2, 0, none⟩) 2 2]
section
variable {w w' : World} {g0 g1 g2 gA gB gC gT : Nat}
theorem Aw.on (h : Aw w g0 g1 g2 gA gB gC gT) (hb : Below w.heap.size w w') : Aw w' g0 g1 g2 gA gB gC gT := ⟨h.b0.on hb, h.b1.on hb, h.b2.on hb, h.bA.on hb, h.bB.on hb, h.bC.on hb, h.bT.on hb⟩
theorem Aw.r0 (h : Aw w g0 g1 g2 gA gB gC gT) : Reads vi w (.slice (some ⟨g0, 0, none⟩) 1 1) [1] := reads_blk (xs := [1]) (by decide) h.b0 rfl
theorem Aw.r1 (h : Aw w g0 g1 g2 gA gB gC gT) : Reads vi w (.slice (some ⟨g1, 0, none⟩) 1 1) [2] := reads_blk (xs := [2]) (by decide) h.b1 rfl
theorem Aw.r2 (h : Aw w g0 g1 g2 gA gB gC gT) : Reads vi w (.slice (some ⟨g2, 0, none⟩) 2 2) [1, 2] := reads_blk (xs := [1, 2]) (by decide) h.b2 rfl
theorem Aw.eA (h : Aw w g0 g1 g2 gA gB gC gT) : EvAt w (.agg #[.int .i64 1, .slice (some ⟨g0, 0, none⟩) 1 1]) eA := ⟨_, rfl, h.r0⟩
theorem Aw.eB (h : Aw w g0 g1 g2 gA gB gC gT) : EvAt w (.agg #[.int .i64 2, .slice (some ⟨g1, 0, none⟩) 1 1]) eB := ⟨_, rfl, h.r1⟩
theorem Aw.eC (h : Aw w g0 g1 g2 gA gB gC gT) : EvAt w (.agg #[.int .i64 3, .slice (some ⟨g2, 0, none⟩) 2 2]) eC := ⟨_, rfl, h.r2⟩
theorem Aw.rT (h : Aw w g0 g1 g2 gA gB gC gT) : ReadsE w (.slice (some ⟨gT, 0, none⟩) 3 3) tX := readsE_blk (L := tX) (us := [.slice (some ⟨g1, 0, none⟩) 1 1, .slice (some ⟨g0, 0, none⟩) 1 1, .slice (some ⟨g2, 0, none⟩) 2 2]) rfl (by decide) h.bT rfl fun k hk => by
  match k, hk with
  | 0, _ => exact ⟨_, rfl, h.r1⟩
  | 1, _ => exact ⟨_, rfl, h.r0⟩
  | 2, _ => exact ⟨_, rfl, h.r2⟩
theorem Aw.rB (h : Aw w g0 g1 g2 gA gB gC gT) {g : Nat} (hB : Blk w g 29 #[.int .i64 2, .slice (some ⟨g1, 0, none⟩) 1 1]) : ReadsE w (.slice (some ⟨g, 0, none⟩) 1 1) [Proofs.Ytfdicndmebhmdaa.eB] := readsE_blk (L := [Proofs.Ytfdicndmebhmdaa.eB]) (us := [.slice (some ⟨g1, 0, none⟩) 1 1]) rfl (by decide) hB rfl fun k hk => by
  match k, hk with
  | 0, _ => exact ⟨_, rfl, h.r1⟩
theorem Aw.rC (h : Aw w g0 g1 g2 gA gB gC gT) {g : Nat} (hB : Blk w g 29 #[.int .i64 3, .slice (some ⟨g2, 0, none⟩) 2 2]) : ReadsE w (.slice (some ⟨g, 0, none⟩) 1 1) [Proofs.Ytfdicndmebhmdaa.eC] := readsE_blk (L := [Proofs.Ytfdicndmebhmdaa.eC]) (us := [.slice (some ⟨g2, 0, none⟩) 2 2]) rfl (by decide) hB rfl fun k hk => by
  match k, hk with
  | 0, _ => exact ⟨_, rfl, h.r2⟩
theorem Aw.rABC (h : Aw w g0 g1 g2 gA gB gC gT) {g : Nat} (hB : Blk w g 29 #[.int .i64 1, .slice (some ⟨g0, 0, none⟩) 1 1, .int .i64 2, .slice (some ⟨g1, 0, none⟩) 1 1, .int .i64 3, .slice (some ⟨g2, 0, none⟩) 2 2]) : ReadsE w (.slice (some ⟨g, 0, none⟩) 3 3) [Proofs.Ytfdicndmebhmdaa.eA, Proofs.Ytfdicndmebhmdaa.eB, Proofs.Ytfdicndmebhmdaa.eC] := readsE_blk (L := [Proofs.Ytfdicndmebhmdaa.eA, Proofs.Ytfdicndmebhmdaa.eB, Proofs.Ytfdicndmebhmdaa.eC]) (us := [.slice (some ⟨g0, 0, none⟩) 1 1, .slice (some ⟨g1, 0, none⟩) 1 1, .slice (some ⟨g2, 0, none⟩) 2 2]) rfl (by decide) hB rfl fun k hk => by
  match k, hk with
  | 0, _ => exact ⟨_, rfl, h.r0⟩
  | 1, _ => exact ⟨_, rfl, h.r1⟩
  | 2, _ => exact ⟨_, rfl, h.r2⟩
theorem Aw.rACB (h : Aw w g0 g1 g2 gA gB gC gT) {g : Nat} (hB : Blk w g 29 #[.int .i64 1, .slice (some ⟨g0, 0, none⟩) 1 1, .int .i64 3, .slice (some ⟨g2, 0, none⟩) 2 2, .int .i64 2, .slice (some ⟨g1, 0, none⟩) 1 1]) : ReadsE w (.slice (some ⟨g, 0, none⟩) 3 3) [Proofs.Ytfdicndmebhmdaa.eA, Proofs.Ytfdicndmebhmdaa.eC, Proofs.Ytfdicndmebhmdaa.eB] := readsE_blk (L := [Proofs.Ytfdicndmebhmdaa.eA, Proofs.Ytfdicndmebhmdaa.eC, Proofs.Ytfdicndmebhmdaa.eB]) (us := [.slice (some ⟨g0, 0, none⟩) 1 1, .slice (some ⟨g2, 0, none⟩) 2 2, .slice (some ⟨g1, 0, none⟩) 1 1]) rfl (by decide) hB rfl fun k hk => by
  match k, hk with
  | 0, _ => exact ⟨_, rfl, h.r0⟩
  | 1, _ => exact ⟨_, rfl, h.r2⟩
  | 2, _ => exact ⟨_, rfl, h.r1⟩
end
theorem small_ex {L : List Ev} (h : (L.length ≤ 100 ∧ L.all (fun e => decide (e.2.length ≤ 1000)) = true)) : SmallT L := ⟨h.1, fun e he => of_decide_eq_true (List.all_eq_true.1 h.2 e he)⟩
theorem row_at {w : World} {B s n c : Nat} {e : TypeId} {a : Option Addr} {xs : List Value} (h : w.ownsRow B e s (.slice a n c) n xs) (h0 : 0 < n) : ∃ g, a = some ⟨g, 0, none⟩ ∧ g < w.heap.size ∧ ∀ wq, Below w.heap.size w wq → ∀ (l : Nat) (u : Value), xs[l]? = some u → wq.cell? ⟨g, l, none⟩ = some u := by
  rcases h.2 with ⟨_, e⟩ | ⟨g, cap, cur, hv, hb, hg, hn, hm, hs, ht⟩
  · omega
  · injection hv with e1
    have hlt := h.lt g (by rw [e1]; rfl)
    refine ⟨g, e1, hlt.2, fun wq hq l u hu => ?_⟩
    have hB : Blk w g e cur := hg
    rw [← ht, List.getElem?_take] at hu
    split at hu
    · exact ((hB.on hq).cell l).trans (by simpa using hu)
    · cases hu
theorem lay_two {B : Nat} {w : World} {a : Option Addr} {n c : Nat} {LL : Nat → List Int} (h : OutL B w (.slice a n c) 2 LL) (h0 : LL 0 = [1, 2]) (h1 : LL 1 = [3]) : ∃ g b0 c0 a1 c1, a = some ⟨g, 0, none⟩ ∧ n = 2 ∧ ∀ wq, Below w.heap.size w wq → wq.cell? ⟨g, 0, none⟩ = some (.slice (some ⟨b0, 0, none⟩) 2 c0) ∧ wq.cell? ⟨g, 1, none⟩ = some (.slice a1 1 c1) ∧ wq.cell? ⟨b0, 1, none⟩ = some (.int .i64 2) := by
  obtain ⟨f, h2, h3, -⟩ := h
  obtain ⟨a', c', e⟩ := row_slc h2
  injection e with e1 e2 e3
  subst e1 e2 e3
  obtain ⟨g, rfl, -, k1⟩ := row_at h2 (by decide)
  have k2 := h3 0 (by decide)
  have k3 := h3 1 (by decide)
  rw [h0] at k2
  rw [h1] at k3
  obtain ⟨a0, c0, e0⟩ := row_slc k2
  obtain ⟨a1, c1, e1⟩ := row_slc k3
  rw [e0] at k2
  obtain ⟨b0, rfl, -, k4⟩ := row_at k2 (by decide)
  refine ⟨g, b0, c0, a1, c1, rfl, rfl, fun wq hq => ⟨?_, ?_, ?_⟩⟩
  · rw [k1 wq hq 0 _ rfl, e0]; rfl
  · rw [k1 wq hq 1 _ rfl, e1]; rfl
  · exact k4 wq hq 1 _ rfl
theorem aw_start (W : World) : Aw (World.alloc (World.alloc (World.alloc (World.alloc (World.alloc (World.alloc (World.alloc W (.cells #[.int .i64 1] 3)) (.cells #[.int .i64 2] 3)) (.cells #[.int .i64 1, .int .i64 2] 3)) (.cells #[.int .i64 1, .slice (some ⟨W.heap.size, 0, none⟩) 1 1] 29)) (.cells #[.int .i64 2, .slice (some ⟨W.heap.size + 1, 0, none⟩) 1 1] 29)) (.cells #[.int .i64 3, .slice (some ⟨W.heap.size + 1 + 1, 0, none⟩) 2 2] 29)) (.cells #[.int .i64 2, .slice (some ⟨W.heap.size + 1, 0, none⟩) 1 1, .int .i64 1, .slice (some ⟨W.heap.size, 0, none⟩) 1 1, .int .i64 3, .slice (some ⟨W.heap.size + 1 + 1, 0, none⟩) 2 2] 29)) (W.heap.size) (W.heap.size + 1) (W.heap.size + 1 + 1) (W.heap.size + 1 + 1 + 1) (W.heap.size + 1 + 1 + 1 + 1) (W.heap.size + 1 + 1 + 1 + 1 + 1) (W.heap.size + 1 + 1 + 1 + 1 + 1 + 1) ∧ Below W.heap.size W (World.alloc (World.alloc (World.alloc (World.alloc (World.alloc (World.alloc (World.alloc W (.cells #[.int .i64 1] 3)) (.cells #[.int .i64 2] 3)) (.cells #[.int .i64 1, .int .i64 2] 3)) (.cells #[.int .i64 1, .slice (some ⟨W.heap.size, 0, none⟩) 1 1] 29)) (.cells #[.int .i64 2, .slice (some ⟨W.heap.size + 1, 0, none⟩) 1 1] 29)) (.cells #[.int .i64 3, .slice (some ⟨W.heap.size + 1 + 1, 0, none⟩) 2 2] 29)) (.cells #[.int .i64 2, .slice (some ⟨W.heap.size + 1, 0, none⟩) 1 1, .int .i64 1, .slice (some ⟨W.heap.size, 0, none⟩) 1 1, .int .i64 3, .slice (some ⟨W.heap.size + 1 + 1, 0, none⟩) 2 2] 29)) := by
  refine ⟨⟨?_, ?_, ?_, ?_, ?_, ?_, ?_⟩, ?_⟩
  · have h0 := ((((((Blk.new W 3 #[.int .i64 1]).alloc (.cells #[.int .i64 2] 3)).alloc (.cells #[.int .i64 1, .int .i64 2] 3)).alloc (.cells #[.int .i64 1, .slice (some ⟨W.heap.size, 0, none⟩) 1 1] 29)).alloc (.cells #[.int .i64 2, .slice (some ⟨W.heap.size + 1, 0, none⟩) 1 1] 29)).alloc (.cells #[.int .i64 3, .slice (some ⟨W.heap.size + 1 + 1, 0, none⟩) 2 2] 29)).alloc (.cells #[.int .i64 2, .slice (some ⟨W.heap.size + 1, 0, none⟩) 1 1, .int .i64 1, .slice (some ⟨W.heap.size, 0, none⟩) 1 1, .int .i64 3, .slice (some ⟨W.heap.size + 1 + 1, 0, none⟩) 2 2] 29)
    simpa only [World.size_alloc] using h0
  · have h0 := (((((Blk.new (World.alloc W (.cells #[.int .i64 1] 3)) 3 #[.int .i64 2]).alloc (.cells #[.int .i64 1, .int .i64 2] 3)).alloc (.cells #[.int .i64 1, .slice (some ⟨W.heap.size, 0, none⟩) 1 1] 29)).alloc (.cells #[.int .i64 2, .slice (some ⟨W.heap.size + 1, 0, none⟩) 1 1] 29)).alloc (.cells #[.int .i64 3, .slice (some ⟨W.heap.size + 1 + 1, 0, none⟩) 2 2] 29)).alloc (.cells #[.int .i64 2, .slice (some ⟨W.heap.size + 1, 0, none⟩) 1 1, .int .i64 1, .slice (some ⟨W.heap.size, 0, none⟩) 1 1, .int .i64 3, .slice (some ⟨W.heap.size + 1 + 1, 0, none⟩) 2 2] 29)
    simpa only [World.size_alloc] using h0
  · have h0 := ((((Blk.new (World.alloc (World.alloc W (.cells #[.int .i64 1] 3)) (.cells #[.int .i64 2] 3)) 3 #[.int .i64 1, .int .i64 2]).alloc (.cells #[.int .i64 1, .slice (some ⟨W.heap.size, 0, none⟩) 1 1] 29)).alloc (.cells #[.int .i64 2, .slice (some ⟨W.heap.size + 1, 0, none⟩) 1 1] 29)).alloc (.cells #[.int .i64 3, .slice (some ⟨W.heap.size + 1 + 1, 0, none⟩) 2 2] 29)).alloc (.cells #[.int .i64 2, .slice (some ⟨W.heap.size + 1, 0, none⟩) 1 1, .int .i64 1, .slice (some ⟨W.heap.size, 0, none⟩) 1 1, .int .i64 3, .slice (some ⟨W.heap.size + 1 + 1, 0, none⟩) 2 2] 29)
    simpa only [World.size_alloc] using h0
  · have h0 := (((Blk.new (World.alloc (World.alloc (World.alloc W (.cells #[.int .i64 1] 3)) (.cells #[.int .i64 2] 3)) (.cells #[.int .i64 1, .int .i64 2] 3)) 29 #[.int .i64 1, .slice (some ⟨W.heap.size, 0, none⟩) 1 1]).alloc (.cells #[.int .i64 2, .slice (some ⟨W.heap.size + 1, 0, none⟩) 1 1] 29)).alloc (.cells #[.int .i64 3, .slice (some ⟨W.heap.size + 1 + 1, 0, none⟩) 2 2] 29)).alloc (.cells #[.int .i64 2, .slice (some ⟨W.heap.size + 1, 0, none⟩) 1 1, .int .i64 1, .slice (some ⟨W.heap.size, 0, none⟩) 1 1, .int .i64 3, .slice (some ⟨W.heap.size + 1 + 1, 0, none⟩) 2 2] 29)
    simpa only [World.size_alloc] using h0
  · have h0 := ((Blk.new (World.alloc (World.alloc (World.alloc (World.alloc W (.cells #[.int .i64 1] 3)) (.cells #[.int .i64 2] 3)) (.cells #[.int .i64 1, .int .i64 2] 3)) (.cells #[.int .i64 1, .slice (some ⟨W.heap.size, 0, none⟩) 1 1] 29)) 29 #[.int .i64 2, .slice (some ⟨W.heap.size + 1, 0, none⟩) 1 1]).alloc (.cells #[.int .i64 3, .slice (some ⟨W.heap.size + 1 + 1, 0, none⟩) 2 2] 29)).alloc (.cells #[.int .i64 2, .slice (some ⟨W.heap.size + 1, 0, none⟩) 1 1, .int .i64 1, .slice (some ⟨W.heap.size, 0, none⟩) 1 1, .int .i64 3, .slice (some ⟨W.heap.size + 1 + 1, 0, none⟩) 2 2] 29)
    simpa only [World.size_alloc] using h0
  · have h0 := (Blk.new (World.alloc (World.alloc (World.alloc (World.alloc (World.alloc W (.cells #[.int .i64 1] 3)) (.cells #[.int .i64 2] 3)) (.cells #[.int .i64 1, .int .i64 2] 3)) (.cells #[.int .i64 1, .slice (some ⟨W.heap.size, 0, none⟩) 1 1] 29)) (.cells #[.int .i64 2, .slice (some ⟨W.heap.size + 1, 0, none⟩) 1 1] 29)) 29 #[.int .i64 3, .slice (some ⟨W.heap.size + 1 + 1, 0, none⟩) 2 2]).alloc (.cells #[.int .i64 2, .slice (some ⟨W.heap.size + 1, 0, none⟩) 1 1, .int .i64 1, .slice (some ⟨W.heap.size, 0, none⟩) 1 1, .int .i64 3, .slice (some ⟨W.heap.size + 1 + 1, 0, none⟩) 2 2] 29)
    simpa only [World.size_alloc] using h0
  · have h0 := Blk.new (World.alloc (World.alloc (World.alloc (World.alloc (World.alloc (World.alloc W (.cells #[.int .i64 1] 3)) (.cells #[.int .i64 2] 3)) (.cells #[.int .i64 1, .int .i64 2] 3)) (.cells #[.int .i64 1, .slice (some ⟨W.heap.size, 0, none⟩) 1 1] 29)) (.cells #[.int .i64 2, .slice (some ⟨W.heap.size + 1, 0, none⟩) 1 1] 29)) (.cells #[.int .i64 3, .slice (some ⟨W.heap.size + 1 + 1, 0, none⟩) 2 2] 29)) 29 #[.int .i64 2, .slice (some ⟨W.heap.size + 1, 0, none⟩) 1 1, .int .i64 1, .slice (some ⟨W.heap.size, 0, none⟩) 1 1, .int .i64 3, .slice (some ⟨W.heap.size + 1 + 1, 0, none⟩) 2 2]
    simpa only [World.size_alloc] using h0
  · exact (((((((Below.refl _ _).alloc (Nat.le_refl _) _).alloc (by simp only [World.size_alloc]; omega) _).alloc (by simp only [World.size_alloc]; omega) _).alloc (by simp only [World.size_alloc]; omega) _).alloc (by simp only [World.size_alloc]; omega) _).alloc (by simp only [World.size_alloc]; omega) _).alloc (by simp only [World.size_alloc]; omega) _

set_option maxRecDepth 100000 in
set_option maxHeartbeats 16000000 in
theorem awake_any (W : World) : Calls Try.prog 11 #[] W (BoolMade W true) := by
  have HST := Lib.hid (aw_start W)
  go_enter Try.func11, Try.ntmps11
  go_upto_region 3 with fail
  generalize hw7 : World.alloc (World.alloc (World.alloc (World.alloc (World.alloc (World.alloc (World.alloc W _) _) _) _) _) _) _ = w7 at *
  clear hw7
  obtain ⟨ha7, kw7⟩ := HST.out
  have HA7 := Lib.hid ha7
  have KW7 := Lib.hid kw7
  clear ha7 kw7 HST
  generalize W.heap.size + 1 + 1 + 1 + 1 + 1 + 1 = gT at *
  generalize W.heap.size + 1 + 1 + 1 + 1 + 1 = gC at *
  generalize W.heap.size + 1 + 1 + 1 + 1 = gB at *
  generalize W.heap.size + 1 + 1 + 1 = gA at *
  generalize W.heap.size + 1 + 1 = g2 at *
  generalize W.heap.size + 1 = g1 at *
  generalize hg0 : W.heap.size = g0 at HA7 ⊢
  clear hg0
  have HC := Lib.hid (normal_any (.slice (some ⟨gT, 0, none⟩) 3 3) tX w7 HA7.out.rT (small_ex (by decide)))
  go_wp2_with fail
  refine HC.out.mono ?_
  rintro e w8 ⟨vN, rfl, hN⟩
  have HA8 := Lib.hid (HA7.out.on hN.1.2.2)
  have KW8 := Lib.hid (KW7.out.trans (hN.1.2.2.mono KW7.out.size))
  have HN := Lib.hid (And.intro hN.1.2.2 (NormMade.reads hN))
  rw [ex_norm] at HN
  obtain ⟨na, nc, rfl, -⟩ := HN.out.2
  clear hN
  clear HC
  have HC := Lib.hid (layers_any (.slice (some ⟨gT, 0, none⟩) 3 3) tX w8 HA8.out.rT (by decide))
  go_wp2_with fail
  refine HC.out.mono ?_
  rintro e w9 ⟨vL, BL, LL, rfl, hL, hLL, hbL⟩
  have HA9 := Lib.hid (HA8.out.on hbL)
  have KW9 := Lib.hid (KW8.out.trans (hbL.mono KW8.out.size))
  rw [ex_lay] at hL hLL
  obtain ⟨fl, hfl, -⟩ := id hL
  obtain ⟨la, lc, rfl⟩ := row_slc hfl
  have HL := Lib.hid (lay_two hL (hLL 0 (by decide)) (hLL 1 (by decide)))
  have HBL := Lib.hid hbL
  clear hLL hbL hfl hL
  clear HC
  have HC := Lib.hid (before_any (.slice (some ⟨gT, 0, none⟩) 3 3) tX w9 HA9.out.rT (by decide))
  go_wp2_with fail
  refine HC.out.mono ?_
  rintro e w10 ⟨vP, rfl, hP, hbP⟩
  have HA10 := Lib.hid (HA9.out.on hbP)
  have KW10 := Lib.hid (KW9.out.trans (hbP.mono KW9.out.size))
  rw [ex_bef] at hP
  obtain ⟨pa, pc, rfl⟩ := row_slc hP
  have HP := Lib.hid (row_at hP (by decide))
  have HBP := Lib.hid hbP
  clear hP hbP
  clear HC
  have HC := Lib.hid (indep_any (.slice (some ⟨gT, 0, none⟩) 3 3) tX w10 HA10.out.rT (by decide))
  go_wp2_with fail
  refine HC.out.mono ?_
  rintro e w11 ⟨vI, rfl, hI, hbI⟩
  have HA11 := Lib.hid (HA10.out.on hbI)
  have KW11 := Lib.hid (KW10.out.trans (hbI.mono KW10.out.size))
  rw [ex_ind] at hI
  obtain ⟨ia, ic, rfl⟩ := row_slc hI
  have HI := Lib.hid (row_at hI (by decide))
  have HBI := Lib.hid hbI
  clear hI hbI
  clear HC
  obtain ⟨nb, noff, ncap, ns0, nc0, hv, hn0, -⟩ := HN.out.2.at2 (k := 0) (by decide)
  injection hv with e1 e2 e3
  subst e1
  obtain ⟨nb', noff', ncap', ns1, nc1, hv, hn2, -⟩ := HN.out.2.at2 (k := 2) (by decide)
  injection hv with e1 e2' e3'
  injection e1 with e1
  injection e1 with e1 e4
  subst e1 e4
  obtain ⟨lg, lb, lc0, la1, lc1, rfl, -, hl⟩ := HL.out
  obtain ⟨pg, rfl, pl, hp⟩ := HP.out
  obtain ⟨ig, rfl, il, hi⟩ := HI.out
  have hb9 := HBL.out.trans ((HBP.out.trans (HBI.out.mono HBP.out.size)).mono HBL.out.size)
  have hb10 := HBP.out.trans (HBI.out.mono HBP.out.size)
  have f0 : w11.cell? ⟨nb, noff + 0 * 2, none⟩ = some (.int .i64 1) := (hn0 w11 hb9).1
  have f1 : w11.cell? ⟨nb, noff + 2 * 2, none⟩ = some (.int .i64 3) := (hn2 w11 hb9).1
  obtain ⟨f2, f3, f4⟩ := hl w11 hb10
  have f5 : ∀ wq, Below w11.heap.size w11 wq → wq.cell? ⟨pg, 2, none⟩ = some (.int .i64 1) ∧ wq.cell? ⟨pg, 3, none⟩ = some (.int .i64 2) ∧ wq.cell? ⟨ig, 0, none⟩ = some (.int .i64 0) := fun wq hq => ⟨hp wq (HBI.out.trans (hq.mono HBI.out.size)) 2 _ rfl, hp wq (HBI.out.trans (hq.mono HBI.out.size)) 3 _ rfl, hi wq hq 0 _ rfl⟩
  have HF5 := Lib.hid f5
  clear HN HL HP HI HBL HBP HBI hb9 hb10 hn0 hn2 hl hp hi e2 e2' e3 e3' f5 pl il
  simp only [Nat.zero_mul, Nat.add_zero, Nat.reduceMul] at f0 f1
  have HC := Lib.hid (count_any (.slice (some ⟨gT, 0, none⟩) 3 3) tX 9 w11 HA11.out.rT (by decide) (by decide))
  go_wp2_with fail
  refine HC.out.mono ?_
  rintro e w12 ⟨rfl, hb⟩
  have HA12 := Lib.hid (HA11.out.on hb)
  have KW12 := Lib.hid (KW11.out.trans (hb.mono KW11.out.size))
  rw [ex_cnt]
  have HF := Lib.hid (fun wq (hq : Below w12.heap.size w12 wq) => HF5.out wq (hb.trans (hq.mono hb.size)))
  clear HC hb HF5 f0 f1 f2 f3 f4
  have HC := Lib.hid (all_any (.slice (some ⟨gT, 0, none⟩) 3 3) tX 9 w12 HA12.out.rT (small_ex (by decide)) (by decide))
  go_wp2_with fail
  refine HC.out.mono ?_
  rintro e w13 ⟨vA, FA, BA, rfl, hA, hb⟩
  have HA13 := Lib.hid (HA12.out.on hb)
  have KW13 := Lib.hid (KW12.out.trans (hb.mono KW12.out.size))
  obtain ⟨ua, hA, -⟩ := hA
  obtain ⟨aa, ac, rfl⟩ := row_slc hA
  rw [ex_all]
  obtain ⟨f0, f1, f2⟩ := HF.out w13 hb
  have kA0 := (HA13.out.bA.cell 0).trans rfl
  have kA1 := (HA13.out.bA.cell 1).trans rfl
  have kC0 := (HA13.out.bC.cell 0).trans rfl
  have kC1 := (HA13.out.bC.cell 1).trans rfl
  clear HC hb HF hA
  have HC := Lib.hid (dep_any (.agg #[.int .i64 1, .slice (some ⟨g0, 0, none⟩) 1 1]) (.agg #[.int .i64 3, .slice (some ⟨g2, 0, none⟩) 2 2]) eA eC w13 HA13.out.eA HA13.out.eC)
  go_wp2_with fail
  refine HC.out.mono ?_
  rintro e w14 ⟨rfl, hb⟩
  have HA14 := Lib.hid (HA13.out.on hb)
  have KW14 := Lib.hid (KW13.out.trans (hb.mono KW13.out.size))
  rw [show depE eA eC = true by decide]
  have kA0 := (HA14.out.bA.cell 0).trans rfl
  have kA1 := (HA14.out.bA.cell 1).trans rfl
  have kB0 := (HA14.out.bB.cell 0).trans rfl
  have kB1 := (HA14.out.bB.cell 1).trans rfl
  clear HC hb f0 f1 f2
  have HC := Lib.hid (dep_any (.agg #[.int .i64 1, .slice (some ⟨g0, 0, none⟩) 1 1]) (.agg #[.int .i64 2, .slice (some ⟨g1, 0, none⟩) 1 1]) eA eB w14 HA14.out.eA HA14.out.eB)
  go_wp2_with fail
  refine HC.out.mono ?_
  rintro e w15 ⟨rfl, hb⟩
  have HA15 := Lib.hid (HA14.out.on hb)
  have KW15 := Lib.hid (KW14.out.trans (hb.mono KW14.out.size))
  rw [show depE eA eB = false by decide]
  have kB0 := (HA15.out.bB.cell 0).trans rfl
  have kB1 := (HA15.out.bB.cell 1).trans rfl
  clear HC hb
  have hbA : Below w15.heap.size w15 (World.alloc w15 (.cells #[.int .i64 2, .slice (some ⟨g1, 0, none⟩) 1 1] 29)) := (Below.refl _ _).alloc (Nat.le_refl _) _
  have haA := HA15.out.on hbA
  have hcA := Blk.new w15 29 #[.int .i64 2, .slice (some ⟨g1, 0, none⟩) 1 1]
  have HC := Lib.hid (prefix_any (.slice (some ⟨w15.heap.size, 0, none⟩) 1 1) (.slice (some ⟨gT, 0, none⟩) 3 3) [eB] tX (World.alloc w15 (.cells #[.int .i64 2, .slice (some ⟨g1, 0, none⟩) 1 1] 29)) (haA.rB hcA) haA.rT (by decide) (by decide))
  go_wp2_with fail
  refine HC.out.mono ?_
  rintro e w16 ⟨rfl, hb⟩
  have HA16 := Lib.hid (HA15.out.on (hbA.trans (hb.mono hbA.size)))
  have KW16 := Lib.hid (KW15.out.trans ((hbA.trans (hb.mono hbA.size)).mono KW15.out.size))
  rw [ex_p1]
  have kC0 := (HA16.out.bC.cell 0).trans rfl
  have kC1 := (HA16.out.bC.cell 1).trans rfl
  clear HC hb hbA haA hcA
  have hbA : Below w16.heap.size w16 (World.alloc w16 (.cells #[.int .i64 3, .slice (some ⟨g2, 0, none⟩) 2 2] 29)) := (Below.refl _ _).alloc (Nat.le_refl _) _
  have haA := HA16.out.on hbA
  have hcA := Blk.new w16 29 #[.int .i64 3, .slice (some ⟨g2, 0, none⟩) 2 2]
  have HC := Lib.hid (prefix_any (.slice (some ⟨w16.heap.size, 0, none⟩) 1 1) (.slice (some ⟨gT, 0, none⟩) 3 3) [eC] tX (World.alloc w16 (.cells #[.int .i64 3, .slice (some ⟨g2, 0, none⟩) 2 2] 29)) (haA.rC hcA) haA.rT (by decide) (by decide))
  go_wp2_with fail
  refine HC.out.mono ?_
  rintro e w17 ⟨rfl, hb⟩
  have HA17 := Lib.hid (HA16.out.on (hbA.trans (hb.mono hbA.size)))
  have KW17 := Lib.hid (KW16.out.trans ((hbA.trans (hb.mono hbA.size)).mono KW16.out.size))
  rw [ex_p2]
  have kA0 := (HA17.out.bA.cell 0).trans rfl
  have kA1 := (HA17.out.bA.cell 1).trans rfl
  have kB0 := (HA17.out.bB.cell 0).trans rfl
  have kB1 := (HA17.out.bB.cell 1).trans rfl
  have kC0 := (HA17.out.bC.cell 0).trans rfl
  have kC1 := (HA17.out.bC.cell 1).trans rfl
  clear HC hb hbA haA hcA
  have hbA : Below w17.heap.size w17 (World.alloc w17 (.cells #[.int .i64 1, .slice (some ⟨g0, 0, none⟩) 1 1, .int .i64 2, .slice (some ⟨g1, 0, none⟩) 1 1, .int .i64 3, .slice (some ⟨g2, 0, none⟩) 2 2] 29)) := (Below.refl _ _).alloc (Nat.le_refl _) _
  have haA := HA17.out.on hbA
  have hcA := Blk.new w17 29 #[.int .i64 1, .slice (some ⟨g0, 0, none⟩) 1 1, .int .i64 2, .slice (some ⟨g1, 0, none⟩) 1 1, .int .i64 3, .slice (some ⟨g2, 0, none⟩) 2 2]
  have HC := Lib.hid (equiv_any (.slice (some ⟨gT, 0, none⟩) 3 3) (.slice (some ⟨w17.heap.size, 0, none⟩) 3 3) tX [eA, eB, eC] (World.alloc w17 (.cells #[.int .i64 1, .slice (some ⟨g0, 0, none⟩) 1 1, .int .i64 2, .slice (some ⟨g1, 0, none⟩) 1 1, .int .i64 3, .slice (some ⟨g2, 0, none⟩) 2 2] 29)) haA.rT (haA.rABC hcA) (small_ex (by decide)) (small_ex (by decide)))
  go_wp2_with fail
  refine HC.out.mono ?_
  rintro e w18 ⟨rfl, hb⟩
  have HA18 := Lib.hid (HA17.out.on (hbA.trans (hb.mono hbA.size)))
  have KW18 := Lib.hid (KW17.out.trans ((hbA.trans (hb.mono hbA.size)).mono KW17.out.size))
  rw [ex_norm, ex_n1, decide_eq_true rfl]
  have kA0 := (HA18.out.bA.cell 0).trans rfl
  have kA1 := (HA18.out.bA.cell 1).trans rfl
  have kC0 := (HA18.out.bC.cell 0).trans rfl
  have kC1 := (HA18.out.bC.cell 1).trans rfl
  have kB0 := (HA18.out.bB.cell 0).trans rfl
  have kB1 := (HA18.out.bB.cell 1).trans rfl
  clear HC hb hbA haA hcA
  have hbA : Below w18.heap.size w18 (World.alloc w18 (.cells #[.int .i64 1, .slice (some ⟨g0, 0, none⟩) 1 1, .int .i64 3, .slice (some ⟨g2, 0, none⟩) 2 2, .int .i64 2, .slice (some ⟨g1, 0, none⟩) 1 1] 29)) := (Below.refl _ _).alloc (Nat.le_refl _) _
  have haA := HA18.out.on hbA
  have hcA := Blk.new w18 29 #[.int .i64 1, .slice (some ⟨g0, 0, none⟩) 1 1, .int .i64 3, .slice (some ⟨g2, 0, none⟩) 2 2, .int .i64 2, .slice (some ⟨g1, 0, none⟩) 1 1]
  have HC := Lib.hid (equiv_any (.slice (some ⟨gT, 0, none⟩) 3 3) (.slice (some ⟨w18.heap.size, 0, none⟩) 3 3) tX [eA, eC, eB] (World.alloc w18 (.cells #[.int .i64 1, .slice (some ⟨g0, 0, none⟩) 1 1, .int .i64 3, .slice (some ⟨g2, 0, none⟩) 2 2, .int .i64 2, .slice (some ⟨g1, 0, none⟩) 1 1] 29)) haA.rT (haA.rACB hcA) (small_ex (by decide)) (small_ex (by decide)))
  go_wp2_with fail
  refine HC.out.mono ?_
  rintro e w19 ⟨rfl, hb⟩
  have HA19 := Lib.hid (HA18.out.on (hbA.trans (hb.mono hbA.size)))
  have KW19 := Lib.hid (KW18.out.trans ((hbA.trans (hb.mono hbA.size)).mono KW18.out.size))
  rw [ex_norm, ex_n2, decide_eq_false (by decide)]
  clear HC hb hbA haA hcA
  go_wp2_with fail
  refine ⟨rfl, .bool true, (results_tmp rfl _ _ _).trans rfl, rfl, KW19.out⟩
end Go.Proofs.Ytfdicndmebhmdaa
