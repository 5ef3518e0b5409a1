/-
  Chapter 28: the program's network and the reference's side by side; each of their calls.
  Chapter 28: the law's step, kinds 1, 4, 6 and no kind.
  Chapter 28: the law's step, kinds 2 and 7.
  Chapter 28: the law's step, kinds 3, 5, 8.
  Chapter 28: the law's step for any act, and its alike.
-/
import Derived.Test.YtmcdmcnbnnfhnaaYr
import Derived.Test.YtmcdmcnbnnfhnaaSj
namespace Go.Proofs.Ytmcdmcnbnnfhnaa
open Go.RowKit
set_option maxRecDepth 100000

/-- Both networks in memory, apart from each other. B: what came in lies below. -/
structure Two (B : Nat) (P R : Nat → Prop) (n u b : Nat) (gv nv mv rgv : Value) (s : NetS) (r : RefS) (w : World) : Prop where
  net : NetAt P n b gv s w
  ref : RefAt B R u nv mv rgv r w
  pb : ∀ k, P k → B ≤ k ∧ k < w.heap.size
  rl : ∀ k, R k → k < w.heap.size
  dj : ∀ k, P k → ¬ R k
section
variable {B n u b : Nat} {P R : Nat → Prop} {gv gv' nv nv' mv mv' rgv rgv' : Value} {s s' : NetS} {r r' : RefS} {w w' : World}
theorem Two.on (h : Two B P R n u b gv nv mv rgv s r w) (hb : Below w.heap.size w w') : Two B P R n u b gv nv mv rgv s r w' :=
  ⟨h.net.on hb, h.ref.on hb, fun k hk => ⟨(h.pb k hk).1, Nat.lt_of_lt_of_le (h.pb k hk).2 hb.size⟩, fun k hk => Nat.lt_of_lt_of_le (h.rl k hk) hb.size, h.dj⟩
theorem Two.keep (h : Two B P R n u b gv nv mv rgv s r w) (hs : w.heap.size ≤ w'.heap.size) (hk : ∀ k, k < B ∨ P k ∨ R k → k < w.heap.size → w'.heap[k]? = w.heap[k]?) : Two B P R n u b gv nv mv rgv s r w' :=
  ⟨h.net.keep hs fun k hp hlt => hk k (.inr (.inl hp)) hlt, h.ref.keep hs fun k hp hlt => hk k (hp.imp id .inr) hlt, fun k hk => ⟨(h.pb k hk).1, Nat.lt_of_lt_of_le (h.pb k hk).2 hs⟩, fun k hk => Nat.lt_of_lt_of_le (h.rl k hk) hs, h.dj⟩
/-- The program's network before one of its calls: it may take new blocks. -/
theorem Two.pre (h : Two B P R n u b gv nv mv rgv s r w) : NetAt (fun k => P k ∨ w.heap.size ≤ k) n b gv s w := h.net.mono fun _ hk _ => .inl hk
theorem Two.rpre (h : Two B P R n u b gv nv mv rgv s r w) : RefAt B (fun k => R k ∨ w.heap.size ≤ k) u nv mv rgv r w := h.ref.mono (fun _ hk _ => .inl hk) fun k hk => hk.elim (h.ref.parts.rb k) fun hk => Nat.le_trans h.ref.parts.bw hk
/-- A call of the program's network. -/
theorem Two.prog (h : Two B P R n u b gv nv mv rgv s r w) (hn : NetAt (fun k => P k ∨ w.heap.size ≤ k) n b gv' s' w') (hk : Kept (fun k => k = n ∨ k = b) w w') : Two B (fun k => (P k ∨ w.heap.size ≤ k) ∧ k < w'.heap.size) R n u b gv' nv mv rgv s' r w' := by
  refine ⟨hn.mono fun k a hlt => ⟨a, hlt⟩, h.ref.kept hk fun k e q => ?_, fun k a => ⟨?_, a.2⟩, fun k a => Nat.lt_of_lt_of_le (h.rl k a) hk.size, fun k a q => ?_⟩
  · have hp : P k := by rcases e with rfl | rfl; exact h.net.pn; exact h.net.pb
    rcases q with q | q
    · have := (h.pb k hp).1; omega
    · exact h.dj k hp q
  · rcases a.1 with a | a
    · exact (h.pb k a).1
    · exact Nat.le_trans h.ref.parts.bw a
  · rcases a.1 with a | a
    · exact h.dj k a q
    · have := h.rl k q; omega
/-- A call of the reference's. -/
theorem Two.refc (h : Two B P R n u b gv nv mv rgv s r w) (hn : RefAt B (fun k => R k ∨ w.heap.size ≤ k) u nv' mv' rgv' r' w') (hk : Kept (fun k => R k ∨ w.heap.size ≤ k) w w') : Two B P (fun k => (R k ∨ w.heap.size ≤ k) ∧ k < w'.heap.size) n u b gv nv' mv' rgv' s r' w' := by
  refine ⟨h.net.keep hk.size fun k hp hlt => hk.block k hlt fun e => ?_, hn.mono (fun k a hlt => ⟨a, hlt⟩) (fun k a => hn.parts.rb k a.1), fun k a => ⟨(h.pb k a).1, Nat.lt_of_lt_of_le (h.pb k a).2 hk.size⟩, fun k a => a.2, fun k a q => ?_⟩
  · rcases e with e | e
    · exact h.dj k hp e
    · omega
  · rcases q.1 with q | q
    · exact h.dj k a q
    · have := (h.pb k a).2; omega
end
/-- Both networks, some calls behind w0; S: the blocks that were theirs then. -/
def Run (B : Nat) (S : Nat → Prop) (w0 : World) (n u : Nat) (s : NetS) (r : RefS) (w : World) : Prop :=
  ∃ (P R : Nat → Prop) (b : Nat) (gv nv mv rgv : Value), Two B P R n u b gv nv mv rgv s r w ∧ (∀ k, P k ∨ R k → S k ∨ w0.heap.size ≤ k) ∧ Kept (fun k => S k ∨ w0.heap.size ≤ k) w0 w
section
variable {B n u : Nat} {S : Nat → Prop} {s : NetS} {r : RefS} {w0 w w' : World} {l : Int} {i : Nat}
theorem Run.on (h : Run B S w0 n u s r w) (hb : Below w.heap.size w w') : Run B S w0 n u s r w' := by
  obtain ⟨P, R, b, gv, nv, mv, rgv, h1, h2, h3⟩ := h
  exact ⟨P, R, b, gv, nv, mv, rgv, h1.on hb, h2, h3.trans (Kept.of hb)⟩
theorem Run.size (h : Run B S w0 n u s r w) : w0.heap.size ≤ w.heap.size := by obtain ⟨P, R, b, gv, nv, mv, rgv, h1, h2, h3⟩ := h; exact h3.size
theorem Run.kept (h : Run B S w0 n u s r w) : Kept S w0 w := by
  obtain ⟨P, R, b, gv, nv, mv, rgv, h1, h2, h3⟩ := h
  exact h3.mono fun k hlt hk => hk.elim id fun h => by omega
theorem Run.bw (h : Run B S w0 n u s r w) : B ≤ w.heap.size := by obtain ⟨P, R, b, gv, nv, mv, rgv, h1, h2, h3⟩ := h; exact h1.ref.parts.bw
/-- What came in is as it was. -/
theorem Run.low (h : Run B S w0 n u s r w) (hB : B ≤ w0.heap.size) (hS : ∀ k, S k → B ≤ k) : Below B w0 w :=
  h.kept.below hB fun k hk hs => by have := hS k hs; omega
/-- The bounds that the program's calls ask for. -/
structure BndS (s : NetS) : Prop where
  s0 : 0 ≤ s.last ∧ s.last < 4611686018427387904
  s1 : 0 ≤ s.sent ∧ s.sent < 4611686018427387904
  s2 : 0 ≤ s.twice ∧ s.twice < 4611686018427387904
  s3 : 0 ≤ s.taken ∧ s.taken < 4611686018427387904
  s4 : 0 ≤ s.gone ∧ s.gone < 4611686018427387904
  s5 : s.cnt < 1000000000
  free : s.ms (s.last + 1) = none
/-- The bounds that the reference's calls ask for. -/
structure BndR (r : RefS) : Prop where
  r0 : 0 ≤ r.last ∧ r.last < 4611686018427387904
  r1 : 0 ≤ r.d0 ∧ r.d0 < 4611686018427387904
  r2 : 0 ≤ r.d1 ∧ r.d1 < 4611686018427387904
  r3 : 0 ≤ r.d2 ∧ r.d2 < 4611686018427387904
  r4 : 0 ≤ r.d3 ∧ r.d3 < 4611686018427387904
  r5 : r.nums.length ≤ 2000000
  r6 : r.msgs.length = r.nums.length
theorem BndS.of (hv : InvS l s i) (hi : i ≤ 1048577) : BndS s := by
  have h1 := hv.l0; have h2 := hv.l1; have h3 := hv.a0; have h4 := hv.a1; have h5 := hv.b0; have h6 := hv.b1; have h7 := hv.c0; have h8 := hv.c1; have h9 := hv.d0; have h10 := hv.d1; have h11 := hv.cnt
  exact ⟨by omega, by omega, by omega, by omega, by omega, by omega, hv.free⟩
theorem BndR.of (hv : InvS l s i) (hm : MatchS s r) (hi : i ≤ 1048577) : BndR r := by
  have h1 := hv.l0; have h2 := hv.l1; have h3 := hv.a0; have h4 := hv.a1; have h5 := hv.b0; have h6 := hv.b1; have h7 := hv.c0; have h8 := hv.c1; have h9 := hv.d0; have h10 := hv.d1; have h11 := hv.cnt
  have g1 := hm.last; have g2 := hm.a; have g3 := hm.b; have g4 := hm.c; have g5 := hm.d; have g6 := hm.cnt
  exact ⟨by omega, by omega, by omega, by omega, by omega, by omega, hm.ml⟩
theorem cells_apart {cs : List Value} {ds : List DV} {b : Nat} (hm : CellsD (fun k => k < B) w cs ds) (h1 : B ≤ n) (h2 : B ≤ b) : CellsD (fun k => k ≠ n ∧ k ≠ b) w cs ds := hm.mono fun k hk _ => by omega
theorem Run.send (h : Run B S w0 n u s r w) (hb : BndS s) (m : MsgM) (cs : List Value) (hm : CellsD (fun k => k < B) w cs (msgD m)) : Calls Try.prog 11 #[.pointer (some ⟨n, 0, none⟩), .agg cs.toArray] w fun e w' => e = .returned (.tuple #[.int .i64 (sendR s m).1, .int .i64 (sendR s m).2.1]) ∧ Run B S w0 n u (sendR s m).2.2 r w' ∧ CellsD (fun k => k < B) w' cs (msgD m) := by
  obtain ⟨P, R, b, gv, nv, mv, rgv, h1, h2, h3⟩ := h
  refine (send_any m cs h1.pre (cells_apart hm (h1.pb n h1.net.pn).1 (h1.pb b h1.net.pb).1) (fun k hk => .inr hk) hb.s0.1 hb.s0.2 hb.s1.1 hb.s1.2 hb.s5 hb.free).mono ?_
  rintro e w' ⟨rfl, hn, hk⟩
  have hnb : ∀ k, k = n ∨ k = b → P k := fun k e => by rcases e with rfl | rfl; exact h1.net.pn; exact h1.net.pb
  refine ⟨rfl, ⟨_, _, b, gv, nv, mv, rgv, h1.prog hn hk, fun k q => ?_, h3.trans (hk.mono fun k _ e => h2 k (.inl (hnb k e)))⟩, cells_keep hm hk.size fun k hkB hlt => hk.block k hlt fun e => by have := (h1.pb k (hnb k e)).1; omega⟩
  rcases q with q | q
  · exact q.1.elim (fun q => h2 k (.inl q)) fun q => .inr (Nat.le_trans h3.size q)
  · exact h2 k (.inr q)
theorem Run.dup (h : Run B S w0 n u s r w) (hb : BndS s) (x : Int) (hx : I64 x) : Calls Try.prog 15 #[.pointer (some ⟨n, 0, none⟩), .int .i64 x] w fun e w' => e = .returned (.tuple #[.int .i64 (dupR s x).1, .int .i64 (dupR s x).2.1]) ∧ Run B S w0 n u (dupR s x).2.2 r w' := by
  obtain ⟨P, R, b, gv, nv, mv, rgv, h1, h2, h3⟩ := h
  refine (duplicate_any x hx h1.pre (fun k hk => .inr hk) hb.s0.1 hb.s0.2 hb.s2.1 hb.s2.2 hb.s5 hb.free).mono ?_
  rintro e w' ⟨rfl, hn, hk⟩
  have hnb : ∀ k, k = n ∨ k = b → P k := fun k e => by rcases e with rfl | rfl; exact h1.net.pn; exact h1.net.pb
  refine ⟨rfl, ⟨_, _, b, gv, nv, mv, rgv, h1.prog hn hk, fun k q => ?_, h3.trans (hk.mono fun k _ e => h2 k (.inl (hnb k e)))⟩⟩
  rcases q with q | q
  · exact q.1.elim (fun q => h2 k (.inl q)) fun q => .inr (Nat.le_trans h3.size q)
  · exact h2 k (.inr q)
theorem Run.drop (h : Run B S w0 n u s r w) (hb : BndS s) (x : Int) (hx : I64 x) : Calls Try.prog 17 #[.pointer (some ⟨n, 0, none⟩), .int .i64 x] w fun e w' => e = .returned (.int .i64 (dropR s x).1) ∧ Run B S w0 n u (dropR s x).2 r w' ∧ Below B w w' := by
  obtain ⟨P, R, b, gv, nv, mv, rgv, h1, h2, h3⟩ := h
  refine (drop_any x hx h1.pre hb.s4.1 hb.s4.2).mono ?_
  rintro e w' ⟨rfl, hn, hk⟩
  have hnb : ∀ k, k = n ∨ k = b → P k := fun k e => by rcases e with rfl | rfl; exact h1.net.pn; exact h1.net.pb
  refine ⟨rfl, ⟨_, _, b, gv, nv, mv, rgv, h1.prog hn hk, fun k q => ?_, h3.trans (hk.mono fun k _ e => h2 k (.inl (hnb k e)))⟩, hk.below h1.ref.parts.bw fun k hkB e => by have := (h1.pb k (hnb k e)).1; omega⟩
  rcases q with q | q
  · exact q.1.elim (fun q => h2 k (.inl q)) fun q => .inr (Nat.le_trans h3.size q)
  · exact h2 k (.inr q)
theorem Run.heal (h : Run B S w0 n u s r w) : Calls Try.prog 19 #[.pointer (some ⟨n, 0, none⟩)] w fun e w' => e = .returned (.tuple #[]) ∧ Run B S w0 n u { s with grp := none } r w' := by
  obtain ⟨P, R, b, gv, nv, mv, rgv, h1, h2, h3⟩ := h
  refine (heal_any h1.pre).mono ?_
  rintro e w' ⟨rfl, hn, hk0⟩
  have hk : Kept (fun k => k = n ∨ k = b) w w' := hk0.mono fun k _ e => .inl e
  have hnb : ∀ k, k = n ∨ k = b → P k := fun k e => by rcases e with rfl | rfl; exact h1.net.pn; exact h1.net.pb
  refine ⟨rfl, ⟨_, _, b, _, nv, mv, rgv, h1.prog hn hk, fun k q => ?_, h3.trans (hk.mono fun k _ e => h2 k (.inl (hnb k e)))⟩⟩
  rcases q with q | q
  · exact q.1.elim (fun q => h2 k (.inl q)) fun q => .inr (Nat.le_trans h3.size q)
  · exact h2 k (.inr q)
theorem Run.part (h : Run B S w0 n u s r w) (v : Value) (gs : List (List GI)) (hg : ReadsD (fun k => k < B) w v (groupsD gs)) : Calls Try.prog 18 #[.pointer (some ⟨n, 0, none⟩), v] w fun e w' => e = .returned (.int .i64 (partR s gs).1) ∧ Run B S w0 n u (partR s gs).2 r w' ∧ Below B w w' := by
  obtain ⟨P, R, b, gv, nv, mv, rgv, h1, h2, h3⟩ := h
  refine (partition_any v gs h1.pre hg (fun k hk => .inr hk)).mono ?_
  have hnb : ∀ k, k = n ∨ k = b → P k := fun k e => by rcases e with rfl | rfl; exact h1.net.pn; exact h1.net.pb
  have fin : ∀ {w' : World} {s' : NetS} {gv' : Value}, NetAt (fun k => P k ∨ w.heap.size ≤ k) n b gv' s' w' → Kept (fun k => k = n) w w' → Run B S w0 n u s' r w' ∧ Below B w w' := fun {w' s' gv'} hn hk0 => by
    have hk : Kept (fun k => k = n ∨ k = b) w w' := hk0.mono fun k _ e => .inl e
    refine ⟨⟨_, _, b, _, nv, mv, rgv, h1.prog hn hk, fun k q => ?_, h3.trans (hk.mono fun k _ e => h2 k (.inl (hnb k e)))⟩, hk.below h1.ref.parts.bw fun k hkB e => by have := (h1.pb k (hnb k e)).1; omega⟩
    rcases q with q | q
    · exact q.1.elim (fun q => h2 k (.inl q)) fun q => .inr (Nat.le_trans h3.size q)
    · exact h2 k (.inr q)
  rintro e w' (⟨hp, rfl, hn, hk⟩ | ⟨f, gv', hp, rfl, hn, hk⟩)
  · rw [show partR s gs = (1, s) by unfold partR; rw [hp]]
    exact ⟨rfl, fin hn hk⟩
  · rw [show partR s gs = (0, { s with grp := some f }) by unfold partR; rw [hp]]
    exact ⟨rfl, fin hn hk⟩
theorem Run.peek (h : Run B S w0 n u s r w) (x : Int) (hx : I64 x) : Calls Try.prog 13 #[.pointer (some ⟨n, 0, none⟩), .int .i64 x] w (PeekMade (peekR s x).1 (peekR s x).2 w) := by
  obtain ⟨P, R, b, gv, nv, mv, rgv, h1, h2, h3⟩ := h
  exact peek_any x hx h1.net
theorem Run.connd (h : Run B S w0 n u s r w) (a c : Int) : Calls Try.prog 42 #[.pointer (some ⟨n, 0, none⟩), .int .i64 a, .int .i64 c] w (ConnMade (connB s.grp a c) w) := by
  obtain ⟨P, R, b, gv, nv, mv, rgv, h1, h2, h3⟩ := h
  exact connected_any a c h1.net
theorem Run.pending (h : Run B S w0 n u s r w) (hb : BndS s) : Calls Try.prog 22 #[.pointer (some ⟨n, 0, none⟩)] w (PendMade s w) := by
  obtain ⟨P, R, b, gv, nv, mv, rgv, h1, h2, h3⟩ := h
  exact pending_any h1.net (by have := hb.s5; omega)
theorem Run.delv (h : Run B S w0 n u s r w) (hb : BndS s) : Calls Try.prog 27 #[.pointer (some ⟨n, 0, none⟩)] w (DelvMade s w) := by
  obtain ⟨P, R, b, gv, nv, mv, rgv, h1, h2, h3⟩ := h
  exact deliverable_any h1.net (by have := hb.s5; omega)
theorem Run.counts (h : Run B S w0 n u s r w) : Calls Try.prog 20 #[.pointer (some ⟨n, 0, none⟩)] w (CountsMade s w) := by
  obtain ⟨P, R, b, gv, nv, mv, rgv, h1, h2, h3⟩ := h
  exact counts_any h1.net
/-- A call of the reference's, in the world behind. -/
theorem Run.refc {P R : Nat → Prop} {b : Nat} {gv nv mv rgv nv' mv' rgv' : Value} {r' : RefS} (h1 : Two B P R n u b gv nv mv rgv s r w) (h2 : ∀ k, P k ∨ R k → S k ∨ w0.heap.size ≤ k) (h3 : Kept (fun k => S k ∨ w0.heap.size ≤ k) w0 w) (hn : RefAt B (fun k => R k ∨ w.heap.size ≤ k) u nv' mv' rgv' r' w') (hk : Kept (fun k => R k ∨ w.heap.size ≤ k) w w') : Run B S w0 n u s r' w' := by
  refine ⟨_, _, b, gv, nv', mv', rgv', h1.refc hn hk, fun k q => ?_, h3.trans (hk.mono fun k hlt e => h2 k (.inr (e.elim id fun e => by omega)))⟩
  rcases q with q | q
  · exact h2 k (.inl q)
  · exact q.1.elim (fun q => h2 k (.inr q)) fun q => .inr (Nat.le_trans h3.size q)
/-- What a call of the reference's leaves of the world. -/
theorem Run.rbelow {P R : Nat → Prop} {b : Nat} {gv nv mv rgv : Value} (h1 : Two B P R n u b gv nv mv rgv s r w) (hk : Kept (fun k => R k ∨ w.heap.size ≤ k) w w') : Below B w w' :=
  hk.below h1.ref.parts.bw fun k hkB e => by
    have hbw := h1.ref.parts.bw
    rcases e with e | e
    · have := h1.ref.parts.rb k e; omega
    · omega
theorem Run.rsend (h : Run B S w0 n u s r w) (hb : BndR r) (m : MsgM) (cs : List Value) (hm : CellsD (fun k => k < B) w cs (msgD m)) : Calls Try.prog 47 #[.pointer (some ⟨u, 0, none⟩), .agg cs.toArray] w fun e w' => e = .returned (.tuple #[.int .i64 (sendQ r m).1, .int .i64 (sendQ r m).2.1]) ∧ Run B S w0 n u s (sendQ r m).2.2 w' := by
  obtain ⟨P, R, b, gv, nv, mv, rgv, h1, h2, h3⟩ := h
  refine (rsend_any m cs h1.rpre (fun k hk => .inr hk) hm hb.r0.1 hb.r0.2 hb.r1.1 hb.r1.2 hb.r5 (by rw [hb.r6]; exact hb.r5)).mono ?_
  rintro e w' ⟨rfl, ⟨nv', mv', hn⟩, hk⟩
  exact ⟨rfl, Run.refc h1 h2 h3 hn hk⟩
theorem Run.rdup (h : Run B S w0 n u s r w) (hb : BndR r) (x : Int) : Calls Try.prog 50 #[.pointer (some ⟨u, 0, none⟩), .int .i64 x] w fun e w' => e = .returned (.tuple #[.int .i64 (dupQ r x).1, .int .i64 (dupQ r x).2.1]) ∧ Run B S w0 n u s (dupQ r x).2.2 w' := by
  obtain ⟨P, R, b, gv, nv, mv, rgv, h1, h2, h3⟩ := h
  refine (rduplicate_any x h1.rpre (fun k hk => .inr hk) hb.r0.1 hb.r0.2 hb.r2.1 hb.r2.2 hb.r5 hb.r6).mono ?_
  rintro e w' ⟨rfl, ⟨nv', mv', hn⟩, hk⟩
  exact ⟨rfl, Run.refc h1 h2 h3 hn hk⟩
theorem Run.rdrop (h : Run B S w0 n u s r w) (hb : BndR r) (x : Int) : Calls Try.prog 49 #[.pointer (some ⟨u, 0, none⟩), .int .i64 x] w fun e w' => e = .returned (.int .i64 (dropQ r x).1) ∧ Run B S w0 n u s (dropQ r x).2 w' ∧ Below B w w' := by
  obtain ⟨P, R, b, gv, nv, mv, rgv, h1, h2, h3⟩ := h
  refine (rdrop_any x h1.rpre (fun k hk => .inr hk) hb.r4.1 hb.r4.2 hb.r5 hb.r6).mono ?_
  rintro e w' ⟨rfl, ⟨nv', mv', hn⟩, hk⟩
  exact ⟨rfl, Run.refc h1 h2 h3 hn hk, Run.rbelow h1 hk⟩
theorem Run.rheal (h : Run B S w0 n u s r w) : Calls Try.prog 52 #[.pointer (some ⟨u, 0, none⟩)] w fun e w' => e = .returned (.tuple #[]) ∧ Run B S w0 n u s (healQ r) w' := by
  obtain ⟨P, R, b, gv, nv, mv, rgv, h1, h2, h3⟩ := h
  refine (rheal_any h1.rpre).mono ?_
  rintro e w' ⟨rfl, hn, hk⟩
  exact ⟨rfl, Run.refc h1 h2 h3 hn hk⟩
theorem Run.rpart (h : Run B S w0 n u s r w) (v : Value) (gs : List (List GI)) (hg : ReadsD (fun k => k < B) w v (groupsD gs)) : Calls Try.prog 51 #[.pointer (some ⟨u, 0, none⟩), v] w fun e w' => e = .returned (.int .i64 (partQ r gs).1) ∧ Run B S w0 n u s (partQ r gs).2 w' ∧ Below B w w' := by
  obtain ⟨P, R, b, gv, nv, mv, rgv, h1, h2, h3⟩ := h
  refine (rpartition_any v gs h1.rpre (hg)).mono ?_
  rintro e w' ⟨rfl, ⟨gv', hn⟩, hk⟩
  exact ⟨rfl, Run.refc h1 h2 h3 hn hk, Run.rbelow h1 hk⟩
theorem Run.rpeek (h : Run B S w0 n u s r w) (hb : BndR r) (x : Int) : Calls Try.prog 53 #[.pointer (some ⟨u, 0, none⟩), .int .i64 x] w (RPeekMade B (peekQ r x).1 (peekQ r x).2 w) := by
  obtain ⟨P, R, b, gv, nv, mv, rgv, h1, h2, h3⟩ := h
  exact rpeek_any x h1.ref hb.r5 hb.r6
theorem Run.rconnd (h : Run B S w0 n u s r w) (a c : Int) : Calls Try.prog 54 #[.pointer (some ⟨u, 0, none⟩), .int .i64 a, .int .i64 c] w (RConnMade (rconnB r.split r.gs a c) w) := by
  obtain ⟨P, R, b, gv, nv, mv, rgv, h1, h2, h3⟩ := h
  exact rconnected_any a c h1.ref
theorem Run.rdelv (h : Run B S w0 n u s r w) (hb : BndR r) (hm : MatchS s r) : Calls Try.prog 45 #[.pointer (some ⟨u, 0, none⟩)] w (RDelvMade (r.nums.filter (goB s)) w) := by
  obtain ⟨P, R, b, gv, nv, mv, rgv, h1, h2, h3⟩ := h
  refine rdeliverable_any (goB s) h1.ref hb.r5 hb.r6 fun i hi => ?_
  unfold goQ goB
  have h4 := hm.ms i hi
  have h5 := hm.ml
  rw [List.getElem?_eq_getElem (by omega)] at h4
  rw [h4, hm.conn]
  unfold msgQ
  rw [List.getElem?_eq_getElem (by omega)]
  rfl
theorem Run.rcounts (h : Run B S w0 n u s r w) (hb : BndR r) : Calls Try.prog 46 #[.pointer (some ⟨u, 0, none⟩)] w (RCountsMade r w) := by
  obtain ⟨P, R, b, gv, nv, mv, rgv, h1, h2, h3⟩ := h
  exact rcounts_any h1.ref hb.r5
/-- The same, with a word on where the reference's blocks lie. -/
def RunV (B : Nat) (S V : Nat → Prop) (w0 : World) (n u : Nat) (s : NetS) (r : RefS) (w : World) : Prop :=
  ∃ (P R : Nat → Prop) (b : Nat) (gv nv mv rgv : Value), Two B P R n u b gv nv mv rgv s r w ∧ (∀ k, P k ∨ R k → S k ∨ w0.heap.size ≤ k) ∧ Kept (fun k => S k ∨ w0.heap.size ≤ k) w0 w ∧ ∀ k, R k → V k
theorem RunV.run {V : Nat → Prop} (h : RunV B S V w0 n u s r w) : Run B S w0 n u s r w := by
  obtain ⟨P, R, b, gv, nv, mv, rgv, h1, h2, h3, -⟩ := h
  exact ⟨P, R, b, gv, nv, mv, rgv, h1, h2, h3⟩
theorem RunV.on {V : Nat → Prop} (h : RunV B S V w0 n u s r w) (hb : Below w.heap.size w w') : RunV B S V w0 n u s r w' := by
  obtain ⟨P, R, b, gv, nv, mv, rgv, h1, h2, h3, h4⟩ := h
  exact ⟨P, R, b, gv, nv, mv, rgv, h1.on hb, h2, h3.trans (Kept.of hb), h4⟩
/-- Counted from a later world. -/
theorem Run.rebase {w1 : World} (h : Run B S w0 n u s r w) (hb : Below w.heap.size w w1) : ∃ S' : Nat → Prop, RunV B S' S' w1 n u s r w1 ∧ (∀ k, S' k → (S k ∨ w0.heap.size ≤ k) ∧ k < w.heap.size ∧ B ≤ k) ∧ ∀ s' r' w', Run B S' w1 n u s' r' w' → Run B S w0 n u s' r' w' := by
  obtain ⟨P, R, b, gv, nv, mv, rgv, h1, h2, h3⟩ := h
  refine ⟨fun k => P k ∨ R k, ⟨P, R, b, gv, nv, mv, rgv, h1.on hb, fun k q => .inl q, Kept.refl _ _, fun k q => .inr q⟩, fun k q => ⟨h2 k q, ?_, ?_⟩, fun s' r' w' h' => ?_⟩
  · exact q.elim (fun q => (h1.pb k q).2) (h1.rl k)
  · exact q.elim (fun q => (h1.pb k q).1) (h1.ref.parts.rb k)
  · obtain ⟨P', R', b', gv', nv', mv', rgv', g1, g2, g3⟩ := h'
    have hsz := h3.size
    have hsz2 := hb.size
    have key : ∀ k, ((P k ∨ R k) ∨ w1.heap.size ≤ k) → S k ∨ w0.heap.size ≤ k := fun k q => q.elim (h2 k) fun q => .inr (by omega)
    exact ⟨P', R', b', gv', nv', mv', rgv', g1, fun k q => key k (g2 k q), (h3.trans (Kept.of hb)).trans (g3.mono fun k _ q => key k q)⟩
theorem RunV.del {V : Nat → Prop} (h : RunV B S V w0 n u s r w) (hb : BndS s) (x : Int) (hx : I64 x) : Calls Try.prog 16 #[.pointer (some ⟨n, 0, none⟩), .int .i64 x] w fun e w' => ∃ cs : List Value, e = .returned (.tuple #[.agg cs.toArray, .int .i64 (delR s x).2.1]) ∧ RunV B S V w0 n u (delR s x).2.2 r w' ∧ CellsD (fun k => w.heap.size ≤ k) w' cs (msgD (delR s x).1) := by
  obtain ⟨P, R, b, gv, nv, mv, rgv, h1, h2, h3, h4⟩ := h
  refine (deliver_any x hx h1.pre hb.s3.1 hb.s3.2).mono ?_
  rintro e w' ⟨cs, rfl, hn, hk, hc⟩
  have hnb : ∀ k, k = n ∨ k = b → P k := fun k e => by rcases e with rfl | rfl; exact h1.net.pn; exact h1.net.pb
  refine ⟨cs, rfl, ⟨_, _, b, gv, nv, mv, rgv, h1.prog hn hk, fun k q => ?_, h3.trans (hk.mono fun k _ e => h2 k (.inl (hnb k e))), h4⟩, hc⟩
  rcases q with q | q
  · exact q.1.elim (fun q => h2 k (.inl q)) fun q => .inr (Nat.le_trans h3.size q)
  · exact h2 k (.inr q)
theorem RunV.rdel {V : Nat → Prop} (h : RunV B S V w0 n u s r w) (hb : BndR r) (x : Int) : Calls Try.prog 48 #[.pointer (some ⟨u, 0, none⟩), .int .i64 x] w fun e w' => ∃ cs : List Value, e = .returned (.tuple #[.agg cs.toArray, .int .i64 (delQ r x).2.1]) ∧ Run B S w0 n u s (delQ r x).2.2 w' ∧ CellsD (fun k => k < B) w' cs (msgD (delQ r x).1) ∧ Kept V w w' := by
  obtain ⟨P, R, b, gv, nv, mv, rgv, h1, h2, h3, h4⟩ := h
  refine (rdeliver_any x h1.rpre (fun k hk => .inr hk) hb.r3.1 hb.r3.2 hb.r5 hb.r6).mono ?_
  rintro e w' ⟨cs, rfl, ⟨nv', mv', hn⟩, hk, hc⟩
  exact ⟨cs, rfl, Run.refc h1 h2 h3 hn hk, hc, hk.mono fun k hlt e => e.elim (h4 k) fun e => by omega⟩
/-- The reference's list of numbers, as alike reads it. -/
theorem Run.nums (h : Run B S w0 n u s r w) : ∃ (na : Option Addr) (nc : Nat), w.cell? ⟨u, 1, none⟩ = some (.slice na r.nums.length nc) ∧ Reads vi w (.slice na r.nums.length nc) r.nums ∧ u < w.heap.size := by
  obtain ⟨P, R, b, gv, nv, mv, rgv, h1, h2, h3⟩ := h
  obtain ⟨na, nc, rfl⟩ := row_slc h1.ref.parts.nums
  exact ⟨na, nc, h1.ref.box.cell 1, h1.ref.reads, h1.ref.box.lt⟩
end
end Go.Proofs.Ytmcdmcnbnnfhnaa
namespace Go.Proofs.Ytmcdmcnbnnfhnaa
open Go.RowKit
set_option maxRecDepth 100000

/-- After a step both networks have answered alike and are in one state. -/
def StepMade (B : Nat) (S : Nat → Prop) (w0 : World) (n u : Nat) (l : Int) (i : Nat) (e : Ending) (w' : World) : Prop := e = .returned (.bool true) ∧ ∃ s' r', Run B S w0 n u s' r' w' ∧ InvS l s' (i + 1) ∧ MatchS s' r'
/-- The stages of a region that calls the program's network, then the reference's. -/
def StW (B : Nat) (S : Nat → Prop) (w1 : World) (n u : Nat) (s : NetS) (r : RefS) (s' : NetS) (r' : RefS) : Nat → (Nat → Value) → World → Prop
  | 0, _, w => Run B S w1 n u s r w
  | 1, _, w => Run B S w1 n u s' r w
  | _, _, w => Run B S w1 n u s' r' w
theorem StW.kept {B : Nat} {S : Nat → Prop} {w1 w : World} {n u : Nat} {s s' : NetS} {r r' : RefS} {k : Nat} {v : Nat → Value} (h : StW B S w1 n u s r s' r' k v w) : Kept S w1 w := by
  match k with
  | 0 => exact Run.kept h
  | 1 => exact Run.kept h
  | k + 2 => exact Run.kept h
theorem act_b {w : World} {b : Nat} {k a c gv : Value} {mc : List Value} {t : TypeId} (h : Blk w b t (k :: a :: c :: (mc ++ [gv])).toArray) (hl : mc.length = 15) : w.cell? ⟨b, 18, none⟩ = some gv := by
  rw [h.cell, List.getElem?_toArray, List.getElem?_cons_succ, List.getElem?_cons_succ, List.getElem?_cons_succ, List.getElem?_append_right (by rw [hl]; decide), hl]
  rfl
section
variable {B n u : Nat} {S0 : Nat → Prop} {s : NetS} {r : RefS} {w0 w : World} {l : Int} {i : Nat}
set_option maxHeartbeats 8000000
theorem step1_any (h : Run B S0 w0 n u s r w) (hv : InvS l s i) (hm : MatchS s r) (hi : i ≤ 1048576) (x : ActM) (mc : List Value) (gvv : Value) (hml : mc.length = 15) (hmc : CellsD (fun k => k < B) w mc (msgD x.m)) (hgs : ReadsD (fun k => k < B) w gvv (groupsD x.gs)) (hk : x.kind = 1) :
    Calls Try.prog 25 #[.pointer (some ⟨n, 0, none⟩), .pointer (some ⟨u, 0, none⟩), .agg (.int .i64 x.kind :: .int .i64 x.a.n :: .int .i64 x.b.n :: (mc ++ [gvv])).toArray] w (StepMade B S0 w0 n u l i) := by
  have hb0 : Below w.heap.size w (w.alloc (.cells (.int .i64 x.kind :: .int .i64 x.a.n :: .int .i64 x.b.n :: (mc ++ [gvv])).toArray 54)) := (Below.refl _ _).alloc (Nat.le_refl _) _
  obtain ⟨S, hr, hS, hcomp⟩ := h.rebase hb0
  have HF : Hid (∀ e w' s' r', e = .returned (.bool true) → Run B S (w.alloc (.cells (.int .i64 x.kind :: .int .i64 x.a.n :: .int .i64 x.b.n :: (mc ++ [gvv])).toArray 54)) n u s' r' w' → InvS l s' (i + 1) → MatchS s' r' → StepMade B S0 w0 n u l i e w') := Lib.hid fun e w' s' r' h1 h2 h3 h4 => ⟨h1, s', r', hcomp _ _ _ h2, h3, h4⟩
  have HBS := Lib.hid (BndS.of hv (Nat.le_succ_of_le hi))
  have HBR := Lib.hid (BndR.of hv hm (Nat.le_succ_of_le hi))
  have HV := Lib.hid hv
  have HMT := Lib.hid hm
  have HX : Hid (Blk (w.alloc (.cells (.int .i64 x.kind :: .int .i64 x.a.n :: .int .i64 x.b.n :: (mc ++ [gvv])).toArray 54)) w.heap.size 54 (.int .i64 x.kind :: .int .i64 x.a.n :: .int .i64 x.b.n :: (mc ++ [gvv])).toArray) := Lib.hid (Blk.new w _ _)
  have HMC : Hid (CellsD (fun k => k < B) (w.alloc (.cells (.int .i64 x.kind :: .int .i64 x.a.n :: .int .i64 x.b.n :: (mc ++ [gvv])).toArray 54)) mc (msgD x.m) ∧ mc.length = 15) := Lib.hid ⟨hmc.on hb0, hml⟩
  have HGS : Hid (ReadsD (fun k => k < B) (w.alloc (.cells (.int .i64 x.kind :: .int .i64 x.a.n :: .int .i64 x.b.n :: (mc ++ [gvv])).toArray 54)) gvv (groupsD x.gs)) := Lib.hid (hgs.on hb0)
  have HR := Lib.hid hr
  have HS : Hid (∀ k, S k → k < w.heap.size ∧ B ≤ k) := Lib.hid fun k hk => (hS k hk).2
  have HBW : Hid (B ≤ w.heap.size ∧ w.heap.size < (w.alloc (.cells (.int .i64 x.kind :: .int .i64 x.a.n :: .int .i64 x.b.n :: (mc ++ [gvv])).toArray 54)).heap.size) := Lib.hid ⟨h.bw, by rw [World.size_alloc]; omega⟩
  have HPOS : Hid (∀ m, s.ms x.a.n = some m → 1 ≤ s.cnt) := Lib.hid fun m hm => by
    obtain ⟨P, R, b, gv, nv, mv, rgv, h1, -⟩ := h
    exact h1.net.pos x.a.h hm
  have dk : (w.alloc (.cells (.int .i64 x.kind :: .int .i64 x.a.n :: .int .i64 x.b.n :: (mc ++ [gvv])).toArray 54)).cell? ⟨w.heap.size, 0, none⟩ = some (.int .i64 x.kind) := (act_cells HX.out).1
  have HAI := Lib.hid x.a.h
  generalize hQ : StepMade B S0 w0 n u l i = Q at *
  clear hQ h hv hm hmc hgs hb0 hr hS hcomp hi hml
  have n1 : (x.kind == 1) = true := beq_t hk
  clear hk
  go_enter Try.func25, Try.ntmps25
  go_upto_region 2 with fail
  generalize w.alloc (.cells (.int .i64 x.kind :: .int .i64 x.a.n :: .int .i64 x.b.n :: (mc ++ [gvv])).toArray 54) = w1 at *
  generalize w.heap.size = g8 at *
  clear dk
  have HCL := Lib.hid (HR.out.run.send HBS.out x.m mc HMC.out.1)
  go_wp2_with (refine wpList_load_mid rfl 39 (.tmp 29) rfl g8 3 rfl mc _ (act_range HX.out) Try.underlying39 rfl (by rw [HMC.out.2]; kernel_rfl) ?_)
  refine HCL.out.mono ?_
  rintro e w2 ⟨rfl, h2, hm2⟩
  have HX2 := Lib.hid (h2.kept.blk HX.out fun e => by have := HS.out _ e; omega)
  have HCL2 := Lib.hid (h2.rsend HBR.out x.m mc hm2)
  obtain ⟨e1, e2, e3⟩ := HMT.out.send HV.out HBS.out.s0.2 x.m
  have HM2 := Lib.hid e3
  have HV2 := Lib.hid (HV.out.send x.m)
  rw [e1, e2] at HCL2
  generalize (sendR s x.m).1 = a at *
  generalize (sendR s x.m).2.1 = c at *
  clear HCL h2 hm2 e1 e2 e3
  go_wp2_with (refine wpList_load_mid rfl 39 (.tmp 36) rfl g8 3 rfl mc _ (act_range HX2.out) Try.underlying39 rfl (by rw [HMC.out.2]; kernel_rfl) ?_)
  refine HCL2.out.mono ?_
  rintro e w3 ⟨rfl, h3⟩
  have H3 := Lib.hid h3
  clear HCL2 h3
  have ea : (a == a) = true := beq_t rfl
  have ec : (c == c) = true := beq_t rfl
  go_wp2_with fail
  exact HF.out _ _ _ _ rfl H3.out HV2.out HM2.out
theorem step4_any (h : Run B S0 w0 n u s r w) (hv : InvS l s i) (hm : MatchS s r) (hi : i ≤ 1048576) (x : ActM) (mc : List Value) (gvv : Value) (hml : mc.length = 15) (hmc : CellsD (fun k => k < B) w mc (msgD x.m)) (hgs : ReadsD (fun k => k < B) w gvv (groupsD x.gs)) (hk : x.kind = 4) :
    Calls Try.prog 25 #[.pointer (some ⟨n, 0, none⟩), .pointer (some ⟨u, 0, none⟩), .agg (.int .i64 x.kind :: .int .i64 x.a.n :: .int .i64 x.b.n :: (mc ++ [gvv])).toArray] w (StepMade B S0 w0 n u l i) := by
  have hb0 : Below w.heap.size w (w.alloc (.cells (.int .i64 x.kind :: .int .i64 x.a.n :: .int .i64 x.b.n :: (mc ++ [gvv])).toArray 54)) := (Below.refl _ _).alloc (Nat.le_refl _) _
  obtain ⟨S, hr, hS, hcomp⟩ := h.rebase hb0
  have HF : Hid (∀ e w' s' r', e = .returned (.bool true) → Run B S (w.alloc (.cells (.int .i64 x.kind :: .int .i64 x.a.n :: .int .i64 x.b.n :: (mc ++ [gvv])).toArray 54)) n u s' r' w' → InvS l s' (i + 1) → MatchS s' r' → StepMade B S0 w0 n u l i e w') := Lib.hid fun e w' s' r' h1 h2 h3 h4 => ⟨h1, s', r', hcomp _ _ _ h2, h3, h4⟩
  have HBS := Lib.hid (BndS.of hv (Nat.le_succ_of_le hi))
  have HBR := Lib.hid (BndR.of hv hm (Nat.le_succ_of_le hi))
  have HV := Lib.hid hv
  have HMT := Lib.hid hm
  have HX : Hid (Blk (w.alloc (.cells (.int .i64 x.kind :: .int .i64 x.a.n :: .int .i64 x.b.n :: (mc ++ [gvv])).toArray 54)) w.heap.size 54 (.int .i64 x.kind :: .int .i64 x.a.n :: .int .i64 x.b.n :: (mc ++ [gvv])).toArray) := Lib.hid (Blk.new w _ _)
  have HMC : Hid (CellsD (fun k => k < B) (w.alloc (.cells (.int .i64 x.kind :: .int .i64 x.a.n :: .int .i64 x.b.n :: (mc ++ [gvv])).toArray 54)) mc (msgD x.m) ∧ mc.length = 15) := Lib.hid ⟨hmc.on hb0, hml⟩
  have HGS : Hid (ReadsD (fun k => k < B) (w.alloc (.cells (.int .i64 x.kind :: .int .i64 x.a.n :: .int .i64 x.b.n :: (mc ++ [gvv])).toArray 54)) gvv (groupsD x.gs)) := Lib.hid (hgs.on hb0)
  have HR := Lib.hid hr
  have HS : Hid (∀ k, S k → k < w.heap.size ∧ B ≤ k) := Lib.hid fun k hk => (hS k hk).2
  have HBW : Hid (B ≤ w.heap.size ∧ w.heap.size < (w.alloc (.cells (.int .i64 x.kind :: .int .i64 x.a.n :: .int .i64 x.b.n :: (mc ++ [gvv])).toArray 54)).heap.size) := Lib.hid ⟨h.bw, by rw [World.size_alloc]; omega⟩
  have HPOS : Hid (∀ m, s.ms x.a.n = some m → 1 ≤ s.cnt) := Lib.hid fun m hm => by
    obtain ⟨P, R, b, gv, nv, mv, rgv, h1, -⟩ := h
    exact h1.net.pos x.a.h hm
  have dk : (w.alloc (.cells (.int .i64 x.kind :: .int .i64 x.a.n :: .int .i64 x.b.n :: (mc ++ [gvv])).toArray 54)).cell? ⟨w.heap.size, 0, none⟩ = some (.int .i64 x.kind) := (act_cells HX.out).1
  have HAI := Lib.hid x.a.h
  generalize hQ : StepMade B S0 w0 n u l i = Q at *
  clear hQ h hv hm hmc hgs hb0 hr hS hcomp hi hml
  have n1 : (x.kind == 1) = false := beq_f (by omega)
  have n2 : (x.kind == 2) = false := beq_f (by omega)
  have n3 : (x.kind == 3) = false := beq_f (by omega)
  have n4 : (x.kind == 4) = true := beq_t hk
  clear hk
  go_enter Try.func25, Try.ntmps25
  go_upto_region 2 with fail
  generalize w.alloc (.cells (.int .i64 x.kind :: .int .i64 x.a.n :: .int .i64 x.b.n :: (mc ++ [gvv])).toArray 54) = w1 at *
  generalize w.heap.size = g8 at *
  clear dk
  have da : w1.cell? ⟨g8, 1, none⟩ = some (.int .i64 x.a.n) := (act_cells HX.out).2.1
  have HCL := Lib.hid (HR.out.run.dup HBS.out x.a.n HAI.out)
  go_wp2_with fail
  refine HCL.out.mono ?_
  rintro e w2 ⟨rfl, h2⟩
  clear da
  have HX2 := Lib.hid (h2.kept.blk HX.out fun e => by have := HS.out _ e; omega)
  have da : w2.cell? ⟨g8, 1, none⟩ = some (.int .i64 x.a.n) := (act_cells HX2.out).2.1
  have HCL2 := Lib.hid (h2.rdup HBR.out x.a.n)
  obtain ⟨e1, e2, e3⟩ := HMT.out.dup HV.out HBS.out.s0.2 HAI.out
  have HM2 := Lib.hid e3
  have HV2 := Lib.hid (HV.out.dup x.a.n)
  rw [e1, e2] at HCL2
  generalize (dupR s x.a.n).1 = a at *
  generalize (dupR s x.a.n).2.1 = c at *
  clear HCL h2 e1 e2 e3
  go_wp2_with fail
  refine HCL2.out.mono ?_
  rintro e w3 ⟨rfl, h3⟩
  have H3 := Lib.hid h3
  clear HCL2 h3 da
  have ea : (a == a) = true := beq_t rfl
  have ec : (c == c) = true := beq_t rfl
  go_wp2_with fail
  exact HF.out _ _ _ _ rfl H3.out HV2.out HM2.out
theorem step6_any (h : Run B S0 w0 n u s r w) (hv : InvS l s i) (hm : MatchS s r) (hi : i ≤ 1048576) (x : ActM) (mc : List Value) (gvv : Value) (hml : mc.length = 15) (hmc : CellsD (fun k => k < B) w mc (msgD x.m)) (hgs : ReadsD (fun k => k < B) w gvv (groupsD x.gs)) (hk : x.kind = 6) :
    Calls Try.prog 25 #[.pointer (some ⟨n, 0, none⟩), .pointer (some ⟨u, 0, none⟩), .agg (.int .i64 x.kind :: .int .i64 x.a.n :: .int .i64 x.b.n :: (mc ++ [gvv])).toArray] w (StepMade B S0 w0 n u l i) := by
  have hb0 : Below w.heap.size w (w.alloc (.cells (.int .i64 x.kind :: .int .i64 x.a.n :: .int .i64 x.b.n :: (mc ++ [gvv])).toArray 54)) := (Below.refl _ _).alloc (Nat.le_refl _) _
  obtain ⟨S, hr, hS, hcomp⟩ := h.rebase hb0
  have HF : Hid (∀ e w' s' r', e = .returned (.bool true) → Run B S (w.alloc (.cells (.int .i64 x.kind :: .int .i64 x.a.n :: .int .i64 x.b.n :: (mc ++ [gvv])).toArray 54)) n u s' r' w' → InvS l s' (i + 1) → MatchS s' r' → StepMade B S0 w0 n u l i e w') := Lib.hid fun e w' s' r' h1 h2 h3 h4 => ⟨h1, s', r', hcomp _ _ _ h2, h3, h4⟩
  have HBS := Lib.hid (BndS.of hv (Nat.le_succ_of_le hi))
  have HBR := Lib.hid (BndR.of hv hm (Nat.le_succ_of_le hi))
  have HV := Lib.hid hv
  have HMT := Lib.hid hm
  have HX : Hid (Blk (w.alloc (.cells (.int .i64 x.kind :: .int .i64 x.a.n :: .int .i64 x.b.n :: (mc ++ [gvv])).toArray 54)) w.heap.size 54 (.int .i64 x.kind :: .int .i64 x.a.n :: .int .i64 x.b.n :: (mc ++ [gvv])).toArray) := Lib.hid (Blk.new w _ _)
  have HMC : Hid (CellsD (fun k => k < B) (w.alloc (.cells (.int .i64 x.kind :: .int .i64 x.a.n :: .int .i64 x.b.n :: (mc ++ [gvv])).toArray 54)) mc (msgD x.m) ∧ mc.length = 15) := Lib.hid ⟨hmc.on hb0, hml⟩
  have HGS : Hid (ReadsD (fun k => k < B) (w.alloc (.cells (.int .i64 x.kind :: .int .i64 x.a.n :: .int .i64 x.b.n :: (mc ++ [gvv])).toArray 54)) gvv (groupsD x.gs)) := Lib.hid (hgs.on hb0)
  have HR := Lib.hid hr
  have HS : Hid (∀ k, S k → k < w.heap.size ∧ B ≤ k) := Lib.hid fun k hk => (hS k hk).2
  have HBW : Hid (B ≤ w.heap.size ∧ w.heap.size < (w.alloc (.cells (.int .i64 x.kind :: .int .i64 x.a.n :: .int .i64 x.b.n :: (mc ++ [gvv])).toArray 54)).heap.size) := Lib.hid ⟨h.bw, by rw [World.size_alloc]; omega⟩
  have HPOS : Hid (∀ m, s.ms x.a.n = some m → 1 ≤ s.cnt) := Lib.hid fun m hm => by
    obtain ⟨P, R, b, gv, nv, mv, rgv, h1, -⟩ := h
    exact h1.net.pos x.a.h hm
  have dk : (w.alloc (.cells (.int .i64 x.kind :: .int .i64 x.a.n :: .int .i64 x.b.n :: (mc ++ [gvv])).toArray 54)).cell? ⟨w.heap.size, 0, none⟩ = some (.int .i64 x.kind) := (act_cells HX.out).1
  have HAI := Lib.hid x.a.h
  generalize hQ : StepMade B S0 w0 n u l i = Q at *
  clear hQ h hv hm hmc hgs hb0 hr hS hcomp hi hml
  have n1 : (x.kind == 1) = false := beq_f (by omega)
  have n2 : (x.kind == 2) = false := beq_f (by omega)
  have n3 : (x.kind == 3) = false := beq_f (by omega)
  have n4 : (x.kind == 4) = false := beq_f (by omega)
  have n5 : (x.kind == 5) = false := beq_f (by omega)
  have n6 : (x.kind == 6) = true := beq_t hk
  clear hk
  go_enter Try.func25, Try.ntmps25
  go_upto_region 2 with fail
  generalize w.alloc (.cells (.int .i64 x.kind :: .int .i64 x.a.n :: .int .i64 x.b.n :: (mc ++ [gvv])).toArray 54) = w1 at *
  generalize w.heap.size = g8 at *
  clear dk
  have HCL := Lib.hid HR.out.run.heal
  go_wp2_with fail
  refine HCL.out.mono ?_
  rintro e w2 ⟨rfl, h2⟩
  have HCL2 := Lib.hid h2.rheal
  clear HCL h2
  go_wp2_with fail
  refine HCL2.out.mono ?_
  rintro e w3 ⟨rfl, h3⟩
  have H3 := Lib.hid h3
  clear HCL2 h3
  go_wp2_with fail
  exact HF.out _ _ _ _ rfl H3.out (HV.out.grp none).next HMT.out.heal
theorem step0_any (h : Run B S0 w0 n u s r w) (hv : InvS l s i) (hm : MatchS s r) (hi : i ≤ 1048576) (x : ActM) (mc : List Value) (gvv : Value) (hml : mc.length = 15) (hmc : CellsD (fun k => k < B) w mc (msgD x.m)) (hgs : ReadsD (fun k => k < B) w gvv (groupsD x.gs)) (hk : ¬ x.kind = 1 ∧ ¬ x.kind = 2 ∧ ¬ x.kind = 3 ∧ ¬ x.kind = 4 ∧ ¬ x.kind = 5 ∧ ¬ x.kind = 6 ∧ ¬ x.kind = 7 ∧ ¬ x.kind = 8) :
    Calls Try.prog 25 #[.pointer (some ⟨n, 0, none⟩), .pointer (some ⟨u, 0, none⟩), .agg (.int .i64 x.kind :: .int .i64 x.a.n :: .int .i64 x.b.n :: (mc ++ [gvv])).toArray] w (StepMade B S0 w0 n u l i) := by
  have hb0 : Below w.heap.size w (w.alloc (.cells (.int .i64 x.kind :: .int .i64 x.a.n :: .int .i64 x.b.n :: (mc ++ [gvv])).toArray 54)) := (Below.refl _ _).alloc (Nat.le_refl _) _
  obtain ⟨S, hr, hS, hcomp⟩ := h.rebase hb0
  have HF : Hid (∀ e w' s' r', e = .returned (.bool true) → Run B S (w.alloc (.cells (.int .i64 x.kind :: .int .i64 x.a.n :: .int .i64 x.b.n :: (mc ++ [gvv])).toArray 54)) n u s' r' w' → InvS l s' (i + 1) → MatchS s' r' → StepMade B S0 w0 n u l i e w') := Lib.hid fun e w' s' r' h1 h2 h3 h4 => ⟨h1, s', r', hcomp _ _ _ h2, h3, h4⟩
  have HBS := Lib.hid (BndS.of hv (Nat.le_succ_of_le hi))
  have HBR := Lib.hid (BndR.of hv hm (Nat.le_succ_of_le hi))
  have HV := Lib.hid hv
  have HMT := Lib.hid hm
  have HX : Hid (Blk (w.alloc (.cells (.int .i64 x.kind :: .int .i64 x.a.n :: .int .i64 x.b.n :: (mc ++ [gvv])).toArray 54)) w.heap.size 54 (.int .i64 x.kind :: .int .i64 x.a.n :: .int .i64 x.b.n :: (mc ++ [gvv])).toArray) := Lib.hid (Blk.new w _ _)
  have HMC : Hid (CellsD (fun k => k < B) (w.alloc (.cells (.int .i64 x.kind :: .int .i64 x.a.n :: .int .i64 x.b.n :: (mc ++ [gvv])).toArray 54)) mc (msgD x.m) ∧ mc.length = 15) := Lib.hid ⟨hmc.on hb0, hml⟩
  have HGS : Hid (ReadsD (fun k => k < B) (w.alloc (.cells (.int .i64 x.kind :: .int .i64 x.a.n :: .int .i64 x.b.n :: (mc ++ [gvv])).toArray 54)) gvv (groupsD x.gs)) := Lib.hid (hgs.on hb0)
  have HR := Lib.hid hr
  have HS : Hid (∀ k, S k → k < w.heap.size ∧ B ≤ k) := Lib.hid fun k hk => (hS k hk).2
  have HBW : Hid (B ≤ w.heap.size ∧ w.heap.size < (w.alloc (.cells (.int .i64 x.kind :: .int .i64 x.a.n :: .int .i64 x.b.n :: (mc ++ [gvv])).toArray 54)).heap.size) := Lib.hid ⟨h.bw, by rw [World.size_alloc]; omega⟩
  have HPOS : Hid (∀ m, s.ms x.a.n = some m → 1 ≤ s.cnt) := Lib.hid fun m hm => by
    obtain ⟨P, R, b, gv, nv, mv, rgv, h1, -⟩ := h
    exact h1.net.pos x.a.h hm
  have dk : (w.alloc (.cells (.int .i64 x.kind :: .int .i64 x.a.n :: .int .i64 x.b.n :: (mc ++ [gvv])).toArray 54)).cell? ⟨w.heap.size, 0, none⟩ = some (.int .i64 x.kind) := (act_cells HX.out).1
  have HAI := Lib.hid x.a.h
  generalize hQ : StepMade B S0 w0 n u l i = Q at *
  clear hQ h hv hm hmc hgs hb0 hr hS hcomp hi hml
  have n1 : (x.kind == 1) = false := beq_f (by omega)
  have n2 : (x.kind == 2) = false := beq_f (by omega)
  have n3 : (x.kind == 3) = false := beq_f (by omega)
  have n4 : (x.kind == 4) = false := beq_f (by omega)
  have n5 : (x.kind == 5) = false := beq_f (by omega)
  have n6 : (x.kind == 6) = false := beq_f (by omega)
  have n7 : (x.kind == 7) = false := beq_f (by omega)
  have n8 : (x.kind == 8) = false := beq_f (by omega)
  clear hk
  go_enter Try.func25, Try.ntmps25
  go_upto_region 2 with fail
  generalize w.alloc (.cells (.int .i64 x.kind :: .int .i64 x.a.n :: .int .i64 x.b.n :: (mc ++ [gvv])).toArray 54) = w1 at *
  generalize w.heap.size = g8 at *
  clear dk
  go_wp2_with fail
  exact HF.out _ _ _ _ rfl HR.out.run HV.out.next HMT.out
end
end Go.Proofs.Ytmcdmcnbnnfhnaa
namespace Go.Proofs.Ytmcdmcnbnnfhnaa
open Go.RowKit
set_option maxRecDepth 100000

theorem list15 {cs : List Value} (hl : cs.length = 15) : ∃ a0 a1 a2 a3 a4 a5 a6 a7 a8 a9 a10 a11 a12 a13 a14, cs = [a0, a1, a2, a3, a4, a5, a6, a7, a8, a9, a10, a11, a12, a13, a14] := by
  obtain ⟨c0, cs, rfl⟩ := List.exists_cons_of_length_pos (l := cs) (by first | omega | (simp only [List.length_cons] at hl; omega))
  obtain ⟨c1, cs, rfl⟩ := List.exists_cons_of_length_pos (l := cs) (by first | omega | (simp only [List.length_cons] at hl; omega))
  obtain ⟨c2, cs, rfl⟩ := List.exists_cons_of_length_pos (l := cs) (by first | omega | (simp only [List.length_cons] at hl; omega))
  obtain ⟨c3, cs, rfl⟩ := List.exists_cons_of_length_pos (l := cs) (by first | omega | (simp only [List.length_cons] at hl; omega))
  obtain ⟨c4, cs, rfl⟩ := List.exists_cons_of_length_pos (l := cs) (by first | omega | (simp only [List.length_cons] at hl; omega))
  obtain ⟨c5, cs, rfl⟩ := List.exists_cons_of_length_pos (l := cs) (by first | omega | (simp only [List.length_cons] at hl; omega))
  obtain ⟨c6, cs, rfl⟩ := List.exists_cons_of_length_pos (l := cs) (by first | omega | (simp only [List.length_cons] at hl; omega))
  obtain ⟨c7, cs, rfl⟩ := List.exists_cons_of_length_pos (l := cs) (by first | omega | (simp only [List.length_cons] at hl; omega))
  obtain ⟨c8, cs, rfl⟩ := List.exists_cons_of_length_pos (l := cs) (by first | omega | (simp only [List.length_cons] at hl; omega))
  obtain ⟨c9, cs, rfl⟩ := List.exists_cons_of_length_pos (l := cs) (by first | omega | (simp only [List.length_cons] at hl; omega))
  obtain ⟨c10, cs, rfl⟩ := List.exists_cons_of_length_pos (l := cs) (by first | omega | (simp only [List.length_cons] at hl; omega))
  obtain ⟨c11, cs, rfl⟩ := List.exists_cons_of_length_pos (l := cs) (by first | omega | (simp only [List.length_cons] at hl; omega))
  obtain ⟨c12, cs, rfl⟩ := List.exists_cons_of_length_pos (l := cs) (by first | omega | (simp only [List.length_cons] at hl; omega))
  obtain ⟨c13, cs, rfl⟩ := List.exists_cons_of_length_pos (l := cs) (by first | omega | (simp only [List.length_cons] at hl; omega))
  obtain ⟨c14, cs, rfl⟩ := List.exists_cons_of_length_pos (l := cs) (by first | omega | (simp only [List.length_cons] at hl; omega))
  obtain rfl : cs = [] := List.length_eq_zero_iff.1 (by simp only [List.length_cons] at hl; omega)
  exact ⟨c0, c1, c2, c3, c4, c5, c6, c7, c8, c9, c10, c11, c12, c13, c14, rfl⟩
section
variable {B n u : Nat} {S0 : Nat → Prop} {s : NetS} {r : RefS} {w0 w : World} {l : Int} {i : Nat}
set_option maxHeartbeats 8000000
theorem step2_any (h : Run B S0 w0 n u s r w) (hv : InvS l s i) (hm : MatchS s r) (hi : i ≤ 1048576) (x : ActM) (mc : List Value) (gvv : Value) (hml : mc.length = 15) (hmc : CellsD (fun k => k < B) w mc (msgD x.m)) (hgs : ReadsD (fun k => k < B) w gvv (groupsD x.gs)) (hk : x.kind = 2) :
    Calls Try.prog 25 #[.pointer (some ⟨n, 0, none⟩), .pointer (some ⟨u, 0, none⟩), .agg (.int .i64 x.kind :: .int .i64 x.a.n :: .int .i64 x.b.n :: (mc ++ [gvv])).toArray] w (StepMade B S0 w0 n u l i) := by
  have hb0 : Below w.heap.size w (w.alloc (.cells (.int .i64 x.kind :: .int .i64 x.a.n :: .int .i64 x.b.n :: (mc ++ [gvv])).toArray 54)) := (Below.refl _ _).alloc (Nat.le_refl _) _
  obtain ⟨S, hr, hS, hcomp⟩ := h.rebase hb0
  have HF : Hid (∀ e w' s' r', e = .returned (.bool true) → Run B S (w.alloc (.cells (.int .i64 x.kind :: .int .i64 x.a.n :: .int .i64 x.b.n :: (mc ++ [gvv])).toArray 54)) n u s' r' w' → InvS l s' (i + 1) → MatchS s' r' → StepMade B S0 w0 n u l i e w') := Lib.hid fun e w' s' r' h1 h2 h3 h4 => ⟨h1, s', r', hcomp _ _ _ h2, h3, h4⟩
  have HBS := Lib.hid (BndS.of hv (Nat.le_succ_of_le hi))
  have HBR := Lib.hid (BndR.of hv hm (Nat.le_succ_of_le hi))
  have HV := Lib.hid hv
  have HMT := Lib.hid hm
  have HX : Hid (Blk (w.alloc (.cells (.int .i64 x.kind :: .int .i64 x.a.n :: .int .i64 x.b.n :: (mc ++ [gvv])).toArray 54)) w.heap.size 54 (.int .i64 x.kind :: .int .i64 x.a.n :: .int .i64 x.b.n :: (mc ++ [gvv])).toArray) := Lib.hid (Blk.new w _ _)
  have HMC : Hid (CellsD (fun k => k < B) (w.alloc (.cells (.int .i64 x.kind :: .int .i64 x.a.n :: .int .i64 x.b.n :: (mc ++ [gvv])).toArray 54)) mc (msgD x.m) ∧ mc.length = 15) := Lib.hid ⟨hmc.on hb0, hml⟩
  have HGS : Hid (ReadsD (fun k => k < B) (w.alloc (.cells (.int .i64 x.kind :: .int .i64 x.a.n :: .int .i64 x.b.n :: (mc ++ [gvv])).toArray 54)) gvv (groupsD x.gs)) := Lib.hid (hgs.on hb0)
  have HR := Lib.hid hr
  have HS : Hid (∀ k, S k → k < w.heap.size ∧ B ≤ k) := Lib.hid fun k hk => (hS k hk).2
  have HBW : Hid (B ≤ w.heap.size ∧ w.heap.size < (w.alloc (.cells (.int .i64 x.kind :: .int .i64 x.a.n :: .int .i64 x.b.n :: (mc ++ [gvv])).toArray 54)).heap.size) := Lib.hid ⟨h.bw, by rw [World.size_alloc]; omega⟩
  have HPOS : Hid (∀ m, s.ms x.a.n = some m → 1 ≤ s.cnt) := Lib.hid fun m hm => by
    obtain ⟨P, R, b, gv, nv, mv, rgv, h1, -⟩ := h
    exact h1.net.pos x.a.h hm
  have dk : (w.alloc (.cells (.int .i64 x.kind :: .int .i64 x.a.n :: .int .i64 x.b.n :: (mc ++ [gvv])).toArray 54)).cell? ⟨w.heap.size, 0, none⟩ = some (.int .i64 x.kind) := (act_cells HX.out).1
  have HAI := Lib.hid x.a.h
  generalize hQ : StepMade B S0 w0 n u l i = Q at *
  clear hQ h hv hm hmc hgs hb0 hr hS hcomp hi hml
  have n1 : (x.kind == 1) = false := beq_f (by omega)
  have n2 : (x.kind == 2) = true := beq_t hk
  clear hk
  go_enter Try.func25, Try.ntmps25
  go_upto_region 2 with fail
  generalize w.alloc (.cells (.int .i64 x.kind :: .int .i64 x.a.n :: .int .i64 x.b.n :: (mc ++ [gvv])).toArray 54) = w1 at *
  generalize w.heap.size = g8 at *
  clear dk
  have da : w1.cell? ⟨g8, 1, none⟩ = some (.int .i64 x.a.n) := (act_cells HX.out).2.1
  have HCL := Lib.hid (HR.out.del HBS.out x.a.n HAI.out)
  obtain ⟨e1, e2, e3⟩ := HMT.out.del HAI.out
  have HM2 := Lib.hid e3
  have HV2 := Lib.hid (HV.out.del x.a.n HPOS.out)
  go_upto_region 8 with fail
  refine HCL.out.mono ?_
  rintro e w2 ⟨as1, rfl, h2, hc2⟩
  clear da
  have HAS : Hid (CellsD (fun k => w1.heap.size ≤ k) w2 as1 (msgD (delR s x.a.n).1) ∧ as1.length = 15) := Lib.hid ⟨hc2, msg_len hc2⟩
  have HA1 := Lib.hid (CellsD.all hc2)
  have HSA : Hid (Blk (w2.alloc (.cells zeroC.toArray 39)) w2.heap.size 39 zeroC.toArray) := Lib.hid (Blk.new w2 _ _)
  go_upto_region 8 with (refine wpList_store_msg rfl (.tmp 11) (.tmp 56) rfl w2.heap.size zeroC.toArray as1 rfl rfl HSA.out rfl HAS.out.2 HA1.out ?_; intro w3 hB3 hk3)
  have H23 : Hid (Below w2.heap.size w2 w3) := Lib.hid (((Kept.of ((Below.refl w2.heap.size w2).alloc (Nat.le_refl _) (.cells zeroC.toArray 39)) : Kept (fun b => b = w2.heap.size) w2 _).trans hk3).below (Nat.le_refl _) fun k hk e => by omega)
  have H3 := Lib.hid (h2.on H23.out)
  have HSZ : Hid (w1.heap.size ≤ w2.heap.size) := Lib.hid h2.run.size
  have HBA3 := Lib.hid hB3
  have HX3 := Lib.hid (H3.out.run.kept.blk HX.out fun e => by have := HS.out _ e; omega)
  have HAS3 : Hid (CellsD (fun k => w1.heap.size ≤ k) w3 as1 (msgD (delR s x.a.n).1)) := Lib.hid (HAS.out.1.on H23.out)
  clear hB3 hk3 h2 hc2 HCL HSA H23
  have da : w3.cell? ⟨g8, 1, none⟩ = some (.int .i64 x.a.n) := (act_cells HX3.out).2.1
  have HCL2 := Lib.hid (H3.out.rdel HBR.out x.a.n)
  rw [e1, e2] at HCL2
  generalize (delR s x.a.n).1 = dm at *
  generalize (delR s x.a.n).2.1 = c at *
  clear e1 e2 e3
  generalize w2.heap.size = ga at *
  go_upto_region 9 with fail
  refine HCL2.out.mono ?_
  rintro e w4 ⟨bs, rfl, h4, hc4, hk4⟩
  clear da
  have HBSS : Hid (CellsD (fun k => k < B) w4 bs (msgD dm) ∧ bs.length = 15) := Lib.hid ⟨hc4, msg_len hc4⟩
  have HB1 := Lib.hid (CellsD.all hc4)
  have HSB : Hid (Blk (w4.alloc (.cells zeroC.toArray 39)) w4.heap.size 39 zeroC.toArray) := Lib.hid (Blk.new w4 _ _)
  have HBA4 : Hid (Blk w4 ga 39 as1.toArray) := Lib.hid (hk4.blk HBA3.out fun e => by have := HS.out _ e; have := HSZ.out; have := HBW.out; omega)
  have HAS4 : Hid (CellsD (fun k => w1.heap.size ≤ k) w4 as1 (msgD dm)) := Lib.hid ⟨HAS3.out.1, fun i v d q1 q2 => (HAS3.out.2 i v d q1 q2).kept hk4 fun k hk e => by have := HS.out _ e; have := HBW.out; omega⟩
  have H4 := Lib.hid h4
  clear h4 hc4 hk4 HCL2
  go_upto_region 9 with (refine wpList_store_msg rfl (.tmp 13) (.tmp 63) rfl w4.heap.size zeroC.toArray bs rfl rfl HSB.out rfl HBSS.out.2 HB1.out ?_; intro w5 hB5 hk5)
  have H45 : Hid (Below w4.heap.size w4 w5) := Lib.hid (((Kept.of ((Below.refl w4.heap.size w4).alloc (Nat.le_refl _) (.cells zeroC.toArray 39)) : Kept (fun b => b = w4.heap.size) w4 _).trans hk5).below (Nat.le_refl _) fun k hk e => by omega)
  have H5 := Lib.hid (H4.out.on H45.out)
  have HBA := Lib.hid (HBA4.out.on H45.out)
  have HBB := Lib.hid hB5
  have HSM := Lib.hid (same_message as1 bs dm w5 (HAS4.out.on H45.out) (HBSS.out.1.on H45.out))
  clear hB5 hk5 HSB H45
  generalize w4.heap.size = gb at *
  have ec : (c == c) = true := beq_t rfl
  obtain ⟨a0, a1, a2, a3, a4, a5, a6, a7, a8, a9, a10, a11, a12, a13, a14, hea⟩ := list15 HAS.out.2
  obtain ⟨b0, b1, b2, b3, b4, b5, b6, b7, b8, b9, b10, b11, b12, b13, b14, heb⟩ := list15 HBSS.out.2
  subst hea heb
  have p0 : w5.cell? ⟨ga, 0, none⟩ = some a0 := HBA.out.cell 0
  have q0 : w5.cell? ⟨gb, 0, none⟩ = some b0 := HBB.out.cell 0
  have p1 : w5.cell? ⟨ga, 1, none⟩ = some a1 := HBA.out.cell 1
  have q1 : w5.cell? ⟨gb, 1, none⟩ = some b1 := HBB.out.cell 1
  have p2 : w5.cell? ⟨ga, 2, none⟩ = some a2 := HBA.out.cell 2
  have q2 : w5.cell? ⟨gb, 2, none⟩ = some b2 := HBB.out.cell 2
  have p3 : w5.cell? ⟨ga, 3, none⟩ = some a3 := HBA.out.cell 3
  have q3 : w5.cell? ⟨gb, 3, none⟩ = some b3 := HBB.out.cell 3
  have p4 : w5.cell? ⟨ga, 4, none⟩ = some a4 := HBA.out.cell 4
  have q4 : w5.cell? ⟨gb, 4, none⟩ = some b4 := HBB.out.cell 4
  have p5 : w5.cell? ⟨ga, 5, none⟩ = some a5 := HBA.out.cell 5
  have q5 : w5.cell? ⟨gb, 5, none⟩ = some b5 := HBB.out.cell 5
  have p6 : w5.cell? ⟨ga, 6, none⟩ = some a6 := HBA.out.cell 6
  have q6 : w5.cell? ⟨gb, 6, none⟩ = some b6 := HBB.out.cell 6
  have p7 : w5.cell? ⟨ga, 7, none⟩ = some a7 := HBA.out.cell 7
  have q7 : w5.cell? ⟨gb, 7, none⟩ = some b7 := HBB.out.cell 7
  have p8 : w5.cell? ⟨ga, 8, none⟩ = some a8 := HBA.out.cell 8
  have q8 : w5.cell? ⟨gb, 8, none⟩ = some b8 := HBB.out.cell 8
  have p9 : w5.cell? ⟨ga, 9, none⟩ = some a9 := HBA.out.cell 9
  have q9 : w5.cell? ⟨gb, 9, none⟩ = some b9 := HBB.out.cell 9
  have p10 : w5.cell? ⟨ga, 10, none⟩ = some a10 := HBA.out.cell 10
  have q10 : w5.cell? ⟨gb, 10, none⟩ = some b10 := HBB.out.cell 10
  have p11 : w5.cell? ⟨ga, 11, none⟩ = some a11 := HBA.out.cell 11
  have q11 : w5.cell? ⟨gb, 11, none⟩ = some b11 := HBB.out.cell 11
  have p12 : w5.cell? ⟨ga, 12, none⟩ = some a12 := HBA.out.cell 12
  have q12 : w5.cell? ⟨gb, 12, none⟩ = some b12 := HBB.out.cell 12
  have p13 : w5.cell? ⟨ga, 13, none⟩ = some a13 := HBA.out.cell 13
  have q13 : w5.cell? ⟨gb, 13, none⟩ = some b13 := HBB.out.cell 13
  have p14 : w5.cell? ⟨ga, 14, none⟩ = some a14 := HBA.out.cell 14
  have q14 : w5.cell? ⟨gb, 14, none⟩ = some b14 := HBB.out.cell 14
  go_wp2_with fail
  refine HSM.out.mono ?_
  rintro e w6 ⟨rfl, hb6⟩
  have H6 := Lib.hid (H5.out.on hb6)
  clear hb6 HSM p0 q0 p1 q1 p2 q2 p3 q3 p4 q4 p5 q5 p6 q6 p7 q7 p8 q8 p9 q9 p10 q10 p11 q11 p12 q12 p13 q13 p14 q14
  go_wp2_with fail
  exact HF.out _ _ _ _ rfl H6.out HV2.out HM2.out
theorem step7_any (h : Run B S0 w0 n u s r w) (hv : InvS l s i) (hm : MatchS s r) (hi : i ≤ 1048576) (x : ActM) (mc : List Value) (gvv : Value) (hml : mc.length = 15) (hmc : CellsD (fun k => k < B) w mc (msgD x.m)) (hgs : ReadsD (fun k => k < B) w gvv (groupsD x.gs)) (hk : x.kind = 7) :
    Calls Try.prog 25 #[.pointer (some ⟨n, 0, none⟩), .pointer (some ⟨u, 0, none⟩), .agg (.int .i64 x.kind :: .int .i64 x.a.n :: .int .i64 x.b.n :: (mc ++ [gvv])).toArray] w (StepMade B S0 w0 n u l i) := by
  have hb0 : Below w.heap.size w (w.alloc (.cells (.int .i64 x.kind :: .int .i64 x.a.n :: .int .i64 x.b.n :: (mc ++ [gvv])).toArray 54)) := (Below.refl _ _).alloc (Nat.le_refl _) _
  obtain ⟨S, hr, hS, hcomp⟩ := h.rebase hb0
  have HF : Hid (∀ e w' s' r', e = .returned (.bool true) → Run B S (w.alloc (.cells (.int .i64 x.kind :: .int .i64 x.a.n :: .int .i64 x.b.n :: (mc ++ [gvv])).toArray 54)) n u s' r' w' → InvS l s' (i + 1) → MatchS s' r' → StepMade B S0 w0 n u l i e w') := Lib.hid fun e w' s' r' h1 h2 h3 h4 => ⟨h1, s', r', hcomp _ _ _ h2, h3, h4⟩
  have HBS := Lib.hid (BndS.of hv (Nat.le_succ_of_le hi))
  have HBR := Lib.hid (BndR.of hv hm (Nat.le_succ_of_le hi))
  have HV := Lib.hid hv
  have HMT := Lib.hid hm
  have HX : Hid (Blk (w.alloc (.cells (.int .i64 x.kind :: .int .i64 x.a.n :: .int .i64 x.b.n :: (mc ++ [gvv])).toArray 54)) w.heap.size 54 (.int .i64 x.kind :: .int .i64 x.a.n :: .int .i64 x.b.n :: (mc ++ [gvv])).toArray) := Lib.hid (Blk.new w _ _)
  have HMC : Hid (CellsD (fun k => k < B) (w.alloc (.cells (.int .i64 x.kind :: .int .i64 x.a.n :: .int .i64 x.b.n :: (mc ++ [gvv])).toArray 54)) mc (msgD x.m) ∧ mc.length = 15) := Lib.hid ⟨hmc.on hb0, hml⟩
  have HGS : Hid (ReadsD (fun k => k < B) (w.alloc (.cells (.int .i64 x.kind :: .int .i64 x.a.n :: .int .i64 x.b.n :: (mc ++ [gvv])).toArray 54)) gvv (groupsD x.gs)) := Lib.hid (hgs.on hb0)
  have HR := Lib.hid hr
  have HS : Hid (∀ k, S k → k < w.heap.size ∧ B ≤ k) := Lib.hid fun k hk => (hS k hk).2
  have HBW : Hid (B ≤ w.heap.size ∧ w.heap.size < (w.alloc (.cells (.int .i64 x.kind :: .int .i64 x.a.n :: .int .i64 x.b.n :: (mc ++ [gvv])).toArray 54)).heap.size) := Lib.hid ⟨h.bw, by rw [World.size_alloc]; omega⟩
  have HPOS : Hid (∀ m, s.ms x.a.n = some m → 1 ≤ s.cnt) := Lib.hid fun m hm => by
    obtain ⟨P, R, b, gv, nv, mv, rgv, h1, -⟩ := h
    exact h1.net.pos x.a.h hm
  have dk : (w.alloc (.cells (.int .i64 x.kind :: .int .i64 x.a.n :: .int .i64 x.b.n :: (mc ++ [gvv])).toArray 54)).cell? ⟨w.heap.size, 0, none⟩ = some (.int .i64 x.kind) := (act_cells HX.out).1
  have HAI := Lib.hid x.a.h
  generalize hQ : StepMade B S0 w0 n u l i = Q at *
  clear hQ h hv hm hmc hgs hb0 hr hS hcomp hi hml
  have n1 : (x.kind == 1) = false := beq_f (by omega)
  have n2 : (x.kind == 2) = false := beq_f (by omega)
  have n3 : (x.kind == 3) = false := beq_f (by omega)
  have n4 : (x.kind == 4) = false := beq_f (by omega)
  have n5 : (x.kind == 5) = false := beq_f (by omega)
  have n6 : (x.kind == 6) = false := beq_f (by omega)
  have n7 : (x.kind == 7) = true := beq_t hk
  clear hk
  go_enter Try.func25, Try.ntmps25
  go_upto_region 2 with fail
  generalize w.alloc (.cells (.int .i64 x.kind :: .int .i64 x.a.n :: .int .i64 x.b.n :: (mc ++ [gvv])).toArray 54) = w1 at *
  generalize w.heap.size = g8 at *
  clear dk
  have da : w1.cell? ⟨g8, 1, none⟩ = some (.int .i64 x.a.n) := (act_cells HX.out).2.1
  have HCL := Lib.hid (HR.out.run.peek x.a.n HAI.out)
  have e1 := HMT.out.peek HAI.out
  have HM2 := Lib.hid HMT.out
  have HV2 := Lib.hid HV.out.next
  go_upto_region 23 with fail
  refine HCL.out.mono ?_
  rintro e w2 ⟨as1, rfl, hb2, hc2⟩
  clear da
  have HAS : Hid (CellsD (fun k => w1.heap.size ≤ k) w2 as1 (msgD (peekR s x.a.n).1) ∧ as1.length = 15) := Lib.hid ⟨hc2, msg_len hc2⟩
  have HA1 := Lib.hid (CellsD.all hc2)
  have HSA : Hid (Blk (w2.alloc (.cells zeroC.toArray 39)) w2.heap.size 39 zeroC.toArray) := Lib.hid (Blk.new w2 _ _)
  have H2 := Lib.hid (HR.out.run.on hb2)
  go_upto_region 23 with (refine wpList_store_msg rfl (.tmp 19) (.tmp 132) rfl w2.heap.size zeroC.toArray as1 rfl rfl HSA.out rfl HAS.out.2 HA1.out ?_; intro w3 hB3 hk3)
  have H23 : Hid (Below w2.heap.size w2 w3) := Lib.hid (((Kept.of ((Below.refl w2.heap.size w2).alloc (Nat.le_refl _) (.cells zeroC.toArray 39)) : Kept (fun b => b = w2.heap.size) w2 _).trans hk3).below (Nat.le_refl _) fun k hk e => by omega)
  have H3 := Lib.hid (H2.out.on H23.out)
  have HBA3 := Lib.hid hB3
  have HX3 := Lib.hid (H3.out.kept.blk HX.out fun e => by have := HS.out _ e; omega)
  have HAS3 : Hid (CellsD (fun k => w1.heap.size ≤ k) w3 as1 (msgD (peekR s x.a.n).1)) := Lib.hid (HAS.out.1.on H23.out)
  clear hB3 hk3 hb2 hc2 HCL HSA H23
  have da : w3.cell? ⟨g8, 1, none⟩ = some (.int .i64 x.a.n) := (act_cells HX3.out).2.1
  have HCL2 := Lib.hid (H3.out.rpeek HBR.out x.a.n)
  rw [e1] at HCL2
  generalize (peekR s x.a.n).1 = dm at *
  generalize (peekR s x.a.n).2 = c at *
  clear e1
  generalize w2.heap.size = ga at *
  go_upto_region 24 with fail
  refine HCL2.out.mono ?_
  rintro e w4 ⟨bs, rfl, hb4, hc4⟩
  clear da
  have HBSS : Hid (CellsD (fun k => k < B) w4 bs (msgD dm) ∧ bs.length = 15) := Lib.hid ⟨hc4, msg_len hc4⟩
  have HB1 := Lib.hid (CellsD.all hc4)
  have HSB : Hid (Blk (w4.alloc (.cells zeroC.toArray 39)) w4.heap.size 39 zeroC.toArray) := Lib.hid (Blk.new w4 _ _)
  have HBA4 : Hid (Blk w4 ga 39 as1.toArray) := Lib.hid (HBA3.out.on hb4)
  have HAS4 : Hid (CellsD (fun k => w1.heap.size ≤ k) w4 as1 (msgD dm)) := Lib.hid (HAS3.out.on hb4)
  have H4 := Lib.hid (H3.out.on hb4)
  clear hb4 hc4 HCL2
  go_upto_region 24 with (refine wpList_store_msg rfl (.tmp 21) (.tmp 139) rfl w4.heap.size zeroC.toArray bs rfl rfl HSB.out rfl HBSS.out.2 HB1.out ?_; intro w5 hB5 hk5)
  have H45 : Hid (Below w4.heap.size w4 w5) := Lib.hid (((Kept.of ((Below.refl w4.heap.size w4).alloc (Nat.le_refl _) (.cells zeroC.toArray 39)) : Kept (fun b => b = w4.heap.size) w4 _).trans hk5).below (Nat.le_refl _) fun k hk e => by omega)
  have H5 := Lib.hid (H4.out.on H45.out)
  have HBA := Lib.hid (HBA4.out.on H45.out)
  have HBB := Lib.hid hB5
  have HSM := Lib.hid (same_message as1 bs dm w5 (HAS4.out.on H45.out) (HBSS.out.1.on H45.out))
  clear hB5 hk5 HSB H45
  generalize w4.heap.size = gb at *
  have ec : (c == c) = true := beq_t rfl
  obtain ⟨a0, a1, a2, a3, a4, a5, a6, a7, a8, a9, a10, a11, a12, a13, a14, hea⟩ := list15 HAS.out.2
  obtain ⟨b0, b1, b2, b3, b4, b5, b6, b7, b8, b9, b10, b11, b12, b13, b14, heb⟩ := list15 HBSS.out.2
  subst hea heb
  have p0 : w5.cell? ⟨ga, 0, none⟩ = some a0 := HBA.out.cell 0
  have q0 : w5.cell? ⟨gb, 0, none⟩ = some b0 := HBB.out.cell 0
  have p1 : w5.cell? ⟨ga, 1, none⟩ = some a1 := HBA.out.cell 1
  have q1 : w5.cell? ⟨gb, 1, none⟩ = some b1 := HBB.out.cell 1
  have p2 : w5.cell? ⟨ga, 2, none⟩ = some a2 := HBA.out.cell 2
  have q2 : w5.cell? ⟨gb, 2, none⟩ = some b2 := HBB.out.cell 2
  have p3 : w5.cell? ⟨ga, 3, none⟩ = some a3 := HBA.out.cell 3
  have q3 : w5.cell? ⟨gb, 3, none⟩ = some b3 := HBB.out.cell 3
  have p4 : w5.cell? ⟨ga, 4, none⟩ = some a4 := HBA.out.cell 4
  have q4 : w5.cell? ⟨gb, 4, none⟩ = some b4 := HBB.out.cell 4
  have p5 : w5.cell? ⟨ga, 5, none⟩ = some a5 := HBA.out.cell 5
  have q5 : w5.cell? ⟨gb, 5, none⟩ = some b5 := HBB.out.cell 5
  have p6 : w5.cell? ⟨ga, 6, none⟩ = some a6 := HBA.out.cell 6
  have q6 : w5.cell? ⟨gb, 6, none⟩ = some b6 := HBB.out.cell 6
  have p7 : w5.cell? ⟨ga, 7, none⟩ = some a7 := HBA.out.cell 7
  have q7 : w5.cell? ⟨gb, 7, none⟩ = some b7 := HBB.out.cell 7
  have p8 : w5.cell? ⟨ga, 8, none⟩ = some a8 := HBA.out.cell 8
  have q8 : w5.cell? ⟨gb, 8, none⟩ = some b8 := HBB.out.cell 8
  have p9 : w5.cell? ⟨ga, 9, none⟩ = some a9 := HBA.out.cell 9
  have q9 : w5.cell? ⟨gb, 9, none⟩ = some b9 := HBB.out.cell 9
  have p10 : w5.cell? ⟨ga, 10, none⟩ = some a10 := HBA.out.cell 10
  have q10 : w5.cell? ⟨gb, 10, none⟩ = some b10 := HBB.out.cell 10
  have p11 : w5.cell? ⟨ga, 11, none⟩ = some a11 := HBA.out.cell 11
  have q11 : w5.cell? ⟨gb, 11, none⟩ = some b11 := HBB.out.cell 11
  have p12 : w5.cell? ⟨ga, 12, none⟩ = some a12 := HBA.out.cell 12
  have q12 : w5.cell? ⟨gb, 12, none⟩ = some b12 := HBB.out.cell 12
  have p13 : w5.cell? ⟨ga, 13, none⟩ = some a13 := HBA.out.cell 13
  have q13 : w5.cell? ⟨gb, 13, none⟩ = some b13 := HBB.out.cell 13
  have p14 : w5.cell? ⟨ga, 14, none⟩ = some a14 := HBA.out.cell 14
  have q14 : w5.cell? ⟨gb, 14, none⟩ = some b14 := HBB.out.cell 14
  go_wp2_with fail
  refine HSM.out.mono ?_
  rintro e w6 ⟨rfl, hb6⟩
  have H6 := Lib.hid (H5.out.on hb6)
  clear hb6 HSM p0 q0 p1 q1 p2 q2 p3 q3 p4 q4 p5 q5 p6 q6 p7 q7 p8 q8 p9 q9 p10 q10 p11 q11 p12 q12 p13 q13 p14 q14
  go_wp2_with fail
  exact HF.out _ _ _ _ rfl H6.out HV2.out HM2.out
end
end Go.Proofs.Ytmcdmcnbnnfhnaa
namespace Go.Proofs.Ytmcdmcnbnnfhnaa
open Go.RowKit
set_option maxRecDepth 100000

section
variable {B n u : Nat} {S0 : Nat → Prop} {s : NetS} {r : RefS} {w0 w : World} {l : Int} {i : Nat}
set_option maxHeartbeats 8000000
theorem step3_any (h : Run B S0 w0 n u s r w) (hv : InvS l s i) (hm : MatchS s r) (hi : i ≤ 1048576) (x : ActM) (mc : List Value) (gvv : Value) (hml : mc.length = 15) (hmc : CellsD (fun k => k < B) w mc (msgD x.m)) (hgs : ReadsD (fun k => k < B) w gvv (groupsD x.gs)) (hk : x.kind = 3) :
    Calls Try.prog 25 #[.pointer (some ⟨n, 0, none⟩), .pointer (some ⟨u, 0, none⟩), .agg (.int .i64 x.kind :: .int .i64 x.a.n :: .int .i64 x.b.n :: (mc ++ [gvv])).toArray] w (StepMade B S0 w0 n u l i) := by
  have hb0 : Below w.heap.size w (w.alloc (.cells (.int .i64 x.kind :: .int .i64 x.a.n :: .int .i64 x.b.n :: (mc ++ [gvv])).toArray 54)) := (Below.refl _ _).alloc (Nat.le_refl _) _
  obtain ⟨S, hr, hS, hcomp⟩ := h.rebase hb0
  have HF : Hid (∀ e w' s' r', e = .returned (.bool true) → Run B S (w.alloc (.cells (.int .i64 x.kind :: .int .i64 x.a.n :: .int .i64 x.b.n :: (mc ++ [gvv])).toArray 54)) n u s' r' w' → InvS l s' (i + 1) → MatchS s' r' → StepMade B S0 w0 n u l i e w') := Lib.hid fun e w' s' r' h1 h2 h3 h4 => ⟨h1, s', r', hcomp _ _ _ h2, h3, h4⟩
  have HBS := Lib.hid (BndS.of hv (Nat.le_succ_of_le hi))
  have HBR := Lib.hid (BndR.of hv hm (Nat.le_succ_of_le hi))
  have HV := Lib.hid hv
  have HMT := Lib.hid hm
  have HX : Hid (Blk (w.alloc (.cells (.int .i64 x.kind :: .int .i64 x.a.n :: .int .i64 x.b.n :: (mc ++ [gvv])).toArray 54)) w.heap.size 54 (.int .i64 x.kind :: .int .i64 x.a.n :: .int .i64 x.b.n :: (mc ++ [gvv])).toArray) := Lib.hid (Blk.new w _ _)
  have HMC : Hid (CellsD (fun k => k < B) (w.alloc (.cells (.int .i64 x.kind :: .int .i64 x.a.n :: .int .i64 x.b.n :: (mc ++ [gvv])).toArray 54)) mc (msgD x.m) ∧ mc.length = 15) := Lib.hid ⟨hmc.on hb0, hml⟩
  have HGS : Hid (ReadsD (fun k => k < B) (w.alloc (.cells (.int .i64 x.kind :: .int .i64 x.a.n :: .int .i64 x.b.n :: (mc ++ [gvv])).toArray 54)) gvv (groupsD x.gs)) := Lib.hid (hgs.on hb0)
  have HR := Lib.hid hr
  have HS : Hid (∀ k, S k → k < w.heap.size ∧ B ≤ k) := Lib.hid fun k hk => (hS k hk).2
  have HBW : Hid (B ≤ w.heap.size ∧ w.heap.size < (w.alloc (.cells (.int .i64 x.kind :: .int .i64 x.a.n :: .int .i64 x.b.n :: (mc ++ [gvv])).toArray 54)).heap.size) := Lib.hid ⟨h.bw, by rw [World.size_alloc]; omega⟩
  have HPOS : Hid (∀ m, s.ms x.a.n = some m → 1 ≤ s.cnt) := Lib.hid fun m hm => by
    obtain ⟨P, R, b, gv, nv, mv, rgv, h1, -⟩ := h
    exact h1.net.pos x.a.h hm
  have dk : (w.alloc (.cells (.int .i64 x.kind :: .int .i64 x.a.n :: .int .i64 x.b.n :: (mc ++ [gvv])).toArray 54)).cell? ⟨w.heap.size, 0, none⟩ = some (.int .i64 x.kind) := (act_cells HX.out).1
  have HAI := Lib.hid x.a.h
  generalize hQ : StepMade B S0 w0 n u l i = Q at *
  clear hQ h hv hm hmc hgs hb0 hr hS hcomp hi hml
  have n1 : (x.kind == 1) = false := beq_f (by omega)
  have n2 : (x.kind == 2) = false := beq_f (by omega)
  have n3 : (x.kind == 3) = true := beq_t hk
  clear hk
  go_enter Try.func25, Try.ntmps25
  go_upto_region 2 with fail
  generalize w.alloc (.cells (.int .i64 x.kind :: .int .i64 x.a.n :: .int .i64 x.b.n :: (mc ++ [gvv])).toArray 54) = w1 at *
  generalize w.heap.size = g8 at *
  clear dk
  have HBL : Hid (B ≤ w1.heap.size) := Lib.hid (by have := HBW.out; omega)
  obtain ⟨e1, e3⟩ := HMT.out.drop HAI.out
  have HE1 : Hid ((dropQ r x.a.n).1 = (dropR s x.a.n).1) := Lib.hid e1
  have HM2 := Lib.hid e3
  have HV2 := Lib.hid (HV.out.drop x.a.n HPOS.out)
  have HC1 : Hid (∀ W, Run B S w1 n u s r W → Calls Try.prog 17 #[.pointer (some ⟨n, 0, none⟩), .int .i64 x.a.n] W fun e w' => e = .returned (.int .i64 (dropR s x.a.n).1) ∧ Run B S w1 n u (dropR s x.a.n).2 r w' ∧ Below B W w') := Lib.hid fun W hW => hW.drop HBS.out x.a.n HAI.out
  have HC2 : Hid (∀ W, Run B S w1 n u (dropR s x.a.n).2 r W → Calls Try.prog 49 #[.pointer (some ⟨u, 0, none⟩), .int .i64 x.a.n] W fun e w' => e = .returned (.int .i64 (dropQ r x.a.n).1) ∧ Run B S w1 n u (dropR s x.a.n).2 (dropQ r x.a.n).2 w' ∧ Below B W w') := Lib.hid fun W hW => hW.rdrop HBR.out x.a.n
  generalize (dropR s x.a.n).1 = c at *
  generalize (dropR s x.a.n).2 = s2 at *
  generalize (dropQ r x.a.n).2 = r2 at *
  clear e1 e3
  have ec : (c == c) = true := beq_t rfl
  go_upto_region 11 with fail
  refine region_inv B (JS [[0, 2], [3, 4, 6]] [3, 7] (StW B S w1 n u s r s2 r2)) [some (.pointer (some ⟨n, 0, none⟩)), some (.pointer (some ⟨g8, 1, none⟩)), some (.int .i64 x.a.n), some (.int .i64 c), some (.pointer (some ⟨u, 0, none⟩)), some (.pointer (some ⟨g8, 1, none⟩)), some (.int .i64 x.a.n), some (.int .i64 c), some (.bool true), some (.bool true)] (by kernel_rfl) rfl (by kernel_rfl) (by kernel_rfl) (fun st => JS.start (fun _ => show Run B S w1 n u s r w1.drew from HR.out.run.on ⟨rfl, rfl, rfl, Nat.le_refl _, fun _ _ => rfl⟩) st) (.cons ?a_0 (.cons ?a_1 (.cons ?a_2 (.cons ?a_3 (.cons ?a_4 (.cons ?a_5 (.cons ?a_6 (.cons ?a_7 (.cons ?a_8 (.cons ?a_9 .nil)))))))))) ?a_fin
  case a_0 =>
    intro wq hbw D st hJ hD hdp K hK
    simp only [Act.put, List.setIfInBounds_toArray, List.set_cons_zero, List.set_cons_succ] at hK ⊢
    unfold opStep
    rw [if_pos (by rfl)]
    go_simp
    exact hK.out _ _ (Below.refl _ _) (fun u hu => Option.some.inj hu) (hJ.pure 0 _ (by rfl)) _ rfl
  case a_1 =>
    intro wq hbw D st hJ hD hdp K hK
    simp only [Act.put, List.setIfInBounds_toArray, List.set_cons_zero, List.set_cons_succ] at hK ⊢
    unfold opStep
    rw [if_pos (by rfl)]
    go_simp
    exact hK.out _ _ (Below.refl _ _) (fun u hu => Option.some.inj hu) (hJ.pure 1 _ (by rfl)) _ rfl
  case a_2 =>
    intro wq hbw D st hJ hD hdp K hK
    simp only [Act.put, List.setIfInBounds_toArray, List.set_cons_zero, List.set_cons_succ] at hK ⊢
    unfold opStep
    rw [if_pos (by rfl)]
    obtain ⟨sg, hsg, hS⟩ := hJ.le 0 (i := 2) (by rfl) hD
    have HXs := Lib.hid (hS.kept.blk HX.out fun e => by have := HS.out _ e; omega)
    have d1 : wq.cell? ⟨g8, 1, none⟩ = some (.int .i64 x.a.n) := (act_cells HXs.out).2.1
    go_simp
    exact hK.out _ _ (Below.refl _ _) (fun u hu => Option.some.inj hu) (hJ.pure 2 _ (by rfl)) _ rfl
  case a_3 =>
    intro wq hbw D st hJ hD hdp K hK
    simp only [Act.put, List.setIfInBounds_toArray, List.set_cons_zero, List.set_cons_succ] at hK ⊢
    unfold opStep
    rw [if_pos (by rfl)]
    have hpv : ∀ k', 0 < 0 → ([3, 7] : List Nat)[0 - 1]? = some k' → D k' = true := fun _ h => absurd h (Nat.lt_irrefl 0)
    have hdd : ∀ i ∈ ([[0, 2], [3, 4, 6]] : List (List Nat)).getD 0 [], D i = true := fun i hi => hdp i ((of_decide_eq_true (by kernel_rfl) : ∀ i ∈ ([[0, 2], [3, 4, 6]] : List (List Nat)).getD 0 [], i ∈ depsOf _) i hi)
    have hW := hJ.here 0 3 rfl hD hpv
    have hsz := Nat.le_trans HBL.out hbw.size
    go_simp
    refine (HC1.out _ hW).mono ?_
    rintro e wz ⟨rfl, h2, hbz⟩
    go_simp
    exact hK.out _ _ hbz (fun u hu => Option.some.inj hu) (hJ.step 0 3 _ rfl hD hpv hdd (of_decide_eq_true (by kernel_rfl)) h2) _ rfl
  case a_4 =>
    intro wq hbw D st hJ hD hdp K hK
    simp only [Act.put, List.setIfInBounds_toArray, List.set_cons_zero, List.set_cons_succ] at hK ⊢
    unfold opStep
    rw [if_pos (by rfl)]
    go_simp
    exact hK.out _ _ (Below.refl _ _) (fun u hu => Option.some.inj hu) (hJ.pure 4 _ (by rfl)) _ rfl
  case a_5 =>
    intro wq hbw D st hJ hD hdp K hK
    simp only [Act.put, List.setIfInBounds_toArray, List.set_cons_zero, List.set_cons_succ] at hK ⊢
    unfold opStep
    rw [if_pos (by rfl)]
    go_simp
    exact hK.out _ _ (Below.refl _ _) (fun u hu => Option.some.inj hu) (hJ.pure 5 _ (by rfl)) _ rfl
  case a_6 =>
    intro wq hbw D st hJ hD hdp K hK
    simp only [Act.put, List.setIfInBounds_toArray, List.set_cons_zero, List.set_cons_succ] at hK ⊢
    unfold opStep
    rw [if_pos (by rfl)]
    obtain ⟨sg, hsg, hS⟩ := hJ.le 1 (i := 6) (by rfl) hD
    have HXs := Lib.hid (hS.kept.blk HX.out fun e => by have := HS.out _ e; omega)
    have d1 : wq.cell? ⟨g8, 1, none⟩ = some (.int .i64 x.a.n) := (act_cells HXs.out).2.1
    go_simp
    exact hK.out _ _ (Below.refl _ _) (fun u hu => Option.some.inj hu) (hJ.pure 6 _ (by rfl)) _ rfl
  case a_7 =>
    intro wq hbw D st hJ hD hdp K hK
    simp only [Act.put, List.setIfInBounds_toArray, List.set_cons_zero, List.set_cons_succ] at hK ⊢
    unfold opStep
    rw [if_pos (by rfl)]
    have hpv : ∀ k', 0 < 1 → ([3, 7] : List Nat)[1 - 1]? = some k' → D k' = true := fun k' _ hk => by injection hk with hk; subst hk; exact hdp 3 (of_decide_eq_true (by kernel_rfl))
    have hdd : ∀ i ∈ ([[0, 2], [3, 4, 6]] : List (List Nat)).getD 1 [], D i = true := fun i hi => hdp i ((of_decide_eq_true (by kernel_rfl) : ∀ i ∈ ([[0, 2], [3, 4, 6]] : List (List Nat)).getD 1 [], i ∈ depsOf _) i hi)
    have hW := hJ.here 1 7 rfl hD hpv
    have hsz := Nat.le_trans HBL.out hbw.size
    go_simp
    have hcl := HC2.out _ hW
    rw [HE1.out] at hcl
    refine hcl.mono ?_
    rintro e wz ⟨rfl, h2, hbz⟩
    go_simp
    exact hK.out _ _ hbz (fun u hu => Option.some.inj hu) (hJ.step 1 7 _ rfl hD hpv hdd (of_decide_eq_true (by kernel_rfl)) h2) _ rfl
  case a_8 =>
    intro wq hbw D st hJ hD hdp K hK
    simp only [Act.put, List.setIfInBounds_toArray, List.set_cons_zero, List.set_cons_succ] at hK ⊢
    unfold opStep
    rw [if_pos (by rfl)]
    go_simp
    exact hK.out _ _ (Below.refl _ _) (fun u hu => Option.some.inj hu) (hJ.pure 8 _ (by rfl)) _ rfl
  case a_9 =>
    intro wq hbw D st hJ hD hdp K hK
    simp only [Act.put, List.setIfInBounds_toArray, List.set_cons_zero, List.set_cons_succ] at hK ⊢
    unfold opStep
    rw [if_pos (by rfl)]
    go_simp
    exact hK.out _ _ (Below.refl _ _) (fun u hu => Option.some.inj hu) (hJ.pure 9 _ (by rfl)) _ rfl
  case a_fin =>
    intro wq hbw D st hall hJ
    simp only [FinAll, lfOf]
    simp only [Act.put, List.setIfInBounds_toArray, List.set_cons_zero, List.set_cons_succ]
    have hW := hJ.done (fun k hk => by simp at hk; rcases hk with rfl | rfl <;> exact hall _ (by decide))
    clear hJ hall
    have H3 := Lib.hid (show Run B S w1 n u s2 r2 wq from hW)
    clear hW hbw
    go_wp2_with fail
    exact HF.out _ _ _ _ rfl H3.out HV2.out HM2.out
theorem step5_any (h : Run B S0 w0 n u s r w) (hv : InvS l s i) (hm : MatchS s r) (hi : i ≤ 1048576) (x : ActM) (mc : List Value) (gvv : Value) (hml : mc.length = 15) (hmc : CellsD (fun k => k < B) w mc (msgD x.m)) (hgs : ReadsD (fun k => k < B) w gvv (groupsD x.gs)) (hk : x.kind = 5) :
    Calls Try.prog 25 #[.pointer (some ⟨n, 0, none⟩), .pointer (some ⟨u, 0, none⟩), .agg (.int .i64 x.kind :: .int .i64 x.a.n :: .int .i64 x.b.n :: (mc ++ [gvv])).toArray] w (StepMade B S0 w0 n u l i) := by
  have hb0 : Below w.heap.size w (w.alloc (.cells (.int .i64 x.kind :: .int .i64 x.a.n :: .int .i64 x.b.n :: (mc ++ [gvv])).toArray 54)) := (Below.refl _ _).alloc (Nat.le_refl _) _
  obtain ⟨S, hr, hS, hcomp⟩ := h.rebase hb0
  have HF : Hid (∀ e w' s' r', e = .returned (.bool true) → Run B S (w.alloc (.cells (.int .i64 x.kind :: .int .i64 x.a.n :: .int .i64 x.b.n :: (mc ++ [gvv])).toArray 54)) n u s' r' w' → InvS l s' (i + 1) → MatchS s' r' → StepMade B S0 w0 n u l i e w') := Lib.hid fun e w' s' r' h1 h2 h3 h4 => ⟨h1, s', r', hcomp _ _ _ h2, h3, h4⟩
  have HBS := Lib.hid (BndS.of hv (Nat.le_succ_of_le hi))
  have HBR := Lib.hid (BndR.of hv hm (Nat.le_succ_of_le hi))
  have HV := Lib.hid hv
  have HMT := Lib.hid hm
  have HX : Hid (Blk (w.alloc (.cells (.int .i64 x.kind :: .int .i64 x.a.n :: .int .i64 x.b.n :: (mc ++ [gvv])).toArray 54)) w.heap.size 54 (.int .i64 x.kind :: .int .i64 x.a.n :: .int .i64 x.b.n :: (mc ++ [gvv])).toArray) := Lib.hid (Blk.new w _ _)
  have HMC : Hid (CellsD (fun k => k < B) (w.alloc (.cells (.int .i64 x.kind :: .int .i64 x.a.n :: .int .i64 x.b.n :: (mc ++ [gvv])).toArray 54)) mc (msgD x.m) ∧ mc.length = 15) := Lib.hid ⟨hmc.on hb0, hml⟩
  have HGS : Hid (ReadsD (fun k => k < B) (w.alloc (.cells (.int .i64 x.kind :: .int .i64 x.a.n :: .int .i64 x.b.n :: (mc ++ [gvv])).toArray 54)) gvv (groupsD x.gs)) := Lib.hid (hgs.on hb0)
  have HR := Lib.hid hr
  have HS : Hid (∀ k, S k → k < w.heap.size ∧ B ≤ k) := Lib.hid fun k hk => (hS k hk).2
  have HBW : Hid (B ≤ w.heap.size ∧ w.heap.size < (w.alloc (.cells (.int .i64 x.kind :: .int .i64 x.a.n :: .int .i64 x.b.n :: (mc ++ [gvv])).toArray 54)).heap.size) := Lib.hid ⟨h.bw, by rw [World.size_alloc]; omega⟩
  have HPOS : Hid (∀ m, s.ms x.a.n = some m → 1 ≤ s.cnt) := Lib.hid fun m hm => by
    obtain ⟨P, R, b, gv, nv, mv, rgv, h1, -⟩ := h
    exact h1.net.pos x.a.h hm
  have dk : (w.alloc (.cells (.int .i64 x.kind :: .int .i64 x.a.n :: .int .i64 x.b.n :: (mc ++ [gvv])).toArray 54)).cell? ⟨w.heap.size, 0, none⟩ = some (.int .i64 x.kind) := (act_cells HX.out).1
  have HAI := Lib.hid x.a.h
  generalize hQ : StepMade B S0 w0 n u l i = Q at *
  clear hQ h hv hm hmc hgs hb0 hr hS hcomp hi hml
  have n1 : (x.kind == 1) = false := beq_f (by omega)
  have n2 : (x.kind == 2) = false := beq_f (by omega)
  have n3 : (x.kind == 3) = false := beq_f (by omega)
  have n4 : (x.kind == 4) = false := beq_f (by omega)
  have n5 : (x.kind == 5) = true := beq_t hk
  clear hk
  go_enter Try.func25, Try.ntmps25
  go_upto_region 2 with fail
  generalize w.alloc (.cells (.int .i64 x.kind :: .int .i64 x.a.n :: .int .i64 x.b.n :: (mc ++ [gvv])).toArray 54) = w1 at *
  generalize w.heap.size = g8 at *
  clear dk
  have HBL : Hid (B ≤ w1.heap.size) := Lib.hid (by have := HBW.out; omega)
  obtain ⟨e1, e3⟩ := HMT.out.part x.gs
  have HE1 : Hid ((partQ r x.gs).1 = (partR s x.gs).1) := Lib.hid e1
  have HM2 := Lib.hid e3
  have HV2 : Hid (InvS l (partR s x.gs).2 (i + 1)) := Lib.hid (by
    unfold partR
    cases partG x.gs with
    | none => exact HV.out.next
    | some f => exact (HV.out.grp _).next)
  have HGW : Hid (∀ W, Kept S w1 W → ReadsD (fun k => k < B) W gvv (groupsD x.gs)) := Lib.hid fun W hk => HGS.out.kept hk fun k hkB e => by have := HS.out _ e; omega
  have HC1 : Hid (∀ W, Run B S w1 n u s r W → Calls Try.prog 18 #[.pointer (some ⟨n, 0, none⟩), gvv] W fun e w' => e = .returned (.int .i64 (partR s x.gs).1) ∧ Run B S w1 n u (partR s x.gs).2 r w' ∧ Below B W w') := Lib.hid fun W hW => hW.part gvv x.gs (HGW.out W hW.kept)
  have HC2 : Hid (∀ W, Run B S w1 n u (partR s x.gs).2 r W → Calls Try.prog 51 #[.pointer (some ⟨u, 0, none⟩), gvv] W fun e w' => e = .returned (.int .i64 (partQ r x.gs).1) ∧ Run B S w1 n u (partR s x.gs).2 (partQ r x.gs).2 w' ∧ Below B W w') := Lib.hid fun W hW => hW.rpart gvv x.gs (HGW.out W hW.kept)
  generalize (partR s x.gs).1 = c at *
  generalize (partR s x.gs).2 = s2 at *
  generalize (partQ r x.gs).2 = r2 at *
  obtain ⟨ga, gc, hgv, -⟩ := ReadsD.slc (show ReadsD _ _ gvv (.ls 1 _) from HGS.out)
  subst hgv
  clear e1 e3 HGS HGW
  generalize (x.gs.map fun g => [rowD g]).length = gq at *
  have ec : (c == c) = true := beq_t rfl
  go_upto_region 17 with fail
  refine region_inv B (JS [[0, 2], [3, 4, 6]] [3, 7] (StW B S w1 n u s r s2 r2)) [some (.pointer (some ⟨n, 0, none⟩)), some (.pointer (some ⟨g8, 18, none⟩)), some (.slice ga gq gc), some (.int .i64 c), some (.pointer (some ⟨u, 0, none⟩)), some (.pointer (some ⟨g8, 18, none⟩)), some (.slice ga gq gc), some (.int .i64 c), some (.bool true), some (.bool true)] (by kernel_rfl) rfl (by kernel_rfl) (by kernel_rfl) (fun st => JS.start (fun _ => show Run B S w1 n u s r w1.drew from HR.out.run.on ⟨rfl, rfl, rfl, Nat.le_refl _, fun _ _ => rfl⟩) st) (.cons ?a_0 (.cons ?a_1 (.cons ?a_2 (.cons ?a_3 (.cons ?a_4 (.cons ?a_5 (.cons ?a_6 (.cons ?a_7 (.cons ?a_8 (.cons ?a_9 .nil)))))))))) ?a_fin
  case a_0 =>
    intro wq hbw D st hJ hD hdp K hK
    simp only [Act.put, List.setIfInBounds_toArray, List.set_cons_zero, List.set_cons_succ] at hK ⊢
    unfold opStep
    rw [if_pos (by rfl)]
    go_simp
    exact hK.out _ _ (Below.refl _ _) (fun u hu => Option.some.inj hu) (hJ.pure 0 _ (by rfl)) _ rfl
  case a_1 =>
    intro wq hbw D st hJ hD hdp K hK
    simp only [Act.put, List.setIfInBounds_toArray, List.set_cons_zero, List.set_cons_succ] at hK ⊢
    unfold opStep
    rw [if_pos (by rfl)]
    go_simp
    exact hK.out _ _ (Below.refl _ _) (fun u hu => Option.some.inj hu) (hJ.pure 1 _ (by rfl)) _ rfl
  case a_2 =>
    intro wq hbw D st hJ hD hdp K hK
    simp only [Act.put, List.setIfInBounds_toArray, List.set_cons_zero, List.set_cons_succ] at hK ⊢
    unfold opStep
    rw [if_pos (by rfl)]
    obtain ⟨sg, hsg, hS⟩ := hJ.le 0 (i := 2) (by rfl) hD
    have HXs := Lib.hid (hS.kept.blk HX.out fun e => by have := HS.out _ e; omega)
    have d1 : wq.cell? ⟨g8, 18, none⟩ = some (.slice ga gq gc) := act_b HXs.out HMC.out.2
    go_simp
    exact hK.out _ _ (Below.refl _ _) (fun u hu => Option.some.inj hu) (hJ.pure 2 _ (by rfl)) _ rfl
  case a_3 =>
    intro wq hbw D st hJ hD hdp K hK
    simp only [Act.put, List.setIfInBounds_toArray, List.set_cons_zero, List.set_cons_succ] at hK ⊢
    unfold opStep
    rw [if_pos (by rfl)]
    have hpv : ∀ k', 0 < 0 → ([3, 7] : List Nat)[0 - 1]? = some k' → D k' = true := fun _ h => absurd h (Nat.lt_irrefl 0)
    have hdd : ∀ i ∈ ([[0, 2], [3, 4, 6]] : List (List Nat)).getD 0 [], D i = true := fun i hi => hdp i ((of_decide_eq_true (by kernel_rfl) : ∀ i ∈ ([[0, 2], [3, 4, 6]] : List (List Nat)).getD 0 [], i ∈ depsOf _) i hi)
    have hW := hJ.here 0 3 rfl hD hpv
    have hsz := Nat.le_trans HBL.out hbw.size
    go_simp
    refine (HC1.out _ hW).mono ?_
    rintro e wz ⟨rfl, h2, hbz⟩
    go_simp
    exact hK.out _ _ hbz (fun u hu => Option.some.inj hu) (hJ.step 0 3 _ rfl hD hpv hdd (of_decide_eq_true (by kernel_rfl)) h2) _ rfl
  case a_4 =>
    intro wq hbw D st hJ hD hdp K hK
    simp only [Act.put, List.setIfInBounds_toArray, List.set_cons_zero, List.set_cons_succ] at hK ⊢
    unfold opStep
    rw [if_pos (by rfl)]
    go_simp
    exact hK.out _ _ (Below.refl _ _) (fun u hu => Option.some.inj hu) (hJ.pure 4 _ (by rfl)) _ rfl
  case a_5 =>
    intro wq hbw D st hJ hD hdp K hK
    simp only [Act.put, List.setIfInBounds_toArray, List.set_cons_zero, List.set_cons_succ] at hK ⊢
    unfold opStep
    rw [if_pos (by rfl)]
    go_simp
    exact hK.out _ _ (Below.refl _ _) (fun u hu => Option.some.inj hu) (hJ.pure 5 _ (by rfl)) _ rfl
  case a_6 =>
    intro wq hbw D st hJ hD hdp K hK
    simp only [Act.put, List.setIfInBounds_toArray, List.set_cons_zero, List.set_cons_succ] at hK ⊢
    unfold opStep
    rw [if_pos (by rfl)]
    obtain ⟨sg, hsg, hS⟩ := hJ.le 1 (i := 6) (by rfl) hD
    have HXs := Lib.hid (hS.kept.blk HX.out fun e => by have := HS.out _ e; omega)
    have d1 : wq.cell? ⟨g8, 18, none⟩ = some (.slice ga gq gc) := act_b HXs.out HMC.out.2
    go_simp
    exact hK.out _ _ (Below.refl _ _) (fun u hu => Option.some.inj hu) (hJ.pure 6 _ (by rfl)) _ rfl
  case a_7 =>
    intro wq hbw D st hJ hD hdp K hK
    simp only [Act.put, List.setIfInBounds_toArray, List.set_cons_zero, List.set_cons_succ] at hK ⊢
    unfold opStep
    rw [if_pos (by rfl)]
    have hpv : ∀ k', 0 < 1 → ([3, 7] : List Nat)[1 - 1]? = some k' → D k' = true := fun k' _ hk => by injection hk with hk; subst hk; exact hdp 3 (of_decide_eq_true (by kernel_rfl))
    have hdd : ∀ i ∈ ([[0, 2], [3, 4, 6]] : List (List Nat)).getD 1 [], D i = true := fun i hi => hdp i ((of_decide_eq_true (by kernel_rfl) : ∀ i ∈ ([[0, 2], [3, 4, 6]] : List (List Nat)).getD 1 [], i ∈ depsOf _) i hi)
    have hW := hJ.here 1 7 rfl hD hpv
    have hsz := Nat.le_trans HBL.out hbw.size
    go_simp
    have hcl := HC2.out _ hW
    rw [HE1.out] at hcl
    refine hcl.mono ?_
    rintro e wz ⟨rfl, h2, hbz⟩
    go_simp
    exact hK.out _ _ hbz (fun u hu => Option.some.inj hu) (hJ.step 1 7 _ rfl hD hpv hdd (of_decide_eq_true (by kernel_rfl)) h2) _ rfl
  case a_8 =>
    intro wq hbw D st hJ hD hdp K hK
    simp only [Act.put, List.setIfInBounds_toArray, List.set_cons_zero, List.set_cons_succ] at hK ⊢
    unfold opStep
    rw [if_pos (by rfl)]
    go_simp
    exact hK.out _ _ (Below.refl _ _) (fun u hu => Option.some.inj hu) (hJ.pure 8 _ (by rfl)) _ rfl
  case a_9 =>
    intro wq hbw D st hJ hD hdp K hK
    simp only [Act.put, List.setIfInBounds_toArray, List.set_cons_zero, List.set_cons_succ] at hK ⊢
    unfold opStep
    rw [if_pos (by rfl)]
    go_simp
    exact hK.out _ _ (Below.refl _ _) (fun u hu => Option.some.inj hu) (hJ.pure 9 _ (by rfl)) _ rfl
  case a_fin =>
    intro wq hbw D st hall hJ
    simp only [FinAll, lfOf]
    simp only [Act.put, List.setIfInBounds_toArray, List.set_cons_zero, List.set_cons_succ]
    have hW := hJ.done (fun k hk => by simp at hk; rcases hk with rfl | rfl <;> exact hall _ (by decide))
    clear hJ hall
    have H3 := Lib.hid (show Run B S w1 n u s2 r2 wq from hW)
    clear hW hbw
    go_wp2_with fail
    exact HF.out _ _ _ _ rfl H3.out HV2.out HM2.out
theorem step8_any (h : Run B S0 w0 n u s r w) (hv : InvS l s i) (hm : MatchS s r) (hi : i ≤ 1048576) (x : ActM) (mc : List Value) (gvv : Value) (hml : mc.length = 15) (hmc : CellsD (fun k => k < B) w mc (msgD x.m)) (hgs : ReadsD (fun k => k < B) w gvv (groupsD x.gs)) (hk : x.kind = 8) :
    Calls Try.prog 25 #[.pointer (some ⟨n, 0, none⟩), .pointer (some ⟨u, 0, none⟩), .agg (.int .i64 x.kind :: .int .i64 x.a.n :: .int .i64 x.b.n :: (mc ++ [gvv])).toArray] w (StepMade B S0 w0 n u l i) := by
  have hb0 : Below w.heap.size w (w.alloc (.cells (.int .i64 x.kind :: .int .i64 x.a.n :: .int .i64 x.b.n :: (mc ++ [gvv])).toArray 54)) := (Below.refl _ _).alloc (Nat.le_refl _) _
  obtain ⟨S, hr, hS, hcomp⟩ := h.rebase hb0
  have HF : Hid (∀ e w' s' r', e = .returned (.bool true) → Run B S (w.alloc (.cells (.int .i64 x.kind :: .int .i64 x.a.n :: .int .i64 x.b.n :: (mc ++ [gvv])).toArray 54)) n u s' r' w' → InvS l s' (i + 1) → MatchS s' r' → StepMade B S0 w0 n u l i e w') := Lib.hid fun e w' s' r' h1 h2 h3 h4 => ⟨h1, s', r', hcomp _ _ _ h2, h3, h4⟩
  have HBS := Lib.hid (BndS.of hv (Nat.le_succ_of_le hi))
  have HBR := Lib.hid (BndR.of hv hm (Nat.le_succ_of_le hi))
  have HV := Lib.hid hv
  have HMT := Lib.hid hm
  have HX : Hid (Blk (w.alloc (.cells (.int .i64 x.kind :: .int .i64 x.a.n :: .int .i64 x.b.n :: (mc ++ [gvv])).toArray 54)) w.heap.size 54 (.int .i64 x.kind :: .int .i64 x.a.n :: .int .i64 x.b.n :: (mc ++ [gvv])).toArray) := Lib.hid (Blk.new w _ _)
  have HMC : Hid (CellsD (fun k => k < B) (w.alloc (.cells (.int .i64 x.kind :: .int .i64 x.a.n :: .int .i64 x.b.n :: (mc ++ [gvv])).toArray 54)) mc (msgD x.m) ∧ mc.length = 15) := Lib.hid ⟨hmc.on hb0, hml⟩
  have HGS : Hid (ReadsD (fun k => k < B) (w.alloc (.cells (.int .i64 x.kind :: .int .i64 x.a.n :: .int .i64 x.b.n :: (mc ++ [gvv])).toArray 54)) gvv (groupsD x.gs)) := Lib.hid (hgs.on hb0)
  have HR := Lib.hid hr
  have HS : Hid (∀ k, S k → k < w.heap.size ∧ B ≤ k) := Lib.hid fun k hk => (hS k hk).2
  have HBW : Hid (B ≤ w.heap.size ∧ w.heap.size < (w.alloc (.cells (.int .i64 x.kind :: .int .i64 x.a.n :: .int .i64 x.b.n :: (mc ++ [gvv])).toArray 54)).heap.size) := Lib.hid ⟨h.bw, by rw [World.size_alloc]; omega⟩
  have HPOS : Hid (∀ m, s.ms x.a.n = some m → 1 ≤ s.cnt) := Lib.hid fun m hm => by
    obtain ⟨P, R, b, gv, nv, mv, rgv, h1, -⟩ := h
    exact h1.net.pos x.a.h hm
  have dk : (w.alloc (.cells (.int .i64 x.kind :: .int .i64 x.a.n :: .int .i64 x.b.n :: (mc ++ [gvv])).toArray 54)).cell? ⟨w.heap.size, 0, none⟩ = some (.int .i64 x.kind) := (act_cells HX.out).1
  have HAI := Lib.hid x.a.h
  generalize hQ : StepMade B S0 w0 n u l i = Q at *
  clear hQ h hv hm hmc hgs hb0 hr hS hcomp hi hml
  have n1 : (x.kind == 1) = false := beq_f (by omega)
  have n2 : (x.kind == 2) = false := beq_f (by omega)
  have n3 : (x.kind == 3) = false := beq_f (by omega)
  have n4 : (x.kind == 4) = false := beq_f (by omega)
  have n5 : (x.kind == 5) = false := beq_f (by omega)
  have n6 : (x.kind == 6) = false := beq_f (by omega)
  have n7 : (x.kind == 7) = false := beq_f (by omega)
  have n8 : (x.kind == 8) = true := beq_t hk
  clear hk
  go_enter Try.func25, Try.ntmps25
  go_upto_region 2 with fail
  generalize w.alloc (.cells (.int .i64 x.kind :: .int .i64 x.a.n :: .int .i64 x.b.n :: (mc ++ [gvv])).toArray 54) = w1 at *
  generalize w.heap.size = g8 at *
  clear dk
  have HCN := Lib.hid (HMT.out.conn x.a.n x.b.n)
  have HC1 : Hid (∀ W, Below w1.heap.size w1 W → Calls Try.prog 42 #[.pointer (some ⟨n, 0, none⟩), .int .i64 x.a.n, .int .i64 x.b.n] W (ConnMade (connB s.grp x.a.n x.b.n) W)) := Lib.hid fun W hW => (HR.out.run.on hW).connd _ _
  have HC2 : Hid (∀ W, Below w1.heap.size w1 W → Calls Try.prog 54 #[.pointer (some ⟨u, 0, none⟩), .int .i64 x.a.n, .int .i64 x.b.n] W (RConnMade (connB s.grp x.a.n x.b.n) W)) := Lib.hid fun W hW => by rw [← HCN.out]; exact (HR.out.run.on hW).rconnd _ _
  generalize connB s.grp x.a.n x.b.n = cb at *
  go_upto_region 26 with fail
  refine region_left [.is (.pointer (some ⟨n, 0, none⟩)), .is (.pointer (some ⟨g8, 1, none⟩)), .is (.int .i64 x.a.n), .is (.pointer (some ⟨g8, 2, none⟩)), .is (.int .i64 x.b.n), .is (.bool cb), .is (.pointer (some ⟨u, 0, none⟩)), .is (.pointer (some ⟨g8, 1, none⟩)), .is (.int .i64 x.a.n), .is (.pointer (some ⟨g8, 2, none⟩)), .is (.int .i64 x.b.n), .is (.bool cb), .is (.bool true), .is (.bool true)] (by kernel_rfl) rfl (by kernel_rfl) (by kernel_rfl) (.cons ?b_0 (.cons ?b_1 (.cons ?b_2 (.cons ?b_3 (.cons ?b_4 (.cons ?b_5 (.cons ?b_6 (.cons ?b_7 (.cons ?b_8 (.cons ?b_9 (.cons ?b_10 (.cons ?b_11 (.cons ?b_12 (.cons ?b_13 .nil)))))))))))))) ?b_fin
  case b_0 =>
    intro wq hbw st  K hK
    simp only [Act.put, List.setIfInBounds_toArray, List.set_cons_zero, List.set_cons_succ] at hK ⊢
    unfold opStep
    rw [if_pos (by rfl)]
    go_simp
    exact hK.out _ _ (Below.refl _ _) rfl _ rfl
  case b_1 =>
    intro wq hbw st  K hK
    simp only [Act.put, List.setIfInBounds_toArray, List.set_cons_zero, List.set_cons_succ] at hK ⊢
    unfold opStep
    rw [if_pos (by rfl)]
    go_simp
    exact hK.out _ _ (Below.refl _ _) rfl _ rfl
  case b_2 =>
    intro wq hbw st  K hK
    simp only [Act.put, List.setIfInBounds_toArray, List.set_cons_zero, List.set_cons_succ] at hK ⊢
    unfold opStep
    rw [if_pos (by rfl)]
    have d1 : wq.cell? ⟨g8, 1, none⟩ = some (.int .i64 x.a.n) := (act_cells (HX.out.on hbw)).2.1
    go_simp
    exact hK.out _ _ (Below.refl _ _) rfl _ rfl
  case b_3 =>
    intro wq hbw st  K hK
    simp only [Act.put, List.setIfInBounds_toArray, List.set_cons_zero, List.set_cons_succ] at hK ⊢
    unfold opStep
    rw [if_pos (by rfl)]
    go_simp
    exact hK.out _ _ (Below.refl _ _) rfl _ rfl
  case b_4 =>
    intro wq hbw st  K hK
    simp only [Act.put, List.setIfInBounds_toArray, List.set_cons_zero, List.set_cons_succ] at hK ⊢
    unfold opStep
    rw [if_pos (by rfl)]
    have d2 : wq.cell? ⟨g8, 2, none⟩ = some (.int .i64 x.b.n) := (act_cells (HX.out.on hbw)).2.2
    go_simp
    exact hK.out _ _ (Below.refl _ _) rfl _ rfl
  case b_5 =>
    intro wq hbw st  K hK
    simp only [Act.put, List.setIfInBounds_toArray, List.set_cons_zero, List.set_cons_succ] at hK ⊢
    unfold opStep
    rw [if_pos (by rfl)]
    go_simp
    refine (HC1.out _ hbw).mono ?_
    rintro e wz ⟨rfl, rfl⟩
    go_simp
    exact hK.out _ _ (Below.refl _ _) rfl _ rfl
  case b_6 =>
    intro wq hbw st  K hK
    simp only [Act.put, List.setIfInBounds_toArray, List.set_cons_zero, List.set_cons_succ] at hK ⊢
    unfold opStep
    rw [if_pos (by rfl)]
    go_simp
    exact hK.out _ _ (Below.refl _ _) rfl _ rfl
  case b_7 =>
    intro wq hbw st  K hK
    simp only [Act.put, List.setIfInBounds_toArray, List.set_cons_zero, List.set_cons_succ] at hK ⊢
    unfold opStep
    rw [if_pos (by rfl)]
    go_simp
    exact hK.out _ _ (Below.refl _ _) rfl _ rfl
  case b_8 =>
    intro wq hbw st  K hK
    simp only [Act.put, List.setIfInBounds_toArray, List.set_cons_zero, List.set_cons_succ] at hK ⊢
    unfold opStep
    rw [if_pos (by rfl)]
    have d1 : wq.cell? ⟨g8, 1, none⟩ = some (.int .i64 x.a.n) := (act_cells (HX.out.on hbw)).2.1
    go_simp
    exact hK.out _ _ (Below.refl _ _) rfl _ rfl
  case b_9 =>
    intro wq hbw st  K hK
    simp only [Act.put, List.setIfInBounds_toArray, List.set_cons_zero, List.set_cons_succ] at hK ⊢
    unfold opStep
    rw [if_pos (by rfl)]
    go_simp
    exact hK.out _ _ (Below.refl _ _) rfl _ rfl
  case b_10 =>
    intro wq hbw st  K hK
    simp only [Act.put, List.setIfInBounds_toArray, List.set_cons_zero, List.set_cons_succ] at hK ⊢
    unfold opStep
    rw [if_pos (by rfl)]
    have d2 : wq.cell? ⟨g8, 2, none⟩ = some (.int .i64 x.b.n) := (act_cells (HX.out.on hbw)).2.2
    go_simp
    exact hK.out _ _ (Below.refl _ _) rfl _ rfl
  case b_11 =>
    intro wq hbw st  K hK
    simp only [Act.put, List.setIfInBounds_toArray, List.set_cons_zero, List.set_cons_succ] at hK ⊢
    unfold opStep
    rw [if_pos (by rfl)]
    go_simp
    refine (HC2.out _ hbw).mono ?_
    rintro e wz ⟨rfl, rfl⟩
    go_simp
    exact hK.out _ _ (Below.refl _ _) rfl _ rfl
  case b_12 =>
    intro wq hbw st  K hK
    simp only [Act.put, List.setIfInBounds_toArray, List.set_cons_zero, List.set_cons_succ] at hK ⊢
    unfold opStep
    rw [if_pos (by rfl)]
    have eb : (cb == cb) = true := beq_self_eq_true cb
    go_simp
    exact hK.out _ _ (Below.refl _ _) rfl _ rfl
  case b_13 =>
    intro wq hbw st  K hK
    simp only [Act.put, List.setIfInBounds_toArray, List.set_cons_zero, List.set_cons_succ] at hK ⊢
    unfold opStep
    rw [if_pos (by rfl)]
    go_simp
    exact hK.out _ _ (Below.refl _ _) rfl _ rfl
  case b_fin =>
    intro wq hbw
    try simp only [FinAll]
    simp only [Act.put, List.setIfInBounds_toArray, List.set_cons_zero, List.set_cons_succ]
    have H3 := Lib.hid (HR.out.run.on hbw)
    clear hbw
    go_wp2_with fail
    exact HF.out _ _ _ _ rfl H3.out HV.out.next HMT.out
end
end Go.Proofs.Ytmcdmcnbnnfhnaa
namespace Go.Proofs.Ytmcdmcnbnnfhnaa
open Go.RowKit
set_option maxRecDepth 100000

section
variable {B n u : Nat} {S0 : Nat → Prop} {s : NetS} {r : RefS} {w0 w : World} {l : Int} {i : Nat}
theorem step_any (h : Run B S0 w0 n u s r w) (hv : InvS l s i) (hm : MatchS s r) (hi : i ≤ 1048576) (x : ActM) (cs : List Value) (hx : CellsD (fun k => k < B) w cs (actD x)) :
    Calls Try.prog 25 #[.pointer (some ⟨n, 0, none⟩), .pointer (some ⟨u, 0, none⟩), .agg cs.toArray] w (StepMade B S0 w0 n u l i) := by
  obtain ⟨mc, gvv, rfl, hml, hmc, hgs⟩ := act_split hx
  by_cases k1 : x.kind = 1
  · exact step1_any h hv hm hi x mc gvv hml hmc hgs k1
  by_cases k2 : x.kind = 2
  · exact step2_any h hv hm hi x mc gvv hml hmc hgs k2
  by_cases k3 : x.kind = 3
  · exact step3_any h hv hm hi x mc gvv hml hmc hgs k3
  by_cases k4 : x.kind = 4
  · exact step4_any h hv hm hi x mc gvv hml hmc hgs k4
  by_cases k5 : x.kind = 5
  · exact step5_any h hv hm hi x mc gvv hml hmc hgs k5
  by_cases k6 : x.kind = 6
  · exact step6_any h hv hm hi x mc gvv hml hmc hgs k6
  by_cases k7 : x.kind = 7
  · exact step7_any h hv hm hi x mc gvv hml hmc hgs k7
  by_cases k8 : x.kind = 8
  · exact step8_any h hv hm hi x mc gvv hml hmc hgs k8
  exact step0_any h hv hm hi x mc gvv hml hmc hgs ⟨k1, k2, k3, k4, k5, k6, k7, k8⟩
attribute [local go_sem] run_eq_five
theorem reads_on (L : List Int) (x : Value) (w w' : World) (hb : Below w.heap.size w w') (h : Reads vi w x L) : Reads vi w' x L := h.keep hb
set_option maxHeartbeats 8000000
theorem alike_any (h : Run B S0 w0 n u s r w) (hv : InvS l s i) (hm : MatchS s r) (hi : i ≤ 1048577) : Calls Try.prog 24 #[.pointer (some ⟨n, 0, none⟩), .pointer (some ⟨u, 0, none⟩)] w (BoolMade w true) := by
  have HF : Hid (∀ e w', e = .returned (.bool true) ∧ Below w.heap.size w w' → BoolMade w true e w') := Lib.hid fun _ _ h => h
  have HBS := Lib.hid (BndS.of hv hi)
  have HBR := Lib.hid (BndR.of hv hm hi)
  have HMT := Lib.hid hm
  have HKS := Lib.hid hm.keys
  have HR := Lib.hid h
  have HLN : Hid (r.nums.length ≤ 1000000000 ∧ (r.nums.filter (goB s)).length ≤ 1000000000) := Lib.hid ⟨by have := HBR.out.r5; omega, by have := HBR.out.r5; have := List.length_filter_le (goB s) r.nums; omega⟩
  have HCE : Hid (r.d0 = s.sent ∧ r.d1 = s.twice ∧ r.d2 = s.taken ∧ r.d3 = s.gone ∧ (r.nums.length : Int) = (s.cnt : Int)) := Lib.hid ⟨hm.a, hm.b, hm.c, hm.d, by rw [hm.cnt]⟩
  obtain ⟨na, nc, hn1, hn2, hn3⟩ := h.nums
  have HNU := Lib.hid (And.intro hn1 (And.intro hn2 hn3))
  have es := beq_self_eq_true s.sent
  have et := beq_self_eq_true s.twice
  have ek := beq_self_eq_true s.taken
  have eg := beq_self_eq_true s.gone
  have ec := beq_self_eq_true (s.cnt : Int)
  generalize hQ : BoolMade w true = Q at *
  clear hQ h hv hm hn1 hn2 hn3
  go_enter Try.func24, Try.ntmps24
  go_upto_region 1 with fail
  refine region_left [.is (.pointer (some ⟨n, 0, none⟩)), (.has (fun x w => Reads vi w x (r.nums)) (reads_on (r.nums))), .is (.pointer (some ⟨u, 0, none⟩)), .is (.pointer (some ⟨u, 0, none⟩)), .is (.pointer (some ⟨u, 1, none⟩)), .is (.slice na r.nums.length nc), .is (.bool true), .is (.bool true), .is (.pointer (some ⟨n, 0, none⟩)), (.has (fun x w => Reads vi w x (r.nums.filter (goB s))) (reads_on (r.nums.filter (goB s)))), .is (.pointer (some ⟨u, 0, none⟩)), (.has (fun x w => Reads vi w x (r.nums.filter (goB s))) (reads_on (r.nums.filter (goB s)))), .is (.bool true), .is (.bool true), .is (.bool true), .is (.pointer (some ⟨n, 0, none⟩)), .is (.agg #[.int .i64 s.sent, .int .i64 s.twice, .int .i64 s.taken, .int .i64 s.gone, .int .i64 (s.cnt : Int)]), .is (.pointer (some ⟨u, 0, none⟩)), .is (.agg #[.int .i64 s.sent, .int .i64 s.twice, .int .i64 s.taken, .int .i64 s.gone, .int .i64 (s.cnt : Int)]), .is (.bool true), .is (.bool true), .is (.bool true)] (by kernel_rfl) rfl (by kernel_rfl) (by kernel_rfl) (.cons ?k_0 (.cons ?k_1 (.cons ?k_2 (.cons ?k_3 (.cons ?k_4 (.cons ?k_5 (.cons ?k_6 (.cons ?k_7 (.cons ?k_8 (.cons ?k_9 (.cons ?k_10 (.cons ?k_11 (.cons ?k_12 (.cons ?k_13 (.cons ?k_14 (.cons ?k_15 (.cons ?k_16 (.cons ?k_17 (.cons ?k_18 (.cons ?k_19 (.cons ?k_20 (.cons ?k_21 .nil)))))))))))))))))))))) ?k_fin
  case k_0 =>
    intro wq hbw st  K hK
    simp only [Act.put, List.setIfInBounds_toArray, List.set_cons_zero, List.set_cons_succ] at hK ⊢
    unfold opStep
    rw [if_pos (by rfl)]
    go_simp
    exact hK.out _ _ (Below.refl _ _) rfl _ rfl
  case k_1 =>
    intro wq hbw st  K hK
    simp only [Act.put, List.setIfInBounds_toArray, List.set_cons_zero, List.set_cons_succ] at hK ⊢
    unfold opStep
    rw [if_pos (by rfl)]
    go_simp
    refine ((HR.out.on hbw).pending HBS.out).mono ?_
    rintro e wz ⟨v, L, rfl, hrd, hks, -, -, hbz⟩
    obtain rfl := KeysOf.unique hks HKS.out
    go_simp
    exact hK.out _ _ hbz hrd _ rfl
  case k_2 =>
    intro wq hbw st  K hK
    simp only [Act.put, List.setIfInBounds_toArray, List.set_cons_zero, List.set_cons_succ] at hK ⊢
    unfold opStep
    rw [if_pos (by rfl)]
    go_simp
    exact hK.out _ _ (Below.refl _ _) rfl _ rfl
  case k_3 =>
    intro wq hbw st  K hK
    simp only [Act.put, List.setIfInBounds_toArray, List.set_cons_zero, List.set_cons_succ] at hK ⊢
    unfold opStep
    rw [if_pos (by rfl)]
    go_simp
    exact hK.out _ _ (Below.refl _ _) rfl _ rfl
  case k_4 =>
    intro wq hbw st  K hK
    simp only [Act.put, List.setIfInBounds_toArray, List.set_cons_zero, List.set_cons_succ] at hK ⊢
    unfold opStep
    rw [if_pos (by rfl)]
    go_simp
    exact hK.out _ _ (Below.refl _ _) rfl _ rfl
  case k_5 =>
    intro wq hbw st  K hK
    simp only [Act.put, List.setIfInBounds_toArray, List.set_cons_zero, List.set_cons_succ] at hK ⊢
    unfold opStep
    rw [if_pos (by rfl)]
    have d1 : wq.cell? ⟨u, 1, none⟩ = some (.slice na r.nums.length nc) := (hbw.cell (p := ⟨u, 1, none⟩) HNU.out.2.2).trans HNU.out.1
    go_simp
    exact hK.out _ _ (Below.refl _ _) rfl _ rfl
  case k_6 =>
    intro wq hbw st x1 h1 K hK
    simp only [Act.put, List.setIfInBounds_toArray, List.set_cons_zero, List.set_cons_succ] at hK ⊢
    unfold opStep
    rw [if_pos (by rfl)]
    go_simp
    refine (same_ints x1 (.slice na r.nums.length nc) r.nums _ h1 (HNU.out.2.1.keep hbw) HLN.out.1).mono ?_
    rintro e wz ⟨rfl, hbz⟩
    go_simp
    exact hK.out _ _ hbz rfl _ rfl
  case k_7 =>
    intro wq hbw st  K hK
    simp only [Act.put, List.setIfInBounds_toArray, List.set_cons_zero, List.set_cons_succ] at hK ⊢
    unfold opStep
    rw [if_pos (by rfl)]
    go_simp
    exact hK.out _ _ (Below.refl _ _) rfl _ rfl
  case k_8 =>
    intro wq hbw st  K hK
    simp only [Act.put, List.setIfInBounds_toArray, List.set_cons_zero, List.set_cons_succ] at hK ⊢
    unfold opStep
    rw [if_pos (by rfl)]
    go_simp
    exact hK.out _ _ (Below.refl _ _) rfl _ rfl
  case k_9 =>
    intro wq hbw st  K hK
    simp only [Act.put, List.setIfInBounds_toArray, List.set_cons_zero, List.set_cons_succ] at hK ⊢
    unfold opStep
    rw [if_pos (by rfl)]
    go_simp
    refine ((HR.out.on hbw).delv HBS.out).mono ?_
    rintro e wz ⟨v, L, rfl, hrd, hks, hbz⟩
    obtain rfl := KeysOf.unique hks HKS.out
    go_simp
    exact hK.out _ _ hbz hrd _ rfl
  case k_10 =>
    intro wq hbw st  K hK
    simp only [Act.put, List.setIfInBounds_toArray, List.set_cons_zero, List.set_cons_succ] at hK ⊢
    unfold opStep
    rw [if_pos (by rfl)]
    go_simp
    exact hK.out _ _ (Below.refl _ _) rfl _ rfl
  case k_11 =>
    intro wq hbw st x9 h9 K hK
    simp only [Act.put, List.setIfInBounds_toArray, List.set_cons_zero, List.set_cons_succ] at hK ⊢
    unfold opStep
    rw [if_pos (by rfl)]
    go_simp
    refine ((HR.out.on hbw).rdelv HBR.out HMT.out).mono ?_
    rintro e wz ⟨v, rfl, hrd, hbz⟩
    go_simp
    exact hK.out _ _ hbz hrd _ rfl
  case k_12 =>
    intro wq hbw st x9 h9 x11 h11 K hK
    simp only [Act.put, List.setIfInBounds_toArray, List.set_cons_zero, List.set_cons_succ] at hK ⊢
    unfold opStep
    rw [if_pos (by rfl)]
    go_simp
    refine (same_ints x9 x11 (r.nums.filter (goB s)) _ h9 h11 HLN.out.2).mono ?_
    rintro e wz ⟨rfl, hbz⟩
    go_simp
    exact hK.out _ _ hbz rfl _ rfl
  case k_13 =>
    intro wq hbw st  K hK
    simp only [Act.put, List.setIfInBounds_toArray, List.set_cons_zero, List.set_cons_succ] at hK ⊢
    unfold opStep
    rw [if_pos (by rfl)]
    go_simp
    exact hK.out _ _ (Below.refl _ _) rfl _ rfl
  case k_14 =>
    intro wq hbw st  K hK
    simp only [Act.put, List.setIfInBounds_toArray, List.set_cons_zero, List.set_cons_succ] at hK ⊢
    unfold opStep
    rw [if_pos (by rfl)]
    go_simp
    exact hK.out _ _ (Below.refl _ _) rfl _ rfl
  case k_15 =>
    intro wq hbw st  K hK
    simp only [Act.put, List.setIfInBounds_toArray, List.set_cons_zero, List.set_cons_succ] at hK ⊢
    unfold opStep
    rw [if_pos (by rfl)]
    go_simp
    exact hK.out _ _ (Below.refl _ _) rfl _ rfl
  case k_16 =>
    intro wq hbw st  K hK
    simp only [Act.put, List.setIfInBounds_toArray, List.set_cons_zero, List.set_cons_succ] at hK ⊢
    unfold opStep
    rw [if_pos (by rfl)]
    go_simp
    refine ((HR.out.on hbw).counts).mono ?_
    rintro e wz ⟨rfl, hbz⟩
    go_simp
    exact hK.out _ _ hbz rfl _ rfl
  case k_17 =>
    intro wq hbw st  K hK
    simp only [Act.put, List.setIfInBounds_toArray, List.set_cons_zero, List.set_cons_succ] at hK ⊢
    unfold opStep
    rw [if_pos (by rfl)]
    go_simp
    exact hK.out _ _ (Below.refl _ _) rfl _ rfl
  case k_18 =>
    intro wq hbw st  K hK
    simp only [Act.put, List.setIfInBounds_toArray, List.set_cons_zero, List.set_cons_succ] at hK ⊢
    unfold opStep
    rw [if_pos (by rfl)]
    go_simp
    have hcl := (HR.out.on hbw).rcounts HBR.out
    unfold RCountsMade at hcl
    rw [HCE.out.1, HCE.out.2.1, HCE.out.2.2.1, HCE.out.2.2.2.1, HCE.out.2.2.2.2] at hcl
    refine hcl.mono ?_
    rintro e wz ⟨rfl, hbz⟩
    go_simp
    exact hK.out _ _ hbz rfl _ rfl
  case k_19 =>
    intro wq hbw st  K hK
    simp only [Act.put, List.setIfInBounds_toArray, List.set_cons_zero, List.set_cons_succ] at hK ⊢
    unfold opStep
    rw [if_pos (by rfl)]
    go_simp
    exact hK.out _ _ (Below.refl _ _) rfl _ rfl
  case k_20 =>
    intro wq hbw st  K hK
    simp only [Act.put, List.setIfInBounds_toArray, List.set_cons_zero, List.set_cons_succ] at hK ⊢
    unfold opStep
    rw [if_pos (by rfl)]
    go_simp
    exact hK.out _ _ (Below.refl _ _) rfl _ rfl
  case k_21 =>
    intro wq hbw st x1 h1 x9 h9 x11 h11 K hK
    simp only [Act.put, List.setIfInBounds_toArray, List.set_cons_zero, List.set_cons_succ] at hK ⊢
    unfold opStep
    rw [if_pos (by rfl)]
    go_simp
    exact hK.out _ _ (Below.refl _ _) rfl _ rfl
  case k_fin =>
    intro wq hbw
    intro x1 h1 x9 h9 x11 h11
    try simp only [FinAll]
    simp only [Act.put, List.setIfInBounds_toArray, List.set_cons_zero, List.set_cons_succ]
    go_wp2_with fail
    exact HF.out _ _ ⟨rfl, hbw⟩
end
end Go.Proofs.Ytmcdmcnbnnfhnaa
