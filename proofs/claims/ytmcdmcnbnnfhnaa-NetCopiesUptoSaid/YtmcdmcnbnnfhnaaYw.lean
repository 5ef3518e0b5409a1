/-
  Chapter 28: two pairs of networks side by side.
-/
import Derived.Test.YtmcdmcnbnnfhnaaYu
import Derived.Test.YtmcdmcnbnnfhnaaYv
namespace Go.Proofs.Ytmcdmcnbnnfhnaa
open Go.RowKit
set_option maxRecDepth 100000

/-- A pair of networks in one state; S: their blocks. -/
def PairN (B : Nat) (S : Nat → Prop) (n u : Nat) (l : Int) (i : Nat) (w : World) : Prop := ∃ s r, Run B S w n u s r w ∧ InvS l s i ∧ MatchS s r ∧ ∀ k, S k → k < w.heap.size ∧ B ≤ k
section
variable {B n u m v : Nat} {S S0 S1 S2 : Nat → Prop} {s : NetS} {r : RefS} {w0 w w1 w2 w' : World} {l : Int} {i j : Nat}
theorem InvS.le (h : InvS l s i) (hij : i ≤ j) : InvS l s j := by
  obtain ⟨h1, h2, h3, h4, h5, h6, h7, h8, h9, h10, h11, h12, h13, h14, h15, h16⟩ := h
  exact ⟨h1, h2, by omega, h4, by omega, h6, by omega, h8, by omega, h10, by omega, by omega, h13, h14, h15, h16⟩
theorem PairN.le (h : PairN B S n u l i w) (hij : i ≤ j) : PairN B S n u l j w := by
  obtain ⟨s, r, h1, h2, h3, h4⟩ := h
  exact ⟨s, r, h1, h2.le hij, h3, h4⟩
/-- The pair's blocks are as they were. -/
theorem PairN.other (h : PairN B S2 n u l i w) (hk : Kept S1 w w') (hd : ∀ k, S1 k → ¬ S2 k) (hB : ∀ k, S1 k → B ≤ k) : PairN B S2 n u l i w' := by
  obtain ⟨s, r, ⟨P, R, b, gv, nv, mv, rgv, h1, h2, -⟩, hv, hm, hS⟩ := h
  have hin : ∀ k, P k ∨ R k → S2 k := fun k q => (h2 k q).elim id fun hlt => by
    rcases q with q | q
    · have := (h1.pb k q).2; omega
    · have := h1.rl k q; omega
  have ht : Two B P R n u b gv nv mv rgv s r w' := h1.keep hk.size fun k q hlt => hk.block k hlt fun e => by
    rcases q with q | q
    · have := hB k e; omega
    · exact hd k e (hin k q)
  exact ⟨s, r, ⟨P, R, b, gv, nv, mv, rgv, ht, fun k q => .inl (hin k q), Kept.refl _ _⟩, hv, hm, fun k hk' => ⟨Nat.lt_of_lt_of_le (hS k hk').1 hk.size, (hS k hk').2⟩⟩
theorem PairN.on (h : PairN B S n u l i w) (hb : Below w.heap.size w w') : PairN B S n u l i w' := h.other (S1 := fun _ => False) (Kept.of hb) (fun _ e => e.elim) fun _ e => e.elim
theorem PairN.of_run (h : Run B S0 w0 n u s r w) (hv : InvS l s i) (hm : MatchS s r) : ∃ S, PairN B S n u l i w ∧ ∀ k, S k → S0 k ∨ w0.heap.size ≤ k := by
  obtain ⟨S, h1, h2, -⟩ := h.rebase (Below.refl _ _)
  exact ⟨S, ⟨s, r, h1.run, hv, hm, fun k hk => (h2 k hk).2⟩, fun k hk => (h2 k hk).1⟩
theorem PairN.step (h : PairN B S n u l i w) (hi : i ≤ 1048576) (x : ActM) (cs : List Value) (hx : CellsD (fun k => k < B) w cs (actD x)) : Calls Try.prog 25 #[.pointer (some ⟨n, 0, none⟩), .pointer (some ⟨u, 0, none⟩), .agg cs.toArray] w fun e w' => e = .returned (.bool true) ∧ Kept S w w' ∧ ∃ S', PairN B S' n u l (i + 1) w' ∧ ∀ k, S' k → S k ∨ w.heap.size ≤ k := by
  obtain ⟨s, r, h1, h2, h3, h4⟩ := h
  refine (step_any h1 h2 h3 hi x cs hx).mono ?_
  rintro e w' ⟨rfl, s', r', g1, g2, g3⟩
  exact ⟨rfl, g1.kept, PairN.of_run g1 g2 g3⟩
theorem PairN.alike (h : PairN B S n u l i w) (hi : i ≤ 1048577) : Calls Try.prog 24 #[.pointer (some ⟨n, 0, none⟩), .pointer (some ⟨u, 0, none⟩)] w (BoolMade w true) := by
  obtain ⟨s, r, h1, h2, h3, -⟩ := h
  exact alike_any h1 h2 h3 hi
/-- Two pairs, apart. -/
def Both (B n u m v : Nat) (l : Int) (i j : Nat) (w : World) : Prop := ∃ S1 S2, PairN B S1 n u l i w ∧ PairN B S2 m v l j w ∧ ∀ k, S1 k → ¬ S2 k
theorem Both.symm (h : Both B n u m v l i j w) : Both B m v n u l j i w := by
  obtain ⟨S1, S2, h1, h2, h3⟩ := h
  exact ⟨S2, S1, h2, h1, fun k a b => h3 k b a⟩
theorem Both.on (h : Both B n u m v l i j w) (hb : Below w.heap.size w w') : Both B n u m v l i j w' := by
  obtain ⟨S1, S2, h1, h2, h3⟩ := h
  exact ⟨S1, S2, h1.on hb, h2.on hb, h3⟩
theorem Both.le {i' j' : Nat} (h : Both B n u m v l i j w) (h1 : i ≤ i') (h2 : j ≤ j') : Both B n u m v l i' j' w := by
  obtain ⟨S1, S2, g1, g2, g3⟩ := h
  exact ⟨S1, S2, g1.le h1, g2.le h2, g3⟩
theorem Both.step1 (h : Both B n u m v l i j w) (hi : i ≤ 1048576) (hBw : B ≤ w.heap.size) (x : ActM) (cs : List Value) (hx : CellsD (fun k => k < B) w cs (actD x)) : Calls Try.prog 25 #[.pointer (some ⟨n, 0, none⟩), .pointer (some ⟨u, 0, none⟩), .agg cs.toArray] w fun e w' => e = .returned (.bool true) ∧ Both B n u m v l (i + 1) j w' ∧ Below B w w' := by
  obtain ⟨S1, S2, h1, h2, h3⟩ := h
  have hB1 : ∀ k, S1 k → B ≤ k := by
    obtain ⟨s, r, -, -, -, h4⟩ := h1
    exact fun k hk => (h4 k hk).2
  have hL2 : ∀ k, S2 k → k < w.heap.size := by
    obtain ⟨s, r, -, -, -, h4⟩ := h2
    exact fun k hk => (h4 k hk).1
  refine (h1.step hi x cs hx).mono ?_
  rintro e w' ⟨rfl, hk, S1', g1, g2⟩
  refine ⟨rfl, ⟨S1', S2, g1, h2.other hk h3 hB1, fun k a b => ?_⟩, hk.below hBw fun k hkB e => by have := hB1 k e; omega⟩
  rcases g2 k a with q | q
  · exact h3 k q b
  · have := hL2 k b; omega
theorem Both.step2 (h : Both B n u m v l i j w) (hj : j ≤ 1048576) (hBw : B ≤ w.heap.size) (x : ActM) (cs : List Value) (hx : CellsD (fun k => k < B) w cs (actD x)) : Calls Try.prog 25 #[.pointer (some ⟨m, 0, none⟩), .pointer (some ⟨v, 0, none⟩), .agg cs.toArray] w fun e w' => e = .returned (.bool true) ∧ Both B n u m v l i (j + 1) w' ∧ Below B w w' := by
  refine (h.symm.step1 hj hBw x cs hx).mono ?_
  rintro e w' ⟨rfl, h1, h2⟩
  exact ⟨rfl, h1.symm, h2⟩
theorem Both.alike1 (h : Both B n u m v l i j w) (hi : i ≤ 1048577) : Calls Try.prog 24 #[.pointer (some ⟨n, 0, none⟩), .pointer (some ⟨u, 0, none⟩)] w (BoolMade w true) := by
  obtain ⟨S1, S2, h1, h2, h3⟩ := h
  exact h1.alike hi
theorem Both.alike2 (h : Both B n u m v l i j w) (hj : j ≤ 1048577) : Calls Try.prog 24 #[.pointer (some ⟨m, 0, none⟩), .pointer (some ⟨v, 0, none⟩)] w (BoolMade w true) := h.symm.alike1 hj
theorem Run.copy (h : Run B S0 w0 n u s r w) (hb : BndS s) : Calls Try.prog 28 #[.pointer (some ⟨n, 0, none⟩)] w (CopyMade s w) := by
  obtain ⟨P, R, b, gv, nv, mv, rgv, h1, h2, h3⟩ := h
  exact copy_any h1.net (by have := hb.s5; omega)
theorem Run.rcopy (h : Run B S0 w0 n u s r w) (hb : BndR r) : Calls Try.prog 29 #[.pointer (some ⟨u, 0, none⟩)] w (RCopyMade B r w) := by
  obtain ⟨P, R, b, gv, nv, mv, rgv, h1, h2, h3⟩ := h
  exact rcopy_any h1.ref hb.r5 hb.r6
/-- The copies beside the originals. -/
theorem Run.both {n' b' u' : Nat} {gv' nv' mv' rgv' : Value} (h : Run B S0 w0 n u s r w) (hv : InvS l s i) (hm : MatchS s r) (hn : NetAt (fun k => w.heap.size ≤ k) n' b' gv' s w1) (hb1 : Below w.heap.size w w1) (hr : RefAt B (fun k => w1.heap.size ≤ k) u' nv' mv' rgv' r w2) (hb2 : Below w1.heap.size w1 w2) : Both B n u n' u' l i i w2 := by
  have hBw := h.bw
  have hs1 := hb1.size
  have hs2 := hb2.size
  obtain ⟨S1, hp, -⟩ := PairN.of_run h hv hm
  have hb : Below w.heap.size w w2 := hb1.trans (hb2.mono hb1.size)
  have hL1 : ∀ k, S1 k → k < w.heap.size := by
    obtain ⟨s, r, -, -, -, h4⟩ := hp
    exact fun k hk => (h4 k hk).1
  have ht : Two B (fun k => w.heap.size ≤ k ∧ k < w1.heap.size) (fun k => w1.heap.size ≤ k ∧ k < w2.heap.size) n' u' b' gv' nv' mv' rgv' s r w2 :=
    ⟨(hn.mono fun k a hlt => ⟨a, hlt⟩).on hb2, hr.mono (fun k a hlt => ⟨a, hlt⟩) fun k a => by omega, fun k a => ⟨by omega, by omega⟩, fun k a => a.2, fun k a c => by omega⟩
  have hrun : Run B (fun k => w.heap.size ≤ k ∧ k < w2.heap.size) w2 n' u' s r w2 := ⟨_, _, b', gv', nv', mv', rgv', ht, fun k q => .inl (by rcases q with q | q <;> omega), Kept.refl _ _⟩
  exact ⟨S1, _, hp.on hb, ⟨s, r, hrun, hv, hm, fun k a => ⟨a.2, by omega⟩⟩, fun k a c => by have := hL1 k a; omega⟩
end
theorem list19 {cs : List Value} (hl : cs.length = 19) : ∃ a0 a1 a2 a3 a4 a5 a6 a7 a8 a9 a10 a11 a12 a13 a14 a15 a16 a17 a18, cs = [a0, a1, a2, a3, a4, a5, a6, a7, a8, a9, a10, a11, a12, a13, a14, a15, a16, a17, a18] := by
  obtain ⟨c0, cs, rfl⟩ := List.exists_cons_of_length_pos (l := cs) (by first | omega | (simp only [List.length_cons] at hl; omega))
  obtain ⟨c1, cs, rfl⟩ := List.exists_cons_of_length_pos (l := cs) (by first | omega | (simp only [List.length_cons] at hl; omega))
  obtain ⟨c2, cs, rfl⟩ := List.exists_cons_of_length_pos (l := cs) (by first | omega | (simp only [List.length_cons] at hl; omega))
  obtain ⟨c3, cs, rfl⟩ := List.exists_cons_of_length_pos (l := cs) (by first | omega | (simp only [List.length_cons] at hl; omega))
  obtain ⟨c4, cs, rfl⟩ := List.exists_cons_of_length_pos (l := cs) (by first | omega | (simp only [List.length_cons] at hl; omega))
  obtain ⟨c5, cs, rfl⟩ := List.exists_cons_of_length_pos (l := cs) (by first | omega | (simp only [List.length_cons] at hl; omega))
  obtain ⟨c6, cs, rfl⟩ := List.exists_cons_of_length_pos (l := cs) (by first | omega | (simp only [List.length_cons] at hl; omega))
  obtain ⟨c7, cs, rfl⟩ := List.exists_cons_of_length_pos (l := cs) (by first | omega | (simp only [List.length_cons] at hl; omega))
  obtain ⟨c8, cs, rfl⟩ := List.exists_cons_of_length_pos (l := cs) (by first | omega | (simp only [List.length_cons] at hl; omega))
  obtain ⟨c9, cs, rfl⟩ := List.exists_cons_of_length_pos (l := cs) (by first | omega | (simp only [List.length_cons] at hl; omega))
  obtain ⟨c10, cs, rfl⟩ := List.exists_cons_of_length_pos (l := cs) (by first | omega | (simp only [List.length_cons] at hl; omega))
  obtain ⟨c11, cs, rfl⟩ := List.exists_cons_of_length_pos (l := cs) (by first | omega | (simp only [List.length_cons] at hl; omega))
  obtain ⟨c12, cs, rfl⟩ := List.exists_cons_of_length_pos (l := cs) (by first | omega | (simp only [List.length_cons] at hl; omega))
  obtain ⟨c13, cs, rfl⟩ := List.exists_cons_of_length_pos (l := cs) (by first | omega | (simp only [List.length_cons] at hl; omega))
  obtain ⟨c14, cs, rfl⟩ := List.exists_cons_of_length_pos (l := cs) (by first | omega | (simp only [List.length_cons] at hl; omega))
  obtain ⟨c15, cs, rfl⟩ := List.exists_cons_of_length_pos (l := cs) (by first | omega | (simp only [List.length_cons] at hl; omega))
  obtain ⟨c16, cs, rfl⟩ := List.exists_cons_of_length_pos (l := cs) (by first | omega | (simp only [List.length_cons] at hl; omega))
  obtain ⟨c17, cs, rfl⟩ := List.exists_cons_of_length_pos (l := cs) (by first | omega | (simp only [List.length_cons] at hl; omega))
  obtain ⟨c18, cs, rfl⟩ := List.exists_cons_of_length_pos (l := cs) (by first | omega | (simp only [List.length_cons] at hl; omega))
  obtain rfl : cs = [] := List.length_eq_zero_iff.1 (by simp only [List.length_cons] at hl; omega)
  exact ⟨c0, c1, c2, c3, c4, c5, c6, c7, c8, c9, c10, c11, c12, c13, c14, c15, c16, c17, c18, rfl⟩
end Go.Proofs.Ytmcdmcnbnnfhnaa
