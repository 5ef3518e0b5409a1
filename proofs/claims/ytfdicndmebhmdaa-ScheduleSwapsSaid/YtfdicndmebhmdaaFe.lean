/-
  Chapter 29: Count.
-/
import Derived.Test.YtfdicndmebhmdaaFd
namespace Go.Proofs.Ytfdicndmebhmdaa
open Go.RowKit

/-- Count's visitor: the number, and the limit. -/
def CntV (pn pl lim : Nat) (seen : List (List Nat)) (F : Nat → Prop) (w : World) : Prop := (∀ b, F b ↔ b = pn) ∧ Blk w pn 3 #[.int .i64 (seen.length : Int)] ∧ Blk w pl 3 #[.int .i64 (lim : Int)] ∧ pl ≠ pn
set_option maxRecDepth 100000 in
set_option maxHeartbeats 1000000 in
theorem cntvis_any (pn pl lim : Nat) (hl : lim ≤ 9223372036854775807) (seen : List (List Nat)) (F : Nat → Prop) (w : World) (ov : Value) (o : List Nat) (hv : CntV pn pl lim seen F w) (hlt : seen.length < lim) (ho : Reads nv w ov o) :
    Calls Try.prog 43 #[ov, .pointer (some ⟨pn, 0, none⟩), .pointer (some ⟨pl, 0, none⟩)] w fun e w' => e = .returned (.bool (decide (seen.length + 1 < lim))) ∧ ∃ F', CntV pn pl lim (seen ++ [o]) F' w' ∧ Kept F w w' ∧ ∀ b, F' b → (F b ∨ w.heap.size ≤ b) ∧ b < w'.heap.size := by
  obtain ⟨h1, h2, h3, h4⟩ := hv
  have HV := Lib.hid (And.intro h1 (And.intro h2 (And.intro h3 h4)))
  have q1 := h2.cell 0
  have q2 := h3.cell 0
  have f1 := h2.frozen 0
  have l1 := h2.lt
  have hp : ((seen.length : Nat) : Int) + 1 ≤ 9223372036854775807 := by omega
  have hs0 : (0 : Int) ≤ (seen.length : Int) := by omega
  obtain ⟨xa, xn, xk, rfl⟩ := Slc.of_reads ho
  obtain ⟨bb, hbb⟩ : ∃ bb, bb = decide (seen.length + 1 < lim) := ⟨_, rfl⟩
  have hbb2 : decide ((seen.length : Int) + 1 < (lim : Int)) = bb := by rw [hbb, Bool.eq_iff_iff]; simp; omega
  rw [← hbb]
  have HS : Hid (∀ w', w' = w.setCell ⟨pn, 0, none⟩ (.int .i64 ((seen.length : Int) + 1)) → ∃ F', CntV pn pl lim (seen ++ [o]) F' w' ∧ Kept F w w' ∧ ∀ b, F' b → (F b ∨ w.heap.size ≤ b) ∧ b < w'.heap.size) := Lib.hid fun w' hw' => by
    subst hw'
    refine ⟨F, ⟨HV.out.1, ?_, HV.out.2.2.1.far (p := ⟨pn, 0, none⟩) HV.out.2.2.2 _, HV.out.2.2.2⟩, Kept.set _ ((HV.out.1 _).2 rfl), fun b hb => ⟨.inl hb, ?_⟩⟩
    · have := HV.out.2.1.set_ 0 (.int .i64 ((seen.length : Int) + 1))
      rw [List.length_append]
      simpa using this
    · rw [(HV.out.1 b).1 hb]
      simpa [World.setCell] using HV.out.2.1.lt
  clear h1 h2 h3 h4 hlt ho hbb
  have hne : ¬ pl = pn := HV.out.2.2.2
  have hne2 : ¬ pn = pl := fun e => hne e.symm
  go_enter Try.func43, Try.ntmps43
  go_upto_region 2 with fail
  generalize hw1 : World.setCell w _ _ = w1 at *
  have HX := Lib.hid (HS.out w1 rfl)
  have q3 : w1.cell? ⟨pn, 0, none⟩ = some (.int .i64 ((seen.length : Int) + 1)) := by rw [← hw1]; have := (HV.out.2.1.set_ 0 (.int .i64 ((seen.length : Int) + 1))).cell 0; simpa using this
  have q4 : w1.cell? ⟨pl, 0, none⟩ = some (.int .i64 (lim : Int)) := by rw [← hw1]; exact (HV.out.2.2.1.far (p := ⟨pn, 0, none⟩) HV.out.2.2.2 _).cell 0
  clear hw1 HS q1 q2 f1 l1
  go_wp2
  go_ret
  exact ⟨rfl, HX.out⟩
def cntE (t : List Ev) (lim : Int) : Int := if lim ≤ 0 then 0 else ((min lim.toNat (linsI t).length : Nat) : Int)
set_option maxRecDepth 100000 in
set_option maxHeartbeats 2000000 in
theorem count_any (tv : Value) (t : List Ev) (lim : Int) (W : World) (hr : ReadsE W tv t) (hsm : t.length ≤ 1000) (hl : lim ≤ 9223372036854775807) : Calls Try.prog 23 #[tv, .int .i64 lim] W fun e w' => e = .returned (.int .i64 (cntE t lim)) ∧ Below W.heap.size W w' := by
  have HR := Lib.hid hr
  obtain ⟨ta, tn, tk, rfl⟩ := Slc.of_readsK hr
  clear hr
  by_cases h0 : lim ≤ 0
  · have HE : Hid (cntE t lim = 0) := Lib.hid (if_pos h0)
    rw [HE.out]
    go_enter Try.func23, Try.ntmps23
    go_wp2
    go_ret
    exact ⟨rfl, below_two W _ _⟩
  · obtain ⟨n, hn⟩ : ∃ n : Nat, lim = (n : Int) := ⟨lim.toNat, by omega⟩
    subst hn
    have HE : Hid (cntE t (n : Int) = ((min n (linsI t).length : Nat) : Int)) := Lib.hid (if_neg h0)
    rw [HE.out]
    have hn0 : 0 < n := by omega
    have HB : Hid (Blk ((W.alloc (.cells #[.int .i64 (n : Int)] 3)).alloc (.cells #[.int .i64 0] 3)) W.heap.size 3 #[.int .i64 (n : Int)] ∧ Blk ((W.alloc (.cells #[.int .i64 (n : Int)] 3)).alloc (.cells #[.int .i64 0] 3)) (W.heap.size + 1) 3 #[.int .i64 0]) :=
      Lib.hid ⟨(Blk.new W _ _).alloc _, by have h0 := Blk.new (W.alloc (.cells #[.int .i64 (n : Int)] 3)) 3 #[.int .i64 0]; rwa [World.size_alloc] at h0⟩
    have KW := Lib.hid (below_two W (.cells #[.int .i64 (n : Int)] 3) (.cells #[.int .i64 0] 3))
    go_enter Try.func23, Try.ntmps23
    go_upto_region 2 with fail
    generalize hw1 : World.alloc (World.alloc W _) _ = w1 at *
    have HZ : Hid (w1.heap.size = W.heap.size + 2) := Lib.hid (by rw [← hw1]; simp)
    clear hw1
    have q0 : w1.cell? ⟨W.heap.size, 0, none⟩ = some (.int .i64 (n : Int)) := HB.out.1.cell 0
    have HEACH := Lib.hid (eachCount_any W w1 (.slice ta tn tk) t n hn0 (CntV (W.heap.size + 1) W.heap.size n) (fun b => b = W.heap.size + 1) (W.heap.size + 1) W.heap.size HR.out KW.out hsm (fun b hb => by have := HZ.out; omega)
      (fun seen F w2 w3 S ⟨a1, a2, a3, a4⟩ hk hs => ⟨a1, hk.blk a2 fun q => (hs _ q).2 ((a1 _).2 rfl), hk.blk a3 fun q => by have := (hs _ q).1; have := HZ.out; omega, a4⟩)
      (fun seen F w2 ov o h1 h2 h3 _ _ _ => cntvis_any (W.heap.size + 1) W.heap.size n (by omega) seen F w2 ov o h1 h2 h3)
      ⟨fun b => Iff.rfl, HB.out.2, HB.out.1, by omega⟩)
    go_wp2_with fail
    refine HEACH.out.mono ?_
    rintro e w2 ⟨rfl, F', hv, hk, hf⟩
    have HX := Lib.hid (And.intro hv.2.1 (KW.out.trans (hk.below (B := W.heap.size) KW.out.size fun k h1 h2 => by omega)))
    have q1 := hv.2.1.cell 0
    have q2 : w2.cell? ⟨W.heap.size + 1, 0, none⟩ = some (.int .i64 ((min n (linsI t).length : Nat) : Int)) := by rw [List.length_take] at q1; exact q1
    clear hv hk hf HEACH q1 q0
    generalize hm : min n (linsI t).length = m at *
    have HM := Lib.hid hm
    clear hm
    go_wp2
    go_ret
    exact ⟨ret_int (by rw [HM.out]), HX.out.2⟩
end Go.Proofs.Ytfdicndmebhmdaa
