/-
  Chapter 56: whether an operation may be next.
-/
import Derived.Test.YtgaolgfjbgflgaaLf
namespace Go.Proofs.Ytgaolgfjbgflgaa
open Go.RowKit

/-- What precedes what, as start lays it down. -/
def aftN (h : List Opn) (j : Nat) : Nat := if j < h.length then maskP (prI h j) h.length else 0
theorem aftN_lt {h : List Opn} (hn : h.length ≤ 16) (j : Nat) : aftN h j < 65536 := by
  unfold aftN
  split
  · exact mask16 _ hn
  · omega
theorem and_free {h : List Opn} {m i : Nat} (hi : i < h.length) : (aftN h i &&& m = 0) ↔ freeB h m i = true := by
  rw [free_iff]
  unfold aftN
  rw [if_pos hi]
  constructor
  · intro h0 k hk hp
    have h1 : (maskP (prI h i) h.length &&& m).testBit k = false := by rw [h0, Nat.zero_testBit]
    rw [Nat.testBit_and, maskP_bit, decide_eq_true hk, hp] at h1
    simpa using h1
  · intro h0
    apply Nat.eq_of_testBit_eq
    intro k
    rw [Nat.testBit_and, maskP_bit, Nat.zero_testBit]
    by_cases hk : k < h.length
    · cases hp : prI h i k with
      | false => simp
      | true => rw [h0 k hk hp]; simp
    · rw [decide_eq_false hk]; rfl

set_option maxRecDepth 100000 in
set_option maxHeartbeats 8000000 in
theorem may_any (hv : Value) (h : List Opn) (m i : Nat) (gs must gm : Nat) (steps : Int) (W : World) (hr : ReadsO W hv h) (hs : SmallH h) (hn : h.length ≤ 16) (hm : m < 65536) (hi : i < h.length)
    (hg : Blk W gs 58 (srchA hv must (aftN h) gm steps)) : Calls Try.prog 34 #[.pointer (some ⟨gs, 0, none⟩), .int .i64 (i : Int), .int .u32 (m : Int)] W (BoolMade W (mayB h m i)) := by
  obtain ⟨b, off, cap, a4, c4, a5, c5, rfl, _, hcm, hm4, hm5, hl4, hl5, hcell, r1, r2⟩ := hr.at2 hi
  have HR := Lib.hid hr
  have HS := Lib.hid hs
  have HG := Lib.hid hg
  have hki : (i : Int) < h.length := by omega
  have hk0 : (0 : Int) ≤ (i : Int) := by omega
  have hi16 : (i : Int) < 16 := by omega
  have dd := Lib.hid (hcell W (Below.refl _ _))
  have x0 := dd.out.1
  have x1 := dd.out.2.1
  have x2 := dd.out.2.2.1
  have x3 := dd.out.2.2.2.1
  have x4 := dd.out.2.2.2.2.1
  have x5 := dd.out.2.2.2.2.2
  have g0 := hg.cell 0
  have g2 := (hg.cell (2 + i)).trans (srchA_aft _ _ _ _ _ i (by omega))
  have g00 : W.cell? ⟨gs, 0, none⟩ = some (.slice (some ⟨b, off, none⟩) h.length cap) := g0
  have HN := Lib.hid (And.intro r1 r2)
  have HNX : Hid (nth h i = h[i]) := Lib.hid (nth_eq hi)
  have HSE := Lib.hid (sees_any (opV h[i] (.slice a4 (addO h[i]).length c4) (.slice a5 (seeO h[i]).length c5)) _ h[i] h m gs must (aftN h) gm steps W ⟨_, _, rfl, r1, r2⟩ hr hs hn hm hg)
  have HMB : Hid (mayB h m i = (!m.testBit i && freeB h m i && (decide (kindO h[i] = 1) || (decide (0 ≤ endO h[i]) && seesB h m h[i])))) := Lib.hid (by unfold mayB; rw [HNX.out])
  have HAF := Lib.hid (and_free (m := m) hi)
  have hba := bit_and (m := m) (k := i) hm
  have han := u32_and_nat (aftN h i) m (by have := aftN_lt hn i; omega) (by omega)
  generalize aftN h i &&& m = A at *
  generalize mayB h m i = res at *
  generalize seesB h m h[i] = sb at *
  generalize h[i] = x at *
  unfold opV at HSE
  clear g0 hcell r1 r2 hg hs hr dd HNX
  by_cases hb : m.testBit i = true
  · rw [if_pos hb] at hba
    have HF : Hid (res = false) := Lib.hid (by rw [HMB.out, hb]; rfl)
    clear hb HMB HAF han HSE
    go_enter Try.func34, Try.ntmps34
    go_wp2
    go_ret
    exact ⟨ret_bool HF.out.symm, Below.refl _ _⟩
  · rw [if_neg hb] at hba
    have HB := Lib.hid (Bool.eq_false_iff.2 hb)
    clear hb
    by_cases hA : A = 0
    · have HFR := Lib.hid (HAF.out.1 hA)
      rw [hA] at han
      clear hA HAF
      by_cases hk : kindO x = 1
      · have hk1 := beq_t hk
        have HF : Hid (res = true) := Lib.hid (by rw [HMB.out, HB.out, HFR.out, decide_eq_true hk]; rfl)
        clear hk HMB HSE
        go_enter Try.func34, Try.ntmps34
        go_wp2
        go_ret
        exact ⟨ret_bool HF.out.symm, Below.refl _ _⟩
      · have hk1 := beq_f hk
        by_cases he : 0 ≤ endO x
        · have HF : Hid (res = sb) := Lib.hid (by rw [HMB.out, HB.out, HFR.out, decide_eq_false hk, decide_eq_true he]; simp)
          clear hk HMB
          go_enter Try.func34, Try.ntmps34
          go_wp2_with fail
          refine HSE.out.mono ?_
          rintro e w1 ⟨rfl, hb1⟩
          have KW := Lib.hid hb1
          clear hb1 HSE x0 x1 x2 x3 x4 x5 g00 g2
          go_wp2
          go_ret
          exact ⟨ret_bool HF.out.symm, KW.out⟩
        · have HF : Hid (res = false) := Lib.hid (by rw [HMB.out, HB.out, HFR.out, decide_eq_false hk, decide_eq_false he]; rfl)
          clear hk HMB HSE
          go_enter Try.func34, Try.ntmps34
          go_wp2
          go_ret
          exact ⟨ret_bool HF.out.symm, Below.refl _ _⟩
    · have HF : Hid (res = false) := Lib.hid (by rw [HMB.out, Bool.eq_false_iff.2 (fun e => hA (HAF.out.2 e))]; simp)
      have hA1 := bne_t (show ¬ (A : Int) = 0 by omega)
      clear hA HMB HAF HSE
      go_enter Try.func34, Try.ntmps34
      go_wp2
      go_ret
      exact ⟨ret_bool HF.out.symm, Below.refl _ _⟩
end Go.Proofs.Ytgaolgfjbgflgaa
