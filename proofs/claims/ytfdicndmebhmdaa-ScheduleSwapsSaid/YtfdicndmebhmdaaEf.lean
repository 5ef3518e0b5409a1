/-
  Chapter 29: the comparison of ready.
-/
import Derived.Test.YtfdicndmebhmdaaEd
namespace Go.Proofs.Ytfdicndmebhmdaa
open Go.RowKit

/-- The comparison by name. -/
def cfE (t : List Ev) (i k : Nat) : Int := if nmI t i < nmI t k then -1 else if nmI t k < nmI t i then 1 else 0
set_option maxRecDepth 100000 in
set_option maxHeartbeats 2000000 in
theorem rdyclo_any (p0 gs : Nat) (tv : Value) (t : List Ev) (i k : Nat) (W : World) (hp : W.cell? ⟨p0, 0, none⟩ = some (.pointer (some ⟨gs, 0, none⟩))) (hs : W.cell? ⟨gs, 0, none⟩ = some tv) (hr : ReadsE W tv t) (hi : i < t.length) (hk : k < t.length) :
    Calls Try.prog 53 #[.int .i64 (i : Int), .int .i64 (k : Int), .pointer (some ⟨p0, 0, none⟩)] W fun e w' => e = .returned (.int .i64 (cfE t i k)) ∧ Drew W w' := by
  obtain ⟨b, off, cap, s1, c1, rfl, hcell, -⟩ := hr.at2 hi
  obtain ⟨b', off', cap', s2, c2, hv, hcell', -⟩ := hr.at2 hk
  injection hv with e1 e2 e3
  injection e1 with e1
  injection e1 with e1 e4
  subst e1 e4
  have c0 := (hcell W (Below.refl _ _)).1
  have c0' := (hcell' W (Below.refl _ _)).1
  have hii : (i : Int) < t.length := by omega
  have hi0 : (0 : Int) ≤ (i : Int) := by omega
  have hki : (k : Int) < t.length := by omega
  have hk0 : (0 : Int) ≤ (k : Int) := by omega
  have HE : Hid (cfE t i k = if t[i].1 < t[k].1 then -1 else if t[k].1 < t[i].1 then 1 else 0) := Lib.hid (by unfold cfE nmI; rw [nthE_eq hi, nthE_eq hk])
  rw [HE.out]
  clear hcell hcell' e2 e3 hr HE
  generalize t[i] = x at *
  generalize t[k] = y at *
  clear hi hk
  generalize x.1 = p at *
  generalize y.1 = q at *
  by_cases h1 : p < q
  · rw [if_pos h1]
    go_enter Try.func53, Try.ntmps53
    go_wp2
    go_quiet (fail)
    go_wp2
    go_ret
    exact ⟨rfl, (Drew.refl _).step _⟩
  · rw [if_neg h1]
    by_cases h2 : q < p
    · rw [if_pos h2]
      go_enter Try.func53, Try.ntmps53
      go_wp2
      go_quiet (fail)
      go_wp2
      go_quiet (fail)
      go_wp2
      go_ret
      exact ⟨rfl, ((Drew.refl _).step _).step _⟩
    · rw [if_neg h2]
      go_enter Try.func53, Try.ntmps53
      go_wp2
      go_quiet (fail)
      go_wp2
      go_quiet (fail)
      go_wp2
      go_ret
      exact ⟨rfl, ((Drew.refl _).step _).step _⟩
end Go.Proofs.Ytfdicndmebhmdaa
