/-
  Chapter 29: the example.
-/
import Derived.Test.YtfdicndmebhmdaaEk
import Derived.Test.YtfdicndmebhmdaaEl
import Derived.Test.YtfdicndmebhmdaaEp
import Derived.Test.YtfdicndmebhmdaaFe
import Derived.Test.YtfdicndmebhmdaaFj
import Derived.Test.YtfdicndmebhmdaaGa
import Derived.Test.YtfdicndmebhmdaaFl
namespace Go.Proofs.Ytfdicndmebhmdaa
open Go.RowKit

def eA : Ev := (1, [1])
def eB : Ev := (2, [2])
def eC : Ev := (3, [1, 2])
def tX : List Ev := [eB, eA, eC]
theorem ex_norm : normE tX = [eA, eB, eC] := by decide
theorem ex_cnt : cntE tX 9 = 2 := by decide
theorem ex_all : (allE tX 9).length = 2 := by decide
theorem ex_bef : bfE tX = [(0, 2), (1, 2)] := by decide
theorem ex_ind : indE tX = [0] := by decide
theorem ex_p1 : prfx [eB] tX = true := by decide
theorem ex_p2 : prfx [eC] tX = false := by decide
theorem ex_n1 : normE [eA, eB, eC] = [eA, eB, eC] := by decide
theorem ex_n2 : normE [eA, eC, eB] = [eA, eC, eB] := by decide
theorem ex_nl : nl tX 3 = 2 := by decide
theorem ex_l0 : lyN tX 3 0 = [2, 1] := by decide
theorem ex_l1 : lyN tX 3 1 = [3] := by decide
theorem sorted_int : ∀ {l m : List Int}, l.Perm m → l.Pairwise (· ≤ ·) → m.Pairwise (· ≤ ·) → l = m
  | [], m, hp, _, _ => hp.nil_eq
  | x :: l, [], hp, _, _ => absurd hp.symm.nil_eq (by simp)
  | x :: l, y :: m, hp, hl, hm => by
    rw [List.pairwise_cons] at hl hm
    have h1 : x ≤ y := by
      rcases List.mem_cons.1 (hp.mem_iff.2 (List.mem_cons_self (a := y))) with e | e
      · omega
      · exact hl.1 y e
    have h2 : y ≤ x := by
      rcases List.mem_cons.1 (hp.mem_iff.1 (List.mem_cons_self (a := x))) with e | e
      · omega
      · exact hm.1 x e
    have e : x = y := by omega
    subst e
    rw [sorted_int (hp.cons_inv) hl.2 hm.2]
theorem ex_s0 : sortI [2, 1] = [1, 2] := sorted_int ((sortI_perm _).trans (List.Perm.swap 1 2 [])) (sortI_le _) (by decide)
theorem ex_s1 : sortI [3] = [3] := sorted_int (sortI_perm _) (sortI_le _) (by decide)
theorem ex_lay : layE tX = [[1, 2], [3]] := by
  have h : layE tX = (List.range 2).map fun l => sortI (lyN tX 3 l) := by unfold layE; rw [show tX.length = 3 from rfl, ex_nl]
  rw [h]
  show [sortI (lyN tX 3 0), sortI (lyN tX 3 1)] = _
  rw [ex_l0, ex_l1, ex_s0, ex_s1]
end Go.Proofs.Ytfdicndmebhmdaa
