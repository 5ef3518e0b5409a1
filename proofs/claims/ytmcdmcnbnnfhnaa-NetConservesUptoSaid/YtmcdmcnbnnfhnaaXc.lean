/-
  NetConserves: the part of the code that an act's kind chooses from (reached by its place; nothing is restated).
-/
import Derived.Test.YtmcdmcnbnnfhnaaXb
import Derived.Test.YtmcdmcnbnnfhnaaWe
import Derived.Test.YtmcdmcnbnnfhnaaWd
import Derived.Test.YtmcdmcnbnnfhnaaSj
import Derived.Test.YtmcdmcnbnnfhnaaVg
import Derived.Deep.CutBlock
namespace Go.Proofs.Ytmcdmcnbnnfhnaa.netConserves
open Go.Proofs.Ytmcdmcnbnnfhnaa
theorem neq_f {a b : Int} (h : a = b) : (a != b) = false := by rw [h]; simp
/-- A part of a statement: left (false) or right (true) at each step. -/
def subC : List Bool → Code → Code
  | [], c => c
  | false :: p, .seq a _ => subC p a
  | true :: p, .seq _ b => subC p b
  | _ :: p, .block _ c => subC p c
  | _ :: p, .loop c => subC p c
  | false :: p, .cond _ a _ => subC p a
  | true :: p, .cond _ _ b => subC p b
  | _ :: _, c => c
end Go.Proofs.Ytmcdmcnbnnfhnaa.netConserves
