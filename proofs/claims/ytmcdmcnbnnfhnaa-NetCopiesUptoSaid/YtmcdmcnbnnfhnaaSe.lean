/-
  Chapter 28: equality of claims (the reference): rounds.
-/
import Derived.Test.YtmcdmcnbnnfhnaaSd
import Derived.Laws.StructEq
namespace Go.Proofs.Ytmcdmcnbnnfhnaa
open Go.RowKit

theorem run_eq_round (w : World) (a b c d e f : Int) : (Op.equalIn 10000 29 (.agg #[.int .i64 a, .int .i64 b, .int .i64 c]) (.agg #[.int .i64 d, .int .i64 e, .int .i64 f])).run Try.prog w = .ok (a == d && (b == e && c == f)) w := by
  have u3 := Try.underlying3
  have hS : Try.prog.underlying 29 = some (.struct (Try.prog.fieldsOf 29)) := by kernel_rfl
  have hp : Try.prog.stoodInHeld 29 = false := by kernel_rfl
  rw [show (10000 : Nat) = 9999 + 1 from rfl, run_equalIn_agg w 9999 29 _ _ hS hp]
  simp only [Program.fieldsOf, Try.underlying29]
  go_simp
  by_cases h1 : a = d <;> by_cases h2 : b = e <;> by_cases h3 : c = f <;> simp [h1, h2, h3]
end Go.Proofs.Ytmcdmcnbnnfhnaa
