/-
  Chapter 56: the memo of a search.
-/
import Derived.Test.YtgaolgfjbgflgaaLd
import Derived.Test.YtgaolgfjbgflgaaMg
namespace Go.Proofs.Ytgaolgfjbgflgaa
open Go.RowKit Go.Maps
set_option maxRecDepth 100000

theorem keyU32 {s : Nat} (h : s < 4294967296) : keyOf Try.prog 54 (.int .u32 (s : Int)) = some (.int .u32 (s : Int)) := by
  have hu := Try.underlying54
  have hw : (Lit.int .u32 (s : Int)).wf = true := by simp [Lit.wf, IntKind.min, IntKind.max, IntKind.bits, IntKind.signed]; omega
  simp [keyOf, mapKey, hu, hw]
def entD (v : Value) : Option (Bool × Int) := match v with
  | .agg ⟨[.bool g, .int .i64 i]⟩ => some (g, i)
  | _ => none
/-- map[uint32]entry. -/
noncomputable def entT : MapTy Nat (Bool × Int) where
  t := 56
  k := 54
  e := 60
  kd := int_keyed Try.underlying54
  ht := Try.underlying56
  kv := fun s => .int .u32 (s : Int)
  kl := fun s => .int .u32 (s : Int)
  ok := fun s => s < 4294967296
  hkey := fun _ h => keyU32 h
  klit := fun _ => trivial
  kinj := fun s s' h => by injection h with _ h; omega
  V := fun p => .agg #[.bool p.1, .int .i64 p.2]
  dec := entD
  Dt := fun p => .agg [.lit (.bool p.1), .lit (.int .i64 p.2)]
  dV := fun _ => rfl
  Vd := fun v a h => by
    unfold entD at h
    split at h
    · injection h with h; subst h; rfl
    · cases h
  Dinj := fun a b h => by
    obtain ⟨a1, a2⟩ := a
    obtain ⟨b1, b2⟩ := b
    injection h with h
    simp only [List.cons.injEq, DataW.lit.injEq, Lit.bool.injEq, Lit.int.injEq, and_true, true_and] at h
    rw [h.1, h.2]
  z0 := (false, 0)
  hz := fun w => by kernel_rfl
end Go.Proofs.Ytgaolgfjbgflgaa
