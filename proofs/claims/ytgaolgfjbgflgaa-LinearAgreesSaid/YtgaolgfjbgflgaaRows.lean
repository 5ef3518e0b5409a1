/-
  No cell of these rows narrows 'for every input' (looked for: loops, veiled, ifaces, maps, wideKeys, modest, calm, conditions, laid).
  DERIVED. THE GIVEN ROWS OF THIS SEAT. 9 by the template 'for every input the law returns true; each argument reads behind the call as it read before'; 0 by the template 'total and deterministic' (their statements: YtgaolgfjbgflgaaTotals.lean).
  GIVEN WITH THE SEED: the statements are not yours to turn. If you find one false, say at which input.
  Laid BY PROGRAM, IN A SANDBOX (cutbox-rows.mjs): the forced cells as the released guide's own fill.sh prints them over the translation 682fad2035793207… (all of the seat's roots in one cut). By AI agents, Wed Nov 11 2026. No macro, syntax, notation, axiom, sorry.
-/
import Derived.Test.YtgaolgfjbgflgaaChecked
import GoSem.Claim
import GoSem.ClaimJoined
import GoSem.ClaimMapViews
import Derived.JoinedTies
import Derived.KernelRfl
namespace Go.Proofs.Ytgaolgfjbgflgaa
/- THE CELL 'sum', in the pinned program and in every row, IS THE sha256 OF THE DUMP (.gsa) THAT YtgaolgfjbgflgaaProg.lean LOADS. Nothing in Lean hashes anything: it is a label: what it is worth is what the hold of that sum in a sandbox is worth. -/
noncomputable def Try.pinned : Pinned := { name := "ytgaolgfjbgflgaa", sum := "682fad2035793207cd414f648250bef42772c55c16b100c07734ea65e142f55c", checked := Try.checked }
namespace Rows
def none {H : Type} : Left H := { results := [], args := [] }

/-- 'plexuslaw56.LinearExact': WHATEVER THE INPUT: true; the input reads as it did. -/
def linearExactSpec : ChangeSpec := { name := "linearExact", fn := fun _ => fun
  | [d1, d2] => { results := [.lit (.bool true)], args := [d1, d2] }
  | _ => none }
def linearExactRow : OpenClaim := { program := "ytgaolgfjbgflgaa", sum := "682fad2035793207cd414f648250bef42772c55c16b100c07734ea65e142f55c", func := "plexus/plexuslaw56.LinearExact", spec := "linearExact", unfollowed := true, recurses := true, apart := false }
def LinearExactSaid : Prop := linearExactRow.holds Try.pinned (OpenSpec.ofChange linearExactSpec)

/-- ITS FALSE NEIGHBOUR: 'it returns false'. Refute it at one input. -/
def linearExactWrong : ChangeSpec := { name := "linearExact", fn := fun _ => fun
  | [d1, d2] => { results := [.lit (.bool false)], args := [d1, d2] }
  | _ => none }
def LinearExactWrongFalsely : Prop := linearExactRow.holds Try.pinned (OpenSpec.ofChange linearExactWrong)

/-- 'plexuslaw56.LinearCounts': WHATEVER THE INPUT: true; the input reads as it did. -/
def linearCountsSpec : ChangeSpec := { name := "linearCounts", fn := fun _ => fun
  | [d1, d2] => { results := [.lit (.bool true)], args := [d1, d2] }
  | _ => none }
def linearCountsRow : OpenClaim := { program := "ytgaolgfjbgflgaa", sum := "682fad2035793207cd414f648250bef42772c55c16b100c07734ea65e142f55c", func := "plexus/plexuslaw56.LinearCounts", spec := "linearCounts", unfollowed := true, recurses := true, apart := false }
def LinearCountsSaid : Prop := linearCountsRow.holds Try.pinned (OpenSpec.ofChange linearCountsSpec)

/-- ITS FALSE NEIGHBOUR: 'it returns false'. Refute it at one input. -/
def linearCountsWrong : ChangeSpec := { name := "linearCounts", fn := fun _ => fun
  | [d1, d2] => { results := [.lit (.bool false)], args := [d1, d2] }
  | _ => none }
def LinearCountsWrongFalsely : Prop := linearCountsRow.holds Try.pinned (OpenSpec.ofChange linearCountsWrong)

/-- 'plexuslaw56.LinearOrderless': WHATEVER THE INPUT: true; the input reads as it did. -/
def linearOrderlessSpec : ChangeSpec := { name := "linearOrderless", fn := fun _ => fun
  | [d] => { results := [.lit (.bool true)], args := [d] }
  | _ => none }
def linearOrderlessRow : OpenClaim := { program := "ytgaolgfjbgflgaa", sum := "682fad2035793207cd414f648250bef42772c55c16b100c07734ea65e142f55c", func := "plexus/plexuslaw56.LinearOrderless", spec := "linearOrderless", unfollowed := true, recurses := true, apart := false }
def LinearOrderlessSaid : Prop := linearOrderlessRow.holds Try.pinned (OpenSpec.ofChange linearOrderlessSpec)

/-- ITS FALSE NEIGHBOUR: 'it returns false'. Refute it at one input. -/
def linearOrderlessWrong : ChangeSpec := { name := "linearOrderless", fn := fun _ => fun
  | [d] => { results := [.lit (.bool false)], args := [d] }
  | _ => none }
def LinearOrderlessWrongFalsely : Prop := linearOrderlessRow.holds Try.pinned (OpenSpec.ofChange linearOrderlessWrong)

/-- 'plexuslaw56.LinearWitness': WHATEVER THE INPUT: true; the input reads as it did. -/
def linearWitnessSpec : ChangeSpec := { name := "linearWitness", fn := fun _ => fun
  | [d1, d2] => { results := [.lit (.bool true)], args := [d1, d2] }
  | _ => none }
def linearWitnessRow : OpenClaim := { program := "ytgaolgfjbgflgaa", sum := "682fad2035793207cd414f648250bef42772c55c16b100c07734ea65e142f55c", func := "plexus/plexuslaw56.LinearWitness", spec := "linearWitness", unfollowed := true, recurses := true, apart := false }
def LinearWitnessSaid : Prop := linearWitnessRow.holds Try.pinned (OpenSpec.ofChange linearWitnessSpec)

/-- ITS FALSE NEIGHBOUR: 'it returns false'. Refute it at one input. -/
def linearWitnessWrong : ChangeSpec := { name := "linearWitness", fn := fun _ => fun
  | [d1, d2] => { results := [.lit (.bool false)], args := [d1, d2] }
  | _ => none }
def LinearWitnessWrongFalsely : Prop := linearWitnessRow.holds Try.pinned (OpenSpec.ofChange linearWitnessWrong)

/-- 'plexuslaw56.LinearEarliest': WHATEVER THE INPUT: true; the input reads as it did. -/
def linearEarliestSpec : ChangeSpec := { name := "linearEarliest", fn := fun _ => fun
  | [d] => { results := [.lit (.bool true)], args := [d] }
  | _ => none }
def linearEarliestRow : OpenClaim := { program := "ytgaolgfjbgflgaa", sum := "682fad2035793207cd414f648250bef42772c55c16b100c07734ea65e142f55c", func := "plexus/plexuslaw56.LinearEarliest", spec := "linearEarliest", unfollowed := true, recurses := true, apart := false }
def LinearEarliestSaid : Prop := linearEarliestRow.holds Try.pinned (OpenSpec.ofChange linearEarliestSpec)

/-- ITS FALSE NEIGHBOUR: 'it returns false'. Refute it at one input. -/
def linearEarliestWrong : ChangeSpec := { name := "linearEarliest", fn := fun _ => fun
  | [d] => { results := [.lit (.bool false)], args := [d] }
  | _ => none }
def LinearEarliestWrongFalsely : Prop := linearEarliestRow.holds Try.pinned (OpenSpec.ofChange linearEarliestWrong)

/-- 'plexuslaw56.LinearMonotone': WHATEVER THE INPUT: true; the input reads as it did. -/
def linearMonotoneSpec : ChangeSpec := { name := "linearMonotone", fn := fun _ => fun
  | [d1, d2] => { results := [.lit (.bool true)], args := [d1, d2] }
  | _ => none }
def linearMonotoneRow : OpenClaim := { program := "ytgaolgfjbgflgaa", sum := "682fad2035793207cd414f648250bef42772c55c16b100c07734ea65e142f55c", func := "plexus/plexuslaw56.LinearMonotone", spec := "linearMonotone", unfollowed := true, recurses := true, apart := false }
def LinearMonotoneSaid : Prop := linearMonotoneRow.holds Try.pinned (OpenSpec.ofChange linearMonotoneSpec)

/-- ITS FALSE NEIGHBOUR: 'it returns false'. Refute it at one input. -/
def linearMonotoneWrong : ChangeSpec := { name := "linearMonotone", fn := fun _ => fun
  | [d1, d2] => { results := [.lit (.bool false)], args := [d1, d2] }
  | _ => none }
def LinearMonotoneWrongFalsely : Prop := linearMonotoneRow.holds Try.pinned (OpenSpec.ofChange linearMonotoneWrong)

/-- 'plexuslaw56.LinearMany': WHATEVER THE INPUT: true; the input reads as it did. -/
def linearManySpec : ChangeSpec := { name := "linearMany", fn := fun _ => fun
  | [d1, d2] => { results := [.lit (.bool true)], args := [d1, d2] }
  | _ => none }
def linearManyRow : OpenClaim := { program := "ytgaolgfjbgflgaa", sum := "682fad2035793207cd414f648250bef42772c55c16b100c07734ea65e142f55c", func := "plexus/plexuslaw56.LinearMany", spec := "linearMany", unfollowed := true, recurses := true, apart := false }
def LinearManySaid : Prop := linearManyRow.holds Try.pinned (OpenSpec.ofChange linearManySpec)

/-- ITS FALSE NEIGHBOUR: 'it returns false'. Refute it at one input. -/
def linearManyWrong : ChangeSpec := { name := "linearMany", fn := fun _ => fun
  | [d1, d2] => { results := [.lit (.bool false)], args := [d1, d2] }
  | _ => none }
def LinearManyWrongFalsely : Prop := linearManyRow.holds Try.pinned (OpenSpec.ofChange linearManyWrong)

/-- 'plexuslaw56.LinearAgrees': WHATEVER THE INPUT: true; the input reads as it did. -/
def linearAgreesSpec : ChangeSpec := { name := "linearAgrees", fn := fun _ => fun
  | [d] => { results := [.lit (.bool true)], args := [d] }
  | _ => none }
def linearAgreesRow : OpenClaim := { program := "ytgaolgfjbgflgaa", sum := "682fad2035793207cd414f648250bef42772c55c16b100c07734ea65e142f55c", func := "plexus/plexuslaw56.LinearAgrees", spec := "linearAgrees", unfollowed := true, recurses := true, apart := false }
def LinearAgreesSaid : Prop := linearAgreesRow.holds Try.pinned (OpenSpec.ofChange linearAgreesSpec)

/-- ITS FALSE NEIGHBOUR: 'it returns false'. Refute it at one input. -/
def linearAgreesWrong : ChangeSpec := { name := "linearAgrees", fn := fun _ => fun
  | [d] => { results := [.lit (.bool false)], args := [d] }
  | _ => none }
def LinearAgreesWrongFalsely : Prop := linearAgreesRow.holds Try.pinned (OpenSpec.ofChange linearAgreesWrong)

/-- 'plexuslaw56.LinearFinds': WHATEVER THE INPUT: true; the input reads as it did. -/
def linearFindsSpec : ChangeSpec := { name := "linearFinds", fn := fun _ => fun
  | [d] => { results := [.lit (.bool true)], args := [d] }
  | _ => none }
def linearFindsRow : OpenClaim := { program := "ytgaolgfjbgflgaa", sum := "682fad2035793207cd414f648250bef42772c55c16b100c07734ea65e142f55c", func := "plexus/plexuslaw56.LinearFinds", spec := "linearFinds", unfollowed := true, recurses := true, apart := false }
def LinearFindsSaid : Prop := linearFindsRow.holds Try.pinned (OpenSpec.ofChange linearFindsSpec)

/-- ITS FALSE NEIGHBOUR: 'it returns false'. Refute it at one input. -/
def linearFindsWrong : ChangeSpec := { name := "linearFinds", fn := fun _ => fun
  | [d] => { results := [.lit (.bool false)], args := [d] }
  | _ => none }
def LinearFindsWrongFalsely : Prop := linearFindsRow.holds Try.pinned (OpenSpec.ofChange linearFindsWrong)

/- THE SECOND FORM. 'bulk': how many values and letters a reading holds, each counted each time it is reached (what is shared counts as often as it is met; a slice's spare places count too). A statement '..UptoSaid' is the law's where the arguments, and the package variables that the reading takes, are together of bulk at most 1048576: NARROWER than '..Said'. Prove '..Said' where nothing that the law and all that it calls make is longer than what came in: it says more and counts as full. Else prove '..UptoSaid'. A law counts once. -/
mutual
def uptoBulk {H : Type} : DataW H → Nat
  | .lit (.string bytes) => bytes.length + 1
  | .lit _ => 1
  | .nil => 1
  | .ptr d => uptoBulk d + 1
  | .slice elems spare => uptoBulkAll elems + uptoBulkAll spare + 1
  | .agg parts => uptoBulkAll parts + 1
  | .iface _ d => uptoBulk d + 1
  | .map entries => uptoBulkEntries entries + 1
  | .held _ => 1
def uptoBulkAll {H : Type} : List (DataW H) → Nat
  | [] => 0
  | d :: r => uptoBulk d + uptoBulkAll r
def uptoBulkEntries {H : Type} : List (Lit × DataW H) → Nat
  | [] => 0
  | x :: r => uptoBulkEntry x + uptoBulkEntries r
def uptoBulkEntry {H : Type} : Lit × DataW H → Nat
  | (.string bytes, d) => bytes.length + uptoBulk d + 1
  | (_, d) => uptoBulk d + 1
 end
def uptoSmall : (H : Type) → List (DataW H) → Bool := fun _ ds => decide (uptoBulkAll ds ≤ 1048576)
def OpenSpec.upto (s : _root_.Go.ChangeSpec) : _root_.Go.OpenSpec := { _root_.Go.OpenSpec.ofChange s with cond := some uptoSmall }

/-- 'plexuslaw56.LinearExact', WHERE WHAT IT READS IS OF BULK AT MOST 1048576: true; the input reads as it did. -/
def linearExactUptoRow : OpenClaim := { program := "ytgaolgfjbgflgaa", sum := "682fad2035793207cd414f648250bef42772c55c16b100c07734ea65e142f55c", func := "plexus/plexuslaw56.LinearExact", spec := "linearExact", unfollowed := true, recurses := true, apart := false, narrowed := true }
def LinearExactUptoSaid : Prop := linearExactUptoRow.holds Try.pinned (OpenSpec.upto linearExactSpec)

/-- 'plexuslaw56.LinearCounts', WHERE WHAT IT READS IS OF BULK AT MOST 1048576: true; the input reads as it did. -/
def linearCountsUptoRow : OpenClaim := { program := "ytgaolgfjbgflgaa", sum := "682fad2035793207cd414f648250bef42772c55c16b100c07734ea65e142f55c", func := "plexus/plexuslaw56.LinearCounts", spec := "linearCounts", unfollowed := true, recurses := true, apart := false, narrowed := true }
def LinearCountsUptoSaid : Prop := linearCountsUptoRow.holds Try.pinned (OpenSpec.upto linearCountsSpec)

/-- 'plexuslaw56.LinearOrderless', WHERE WHAT IT READS IS OF BULK AT MOST 1048576: true; the input reads as it did. -/
def linearOrderlessUptoRow : OpenClaim := { program := "ytgaolgfjbgflgaa", sum := "682fad2035793207cd414f648250bef42772c55c16b100c07734ea65e142f55c", func := "plexus/plexuslaw56.LinearOrderless", spec := "linearOrderless", unfollowed := true, recurses := true, apart := false, narrowed := true }
def LinearOrderlessUptoSaid : Prop := linearOrderlessUptoRow.holds Try.pinned (OpenSpec.upto linearOrderlessSpec)

/-- 'plexuslaw56.LinearWitness', WHERE WHAT IT READS IS OF BULK AT MOST 1048576: true; the input reads as it did. -/
def linearWitnessUptoRow : OpenClaim := { program := "ytgaolgfjbgflgaa", sum := "682fad2035793207cd414f648250bef42772c55c16b100c07734ea65e142f55c", func := "plexus/plexuslaw56.LinearWitness", spec := "linearWitness", unfollowed := true, recurses := true, apart := false, narrowed := true }
def LinearWitnessUptoSaid : Prop := linearWitnessUptoRow.holds Try.pinned (OpenSpec.upto linearWitnessSpec)

/-- 'plexuslaw56.LinearEarliest', WHERE WHAT IT READS IS OF BULK AT MOST 1048576: true; the input reads as it did. -/
def linearEarliestUptoRow : OpenClaim := { program := "ytgaolgfjbgflgaa", sum := "682fad2035793207cd414f648250bef42772c55c16b100c07734ea65e142f55c", func := "plexus/plexuslaw56.LinearEarliest", spec := "linearEarliest", unfollowed := true, recurses := true, apart := false, narrowed := true }
def LinearEarliestUptoSaid : Prop := linearEarliestUptoRow.holds Try.pinned (OpenSpec.upto linearEarliestSpec)

/-- 'plexuslaw56.LinearMonotone', WHERE WHAT IT READS IS OF BULK AT MOST 1048576: true; the input reads as it did. -/
def linearMonotoneUptoRow : OpenClaim := { program := "ytgaolgfjbgflgaa", sum := "682fad2035793207cd414f648250bef42772c55c16b100c07734ea65e142f55c", func := "plexus/plexuslaw56.LinearMonotone", spec := "linearMonotone", unfollowed := true, recurses := true, apart := false, narrowed := true }
def LinearMonotoneUptoSaid : Prop := linearMonotoneUptoRow.holds Try.pinned (OpenSpec.upto linearMonotoneSpec)

/-- 'plexuslaw56.LinearMany', WHERE WHAT IT READS IS OF BULK AT MOST 1048576: true; the input reads as it did. -/
def linearManyUptoRow : OpenClaim := { program := "ytgaolgfjbgflgaa", sum := "682fad2035793207cd414f648250bef42772c55c16b100c07734ea65e142f55c", func := "plexus/plexuslaw56.LinearMany", spec := "linearMany", unfollowed := true, recurses := true, apart := false, narrowed := true }
def LinearManyUptoSaid : Prop := linearManyUptoRow.holds Try.pinned (OpenSpec.upto linearManySpec)

/-- 'plexuslaw56.LinearAgrees', WHERE WHAT IT READS IS OF BULK AT MOST 1048576: true; the input reads as it did. -/
def linearAgreesUptoRow : OpenClaim := { program := "ytgaolgfjbgflgaa", sum := "682fad2035793207cd414f648250bef42772c55c16b100c07734ea65e142f55c", func := "plexus/plexuslaw56.LinearAgrees", spec := "linearAgrees", unfollowed := true, recurses := true, apart := false, narrowed := true }
def LinearAgreesUptoSaid : Prop := linearAgreesUptoRow.holds Try.pinned (OpenSpec.upto linearAgreesSpec)

/-- 'plexuslaw56.LinearFinds', WHERE WHAT IT READS IS OF BULK AT MOST 1048576: true; the input reads as it did. -/
def linearFindsUptoRow : OpenClaim := { program := "ytgaolgfjbgflgaa", sum := "682fad2035793207cd414f648250bef42772c55c16b100c07734ea65e142f55c", func := "plexus/plexuslaw56.LinearFinds", spec := "linearFinds", unfollowed := true, recurses := true, apart := false, narrowed := true }
def LinearFindsUptoSaid : Prop := linearFindsUptoRow.holds Try.pinned (OpenSpec.upto linearFindsSpec)

end Rows
end Go.Proofs.Ytgaolgfjbgflgaa
