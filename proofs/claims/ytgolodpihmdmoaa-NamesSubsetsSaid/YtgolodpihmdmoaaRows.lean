/-
  No cell of these rows narrows 'for every input' (looked for: loops, veiled, ifaces, maps, wideKeys, modest, calm, conditions, laid).
  DERIVED. THE GIVEN ROWS OF THIS SEAT. 9 by the template 'for every input the law returns true; each argument reads behind the call as it read before'; 0 by the template 'total and deterministic' (their statements: YtgolodpihmdmoaaTotals.lean).
  GIVEN WITH THE SEED: the statements are not yours to turn. If you find one false, say at which input.
  Laid BY PROGRAM, IN A SANDBOX (cutbox-rows.mjs): the forced cells as the released guide's own fill.sh prints them over the translation 6bc753e0ee02be6e… (all of the seat's roots in one cut). By AI agents, Wed Nov 11 2026. No macro, syntax, notation, axiom, sorry.
-/
import Derived.Test.YtgolodpihmdmoaaChecked
import GoSem.Claim
import GoSem.ClaimJoined
import GoSem.ClaimMapViews
import Derived.JoinedTies
import Derived.KernelRfl
namespace Go.Proofs.Ytgolodpihmdmoaa
/- THE CELL 'sum', in the pinned program and in every row, IS THE sha256 OF THE DUMP (.gsa) THAT YtgolodpihmdmoaaProg.lean LOADS. Nothing in Lean hashes anything: it is a label: what it is worth is what the hold of that sum in a sandbox is worth. -/
noncomputable def Try.pinned : Pinned := { name := "ytgolodpihmdmoaa", sum := "6bc753e0ee02be6efd3ee986363c522af899ad61f43f196b63516ba89b6e67de", checked := Try.checked }
namespace Rows
def none {H : Type} : Left H := { results := [], args := [] }

/-- 'plexuslaw02.NamesValid': WHATEVER THE INPUT: true; the input reads as it did. -/
def namesValidSpec : ChangeSpec := { name := "namesValid", fn := fun _ => fun
  | [d] => { results := [.lit (.bool true)], args := [d] }
  | _ => none }
def namesValidRow : OpenClaim := { program := "ytgolodpihmdmoaa", sum := "6bc753e0ee02be6efd3ee986363c522af899ad61f43f196b63516ba89b6e67de", func := "plexus/plexuslaw02.NamesValid", spec := "namesValid", inPlace := ["internal/abi.NoEscape", "internal/bytealg.MakeNoZero"], recurses := true, apart := false }
def NamesValidSaid : Prop := namesValidRow.holds Try.pinned (OpenSpec.ofChange namesValidSpec)

/-- ITS FALSE NEIGHBOUR: 'it returns false'. Refute it at one input. -/
def namesValidWrong : ChangeSpec := { name := "namesValid", fn := fun _ => fun
  | [d] => { results := [.lit (.bool false)], args := [d] }
  | _ => none }
def NamesValidWrongFalsely : Prop := namesValidRow.holds Try.pinned (OpenSpec.ofChange namesValidWrong)

/-- 'plexuslaw02.NamesText': WHATEVER THE INPUT: true; the input reads as it did. -/
def namesTextSpec : ChangeSpec := { name := "namesText", fn := fun _ => fun
  | [d] => { results := [.lit (.bool true)], args := [d] }
  | _ => none }
def namesTextRow : OpenClaim := { program := "ytgolodpihmdmoaa", sum := "6bc753e0ee02be6efd3ee986363c522af899ad61f43f196b63516ba89b6e67de", func := "plexus/plexuslaw02.NamesText", spec := "namesText", inPlace := ["internal/abi.NoEscape", "internal/bytealg.MakeNoZero"], recurses := true, apart := false }
def NamesTextSaid : Prop := namesTextRow.holds Try.pinned (OpenSpec.ofChange namesTextSpec)

/-- ITS FALSE NEIGHBOUR: 'it returns false'. Refute it at one input. -/
def namesTextWrong : ChangeSpec := { name := "namesText", fn := fun _ => fun
  | [d] => { results := [.lit (.bool false)], args := [d] }
  | _ => none }
def NamesTextWrongFalsely : Prop := namesTextRow.holds Try.pinned (OpenSpec.ofChange namesTextWrong)

/-- 'plexuslaw02.NamesParse': WHATEVER THE INPUT: true; the input reads as it did. -/
def namesParseSpec : ChangeSpec := { name := "namesParse", fn := fun _ => fun
  | [d] => { results := [.lit (.bool true)], args := [d] }
  | _ => none }
def namesParseRow : OpenClaim := { program := "ytgolodpihmdmoaa", sum := "6bc753e0ee02be6efd3ee986363c522af899ad61f43f196b63516ba89b6e67de", func := "plexus/plexuslaw02.NamesParse", spec := "namesParse", inPlace := ["internal/abi.NoEscape", "internal/bytealg.MakeNoZero"], recurses := true, apart := false }
def NamesParseSaid : Prop := namesParseRow.holds Try.pinned (OpenSpec.ofChange namesParseSpec)

/-- ITS FALSE NEIGHBOUR: 'it returns false'. Refute it at one input. -/
def namesParseWrong : ChangeSpec := { name := "namesParse", fn := fun _ => fun
  | [d] => { results := [.lit (.bool false)], args := [d] }
  | _ => none }
def NamesParseWrongFalsely : Prop := namesParseRow.holds Try.pinned (OpenSpec.ofChange namesParseWrong)

/-- 'plexuslaw02.NamesSpaced': WHATEVER THE INPUT: true; the input reads as it did. -/
def namesSpacedSpec : ChangeSpec := { name := "namesSpaced", fn := fun _ => fun
  | [d1, d2] => { results := [.lit (.bool true)], args := [d1, d2] }
  | _ => none }
def namesSpacedRow : OpenClaim := { program := "ytgolodpihmdmoaa", sum := "6bc753e0ee02be6efd3ee986363c522af899ad61f43f196b63516ba89b6e67de", func := "plexus/plexuslaw02.NamesSpaced", spec := "namesSpaced", inPlace := ["internal/abi.NoEscape", "internal/bytealg.MakeNoZero"], recurses := true, apart := false }
def NamesSpacedSaid : Prop := namesSpacedRow.holds Try.pinned (OpenSpec.ofChange namesSpacedSpec)

/-- ITS FALSE NEIGHBOUR: 'it returns false'. Refute it at one input. -/
def namesSpacedWrong : ChangeSpec := { name := "namesSpaced", fn := fun _ => fun
  | [d1, d2] => { results := [.lit (.bool false)], args := [d1, d2] }
  | _ => none }
def NamesSpacedWrongFalsely : Prop := namesSpacedRow.holds Try.pinned (OpenSpec.ofChange namesSpacedWrong)

/-- 'plexuslaw02.NamesAlgebra': WHATEVER THE INPUT: true; the input reads as it did. -/
def namesAlgebraSpec : ChangeSpec := { name := "namesAlgebra", fn := fun _ => fun
  | [d1, d2, d3] => { results := [.lit (.bool true)], args := [d1, d2, d3] }
  | _ => none }
def namesAlgebraRow : OpenClaim := { program := "ytgolodpihmdmoaa", sum := "6bc753e0ee02be6efd3ee986363c522af899ad61f43f196b63516ba89b6e67de", func := "plexus/plexuslaw02.NamesAlgebra", spec := "namesAlgebra", inPlace := ["internal/abi.NoEscape", "internal/bytealg.MakeNoZero"], recurses := true, apart := false }
def NamesAlgebraSaid : Prop := namesAlgebraRow.holds Try.pinned (OpenSpec.ofChange namesAlgebraSpec)

/-- ITS FALSE NEIGHBOUR: 'it returns false'. Refute it at one input. -/
def namesAlgebraWrong : ChangeSpec := { name := "namesAlgebra", fn := fun _ => fun
  | [d1, d2, d3] => { results := [.lit (.bool false)], args := [d1, d2, d3] }
  | _ => none }
def NamesAlgebraWrongFalsely : Prop := namesAlgebraRow.holds Try.pinned (OpenSpec.ofChange namesAlgebraWrong)

/-- 'plexuslaw02.NamesSets': WHATEVER THE INPUT: true; the input reads as it did. -/
def namesSetsSpec : ChangeSpec := { name := "namesSets", fn := fun _ => fun
  | [d1, d2, d3] => { results := [.lit (.bool true)], args := [d1, d2, d3] }
  | _ => none }
def namesSetsRow : OpenClaim := { program := "ytgolodpihmdmoaa", sum := "6bc753e0ee02be6efd3ee986363c522af899ad61f43f196b63516ba89b6e67de", func := "plexus/plexuslaw02.NamesSets", spec := "namesSets", inPlace := ["internal/abi.NoEscape", "internal/bytealg.MakeNoZero"], recurses := true, apart := false }
def NamesSetsSaid : Prop := namesSetsRow.holds Try.pinned (OpenSpec.ofChange namesSetsSpec)

/-- ITS FALSE NEIGHBOUR: 'it returns false'. Refute it at one input. -/
def namesSetsWrong : ChangeSpec := { name := "namesSets", fn := fun _ => fun
  | [d1, d2, d3] => { results := [.lit (.bool false)], args := [d1, d2, d3] }
  | _ => none }
def NamesSetsWrongFalsely : Prop := namesSetsRow.holds Try.pinned (OpenSpec.ofChange namesSetsWrong)

/-- 'plexuslaw02.NamesSubset': WHATEVER THE INPUT: true; the input reads as it did. -/
def namesSubsetSpec : ChangeSpec := { name := "namesSubset", fn := fun _ => fun
  | [d1, d2] => { results := [.lit (.bool true)], args := [d1, d2] }
  | _ => none }
def namesSubsetRow : OpenClaim := { program := "ytgolodpihmdmoaa", sum := "6bc753e0ee02be6efd3ee986363c522af899ad61f43f196b63516ba89b6e67de", func := "plexus/plexuslaw02.NamesSubset", spec := "namesSubset", inPlace := ["internal/abi.NoEscape", "internal/bytealg.MakeNoZero"], recurses := true, apart := false }
def NamesSubsetSaid : Prop := namesSubsetRow.holds Try.pinned (OpenSpec.ofChange namesSubsetSpec)

/-- ITS FALSE NEIGHBOUR: 'it returns false'. Refute it at one input. -/
def namesSubsetWrong : ChangeSpec := { name := "namesSubset", fn := fun _ => fun
  | [d1, d2] => { results := [.lit (.bool false)], args := [d1, d2] }
  | _ => none }
def NamesSubsetWrongFalsely : Prop := namesSubsetRow.holds Try.pinned (OpenSpec.ofChange namesSubsetWrong)

/-- 'plexuslaw02.NamesOrder': WHATEVER THE INPUT: true; the input reads as it did. -/
def namesOrderSpec : ChangeSpec := { name := "namesOrder", fn := fun _ => fun
  | [d1, d2, d3] => { results := [.lit (.bool true)], args := [d1, d2, d3] }
  | _ => none }
def namesOrderRow : OpenClaim := { program := "ytgolodpihmdmoaa", sum := "6bc753e0ee02be6efd3ee986363c522af899ad61f43f196b63516ba89b6e67de", func := "plexus/plexuslaw02.NamesOrder", spec := "namesOrder", inPlace := ["internal/abi.NoEscape", "internal/bytealg.MakeNoZero"], recurses := true, apart := false }
def NamesOrderSaid : Prop := namesOrderRow.holds Try.pinned (OpenSpec.ofChange namesOrderSpec)

/-- ITS FALSE NEIGHBOUR: 'it returns false'. Refute it at one input. -/
def namesOrderWrong : ChangeSpec := { name := "namesOrder", fn := fun _ => fun
  | [d1, d2, d3] => { results := [.lit (.bool false)], args := [d1, d2, d3] }
  | _ => none }
def NamesOrderWrongFalsely : Prop := namesOrderRow.holds Try.pinned (OpenSpec.ofChange namesOrderWrong)

/-- 'plexuslaw02.NamesSubsets': WHATEVER THE INPUT: true; the input reads as it did. -/
def namesSubsetsSpec : ChangeSpec := { name := "namesSubsets", fn := fun _ => fun
  | [d] => { results := [.lit (.bool true)], args := [d] }
  | _ => none }
def namesSubsetsRow : OpenClaim := { program := "ytgolodpihmdmoaa", sum := "6bc753e0ee02be6efd3ee986363c522af899ad61f43f196b63516ba89b6e67de", func := "plexus/plexuslaw02.NamesSubsets", spec := "namesSubsets", inPlace := ["internal/abi.NoEscape", "internal/bytealg.MakeNoZero"], unfollowed := true, recurses := true, apart := false }
def NamesSubsetsSaid : Prop := namesSubsetsRow.holds Try.pinned (OpenSpec.ofChange namesSubsetsSpec)

/-- ITS FALSE NEIGHBOUR: 'it returns false'. Refute it at one input. -/
def namesSubsetsWrong : ChangeSpec := { name := "namesSubsets", fn := fun _ => fun
  | [d] => { results := [.lit (.bool false)], args := [d] }
  | _ => none }
def NamesSubsetsWrongFalsely : Prop := namesSubsetsRow.holds Try.pinned (OpenSpec.ofChange namesSubsetsWrong)

/- THE SECOND FORM. 'bulk': how many values and letters a reading holds, each counted each time it is reached (what is shared counts as often as it is met; a slice's spare places count too). A statement '..UptoSaid' is the law's where the arguments, and the package variables that the reading takes, are together of bulk at most 1048576: NARROWER than '..Said'. Prove '..Said' where nothing that the law and all that it calls make is longer than what came in: it says more and counts as full. Else prove '..UptoSaid'. A law counts once. -/
mutual
def uptoBulk {H : Type} : DataW H → Nat
  | .lit (.string bytes) => bytes.length + 1
  | .lit _ => 1
  | .nil => 1
  | .ptr d => uptoBulk d + 1
  | .slice elems spare => uptoBulkAll elems + uptoBulkAll spare + 1
  | .agg parts => uptoBulkAll parts + 1
  | .iface _ d => uptoBulk d + 1
  | .map entries => uptoBulkEntries entries + 1
  | .held _ => 1
def uptoBulkAll {H : Type} : List (DataW H) → Nat
  | [] => 0
  | d :: r => uptoBulk d + uptoBulkAll r
def uptoBulkEntries {H : Type} : List (Lit × DataW H) → Nat
  | [] => 0
  | x :: r => uptoBulkEntry x + uptoBulkEntries r
def uptoBulkEntry {H : Type} : Lit × DataW H → Nat
  | (.string bytes, d) => bytes.length + uptoBulk d + 1
  | (_, d) => uptoBulk d + 1
 end
def uptoSmall : (H : Type) → List (DataW H) → Bool := fun _ ds => decide (uptoBulkAll ds ≤ 1048576)
def OpenSpec.upto (s : _root_.Go.ChangeSpec) : _root_.Go.OpenSpec := { _root_.Go.OpenSpec.ofChange s with cond := some uptoSmall }

/-- 'plexuslaw02.NamesValid', WHERE WHAT IT READS IS OF BULK AT MOST 1048576: true; the input reads as it did. -/
def namesValidUptoRow : OpenClaim := { program := "ytgolodpihmdmoaa", sum := "6bc753e0ee02be6efd3ee986363c522af899ad61f43f196b63516ba89b6e67de", func := "plexus/plexuslaw02.NamesValid", spec := "namesValid", inPlace := ["internal/abi.NoEscape", "internal/bytealg.MakeNoZero"], recurses := true, apart := false, narrowed := true }
def NamesValidUptoSaid : Prop := namesValidUptoRow.holds Try.pinned (OpenSpec.upto namesValidSpec)

/-- 'plexuslaw02.NamesText', WHERE WHAT IT READS IS OF BULK AT MOST 1048576: true; the input reads as it did. -/
def namesTextUptoRow : OpenClaim := { program := "ytgolodpihmdmoaa", sum := "6bc753e0ee02be6efd3ee986363c522af899ad61f43f196b63516ba89b6e67de", func := "plexus/plexuslaw02.NamesText", spec := "namesText", inPlace := ["internal/abi.NoEscape", "internal/bytealg.MakeNoZero"], recurses := true, apart := false, narrowed := true }
def NamesTextUptoSaid : Prop := namesTextUptoRow.holds Try.pinned (OpenSpec.upto namesTextSpec)

/-- 'plexuslaw02.NamesParse', WHERE WHAT IT READS IS OF BULK AT MOST 1048576: true; the input reads as it did. -/
def namesParseUptoRow : OpenClaim := { program := "ytgolodpihmdmoaa", sum := "6bc753e0ee02be6efd3ee986363c522af899ad61f43f196b63516ba89b6e67de", func := "plexus/plexuslaw02.NamesParse", spec := "namesParse", inPlace := ["internal/abi.NoEscape", "internal/bytealg.MakeNoZero"], recurses := true, apart := false, narrowed := true }
def NamesParseUptoSaid : Prop := namesParseUptoRow.holds Try.pinned (OpenSpec.upto namesParseSpec)

/-- 'plexuslaw02.NamesSpaced', WHERE WHAT IT READS IS OF BULK AT MOST 1048576: true; the input reads as it did. -/
def namesSpacedUptoRow : OpenClaim := { program := "ytgolodpihmdmoaa", sum := "6bc753e0ee02be6efd3ee986363c522af899ad61f43f196b63516ba89b6e67de", func := "plexus/plexuslaw02.NamesSpaced", spec := "namesSpaced", inPlace := ["internal/abi.NoEscape", "internal/bytealg.MakeNoZero"], recurses := true, apart := false, narrowed := true }
def NamesSpacedUptoSaid : Prop := namesSpacedUptoRow.holds Try.pinned (OpenSpec.upto namesSpacedSpec)

/-- 'plexuslaw02.NamesAlgebra', WHERE WHAT IT READS IS OF BULK AT MOST 1048576: true; the input reads as it did. -/
def namesAlgebraUptoRow : OpenClaim := { program := "ytgolodpihmdmoaa", sum := "6bc753e0ee02be6efd3ee986363c522af899ad61f43f196b63516ba89b6e67de", func := "plexus/plexuslaw02.NamesAlgebra", spec := "namesAlgebra", inPlace := ["internal/abi.NoEscape", "internal/bytealg.MakeNoZero"], recurses := true, apart := false, narrowed := true }
def NamesAlgebraUptoSaid : Prop := namesAlgebraUptoRow.holds Try.pinned (OpenSpec.upto namesAlgebraSpec)

/-- 'plexuslaw02.NamesSets', WHERE WHAT IT READS IS OF BULK AT MOST 1048576: true; the input reads as it did. -/
def namesSetsUptoRow : OpenClaim := { program := "ytgolodpihmdmoaa", sum := "6bc753e0ee02be6efd3ee986363c522af899ad61f43f196b63516ba89b6e67de", func := "plexus/plexuslaw02.NamesSets", spec := "namesSets", inPlace := ["internal/abi.NoEscape", "internal/bytealg.MakeNoZero"], recurses := true, apart := false, narrowed := true }
def NamesSetsUptoSaid : Prop := namesSetsUptoRow.holds Try.pinned (OpenSpec.upto namesSetsSpec)

/-- 'plexuslaw02.NamesSubset', WHERE WHAT IT READS IS OF BULK AT MOST 1048576: true; the input reads as it did. -/
def namesSubsetUptoRow : OpenClaim := { program := "ytgolodpihmdmoaa", sum := "6bc753e0ee02be6efd3ee986363c522af899ad61f43f196b63516ba89b6e67de", func := "plexus/plexuslaw02.NamesSubset", spec := "namesSubset", inPlace := ["internal/abi.NoEscape", "internal/bytealg.MakeNoZero"], recurses := true, apart := false, narrowed := true }
def NamesSubsetUptoSaid : Prop := namesSubsetUptoRow.holds Try.pinned (OpenSpec.upto namesSubsetSpec)

/-- 'plexuslaw02.NamesOrder', WHERE WHAT IT READS IS OF BULK AT MOST 1048576: true; the input reads as it did. -/
def namesOrderUptoRow : OpenClaim := { program := "ytgolodpihmdmoaa", sum := "6bc753e0ee02be6efd3ee986363c522af899ad61f43f196b63516ba89b6e67de", func := "plexus/plexuslaw02.NamesOrder", spec := "namesOrder", inPlace := ["internal/abi.NoEscape", "internal/bytealg.MakeNoZero"], recurses := true, apart := false, narrowed := true }
def NamesOrderUptoSaid : Prop := namesOrderUptoRow.holds Try.pinned (OpenSpec.upto namesOrderSpec)

/-- 'plexuslaw02.NamesSubsets', WHERE WHAT IT READS IS OF BULK AT MOST 1048576: true; the input reads as it did. -/
def namesSubsetsUptoRow : OpenClaim := { program := "ytgolodpihmdmoaa", sum := "6bc753e0ee02be6efd3ee986363c522af899ad61f43f196b63516ba89b6e67de", func := "plexus/plexuslaw02.NamesSubsets", spec := "namesSubsets", inPlace := ["internal/abi.NoEscape", "internal/bytealg.MakeNoZero"], unfollowed := true, recurses := true, apart := false, narrowed := true }
def NamesSubsetsUptoSaid : Prop := namesSubsetsUptoRow.holds Try.pinned (OpenSpec.upto namesSubsetsSpec)

end Rows
end Go.Proofs.Ytgolodpihmdmoaa
