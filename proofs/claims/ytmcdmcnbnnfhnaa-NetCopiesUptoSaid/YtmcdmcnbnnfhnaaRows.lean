/-
  No cell of these rows narrows 'for every input' (looked for: loops, veiled, ifaces, maps, wideKeys, modest, calm, conditions, laid).
  DERIVED. THE GIVEN ROWS OF THIS SEAT. 5 by the template 'for every input the law returns true; each argument reads behind the call as it read before'; 0 by the template 'total and deterministic' (their statements: YtmcdmcnbnnfhnaaTotals.lean).
  GIVEN WITH THE SEED: the statements are not yours to turn. If you find one false, say at which input.
  Laid BY PROGRAM, IN A SANDBOX (cutbox-rows.mjs): the forced cells as the released guide's own fill.sh prints them over the translation a98f52c7d98493a2… (all of the seat's roots in one cut). By AI agents, Wed Nov 11 2026. No macro, syntax, notation, axiom, sorry.
-/
import Derived.Test.YtmcdmcnbnnfhnaaChecked
import GoSem.Claim
import GoSem.ClaimJoined
import GoSem.ClaimMapViews
import Derived.JoinedTies
import Derived.KernelRfl
namespace Go.Proofs.Ytmcdmcnbnnfhnaa
/- THE CELL 'sum', in the pinned program and in every row, IS THE sha256 OF THE DUMP (.gsa) THAT YtmcdmcnbnnfhnaaProg.lean LOADS. Nothing in Lean hashes anything: it is a label: what it is worth is what the hold of that sum in a sandbox is worth. -/
noncomputable def Try.pinned : Pinned := { name := "ytmcdmcnbnnfhnaa", sum := "a98f52c7d98493a2e4544217387aef5bada320a28f4fe37f9a773bcbda5b2eed", checked := Try.checked }
namespace Rows
def none {H : Type} : Left H := { results := [], args := [] }

/-- 'plexuslaw28.NetMemory': WHATEVER THE INPUT: true; the input reads as it did. -/
def netMemorySpec : ChangeSpec := { name := "netMemory", fn := fun _ => fun
  | [d1, d2, d3] => { results := [.lit (.bool true)], args := [d1, d2, d3] }
  | _ => none }
def netMemoryRow : OpenClaim := { program := "ytmcdmcnbnnfhnaa", sum := "a98f52c7d98493a2e4544217387aef5bada320a28f4fe37f9a773bcbda5b2eed", func := "plexus/plexuslaw28.NetMemory", spec := "netMemory", apart := false }
def NetMemorySaid : Prop := netMemoryRow.holds Try.pinned (OpenSpec.ofChange netMemorySpec)

/-- ITS FALSE NEIGHBOUR: 'it returns false'. Refute it at one input. -/
def netMemoryWrong : ChangeSpec := { name := "netMemory", fn := fun _ => fun
  | [d1, d2, d3] => { results := [.lit (.bool false)], args := [d1, d2, d3] }
  | _ => none }
def NetMemoryWrongFalsely : Prop := netMemoryRow.holds Try.pinned (OpenSpec.ofChange netMemoryWrong)

/-- 'plexuslaw28.NetConserves': WHATEVER THE INPUT: true; the input reads as it did. -/
def netConservesSpec : ChangeSpec := { name := "netConserves", fn := fun _ => fun
  | [d1, d2] => { results := [.lit (.bool true)], args := [d1, d2] }
  | _ => none }
def netConservesRow : OpenClaim := { program := "ytmcdmcnbnnfhnaa", sum := "a98f52c7d98493a2e4544217387aef5bada320a28f4fe37f9a773bcbda5b2eed", func := "plexus/plexuslaw28.NetConserves", spec := "netConserves", unfollowed := true, recurses := true, apart := false }
def NetConservesSaid : Prop := netConservesRow.holds Try.pinned (OpenSpec.ofChange netConservesSpec)

/-- ITS FALSE NEIGHBOUR: 'it returns false'. Refute it at one input. -/
def netConservesWrong : ChangeSpec := { name := "netConserves", fn := fun _ => fun
  | [d1, d2] => { results := [.lit (.bool false)], args := [d1, d2] }
  | _ => none }
def NetConservesWrongFalsely : Prop := netConservesRow.holds Try.pinned (OpenSpec.ofChange netConservesWrong)

/-- 'plexuslaw28.NetExact': WHATEVER THE INPUT: true; the input reads as it did. -/
def netExactSpec : ChangeSpec := { name := "netExact", fn := fun _ => fun
  | [d1, d2] => { results := [.lit (.bool true)], args := [d1, d2] }
  | _ => none }
def netExactRow : OpenClaim := { program := "ytmcdmcnbnnfhnaa", sum := "a98f52c7d98493a2e4544217387aef5bada320a28f4fe37f9a773bcbda5b2eed", func := "plexus/plexuslaw28.NetExact", spec := "netExact", unfollowed := true, recurses := true, apart := false }
def NetExactSaid : Prop := netExactRow.holds Try.pinned (OpenSpec.ofChange netExactSpec)

/-- ITS FALSE NEIGHBOUR: 'it returns false'. Refute it at one input. -/
def netExactWrong : ChangeSpec := { name := "netExact", fn := fun _ => fun
  | [d1, d2] => { results := [.lit (.bool false)], args := [d1, d2] }
  | _ => none }
def NetExactWrongFalsely : Prop := netExactRow.holds Try.pinned (OpenSpec.ofChange netExactWrong)

/-- 'plexuslaw28.NetSeparates': WHATEVER THE INPUT: true; the input reads as it did. -/
def netSeparatesSpec : ChangeSpec := { name := "netSeparates", fn := fun _ => fun
  | [d1, d2] => { results := [.lit (.bool true)], args := [d1, d2] }
  | _ => none }
def netSeparatesRow : OpenClaim := { program := "ytmcdmcnbnnfhnaa", sum := "a98f52c7d98493a2e4544217387aef5bada320a28f4fe37f9a773bcbda5b2eed", func := "plexus/plexuslaw28.NetSeparates", spec := "netSeparates", unfollowed := true, recurses := true, apart := false }
def NetSeparatesSaid : Prop := netSeparatesRow.holds Try.pinned (OpenSpec.ofChange netSeparatesSpec)

/-- ITS FALSE NEIGHBOUR: 'it returns false'. Refute it at one input. -/
def netSeparatesWrong : ChangeSpec := { name := "netSeparates", fn := fun _ => fun
  | [d1, d2] => { results := [.lit (.bool false)], args := [d1, d2] }
  | _ => none }
def NetSeparatesWrongFalsely : Prop := netSeparatesRow.holds Try.pinned (OpenSpec.ofChange netSeparatesWrong)

/-- 'plexuslaw28.NetCopies': WHATEVER THE INPUT: true; the input reads as it did. -/
def netCopiesSpec : ChangeSpec := { name := "netCopies", fn := fun _ => fun
  | [d1, d2, d3] => { results := [.lit (.bool true)], args := [d1, d2, d3] }
  | _ => none }
def netCopiesRow : OpenClaim := { program := "ytmcdmcnbnnfhnaa", sum := "a98f52c7d98493a2e4544217387aef5bada320a28f4fe37f9a773bcbda5b2eed", func := "plexus/plexuslaw28.NetCopies", spec := "netCopies", inPlace := ["maps.clone"], unfollowed := true, recurses := true, apart := false }
def NetCopiesSaid : Prop := netCopiesRow.holds Try.pinned (OpenSpec.ofChange netCopiesSpec)

/-- ITS FALSE NEIGHBOUR: 'it returns false'. Refute it at one input. -/
def netCopiesWrong : ChangeSpec := { name := "netCopies", fn := fun _ => fun
  | [d1, d2, d3] => { results := [.lit (.bool false)], args := [d1, d2, d3] }
  | _ => none }
def NetCopiesWrongFalsely : Prop := netCopiesRow.holds Try.pinned (OpenSpec.ofChange netCopiesWrong)

/- THE SECOND FORM. 'bulk': how many values and letters a reading holds, each counted each time it is reached (what is shared counts as often as it is met; a slice's spare places count too). A statement '..UptoSaid' is the law's where the arguments, and the package variables that the reading takes, are together of bulk at most 1048576: NARROWER than '..Said'. Prove '..Said' where nothing that the law and all that it calls make is longer than what came in: it says more and counts as full. Else prove '..UptoSaid'. A law counts once. -/
mutual
def uptoBulk {H : Type} : DataW H → Nat
  | .lit (.string bytes) => bytes.length + 1
  | .lit _ => 1
  | .nil => 1
  | .ptr d => uptoBulk d + 1
  | .slice elems spare => uptoBulkAll elems + uptoBulkAll spare + 1
  | .agg parts => uptoBulkAll parts + 1
  | .iface _ d => uptoBulk d + 1
  | .map entries => uptoBulkEntries entries + 1
  | .held _ => 1
def uptoBulkAll {H : Type} : List (DataW H) → Nat
  | [] => 0
  | d :: r => uptoBulk d + uptoBulkAll r
def uptoBulkEntries {H : Type} : List (Lit × DataW H) → Nat
  | [] => 0
  | x :: r => uptoBulkEntry x + uptoBulkEntries r
def uptoBulkEntry {H : Type} : Lit × DataW H → Nat
  | (.string bytes, d) => bytes.length + uptoBulk d + 1
  | (_, d) => uptoBulk d + 1
 end
def uptoSmall : (H : Type) → List (DataW H) → Bool := fun _ ds => decide (uptoBulkAll ds ≤ 1048576)
def OpenSpec.upto (s : _root_.Go.ChangeSpec) : _root_.Go.OpenSpec := { _root_.Go.OpenSpec.ofChange s with cond := some uptoSmall }

/-- 'plexuslaw28.NetMemory', WHERE WHAT IT READS IS OF BULK AT MOST 1048576: true; the input reads as it did. -/
def netMemoryUptoRow : OpenClaim := { program := "ytmcdmcnbnnfhnaa", sum := "a98f52c7d98493a2e4544217387aef5bada320a28f4fe37f9a773bcbda5b2eed", func := "plexus/plexuslaw28.NetMemory", spec := "netMemory", apart := false, narrowed := true }
def NetMemoryUptoSaid : Prop := netMemoryUptoRow.holds Try.pinned (OpenSpec.upto netMemorySpec)

/-- 'plexuslaw28.NetConserves', WHERE WHAT IT READS IS OF BULK AT MOST 1048576: true; the input reads as it did. -/
def netConservesUptoRow : OpenClaim := { program := "ytmcdmcnbnnfhnaa", sum := "a98f52c7d98493a2e4544217387aef5bada320a28f4fe37f9a773bcbda5b2eed", func := "plexus/plexuslaw28.NetConserves", spec := "netConserves", unfollowed := true, recurses := true, apart := false, narrowed := true }
def NetConservesUptoSaid : Prop := netConservesUptoRow.holds Try.pinned (OpenSpec.upto netConservesSpec)

/-- 'plexuslaw28.NetExact', WHERE WHAT IT READS IS OF BULK AT MOST 1048576: true; the input reads as it did. -/
def netExactUptoRow : OpenClaim := { program := "ytmcdmcnbnnfhnaa", sum := "a98f52c7d98493a2e4544217387aef5bada320a28f4fe37f9a773bcbda5b2eed", func := "plexus/plexuslaw28.NetExact", spec := "netExact", unfollowed := true, recurses := true, apart := false, narrowed := true }
def NetExactUptoSaid : Prop := netExactUptoRow.holds Try.pinned (OpenSpec.upto netExactSpec)

/-- 'plexuslaw28.NetSeparates', WHERE WHAT IT READS IS OF BULK AT MOST 1048576: true; the input reads as it did. -/
def netSeparatesUptoRow : OpenClaim := { program := "ytmcdmcnbnnfhnaa", sum := "a98f52c7d98493a2e4544217387aef5bada320a28f4fe37f9a773bcbda5b2eed", func := "plexus/plexuslaw28.NetSeparates", spec := "netSeparates", unfollowed := true, recurses := true, apart := false, narrowed := true }
def NetSeparatesUptoSaid : Prop := netSeparatesUptoRow.holds Try.pinned (OpenSpec.upto netSeparatesSpec)

/-- 'plexuslaw28.NetCopies', WHERE WHAT IT READS IS OF BULK AT MOST 1048576: true; the input reads as it did. -/
def netCopiesUptoRow : OpenClaim := { program := "ytmcdmcnbnnfhnaa", sum := "a98f52c7d98493a2e4544217387aef5bada320a28f4fe37f9a773bcbda5b2eed", func := "plexus/plexuslaw28.NetCopies", spec := "netCopies", inPlace := ["maps.clone"], unfollowed := true, recurses := true, apart := false, narrowed := true }
def NetCopiesUptoSaid : Prop := netCopiesUptoRow.holds Try.pinned (OpenSpec.upto netCopiesSpec)

end Rows
end Go.Proofs.Ytmcdmcnbnnfhnaa
