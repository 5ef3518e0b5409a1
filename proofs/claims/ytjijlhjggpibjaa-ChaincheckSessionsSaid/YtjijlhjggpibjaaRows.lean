/-
  No cell of these rows narrows 'for every input' (looked for: loops, veiled, ifaces, maps, wideKeys, modest, calm, conditions, laid).
  DERIVED. THE GIVEN ROWS OF THIS SEAT. 7 by the template 'for every input the law returns true; each argument reads behind the call as it read before'; 0 by the template 'total and deterministic' (their statements: YtjijlhjggpibjaaTotals.lean).
  GIVEN WITH THE SEED: the statements are not yours to turn. If you find one false, say at which input.
  Laid BY PROGRAM, IN A SANDBOX (cutbox-rows.mjs): the forced cells as the released guide's own fill.sh prints them over the translation a3ca977ca567a534… (all of the seat's roots in one cut). By AI agents, Wed Nov 11 2026. No macro, syntax, notation, axiom, sorry.
-/
import Derived.Test.YtjijlhjggpibjaaChecked
import GoSem.Claim
import GoSem.ClaimJoined
import GoSem.ClaimMapViews
import Derived.JoinedTies
import Derived.KernelRfl
namespace Go.Proofs.Ytjijlhjggpibjaa
/- THE CELL 'sum', in the pinned program and in every row, IS THE sha256 OF THE DUMP (.gsa) THAT YtjijlhjggpibjaaProg.lean LOADS. Nothing in Lean hashes anything: it is a label: what it is worth is what the hold of that sum in a sandbox is worth. -/
noncomputable def Try.pinned : Pinned := { name := "ytjijlhjggpibjaa", sum := "a3ca977ca567a53432a3745c33dc583cd78d235fb029dfe560cbb3d2dba760ff", checked := Try.checked }
namespace Rows
def none {H : Type} : Left H := { results := [], args := [] }

/-- 'plexuslaw55.ChaincheckReasons': WHATEVER THE INPUT: true; the input reads as it did. -/
def chaincheckReasonsSpec : ChangeSpec := { name := "chaincheckReasons", fn := fun _ => fun
  | [d] => { results := [.lit (.bool true)], args := [d] }
  | _ => none }
def chaincheckReasonsRow : OpenClaim := { program := "ytjijlhjggpibjaa", sum := "a3ca977ca567a53432a3745c33dc583cd78d235fb029dfe560cbb3d2dba760ff", func := "plexus/plexuslaw55.ChaincheckReasons", spec := "chaincheckReasons", inPlace := ["slices.overlaps[[]string]"], unfollowed := true, recurses := true, apart := false }
def ChaincheckReasonsSaid : Prop := chaincheckReasonsRow.holds Try.pinned (OpenSpec.ofChange chaincheckReasonsSpec)

/-- ITS FALSE NEIGHBOUR: 'it returns false'. Refute it at one input. -/
def chaincheckReasonsWrong : ChangeSpec := { name := "chaincheckReasons", fn := fun _ => fun
  | [d] => { results := [.lit (.bool false)], args := [d] }
  | _ => none }
def ChaincheckReasonsWrongFalsely : Prop := chaincheckReasonsRow.holds Try.pinned (OpenSpec.ofChange chaincheckReasonsWrong)

/-- 'plexuslaw55.ChaincheckVerifies': WHATEVER THE INPUT: true; the input reads as it did. -/
def chaincheckVerifiesSpec : ChangeSpec := { name := "chaincheckVerifies", fn := fun _ => fun
  | [d1, d2] => { results := [.lit (.bool true)], args := [d1, d2] }
  | _ => none }
def chaincheckVerifiesRow : OpenClaim := { program := "ytjijlhjggpibjaa", sum := "a3ca977ca567a53432a3745c33dc583cd78d235fb029dfe560cbb3d2dba760ff", func := "plexus/plexuslaw55.ChaincheckVerifies", spec := "chaincheckVerifies", inPlace := ["slices.overlaps[[]string]"], unfollowed := true, recurses := true, apart := false }
def ChaincheckVerifiesSaid : Prop := chaincheckVerifiesRow.holds Try.pinned (OpenSpec.ofChange chaincheckVerifiesSpec)

/-- ITS FALSE NEIGHBOUR: 'it returns false'. Refute it at one input. -/
def chaincheckVerifiesWrong : ChangeSpec := { name := "chaincheckVerifies", fn := fun _ => fun
  | [d1, d2] => { results := [.lit (.bool false)], args := [d1, d2] }
  | _ => none }
def ChaincheckVerifiesWrongFalsely : Prop := chaincheckVerifiesRow.holds Try.pinned (OpenSpec.ofChange chaincheckVerifiesWrong)

/-- 'plexuslaw55.ChaincheckSound': WHATEVER THE INPUT: true; the input reads as it did. -/
def chaincheckSoundSpec : ChangeSpec := { name := "chaincheckSound", fn := fun _ => fun
  | [d] => { results := [.lit (.bool true)], args := [d] }
  | _ => none }
def chaincheckSoundRow : OpenClaim := { program := "ytjijlhjggpibjaa", sum := "a3ca977ca567a53432a3745c33dc583cd78d235fb029dfe560cbb3d2dba760ff", func := "plexus/plexuslaw55.ChaincheckSound", spec := "chaincheckSound", inPlace := ["slices.overlaps[[]string]"], unfollowed := true, recurses := true, apart := false }
def ChaincheckSoundSaid : Prop := chaincheckSoundRow.holds Try.pinned (OpenSpec.ofChange chaincheckSoundSpec)

/-- ITS FALSE NEIGHBOUR: 'it returns false'. Refute it at one input. -/
def chaincheckSoundWrong : ChangeSpec := { name := "chaincheckSound", fn := fun _ => fun
  | [d] => { results := [.lit (.bool false)], args := [d] }
  | _ => none }
def ChaincheckSoundWrongFalsely : Prop := chaincheckSoundRow.holds Try.pinned (OpenSpec.ofChange chaincheckSoundWrong)

/-- 'plexuslaw55.ChaincheckComplete': WHATEVER THE INPUT: true; the input reads as it did. -/
def chaincheckCompleteSpec : ChangeSpec := { name := "chaincheckComplete", fn := fun _ => fun
  | [d1, d2] => { results := [.lit (.bool true)], args := [d1, d2] }
  | _ => none }
def chaincheckCompleteRow : OpenClaim := { program := "ytjijlhjggpibjaa", sum := "a3ca977ca567a53432a3745c33dc583cd78d235fb029dfe560cbb3d2dba760ff", func := "plexus/plexuslaw55.ChaincheckComplete", spec := "chaincheckComplete", inPlace := ["slices.overlaps[[]string]"], unfollowed := true, recurses := true, apart := false }
def ChaincheckCompleteSaid : Prop := chaincheckCompleteRow.holds Try.pinned (OpenSpec.ofChange chaincheckCompleteSpec)

/-- ITS FALSE NEIGHBOUR: 'it returns false'. Refute it at one input. -/
def chaincheckCompleteWrong : ChangeSpec := { name := "chaincheckComplete", fn := fun _ => fun
  | [d1, d2] => { results := [.lit (.bool false)], args := [d1, d2] }
  | _ => none }
def ChaincheckCompleteWrongFalsely : Prop := chaincheckCompleteRow.holds Try.pinned (OpenSpec.ofChange chaincheckCompleteWrong)

/-- 'plexuslaw55.ChaincheckBegins': WHATEVER THE INPUT: true; the input reads as it did. -/
def chaincheckBeginsSpec : ChangeSpec := { name := "chaincheckBegins", fn := fun _ => fun
  | [d1, d2] => { results := [.lit (.bool true)], args := [d1, d2] }
  | _ => none }
def chaincheckBeginsRow : OpenClaim := { program := "ytjijlhjggpibjaa", sum := "a3ca977ca567a53432a3745c33dc583cd78d235fb029dfe560cbb3d2dba760ff", func := "plexus/plexuslaw55.ChaincheckBegins", spec := "chaincheckBegins", inPlace := ["slices.overlaps[[]string]"], unfollowed := true, recurses := true, apart := false }
def ChaincheckBeginsSaid : Prop := chaincheckBeginsRow.holds Try.pinned (OpenSpec.ofChange chaincheckBeginsSpec)

/-- ITS FALSE NEIGHBOUR: 'it returns false'. Refute it at one input. -/
def chaincheckBeginsWrong : ChangeSpec := { name := "chaincheckBegins", fn := fun _ => fun
  | [d1, d2] => { results := [.lit (.bool false)], args := [d1, d2] }
  | _ => none }
def ChaincheckBeginsWrongFalsely : Prop := chaincheckBeginsRow.holds Try.pinned (OpenSpec.ofChange chaincheckBeginsWrong)

/-- 'plexuslaw55.ChaincheckWitness': WHATEVER THE INPUT: true; the input reads as it did. -/
def chaincheckWitnessSpec : ChangeSpec := { name := "chaincheckWitness", fn := fun _ => fun
  | [d] => { results := [.lit (.bool true)], args := [d] }
  | _ => none }
def chaincheckWitnessRow : OpenClaim := { program := "ytjijlhjggpibjaa", sum := "a3ca977ca567a53432a3745c33dc583cd78d235fb029dfe560cbb3d2dba760ff", func := "plexus/plexuslaw55.ChaincheckWitness", spec := "chaincheckWitness", inPlace := ["slices.overlaps[[]string]"], unfollowed := true, recurses := true, apart := false }
def ChaincheckWitnessSaid : Prop := chaincheckWitnessRow.holds Try.pinned (OpenSpec.ofChange chaincheckWitnessSpec)

/-- ITS FALSE NEIGHBOUR: 'it returns false'. Refute it at one input. -/
def chaincheckWitnessWrong : ChangeSpec := { name := "chaincheckWitness", fn := fun _ => fun
  | [d] => { results := [.lit (.bool false)], args := [d] }
  | _ => none }
def ChaincheckWitnessWrongFalsely : Prop := chaincheckWitnessRow.holds Try.pinned (OpenSpec.ofChange chaincheckWitnessWrong)

/-- 'plexuslaw55.ChaincheckSessions': WHATEVER THE INPUT: true; the input reads as it did. -/
def chaincheckSessionsSpec : ChangeSpec := { name := "chaincheckSessions", fn := fun _ => fun
  | [d] => { results := [.lit (.bool true)], args := [d] }
  | _ => none }
def chaincheckSessionsRow : OpenClaim := { program := "ytjijlhjggpibjaa", sum := "a3ca977ca567a53432a3745c33dc583cd78d235fb029dfe560cbb3d2dba760ff", func := "plexus/plexuslaw55.ChaincheckSessions", spec := "chaincheckSessions", inPlace := ["slices.overlaps[[]string]"], unfollowed := true, recurses := true, apart := false }
def ChaincheckSessionsSaid : Prop := chaincheckSessionsRow.holds Try.pinned (OpenSpec.ofChange chaincheckSessionsSpec)

/-- ITS FALSE NEIGHBOUR: 'it returns false'. Refute it at one input. -/
def chaincheckSessionsWrong : ChangeSpec := { name := "chaincheckSessions", fn := fun _ => fun
  | [d] => { results := [.lit (.bool false)], args := [d] }
  | _ => none }
def ChaincheckSessionsWrongFalsely : Prop := chaincheckSessionsRow.holds Try.pinned (OpenSpec.ofChange chaincheckSessionsWrong)

/- THE SECOND FORM. 'bulk': how many values and letters a reading holds, each counted each time it is reached (what is shared counts as often as it is met; a slice's spare places count too). A statement '..UptoSaid' is the law's where the arguments, and the package variables that the reading takes, are together of bulk at most 1048576: NARROWER than '..Said'. Prove '..Said' where nothing that the law and all that it calls make is longer than what came in: it says more and counts as full. Else prove '..UptoSaid'. A law counts once. -/
mutual
def uptoBulk {H : Type} : DataW H → Nat
  | .lit (.string bytes) => bytes.length + 1
  | .lit _ => 1
  | .nil => 1
  | .ptr d => uptoBulk d + 1
  | .slice elems spare => uptoBulkAll elems + uptoBulkAll spare + 1
  | .agg parts => uptoBulkAll parts + 1
  | .iface _ d => uptoBulk d + 1
  | .map entries => uptoBulkEntries entries + 1
  | .held _ => 1
def uptoBulkAll {H : Type} : List (DataW H) → Nat
  | [] => 0
  | d :: r => uptoBulk d + uptoBulkAll r
def uptoBulkEntries {H : Type} : List (Lit × DataW H) → Nat
  | [] => 0
  | x :: r => uptoBulkEntry x + uptoBulkEntries r
def uptoBulkEntry {H : Type} : Lit × DataW H → Nat
  | (.string bytes, d) => bytes.length + uptoBulk d + 1
  | (_, d) => uptoBulk d + 1
 end
def uptoSmall : (H : Type) → List (DataW H) → Bool := fun _ ds => decide (uptoBulkAll ds ≤ 1048576)
def OpenSpec.upto (s : _root_.Go.ChangeSpec) : _root_.Go.OpenSpec := { _root_.Go.OpenSpec.ofChange s with cond := some uptoSmall }

/-- 'plexuslaw55.ChaincheckReasons', WHERE WHAT IT READS IS OF BULK AT MOST 1048576: true; the input reads as it did. -/
def chaincheckReasonsUptoRow : OpenClaim := { program := "ytjijlhjggpibjaa", sum := "a3ca977ca567a53432a3745c33dc583cd78d235fb029dfe560cbb3d2dba760ff", func := "plexus/plexuslaw55.ChaincheckReasons", spec := "chaincheckReasons", inPlace := ["slices.overlaps[[]string]"], unfollowed := true, recurses := true, apart := false, narrowed := true }
def ChaincheckReasonsUptoSaid : Prop := chaincheckReasonsUptoRow.holds Try.pinned (OpenSpec.upto chaincheckReasonsSpec)

/-- 'plexuslaw55.ChaincheckVerifies', WHERE WHAT IT READS IS OF BULK AT MOST 1048576: true; the input reads as it did. -/
def chaincheckVerifiesUptoRow : OpenClaim := { program := "ytjijlhjggpibjaa", sum := "a3ca977ca567a53432a3745c33dc583cd78d235fb029dfe560cbb3d2dba760ff", func := "plexus/plexuslaw55.ChaincheckVerifies", spec := "chaincheckVerifies", inPlace := ["slices.overlaps[[]string]"], unfollowed := true, recurses := true, apart := false, narrowed := true }
def ChaincheckVerifiesUptoSaid : Prop := chaincheckVerifiesUptoRow.holds Try.pinned (OpenSpec.upto chaincheckVerifiesSpec)

/-- 'plexuslaw55.ChaincheckSound', WHERE WHAT IT READS IS OF BULK AT MOST 1048576: true; the input reads as it did. -/
def chaincheckSoundUptoRow : OpenClaim := { program := "ytjijlhjggpibjaa", sum := "a3ca977ca567a53432a3745c33dc583cd78d235fb029dfe560cbb3d2dba760ff", func := "plexus/plexuslaw55.ChaincheckSound", spec := "chaincheckSound", inPlace := ["slices.overlaps[[]string]"], unfollowed := true, recurses := true, apart := false, narrowed := true }
def ChaincheckSoundUptoSaid : Prop := chaincheckSoundUptoRow.holds Try.pinned (OpenSpec.upto chaincheckSoundSpec)

/-- 'plexuslaw55.ChaincheckComplete', WHERE WHAT IT READS IS OF BULK AT MOST 1048576: true; the input reads as it did. -/
def chaincheckCompleteUptoRow : OpenClaim := { program := "ytjijlhjggpibjaa", sum := "a3ca977ca567a53432a3745c33dc583cd78d235fb029dfe560cbb3d2dba760ff", func := "plexus/plexuslaw55.ChaincheckComplete", spec := "chaincheckComplete", inPlace := ["slices.overlaps[[]string]"], unfollowed := true, recurses := true, apart := false, narrowed := true }
def ChaincheckCompleteUptoSaid : Prop := chaincheckCompleteUptoRow.holds Try.pinned (OpenSpec.upto chaincheckCompleteSpec)

/-- 'plexuslaw55.ChaincheckBegins', WHERE WHAT IT READS IS OF BULK AT MOST 1048576: true; the input reads as it did. -/
def chaincheckBeginsUptoRow : OpenClaim := { program := "ytjijlhjggpibjaa", sum := "a3ca977ca567a53432a3745c33dc583cd78d235fb029dfe560cbb3d2dba760ff", func := "plexus/plexuslaw55.ChaincheckBegins", spec := "chaincheckBegins", inPlace := ["slices.overlaps[[]string]"], unfollowed := true, recurses := true, apart := false, narrowed := true }
def ChaincheckBeginsUptoSaid : Prop := chaincheckBeginsUptoRow.holds Try.pinned (OpenSpec.upto chaincheckBeginsSpec)

/-- 'plexuslaw55.ChaincheckWitness', WHERE WHAT IT READS IS OF BULK AT MOST 1048576: true; the input reads as it did. -/
def chaincheckWitnessUptoRow : OpenClaim := { program := "ytjijlhjggpibjaa", sum := "a3ca977ca567a53432a3745c33dc583cd78d235fb029dfe560cbb3d2dba760ff", func := "plexus/plexuslaw55.ChaincheckWitness", spec := "chaincheckWitness", inPlace := ["slices.overlaps[[]string]"], unfollowed := true, recurses := true, apart := false, narrowed := true }
def ChaincheckWitnessUptoSaid : Prop := chaincheckWitnessUptoRow.holds Try.pinned (OpenSpec.upto chaincheckWitnessSpec)

/-- 'plexuslaw55.ChaincheckSessions', WHERE WHAT IT READS IS OF BULK AT MOST 1048576: true; the input reads as it did. -/
def chaincheckSessionsUptoRow : OpenClaim := { program := "ytjijlhjggpibjaa", sum := "a3ca977ca567a53432a3745c33dc583cd78d235fb029dfe560cbb3d2dba760ff", func := "plexus/plexuslaw55.ChaincheckSessions", spec := "chaincheckSessions", inPlace := ["slices.overlaps[[]string]"], unfollowed := true, recurses := true, apart := false, narrowed := true }
def ChaincheckSessionsUptoSaid : Prop := chaincheckSessionsUptoRow.holds Try.pinned (OpenSpec.upto chaincheckSessionsSpec)

end Rows
end Go.Proofs.Ytjijlhjggpibjaa
