/-
  No cell of these rows narrows 'for every input' (looked for: loops, veiled, ifaces, maps, wideKeys, modest, calm, conditions, laid).
  DERIVED. THE GIVEN ROWS OF THIS SEAT. 8 by the template 'for every input the law returns true; each argument reads behind the call as it read before'; 0 by the template 'total and deterministic' (their statements: YtfdicndmebhmdaaTotals.lean).
  GIVEN WITH THE SEED: the statements are not yours to turn. If you find one false, say at which input.
  Laid BY PROGRAM, IN A SANDBOX (cutbox-rows.mjs): the forced cells as the released guide's own fill.sh prints them over the translation 10ebcd225fea473f… (all of the seat's roots in one cut). By AI agents, Wed Nov 11 2026. No macro, syntax, notation, axiom, sorry.
-/
import Derived.Test.YtfdicndmebhmdaaChecked
import GoSem.Claim
import GoSem.ClaimJoined
import GoSem.ClaimMapViews
import Derived.JoinedTies
import Derived.KernelRfl
namespace Go.Proofs.Ytfdicndmebhmdaa
/- THE CELL 'sum', in the pinned program and in every row, IS THE sha256 OF THE DUMP (.gsa) THAT YtfdicndmebhmdaaProg.lean LOADS. Nothing in Lean hashes anything: it is a label: what it is worth is what the hold of that sum in a sandbox is worth. -/
noncomputable def Try.pinned : Pinned := { name := "ytfdicndmebhmdaa", sum := "10ebcd225fea473fefb7a97cb9ac5100a0f6cb881450814f81a71f4e366e3a2e", checked := Try.checked }
namespace Rows
def none {H : Type} : Left H := { results := [], args := [] }

/-- 'plexuslaw29.ScheduleNormal': WHATEVER THE INPUT: true; the input reads as it did. -/
def scheduleNormalSpec : ChangeSpec := { name := "scheduleNormal", fn := fun _ => fun
  | [d] => { results := [.lit (.bool true)], args := [d] }
  | _ => none }
def scheduleNormalRow : OpenClaim := { program := "ytfdicndmebhmdaa", sum := "10ebcd225fea473fefb7a97cb9ac5100a0f6cb881450814f81a71f4e366e3a2e", func := "plexus/plexuslaw29.ScheduleNormal", spec := "scheduleNormal", unfollowed := true, recurses := true, apart := false }
def ScheduleNormalSaid : Prop := scheduleNormalRow.holds Try.pinned (OpenSpec.ofChange scheduleNormalSpec)

/-- ITS FALSE NEIGHBOUR: 'it returns false'. Refute it at one input. -/
def scheduleNormalWrong : ChangeSpec := { name := "scheduleNormal", fn := fun _ => fun
  | [d] => { results := [.lit (.bool false)], args := [d] }
  | _ => none }
def ScheduleNormalWrongFalsely : Prop := scheduleNormalRow.holds Try.pinned (OpenSpec.ofChange scheduleNormalWrong)

/-- 'plexuslaw29.ScheduleEquivalent': WHATEVER THE INPUT: true; the input reads as it did. -/
def scheduleEquivalentSpec : ChangeSpec := { name := "scheduleEquivalent", fn := fun _ => fun
  | [d1, d2] => { results := [.lit (.bool true)], args := [d1, d2] }
  | _ => none }
def scheduleEquivalentRow : OpenClaim := { program := "ytfdicndmebhmdaa", sum := "10ebcd225fea473fefb7a97cb9ac5100a0f6cb881450814f81a71f4e366e3a2e", func := "plexus/plexuslaw29.ScheduleEquivalent", spec := "scheduleEquivalent", unfollowed := true, recurses := true, apart := false }
def ScheduleEquivalentSaid : Prop := scheduleEquivalentRow.holds Try.pinned (OpenSpec.ofChange scheduleEquivalentSpec)

/-- ITS FALSE NEIGHBOUR: 'it returns false'. Refute it at one input. -/
def scheduleEquivalentWrong : ChangeSpec := { name := "scheduleEquivalent", fn := fun _ => fun
  | [d1, d2] => { results := [.lit (.bool false)], args := [d1, d2] }
  | _ => none }
def ScheduleEquivalentWrongFalsely : Prop := scheduleEquivalentRow.holds Try.pinned (OpenSpec.ofChange scheduleEquivalentWrong)

/-- 'plexuslaw29.ScheduleSwaps': WHATEVER THE INPUT: true; the input reads as it did. -/
def scheduleSwapsSpec : ChangeSpec := { name := "scheduleSwaps", fn := fun _ => fun
  | [d1, d2] => { results := [.lit (.bool true)], args := [d1, d2] }
  | _ => none }
def scheduleSwapsRow : OpenClaim := { program := "ytfdicndmebhmdaa", sum := "10ebcd225fea473fefb7a97cb9ac5100a0f6cb881450814f81a71f4e366e3a2e", func := "plexus/plexuslaw29.ScheduleSwaps", spec := "scheduleSwaps", unfollowed := true, recurses := true, apart := false }
def ScheduleSwapsSaid : Prop := scheduleSwapsRow.holds Try.pinned (OpenSpec.ofChange scheduleSwapsSpec)

/-- ITS FALSE NEIGHBOUR: 'it returns false'. Refute it at one input. -/
def scheduleSwapsWrong : ChangeSpec := { name := "scheduleSwaps", fn := fun _ => fun
  | [d1, d2] => { results := [.lit (.bool false)], args := [d1, d2] }
  | _ => none }
def ScheduleSwapsWrongFalsely : Prop := scheduleSwapsRow.holds Try.pinned (OpenSpec.ofChange scheduleSwapsWrong)

/-- 'plexuslaw29.ScheduleAll': WHATEVER THE INPUT: true; the input reads as it did. -/
def scheduleAllSpec : ChangeSpec := { name := "scheduleAll", fn := fun _ => fun
  | [d1, d2] => { results := [.lit (.bool true)], args := [d1, d2] }
  | _ => none }
def scheduleAllRow : OpenClaim := { program := "ytfdicndmebhmdaa", sum := "10ebcd225fea473fefb7a97cb9ac5100a0f6cb881450814f81a71f4e366e3a2e", func := "plexus/plexuslaw29.ScheduleAll", spec := "scheduleAll", unfollowed := true, recurses := true, apart := false }
def ScheduleAllSaid : Prop := scheduleAllRow.holds Try.pinned (OpenSpec.ofChange scheduleAllSpec)

/-- ITS FALSE NEIGHBOUR: 'it returns false'. Refute it at one input. -/
def scheduleAllWrong : ChangeSpec := { name := "scheduleAll", fn := fun _ => fun
  | [d1, d2] => { results := [.lit (.bool false)], args := [d1, d2] }
  | _ => none }
def ScheduleAllWrongFalsely : Prop := scheduleAllRow.holds Try.pinned (OpenSpec.ofChange scheduleAllWrong)

/-- 'plexuslaw29.ScheduleEach': WHATEVER THE INPUT: true; the input reads as it did. -/
def scheduleEachSpec : ChangeSpec := { name := "scheduleEach", fn := fun _ => fun
  | [d] => { results := [.lit (.bool true)], args := [d] }
  | _ => none }
def scheduleEachRow : OpenClaim := { program := "ytfdicndmebhmdaa", sum := "10ebcd225fea473fefb7a97cb9ac5100a0f6cb881450814f81a71f4e366e3a2e", func := "plexus/plexuslaw29.ScheduleEach", spec := "scheduleEach", unfollowed := true, recurses := true, apart := false }
def ScheduleEachSaid : Prop := scheduleEachRow.holds Try.pinned (OpenSpec.ofChange scheduleEachSpec)

/-- ITS FALSE NEIGHBOUR: 'it returns false'. Refute it at one input. -/
def scheduleEachWrong : ChangeSpec := { name := "scheduleEach", fn := fun _ => fun
  | [d] => { results := [.lit (.bool false)], args := [d] }
  | _ => none }
def ScheduleEachWrongFalsely : Prop := scheduleEachRow.holds Try.pinned (OpenSpec.ofChange scheduleEachWrong)

/-- 'plexuslaw29.ScheduleLayers': WHATEVER THE INPUT: true; the input reads as it did. -/
def scheduleLayersSpec : ChangeSpec := { name := "scheduleLayers", fn := fun _ => fun
  | [d] => { results := [.lit (.bool true)], args := [d] }
  | _ => none }
def scheduleLayersRow : OpenClaim := { program := "ytfdicndmebhmdaa", sum := "10ebcd225fea473fefb7a97cb9ac5100a0f6cb881450814f81a71f4e366e3a2e", func := "plexus/plexuslaw29.ScheduleLayers", spec := "scheduleLayers", unfollowed := true, recurses := true, apart := false }
def ScheduleLayersSaid : Prop := scheduleLayersRow.holds Try.pinned (OpenSpec.ofChange scheduleLayersSpec)

/-- ITS FALSE NEIGHBOUR: 'it returns false'. Refute it at one input. -/
def scheduleLayersWrong : ChangeSpec := { name := "scheduleLayers", fn := fun _ => fun
  | [d] => { results := [.lit (.bool false)], args := [d] }
  | _ => none }
def ScheduleLayersWrongFalsely : Prop := scheduleLayersRow.holds Try.pinned (OpenSpec.ofChange scheduleLayersWrong)

/-- 'plexuslaw29.SchedulePrefix': WHATEVER THE INPUT: true; the input reads as it did. -/
def schedulePrefixSpec : ChangeSpec := { name := "schedulePrefix", fn := fun _ => fun
  | [d1, d2] => { results := [.lit (.bool true)], args := [d1, d2] }
  | _ => none }
def schedulePrefixRow : OpenClaim := { program := "ytfdicndmebhmdaa", sum := "10ebcd225fea473fefb7a97cb9ac5100a0f6cb881450814f81a71f4e366e3a2e", func := "plexus/plexuslaw29.SchedulePrefix", spec := "schedulePrefix", unfollowed := true, recurses := true, apart := false }
def SchedulePrefixSaid : Prop := schedulePrefixRow.holds Try.pinned (OpenSpec.ofChange schedulePrefixSpec)

/-- ITS FALSE NEIGHBOUR: 'it returns false'. Refute it at one input. -/
def schedulePrefixWrong : ChangeSpec := { name := "schedulePrefix", fn := fun _ => fun
  | [d1, d2] => { results := [.lit (.bool false)], args := [d1, d2] }
  | _ => none }
def SchedulePrefixWrongFalsely : Prop := schedulePrefixRow.holds Try.pinned (OpenSpec.ofChange schedulePrefixWrong)

/-- 'plexuslaw29.ScheduleGrows': WHATEVER THE INPUT: true; the input reads as it did. -/
def scheduleGrowsSpec : ChangeSpec := { name := "scheduleGrows", fn := fun _ => fun
  | [d1, d2] => { results := [.lit (.bool true)], args := [d1, d2] }
  | _ => none }
def scheduleGrowsRow : OpenClaim := { program := "ytfdicndmebhmdaa", sum := "10ebcd225fea473fefb7a97cb9ac5100a0f6cb881450814f81a71f4e366e3a2e", func := "plexus/plexuslaw29.ScheduleGrows", spec := "scheduleGrows", unfollowed := true, recurses := true, apart := false }
def ScheduleGrowsSaid : Prop := scheduleGrowsRow.holds Try.pinned (OpenSpec.ofChange scheduleGrowsSpec)

/-- ITS FALSE NEIGHBOUR: 'it returns false'. Refute it at one input. -/
def scheduleGrowsWrong : ChangeSpec := { name := "scheduleGrows", fn := fun _ => fun
  | [d1, d2] => { results := [.lit (.bool false)], args := [d1, d2] }
  | _ => none }
def ScheduleGrowsWrongFalsely : Prop := scheduleGrowsRow.holds Try.pinned (OpenSpec.ofChange scheduleGrowsWrong)

/- THE SECOND FORM. 'bulk': how many values and letters a reading holds, each counted each time it is reached (what is shared counts as often as it is met; a slice's spare places count too). A statement '..UptoSaid' is the law's where the arguments, and the package variables that the reading takes, are together of bulk at most 1048576: NARROWER than '..Said'. Prove '..Said' where nothing that the law and all that it calls make is longer than what came in: it says more and counts as full. Else prove '..UptoSaid'. A law counts once. -/
mutual
def uptoBulk {H : Type} : DataW H → Nat
  | .lit (.string bytes) => bytes.length + 1
  | .lit _ => 1
  | .nil => 1
  | .ptr d => uptoBulk d + 1
  | .slice elems spare => uptoBulkAll elems + uptoBulkAll spare + 1
  | .agg parts => uptoBulkAll parts + 1
  | .iface _ d => uptoBulk d + 1
  | .map entries => uptoBulkEntries entries + 1
  | .held _ => 1
def uptoBulkAll {H : Type} : List (DataW H) → Nat
  | [] => 0
  | d :: r => uptoBulk d + uptoBulkAll r
def uptoBulkEntries {H : Type} : List (Lit × DataW H) → Nat
  | [] => 0
  | x :: r => uptoBulkEntry x + uptoBulkEntries r
def uptoBulkEntry {H : Type} : Lit × DataW H → Nat
  | (.string bytes, d) => bytes.length + uptoBulk d + 1
  | (_, d) => uptoBulk d + 1
 end
def uptoSmall : (H : Type) → List (DataW H) → Bool := fun _ ds => decide (uptoBulkAll ds ≤ 1048576)
def OpenSpec.upto (s : _root_.Go.ChangeSpec) : _root_.Go.OpenSpec := { _root_.Go.OpenSpec.ofChange s with cond := some uptoSmall }

/-- 'plexuslaw29.ScheduleNormal', WHERE WHAT IT READS IS OF BULK AT MOST 1048576: true; the input reads as it did. -/
def scheduleNormalUptoRow : OpenClaim := { program := "ytfdicndmebhmdaa", sum := "10ebcd225fea473fefb7a97cb9ac5100a0f6cb881450814f81a71f4e366e3a2e", func := "plexus/plexuslaw29.ScheduleNormal", spec := "scheduleNormal", unfollowed := true, recurses := true, apart := false, narrowed := true }
def ScheduleNormalUptoSaid : Prop := scheduleNormalUptoRow.holds Try.pinned (OpenSpec.upto scheduleNormalSpec)

/-- 'plexuslaw29.ScheduleEquivalent', WHERE WHAT IT READS IS OF BULK AT MOST 1048576: true; the input reads as it did. -/
def scheduleEquivalentUptoRow : OpenClaim := { program := "ytfdicndmebhmdaa", sum := "10ebcd225fea473fefb7a97cb9ac5100a0f6cb881450814f81a71f4e366e3a2e", func := "plexus/plexuslaw29.ScheduleEquivalent", spec := "scheduleEquivalent", unfollowed := true, recurses := true, apart := false, narrowed := true }
def ScheduleEquivalentUptoSaid : Prop := scheduleEquivalentUptoRow.holds Try.pinned (OpenSpec.upto scheduleEquivalentSpec)

/-- 'plexuslaw29.ScheduleSwaps', WHERE WHAT IT READS IS OF BULK AT MOST 1048576: true; the input reads as it did. -/
def scheduleSwapsUptoRow : OpenClaim := { program := "ytfdicndmebhmdaa", sum := "10ebcd225fea473fefb7a97cb9ac5100a0f6cb881450814f81a71f4e366e3a2e", func := "plexus/plexuslaw29.ScheduleSwaps", spec := "scheduleSwaps", unfollowed := true, recurses := true, apart := false, narrowed := true }
def ScheduleSwapsUptoSaid : Prop := scheduleSwapsUptoRow.holds Try.pinned (OpenSpec.upto scheduleSwapsSpec)

/-- 'plexuslaw29.ScheduleAll', WHERE WHAT IT READS IS OF BULK AT MOST 1048576: true; the input reads as it did. -/
def scheduleAllUptoRow : OpenClaim := { program := "ytfdicndmebhmdaa", sum := "10ebcd225fea473fefb7a97cb9ac5100a0f6cb881450814f81a71f4e366e3a2e", func := "plexus/plexuslaw29.ScheduleAll", spec := "scheduleAll", unfollowed := true, recurses := true, apart := false, narrowed := true }
def ScheduleAllUptoSaid : Prop := scheduleAllUptoRow.holds Try.pinned (OpenSpec.upto scheduleAllSpec)

/-- 'plexuslaw29.ScheduleEach', WHERE WHAT IT READS IS OF BULK AT MOST 1048576: true; the input reads as it did. -/
def scheduleEachUptoRow : OpenClaim := { program := "ytfdicndmebhmdaa", sum := "10ebcd225fea473fefb7a97cb9ac5100a0f6cb881450814f81a71f4e366e3a2e", func := "plexus/plexuslaw29.ScheduleEach", spec := "scheduleEach", unfollowed := true, recurses := true, apart := false, narrowed := true }
def ScheduleEachUptoSaid : Prop := scheduleEachUptoRow.holds Try.pinned (OpenSpec.upto scheduleEachSpec)

/-- 'plexuslaw29.ScheduleLayers', WHERE WHAT IT READS IS OF BULK AT MOST 1048576: true; the input reads as it did. -/
def scheduleLayersUptoRow : OpenClaim := { program := "ytfdicndmebhmdaa", sum := "10ebcd225fea473fefb7a97cb9ac5100a0f6cb881450814f81a71f4e366e3a2e", func := "plexus/plexuslaw29.ScheduleLayers", spec := "scheduleLayers", unfollowed := true, recurses := true, apart := false, narrowed := true }
def ScheduleLayersUptoSaid : Prop := scheduleLayersUptoRow.holds Try.pinned (OpenSpec.upto scheduleLayersSpec)

/-- 'plexuslaw29.SchedulePrefix', WHERE WHAT IT READS IS OF BULK AT MOST 1048576: true; the input reads as it did. -/
def schedulePrefixUptoRow : OpenClaim := { program := "ytfdicndmebhmdaa", sum := "10ebcd225fea473fefb7a97cb9ac5100a0f6cb881450814f81a71f4e366e3a2e", func := "plexus/plexuslaw29.SchedulePrefix", spec := "schedulePrefix", unfollowed := true, recurses := true, apart := false, narrowed := true }
def SchedulePrefixUptoSaid : Prop := schedulePrefixUptoRow.holds Try.pinned (OpenSpec.upto schedulePrefixSpec)

/-- 'plexuslaw29.ScheduleGrows', WHERE WHAT IT READS IS OF BULK AT MOST 1048576: true; the input reads as it did. -/
def scheduleGrowsUptoRow : OpenClaim := { program := "ytfdicndmebhmdaa", sum := "10ebcd225fea473fefb7a97cb9ac5100a0f6cb881450814f81a71f4e366e3a2e", func := "plexus/plexuslaw29.ScheduleGrows", spec := "scheduleGrows", unfollowed := true, recurses := true, apart := false, narrowed := true }
def ScheduleGrowsUptoSaid : Prop := scheduleGrowsUptoRow.holds Try.pinned (OpenSpec.upto scheduleGrowsSpec)

end Rows
end Go.Proofs.Ytfdicndmebhmdaa
