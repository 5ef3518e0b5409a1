/-
  NARROWER THAN 'FOR EVERY INPUT', by the rows' own cells (each row's printed sentence says how): ConfigMembers: loops · ConfigInterval: loops · ConfigQuorate: loops · ConfigLacks: loops · ConfigCounts: loops · ConfigEvery: loops · ConfigNarrows: loops · ConfigMeets: loops · ConfigTolerates: loops · ConfigSets: loops.
  DERIVED. THE GIVEN ROWS OF THIS SEAT. 10 by the template 'for every input the law returns true; each argument reads behind the call as it read before'; 0 by the template 'total and deterministic' (their statements: YtahpecbcpgjinaaTotals.lean).
  GIVEN WITH THE SEED: the statements are not yours to turn. If you find one false, say at which input.
  Laid BY PROGRAM, IN A SANDBOX (cutbox-rows.mjs): the forced cells as the released guide's own fill.sh prints them over the translation a5779f28c40745a9… (all of the seat's roots in one cut). By AI agents, Wed Nov 11 2026. No macro, syntax, notation, axiom, sorry.
-/
import Derived.Test.YtahpecbcpgjinaaChecked
import GoSem.Claim
import GoSem.ClaimJoined
import GoSem.ClaimMapViews
import Derived.JoinedTies
import Derived.KernelRfl
namespace Go.Proofs.Ytahpecbcpgjinaa
/- THE CELL 'sum', in the pinned program and in every row, IS THE sha256 OF THE DUMP (.gsa) THAT YtahpecbcpgjinaaProg.lean LOADS. Nothing in Lean hashes anything: it is a label: what it is worth is what the hold of that sum in a sandbox is worth. -/
noncomputable def Try.pinned : Pinned := { name := "ytahpecbcpgjinaa", sum := "a5779f28c40745a9b81709e55a9179d6e78ea9753da60b1b3b2d6831206689ad", checked := Try.checked }
namespace Rows
def none {H : Type} : Left H := { results := [], args := [] }

/-- 'plexuslaw39.ConfigMembers': WHATEVER THE INPUT: true; the input reads as it did. -/
def configMembersSpec : ChangeSpec := { name := "configMembers", fn := fun _ => fun
  | [d1, d2] => { results := [.lit (.bool true)], args := [d1, d2] }
  | _ => none }
def configMembersRow : OpenClaim := { program := "ytahpecbcpgjinaa", sum := "a5779f28c40745a9b81709e55a9179d6e78ea9753da60b1b3b2d6831206689ad", func := "plexus/plexuslaw39.ConfigMembers", spec := "configMembers", unfollowed := true, recurses := true, loops := true, apart := false }
def ConfigMembersSaid : Prop := configMembersRow.holds Try.pinned (OpenSpec.ofChange configMembersSpec)

/-- ITS FALSE NEIGHBOUR: 'it returns false'. Refute it at one input. -/
def configMembersWrong : ChangeSpec := { name := "configMembers", fn := fun _ => fun
  | [d1, d2] => { results := [.lit (.bool false)], args := [d1, d2] }
  | _ => none }
def ConfigMembersWrongFalsely : Prop := configMembersRow.holds Try.pinned (OpenSpec.ofChange configMembersWrong)

/-- 'plexuslaw39.ConfigInterval': WHATEVER THE INPUT: true; the input reads as it did. -/
def configIntervalSpec : ChangeSpec := { name := "configInterval", fn := fun _ => fun
  | [d1, d2, d3] => { results := [.lit (.bool true)], args := [d1, d2, d3] }
  | _ => none }
def configIntervalRow : OpenClaim := { program := "ytahpecbcpgjinaa", sum := "a5779f28c40745a9b81709e55a9179d6e78ea9753da60b1b3b2d6831206689ad", func := "plexus/plexuslaw39.ConfigInterval", spec := "configInterval", unfollowed := true, recurses := true, loops := true, apart := false }
def ConfigIntervalSaid : Prop := configIntervalRow.holds Try.pinned (OpenSpec.ofChange configIntervalSpec)

/-- ITS FALSE NEIGHBOUR: 'it returns false'. Refute it at one input. -/
def configIntervalWrong : ChangeSpec := { name := "configInterval", fn := fun _ => fun
  | [d1, d2, d3] => { results := [.lit (.bool false)], args := [d1, d2, d3] }
  | _ => none }
def ConfigIntervalWrongFalsely : Prop := configIntervalRow.holds Try.pinned (OpenSpec.ofChange configIntervalWrong)

/-- 'plexuslaw39.ConfigQuorate': WHATEVER THE INPUT: true; the input reads as it did. -/
def configQuorateSpec : ChangeSpec := { name := "configQuorate", fn := fun _ => fun
  | [d1, d2, d3, d4] => { results := [.lit (.bool true)], args := [d1, d2, d3, d4] }
  | _ => none }
def configQuorateRow : OpenClaim := { program := "ytahpecbcpgjinaa", sum := "a5779f28c40745a9b81709e55a9179d6e78ea9753da60b1b3b2d6831206689ad", func := "plexus/plexuslaw39.ConfigQuorate", spec := "configQuorate", unfollowed := true, recurses := true, loops := true, apart := false }
def ConfigQuorateSaid : Prop := configQuorateRow.holds Try.pinned (OpenSpec.ofChange configQuorateSpec)

/-- ITS FALSE NEIGHBOUR: 'it returns false'. Refute it at one input. -/
def configQuorateWrong : ChangeSpec := { name := "configQuorate", fn := fun _ => fun
  | [d1, d2, d3, d4] => { results := [.lit (.bool false)], args := [d1, d2, d3, d4] }
  | _ => none }
def ConfigQuorateWrongFalsely : Prop := configQuorateRow.holds Try.pinned (OpenSpec.ofChange configQuorateWrong)

/-- 'plexuslaw39.ConfigLacks': WHATEVER THE INPUT: true; the input reads as it did. -/
def configLacksSpec : ChangeSpec := { name := "configLacks", fn := fun _ => fun
  | [d1, d2, d3, d4] => { results := [.lit (.bool true)], args := [d1, d2, d3, d4] }
  | _ => none }
def configLacksRow : OpenClaim := { program := "ytahpecbcpgjinaa", sum := "a5779f28c40745a9b81709e55a9179d6e78ea9753da60b1b3b2d6831206689ad", func := "plexus/plexuslaw39.ConfigLacks", spec := "configLacks", unfollowed := true, recurses := true, loops := true, apart := false }
def ConfigLacksSaid : Prop := configLacksRow.holds Try.pinned (OpenSpec.ofChange configLacksSpec)

/-- ITS FALSE NEIGHBOUR: 'it returns false'. Refute it at one input. -/
def configLacksWrong : ChangeSpec := { name := "configLacks", fn := fun _ => fun
  | [d1, d2, d3, d4] => { results := [.lit (.bool false)], args := [d1, d2, d3, d4] }
  | _ => none }
def ConfigLacksWrongFalsely : Prop := configLacksRow.holds Try.pinned (OpenSpec.ofChange configLacksWrong)

/-- 'plexuslaw39.ConfigCounts': WHATEVER THE INPUT: true; the input reads as it did. -/
def configCountsSpec : ChangeSpec := { name := "configCounts", fn := fun _ => fun
  | [d1, d2, d3, d4] => { results := [.lit (.bool true)], args := [d1, d2, d3, d4] }
  | _ => none }
def configCountsRow : OpenClaim := { program := "ytahpecbcpgjinaa", sum := "a5779f28c40745a9b81709e55a9179d6e78ea9753da60b1b3b2d6831206689ad", func := "plexus/plexuslaw39.ConfigCounts", spec := "configCounts", unfollowed := true, recurses := true, loops := true, apart := false }
def ConfigCountsSaid : Prop := configCountsRow.holds Try.pinned (OpenSpec.ofChange configCountsSpec)

/-- ITS FALSE NEIGHBOUR: 'it returns false'. Refute it at one input. -/
def configCountsWrong : ChangeSpec := { name := "configCounts", fn := fun _ => fun
  | [d1, d2, d3, d4] => { results := [.lit (.bool false)], args := [d1, d2, d3, d4] }
  | _ => none }
def ConfigCountsWrongFalsely : Prop := configCountsRow.holds Try.pinned (OpenSpec.ofChange configCountsWrong)

/-- 'plexuslaw39.ConfigEvery': WHATEVER THE INPUT: true; the input reads as it did. -/
def configEverySpec : ChangeSpec := { name := "configEvery", fn := fun _ => fun
  | [d1, d2, d3, d4, d5] => { results := [.lit (.bool true)], args := [d1, d2, d3, d4, d5] }
  | _ => none }
def configEveryRow : OpenClaim := { program := "ytahpecbcpgjinaa", sum := "a5779f28c40745a9b81709e55a9179d6e78ea9753da60b1b3b2d6831206689ad", func := "plexus/plexuslaw39.ConfigEvery", spec := "configEvery", unfollowed := true, recurses := true, loops := true, apart := false }
def ConfigEverySaid : Prop := configEveryRow.holds Try.pinned (OpenSpec.ofChange configEverySpec)

/-- ITS FALSE NEIGHBOUR: 'it returns false'. Refute it at one input. -/
def configEveryWrong : ChangeSpec := { name := "configEvery", fn := fun _ => fun
  | [d1, d2, d3, d4, d5] => { results := [.lit (.bool false)], args := [d1, d2, d3, d4, d5] }
  | _ => none }
def ConfigEveryWrongFalsely : Prop := configEveryRow.holds Try.pinned (OpenSpec.ofChange configEveryWrong)

/-- 'plexuslaw39.ConfigNarrows': WHATEVER THE INPUT: true; the input reads as it did. -/
def configNarrowsSpec : ChangeSpec := { name := "configNarrows", fn := fun _ => fun
  | [d1, d2, d3, d4, d5, d6] => { results := [.lit (.bool true)], args := [d1, d2, d3, d4, d5, d6] }
  | _ => none }
def configNarrowsRow : OpenClaim := { program := "ytahpecbcpgjinaa", sum := "a5779f28c40745a9b81709e55a9179d6e78ea9753da60b1b3b2d6831206689ad", func := "plexus/plexuslaw39.ConfigNarrows", spec := "configNarrows", unfollowed := true, recurses := true, loops := true, apart := false }
def ConfigNarrowsSaid : Prop := configNarrowsRow.holds Try.pinned (OpenSpec.ofChange configNarrowsSpec)

/-- ITS FALSE NEIGHBOUR: 'it returns false'. Refute it at one input. -/
def configNarrowsWrong : ChangeSpec := { name := "configNarrows", fn := fun _ => fun
  | [d1, d2, d3, d4, d5, d6] => { results := [.lit (.bool false)], args := [d1, d2, d3, d4, d5, d6] }
  | _ => none }
def ConfigNarrowsWrongFalsely : Prop := configNarrowsRow.holds Try.pinned (OpenSpec.ofChange configNarrowsWrong)

/-- 'plexuslaw39.ConfigMeets': WHATEVER THE INPUT: true; the input reads as it did. -/
def configMeetsSpec : ChangeSpec := { name := "configMeets", fn := fun _ => fun
  | [d1, d2, d3, d4, d5, d6] => { results := [.lit (.bool true)], args := [d1, d2, d3, d4, d5, d6] }
  | _ => none }
def configMeetsRow : OpenClaim := { program := "ytahpecbcpgjinaa", sum := "a5779f28c40745a9b81709e55a9179d6e78ea9753da60b1b3b2d6831206689ad", func := "plexus/plexuslaw39.ConfigMeets", spec := "configMeets", unfollowed := true, recurses := true, loops := true, apart := false }
def ConfigMeetsSaid : Prop := configMeetsRow.holds Try.pinned (OpenSpec.ofChange configMeetsSpec)

/-- ITS FALSE NEIGHBOUR: 'it returns false'. Refute it at one input. -/
def configMeetsWrong : ChangeSpec := { name := "configMeets", fn := fun _ => fun
  | [d1, d2, d3, d4, d5, d6] => { results := [.lit (.bool false)], args := [d1, d2, d3, d4, d5, d6] }
  | _ => none }
def ConfigMeetsWrongFalsely : Prop := configMeetsRow.holds Try.pinned (OpenSpec.ofChange configMeetsWrong)

/-- 'plexuslaw39.ConfigTolerates': WHATEVER THE INPUT: true; the input reads as it did. -/
def configToleratesSpec : ChangeSpec := { name := "configTolerates", fn := fun _ => fun
  | [d1, d2, d3, d4] => { results := [.lit (.bool true)], args := [d1, d2, d3, d4] }
  | _ => none }
def configToleratesRow : OpenClaim := { program := "ytahpecbcpgjinaa", sum := "a5779f28c40745a9b81709e55a9179d6e78ea9753da60b1b3b2d6831206689ad", func := "plexus/plexuslaw39.ConfigTolerates", spec := "configTolerates", unfollowed := true, recurses := true, loops := true, apart := false }
def ConfigToleratesSaid : Prop := configToleratesRow.holds Try.pinned (OpenSpec.ofChange configToleratesSpec)

/-- ITS FALSE NEIGHBOUR: 'it returns false'. Refute it at one input. -/
def configToleratesWrong : ChangeSpec := { name := "configTolerates", fn := fun _ => fun
  | [d1, d2, d3, d4] => { results := [.lit (.bool false)], args := [d1, d2, d3, d4] }
  | _ => none }
def ConfigToleratesWrongFalsely : Prop := configToleratesRow.holds Try.pinned (OpenSpec.ofChange configToleratesWrong)

/-- 'plexuslaw39.ConfigSets': WHATEVER THE INPUT: true; the input reads as it did. -/
def configSetsSpec : ChangeSpec := { name := "configSets", fn := fun _ => fun
  | [d1, d2, d3, d4, d5] => { results := [.lit (.bool true)], args := [d1, d2, d3, d4, d5] }
  | _ => none }
def configSetsRow : OpenClaim := { program := "ytahpecbcpgjinaa", sum := "a5779f28c40745a9b81709e55a9179d6e78ea9753da60b1b3b2d6831206689ad", func := "plexus/plexuslaw39.ConfigSets", spec := "configSets", unfollowed := true, recurses := true, loops := true, apart := false }
def ConfigSetsSaid : Prop := configSetsRow.holds Try.pinned (OpenSpec.ofChange configSetsSpec)

/-- ITS FALSE NEIGHBOUR: 'it returns false'. Refute it at one input. -/
def configSetsWrong : ChangeSpec := { name := "configSets", fn := fun _ => fun
  | [d1, d2, d3, d4, d5] => { results := [.lit (.bool false)], args := [d1, d2, d3, d4, d5] }
  | _ => none }
def ConfigSetsWrongFalsely : Prop := configSetsRow.holds Try.pinned (OpenSpec.ofChange configSetsWrong)

/- THE SECOND FORM. 'bulk': how many values and letters a reading holds, each counted each time it is reached (what is shared counts as often as it is met; a slice's spare places count too). A statement '..UptoSaid' is the law's where the arguments, and the package variables that the reading takes, are together of bulk at most 1048576: NARROWER than '..Said'. Prove '..Said' where nothing that the law and all that it calls make is longer than what came in: it says more and counts as full. Else prove '..UptoSaid'. A law counts once. -/
mutual
def uptoBulk {H : Type} : DataW H → Nat
  | .lit (.string bytes) => bytes.length + 1
  | .lit _ => 1
  | .nil => 1
  | .ptr d => uptoBulk d + 1
  | .slice elems spare => uptoBulkAll elems + uptoBulkAll spare + 1
  | .agg parts => uptoBulkAll parts + 1
  | .iface _ d => uptoBulk d + 1
  | .map entries => uptoBulkEntries entries + 1
  | .held _ => 1
def uptoBulkAll {H : Type} : List (DataW H) → Nat
  | [] => 0
  | d :: r => uptoBulk d + uptoBulkAll r
def uptoBulkEntries {H : Type} : List (Lit × DataW H) → Nat
  | [] => 0
  | x :: r => uptoBulkEntry x + uptoBulkEntries r
def uptoBulkEntry {H : Type} : Lit × DataW H → Nat
  | (.string bytes, d) => bytes.length + uptoBulk d + 1
  | (_, d) => uptoBulk d + 1
 end
def uptoSmall : (H : Type) → List (DataW H) → Bool := fun _ ds => decide (uptoBulkAll ds ≤ 1048576)
def OpenSpec.upto (s : _root_.Go.ChangeSpec) : _root_.Go.OpenSpec := { _root_.Go.OpenSpec.ofChange s with cond := some uptoSmall }

/-- 'plexuslaw39.ConfigMembers', WHERE WHAT IT READS IS OF BULK AT MOST 1048576: true; the input reads as it did. -/
def configMembersUptoRow : OpenClaim := { program := "ytahpecbcpgjinaa", sum := "a5779f28c40745a9b81709e55a9179d6e78ea9753da60b1b3b2d6831206689ad", func := "plexus/plexuslaw39.ConfigMembers", spec := "configMembers", unfollowed := true, recurses := true, loops := true, apart := false, narrowed := true }
def ConfigMembersUptoSaid : Prop := configMembersUptoRow.holds Try.pinned (OpenSpec.upto configMembersSpec)

/-- 'plexuslaw39.ConfigInterval', WHERE WHAT IT READS IS OF BULK AT MOST 1048576: true; the input reads as it did. -/
def configIntervalUptoRow : OpenClaim := { program := "ytahpecbcpgjinaa", sum := "a5779f28c40745a9b81709e55a9179d6e78ea9753da60b1b3b2d6831206689ad", func := "plexus/plexuslaw39.ConfigInterval", spec := "configInterval", unfollowed := true, recurses := true, loops := true, apart := false, narrowed := true }
def ConfigIntervalUptoSaid : Prop := configIntervalUptoRow.holds Try.pinned (OpenSpec.upto configIntervalSpec)

/-- 'plexuslaw39.ConfigQuorate', WHERE WHAT IT READS IS OF BULK AT MOST 1048576: true; the input reads as it did. -/
def configQuorateUptoRow : OpenClaim := { program := "ytahpecbcpgjinaa", sum := "a5779f28c40745a9b81709e55a9179d6e78ea9753da60b1b3b2d6831206689ad", func := "plexus/plexuslaw39.ConfigQuorate", spec := "configQuorate", unfollowed := true, recurses := true, loops := true, apart := false, narrowed := true }
def ConfigQuorateUptoSaid : Prop := configQuorateUptoRow.holds Try.pinned (OpenSpec.upto configQuorateSpec)

/-- 'plexuslaw39.ConfigLacks', WHERE WHAT IT READS IS OF BULK AT MOST 1048576: true; the input reads as it did. -/
def configLacksUptoRow : OpenClaim := { program := "ytahpecbcpgjinaa", sum := "a5779f28c40745a9b81709e55a9179d6e78ea9753da60b1b3b2d6831206689ad", func := "plexus/plexuslaw39.ConfigLacks", spec := "configLacks", unfollowed := true, recurses := true, loops := true, apart := false, narrowed := true }
def ConfigLacksUptoSaid : Prop := configLacksUptoRow.holds Try.pinned (OpenSpec.upto configLacksSpec)

/-- 'plexuslaw39.ConfigCounts', WHERE WHAT IT READS IS OF BULK AT MOST 1048576: true; the input reads as it did. -/
def configCountsUptoRow : OpenClaim := { program := "ytahpecbcpgjinaa", sum := "a5779f28c40745a9b81709e55a9179d6e78ea9753da60b1b3b2d6831206689ad", func := "plexus/plexuslaw39.ConfigCounts", spec := "configCounts", unfollowed := true, recurses := true, loops := true, apart := false, narrowed := true }
def ConfigCountsUptoSaid : Prop := configCountsUptoRow.holds Try.pinned (OpenSpec.upto configCountsSpec)

/-- 'plexuslaw39.ConfigEvery', WHERE WHAT IT READS IS OF BULK AT MOST 1048576: true; the input reads as it did. -/
def configEveryUptoRow : OpenClaim := { program := "ytahpecbcpgjinaa", sum := "a5779f28c40745a9b81709e55a9179d6e78ea9753da60b1b3b2d6831206689ad", func := "plexus/plexuslaw39.ConfigEvery", spec := "configEvery", unfollowed := true, recurses := true, loops := true, apart := false, narrowed := true }
def ConfigEveryUptoSaid : Prop := configEveryUptoRow.holds Try.pinned (OpenSpec.upto configEverySpec)

/-- 'plexuslaw39.ConfigNarrows', WHERE WHAT IT READS IS OF BULK AT MOST 1048576: true; the input reads as it did. -/
def configNarrowsUptoRow : OpenClaim := { program := "ytahpecbcpgjinaa", sum := "a5779f28c40745a9b81709e55a9179d6e78ea9753da60b1b3b2d6831206689ad", func := "plexus/plexuslaw39.ConfigNarrows", spec := "configNarrows", unfollowed := true, recurses := true, loops := true, apart := false, narrowed := true }
def ConfigNarrowsUptoSaid : Prop := configNarrowsUptoRow.holds Try.pinned (OpenSpec.upto configNarrowsSpec)

/-- 'plexuslaw39.ConfigMeets', WHERE WHAT IT READS IS OF BULK AT MOST 1048576: true; the input reads as it did. -/
def configMeetsUptoRow : OpenClaim := { program := "ytahpecbcpgjinaa", sum := "a5779f28c40745a9b81709e55a9179d6e78ea9753da60b1b3b2d6831206689ad", func := "plexus/plexuslaw39.ConfigMeets", spec := "configMeets", unfollowed := true, recurses := true, loops := true, apart := false, narrowed := true }
def ConfigMeetsUptoSaid : Prop := configMeetsUptoRow.holds Try.pinned (OpenSpec.upto configMeetsSpec)

/-- 'plexuslaw39.ConfigTolerates', WHERE WHAT IT READS IS OF BULK AT MOST 1048576: true; the input reads as it did. -/
def configToleratesUptoRow : OpenClaim := { program := "ytahpecbcpgjinaa", sum := "a5779f28c40745a9b81709e55a9179d6e78ea9753da60b1b3b2d6831206689ad", func := "plexus/plexuslaw39.ConfigTolerates", spec := "configTolerates", unfollowed := true, recurses := true, loops := true, apart := false, narrowed := true }
def ConfigToleratesUptoSaid : Prop := configToleratesUptoRow.holds Try.pinned (OpenSpec.upto configToleratesSpec)

/-- 'plexuslaw39.ConfigSets', WHERE WHAT IT READS IS OF BULK AT MOST 1048576: true; the input reads as it did. -/
def configSetsUptoRow : OpenClaim := { program := "ytahpecbcpgjinaa", sum := "a5779f28c40745a9b81709e55a9179d6e78ea9753da60b1b3b2d6831206689ad", func := "plexus/plexuslaw39.ConfigSets", spec := "configSets", unfollowed := true, recurses := true, loops := true, apart := false, narrowed := true }
def ConfigSetsUptoSaid : Prop := configSetsUptoRow.holds Try.pinned (OpenSpec.upto configSetsSpec)

end Rows
end Go.Proofs.Ytahpecbcpgjinaa
