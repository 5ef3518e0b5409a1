/-
  No cell of these rows narrows 'for every input' (looked for: loops, veiled, ifaces, maps, wideKeys, modest, calm, conditions, laid).
  DERIVED. THE GIVEN ROWS OF THIS SEAT. 8 by the template 'for every input the law returns true; each argument reads behind the call as it read before'; 0 by the template 'total and deterministic' (their statements: YtnpfalloelmflaaTotals.lean).
  GIVEN WITH THE SEED: the statements are not yours to turn. If you find one false, say at which input.
  Laid BY PROGRAM, IN A SANDBOX (cutbox-rows.mjs): the forced cells as the released guide's own fill.sh prints them over the translation c09109af46aba4e8… (all of the seat's roots in one cut). By AI agents, Wed Nov 11 2026. No macro, syntax, notation, axiom, sorry.
-/
import Derived.Test.YtnpfalloelmflaaChecked
import GoSem.Claim
import GoSem.ClaimJoined
import GoSem.ClaimMapViews
import Derived.JoinedTies
import Derived.KernelRfl
namespace Go.Proofs.Ytnpfalloelmflaa
/- THE CELL 'sum', in the pinned program and in every row, IS THE sha256 OF THE DUMP (.gsa) THAT YtnpfalloelmflaaProg.lean LOADS. Nothing in Lean hashes anything: it is a label: what it is worth is what the hold of that sum in a sandbox is worth. -/
noncomputable def Try.pinned : Pinned := { name := "ytnpfalloelmflaa", sum := "c09109af46aba4e86f8f1ccd20be1a22aa2c270c481c94a3e37041336c86b013", checked := Try.checked }
namespace Rows
def none {H : Type} : Left H := { results := [], args := [] }

/-- 'plexuslaw54.HistoryCheck': WHATEVER THE INPUT: true; the input reads as it did. -/
def historyCheckSpec : ChangeSpec := { name := "historyCheck", fn := fun _ => fun
  | [d] => { results := [.lit (.bool true)], args := [d] }
  | _ => none }
def historyCheckRow : OpenClaim := { program := "ytnpfalloelmflaa", sum := "c09109af46aba4e86f8f1ccd20be1a22aa2c270c481c94a3e37041336c86b013", func := "plexus/plexuslaw54.HistoryCheck", spec := "historyCheck", unfollowed := true, recurses := true, apart := false }
def HistoryCheckSaid : Prop := historyCheckRow.holds Try.pinned (OpenSpec.ofChange historyCheckSpec)

/-- ITS FALSE NEIGHBOUR: 'it returns false'. Refute it at one input. -/
def historyCheckWrong : ChangeSpec := { name := "historyCheck", fn := fun _ => fun
  | [d] => { results := [.lit (.bool false)], args := [d] }
  | _ => none }
def HistoryCheckWrongFalsely : Prop := historyCheckRow.holds Try.pinned (OpenSpec.ofChange historyCheckWrong)

/-- 'plexuslaw54.HistoryPrecedes': WHATEVER THE INPUT: true; the input reads as it did. -/
def historyPrecedesSpec : ChangeSpec := { name := "historyPrecedes", fn := fun _ => fun
  | [d1, d2, d3, d4] => { results := [.lit (.bool true)], args := [d1, d2, d3, d4] }
  | _ => none }
def historyPrecedesRow : OpenClaim := { program := "ytnpfalloelmflaa", sum := "c09109af46aba4e86f8f1ccd20be1a22aa2c270c481c94a3e37041336c86b013", func := "plexus/plexuslaw54.HistoryPrecedes", spec := "historyPrecedes", unfollowed := true, recurses := true, apart := false }
def HistoryPrecedesSaid : Prop := historyPrecedesRow.holds Try.pinned (OpenSpec.ofChange historyPrecedesSpec)

/-- ITS FALSE NEIGHBOUR: 'it returns false'. Refute it at one input. -/
def historyPrecedesWrong : ChangeSpec := { name := "historyPrecedes", fn := fun _ => fun
  | [d1, d2, d3, d4] => { results := [.lit (.bool false)], args := [d1, d2, d3, d4] }
  | _ => none }
def HistoryPrecedesWrongFalsely : Prop := historyPrecedesRow.holds Try.pinned (OpenSpec.ofChange historyPrecedesWrong)

/-- 'plexuslaw54.HistoryCut': WHATEVER THE INPUT: true; the input reads as it did. -/
def historyCutSpec : ChangeSpec := { name := "historyCut", fn := fun _ => fun
  | [d1, d2, d3] => { results := [.lit (.bool true)], args := [d1, d2, d3] }
  | _ => none }
def historyCutRow : OpenClaim := { program := "ytnpfalloelmflaa", sum := "c09109af46aba4e86f8f1ccd20be1a22aa2c270c481c94a3e37041336c86b013", func := "plexus/plexuslaw54.HistoryCut", spec := "historyCut", unfollowed := true, recurses := true, apart := false }
def HistoryCutSaid : Prop := historyCutRow.holds Try.pinned (OpenSpec.ofChange historyCutSpec)

/-- ITS FALSE NEIGHBOUR: 'it returns false'. Refute it at one input. -/
def historyCutWrong : ChangeSpec := { name := "historyCut", fn := fun _ => fun
  | [d1, d2, d3] => { results := [.lit (.bool false)], args := [d1, d2, d3] }
  | _ => none }
def HistoryCutWrongFalsely : Prop := historyCutRow.holds Try.pinned (OpenSpec.ofChange historyCutWrong)

/-- 'plexuslaw54.HistoryLegal': WHATEVER THE INPUT: true; the input reads as it did. -/
def historyLegalSpec : ChangeSpec := { name := "historyLegal", fn := fun _ => fun
  | [d1, d2, d3] => { results := [.lit (.bool true)], args := [d1, d2, d3] }
  | _ => none }
def historyLegalRow : OpenClaim := { program := "ytnpfalloelmflaa", sum := "c09109af46aba4e86f8f1ccd20be1a22aa2c270c481c94a3e37041336c86b013", func := "plexus/plexuslaw54.HistoryLegal", spec := "historyLegal", unfollowed := true, recurses := true, apart := false }
def HistoryLegalSaid : Prop := historyLegalRow.holds Try.pinned (OpenSpec.ofChange historyLegalSpec)

/-- ITS FALSE NEIGHBOUR: 'it returns false'. Refute it at one input. -/
def historyLegalWrong : ChangeSpec := { name := "historyLegal", fn := fun _ => fun
  | [d1, d2, d3] => { results := [.lit (.bool false)], args := [d1, d2, d3] }
  | _ => none }
def HistoryLegalWrongFalsely : Prop := historyLegalRow.holds Try.pinned (OpenSpec.ofChange historyLegalWrong)

/-- 'plexuslaw54.HistoryOrder': WHATEVER THE INPUT: true; the input reads as it did. -/
def historyOrderSpec : ChangeSpec := { name := "historyOrder", fn := fun _ => fun
  | [d] => { results := [.lit (.bool true)], args := [d] }
  | _ => none }
def historyOrderRow : OpenClaim := { program := "ytnpfalloelmflaa", sum := "c09109af46aba4e86f8f1ccd20be1a22aa2c270c481c94a3e37041336c86b013", func := "plexus/plexuslaw54.HistoryOrder", spec := "historyOrder", unfollowed := true, recurses := true, apart := false }
def HistoryOrderSaid : Prop := historyOrderRow.holds Try.pinned (OpenSpec.ofChange historyOrderSpec)

/-- ITS FALSE NEIGHBOUR: 'it returns false'. Refute it at one input. -/
def historyOrderWrong : ChangeSpec := { name := "historyOrder", fn := fun _ => fun
  | [d] => { results := [.lit (.bool false)], args := [d] }
  | _ => none }
def HistoryOrderWrongFalsely : Prop := historyOrderRow.holds Try.pinned (OpenSpec.ofChange historyOrderWrong)

/-- 'plexuslaw54.HistoryComplete': WHATEVER THE INPUT: true; the input reads as it did. -/
def historyCompleteSpec : ChangeSpec := { name := "historyComplete", fn := fun _ => fun
  | [d1, d2] => { results := [.lit (.bool true)], args := [d1, d2] }
  | _ => none }
def historyCompleteRow : OpenClaim := { program := "ytnpfalloelmflaa", sum := "c09109af46aba4e86f8f1ccd20be1a22aa2c270c481c94a3e37041336c86b013", func := "plexus/plexuslaw54.HistoryComplete", spec := "historyComplete", unfollowed := true, recurses := true, apart := false }
def HistoryCompleteSaid : Prop := historyCompleteRow.holds Try.pinned (OpenSpec.ofChange historyCompleteSpec)

/-- ITS FALSE NEIGHBOUR: 'it returns false'. Refute it at one input. -/
def historyCompleteWrong : ChangeSpec := { name := "historyComplete", fn := fun _ => fun
  | [d1, d2] => { results := [.lit (.bool false)], args := [d1, d2] }
  | _ => none }
def HistoryCompleteWrongFalsely : Prop := historyCompleteRow.holds Try.pinned (OpenSpec.ofChange historyCompleteWrong)

/-- 'plexuslaw54.HistoryRespects': WHATEVER THE INPUT: true; the input reads as it did. -/
def historyRespectsSpec : ChangeSpec := { name := "historyRespects", fn := fun _ => fun
  | [d1, d2] => { results := [.lit (.bool true)], args := [d1, d2] }
  | _ => none }
def historyRespectsRow : OpenClaim := { program := "ytnpfalloelmflaa", sum := "c09109af46aba4e86f8f1ccd20be1a22aa2c270c481c94a3e37041336c86b013", func := "plexus/plexuslaw54.HistoryRespects", spec := "historyRespects", unfollowed := true, recurses := true, apart := false }
def HistoryRespectsSaid : Prop := historyRespectsRow.holds Try.pinned (OpenSpec.ofChange historyRespectsSpec)

/-- ITS FALSE NEIGHBOUR: 'it returns false'. Refute it at one input. -/
def historyRespectsWrong : ChangeSpec := { name := "historyRespects", fn := fun _ => fun
  | [d1, d2] => { results := [.lit (.bool false)], args := [d1, d2] }
  | _ => none }
def HistoryRespectsWrongFalsely : Prop := historyRespectsRow.holds Try.pinned (OpenSpec.ofChange historyRespectsWrong)

/-- 'plexuslaw54.HistoryProject': WHATEVER THE INPUT: true; the input reads as it did. -/
def historyProjectSpec : ChangeSpec := { name := "historyProject", fn := fun _ => fun
  | [d1, d2] => { results := [.lit (.bool true)], args := [d1, d2] }
  | _ => none }
def historyProjectRow : OpenClaim := { program := "ytnpfalloelmflaa", sum := "c09109af46aba4e86f8f1ccd20be1a22aa2c270c481c94a3e37041336c86b013", func := "plexus/plexuslaw54.HistoryProject", spec := "historyProject", unfollowed := true, recurses := true, apart := false }
def HistoryProjectSaid : Prop := historyProjectRow.holds Try.pinned (OpenSpec.ofChange historyProjectSpec)

/-- ITS FALSE NEIGHBOUR: 'it returns false'. Refute it at one input. -/
def historyProjectWrong : ChangeSpec := { name := "historyProject", fn := fun _ => fun
  | [d1, d2] => { results := [.lit (.bool false)], args := [d1, d2] }
  | _ => none }
def HistoryProjectWrongFalsely : Prop := historyProjectRow.holds Try.pinned (OpenSpec.ofChange historyProjectWrong)

/- THE SECOND FORM. 'bulk': how many values and letters a reading holds, each counted each time it is reached (what is shared counts as often as it is met; a slice's spare places count too). A statement '..UptoSaid' is the law's where the arguments, and the package variables that the reading takes, are together of bulk at most 1048576: NARROWER than '..Said'. Prove '..Said' where nothing that the law and all that it calls make is longer than what came in: it says more and counts as full. Else prove '..UptoSaid'. A law counts once. -/
mutual
def uptoBulk {H : Type} : DataW H → Nat
  | .lit (.string bytes) => bytes.length + 1
  | .lit _ => 1
  | .nil => 1
  | .ptr d => uptoBulk d + 1
  | .slice elems spare => uptoBulkAll elems + uptoBulkAll spare + 1
  | .agg parts => uptoBulkAll parts + 1
  | .iface _ d => uptoBulk d + 1
  | .map entries => uptoBulkEntries entries + 1
  | .held _ => 1
def uptoBulkAll {H : Type} : List (DataW H) → Nat
  | [] => 0
  | d :: r => uptoBulk d + uptoBulkAll r
def uptoBulkEntries {H : Type} : List (Lit × DataW H) → Nat
  | [] => 0
  | x :: r => uptoBulkEntry x + uptoBulkEntries r
def uptoBulkEntry {H : Type} : Lit × DataW H → Nat
  | (.string bytes, d) => bytes.length + uptoBulk d + 1
  | (_, d) => uptoBulk d + 1
 end
def uptoSmall : (H : Type) → List (DataW H) → Bool := fun _ ds => decide (uptoBulkAll ds ≤ 1048576)
def OpenSpec.upto (s : _root_.Go.ChangeSpec) : _root_.Go.OpenSpec := { _root_.Go.OpenSpec.ofChange s with cond := some uptoSmall }

/-- 'plexuslaw54.HistoryCheck', WHERE WHAT IT READS IS OF BULK AT MOST 1048576: true; the input reads as it did. -/
def historyCheckUptoRow : OpenClaim := { program := "ytnpfalloelmflaa", sum := "c09109af46aba4e86f8f1ccd20be1a22aa2c270c481c94a3e37041336c86b013", func := "plexus/plexuslaw54.HistoryCheck", spec := "historyCheck", unfollowed := true, recurses := true, apart := false, narrowed := true }
def HistoryCheckUptoSaid : Prop := historyCheckUptoRow.holds Try.pinned (OpenSpec.upto historyCheckSpec)

/-- 'plexuslaw54.HistoryPrecedes', WHERE WHAT IT READS IS OF BULK AT MOST 1048576: true; the input reads as it did. -/
def historyPrecedesUptoRow : OpenClaim := { program := "ytnpfalloelmflaa", sum := "c09109af46aba4e86f8f1ccd20be1a22aa2c270c481c94a3e37041336c86b013", func := "plexus/plexuslaw54.HistoryPrecedes", spec := "historyPrecedes", unfollowed := true, recurses := true, apart := false, narrowed := true }
def HistoryPrecedesUptoSaid : Prop := historyPrecedesUptoRow.holds Try.pinned (OpenSpec.upto historyPrecedesSpec)

/-- 'plexuslaw54.HistoryCut', WHERE WHAT IT READS IS OF BULK AT MOST 1048576: true; the input reads as it did. -/
def historyCutUptoRow : OpenClaim := { program := "ytnpfalloelmflaa", sum := "c09109af46aba4e86f8f1ccd20be1a22aa2c270c481c94a3e37041336c86b013", func := "plexus/plexuslaw54.HistoryCut", spec := "historyCut", unfollowed := true, recurses := true, apart := false, narrowed := true }
def HistoryCutUptoSaid : Prop := historyCutUptoRow.holds Try.pinned (OpenSpec.upto historyCutSpec)

/-- 'plexuslaw54.HistoryLegal', WHERE WHAT IT READS IS OF BULK AT MOST 1048576: true; the input reads as it did. -/
def historyLegalUptoRow : OpenClaim := { program := "ytnpfalloelmflaa", sum := "c09109af46aba4e86f8f1ccd20be1a22aa2c270c481c94a3e37041336c86b013", func := "plexus/plexuslaw54.HistoryLegal", spec := "historyLegal", unfollowed := true, recurses := true, apart := false, narrowed := true }
def HistoryLegalUptoSaid : Prop := historyLegalUptoRow.holds Try.pinned (OpenSpec.upto historyLegalSpec)

/-- 'plexuslaw54.HistoryOrder', WHERE WHAT IT READS IS OF BULK AT MOST 1048576: true; the input reads as it did. -/
def historyOrderUptoRow : OpenClaim := { program := "ytnpfalloelmflaa", sum := "c09109af46aba4e86f8f1ccd20be1a22aa2c270c481c94a3e37041336c86b013", func := "plexus/plexuslaw54.HistoryOrder", spec := "historyOrder", unfollowed := true, recurses := true, apart := false, narrowed := true }
def HistoryOrderUptoSaid : Prop := historyOrderUptoRow.holds Try.pinned (OpenSpec.upto historyOrderSpec)

/-- 'plexuslaw54.HistoryComplete', WHERE WHAT IT READS IS OF BULK AT MOST 1048576: true; the input reads as it did. -/
def historyCompleteUptoRow : OpenClaim := { program := "ytnpfalloelmflaa", sum := "c09109af46aba4e86f8f1ccd20be1a22aa2c270c481c94a3e37041336c86b013", func := "plexus/plexuslaw54.HistoryComplete", spec := "historyComplete", unfollowed := true, recurses := true, apart := false, narrowed := true }
def HistoryCompleteUptoSaid : Prop := historyCompleteUptoRow.holds Try.pinned (OpenSpec.upto historyCompleteSpec)

/-- 'plexuslaw54.HistoryRespects', WHERE WHAT IT READS IS OF BULK AT MOST 1048576: true; the input reads as it did. -/
def historyRespectsUptoRow : OpenClaim := { program := "ytnpfalloelmflaa", sum := "c09109af46aba4e86f8f1ccd20be1a22aa2c270c481c94a3e37041336c86b013", func := "plexus/plexuslaw54.HistoryRespects", spec := "historyRespects", unfollowed := true, recurses := true, apart := false, narrowed := true }
def HistoryRespectsUptoSaid : Prop := historyRespectsUptoRow.holds Try.pinned (OpenSpec.upto historyRespectsSpec)

/-- 'plexuslaw54.HistoryProject', WHERE WHAT IT READS IS OF BULK AT MOST 1048576: true; the input reads as it did. -/
def historyProjectUptoRow : OpenClaim := { program := "ytnpfalloelmflaa", sum := "c09109af46aba4e86f8f1ccd20be1a22aa2c270c481c94a3e37041336c86b013", func := "plexus/plexuslaw54.HistoryProject", spec := "historyProject", unfollowed := true, recurses := true, apart := false, narrowed := true }
def HistoryProjectUptoSaid : Prop := historyProjectUptoRow.holds Try.pinned (OpenSpec.upto historyProjectSpec)

end Rows
end Go.Proofs.Ytnpfalloelmflaa
