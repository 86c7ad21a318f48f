/-
  No cell of these rows narrows 'for every input' (looked for: loops, veiled, ifaces, maps, wideKeys, modest, calm, conditions, laid).
  DERIVED. THE GIVEN ROWS OF THIS SEAT. 12 by the template 'for every input the law returns true; each argument reads behind the call as it read before'; 0 by the template 'total and deterministic' (their statements: YtkolnakcgjlcgaaTotals.lean).
  GIVEN WITH THE SEED: the statements are not yours to turn. If you find one false, say at which input.
  Laid BY PROGRAM, IN A SANDBOX (cutbox-rows.mjs): the forced cells as the released guide's own fill.sh prints them over the translation a3266de5cfe7a502… (all of the seat's roots in one cut). By AI agents, Wed Nov 11 2026. No macro, syntax, notation, axiom, sorry.
-/
import Derived.Test.YtkolnakcgjlcgaaChecked
import GoSem.Claim
import GoSem.ClaimJoined
import GoSem.ClaimMapViews
import Derived.JoinedTies
import Derived.KernelRfl
namespace Go.Proofs.Ytkolnakcgjlcgaa
/- THE CELL 'sum', in the pinned program and in every row, IS THE sha256 OF THE DUMP (.gsa) THAT YtkolnakcgjlcgaaProg.lean LOADS. Nothing in Lean hashes anything: it is a label: what it is worth is what the hold of that sum in a sandbox is worth. -/
noncomputable def Try.pinned : Pinned := { name := "ytkolnakcgjlcgaa", sum := "a3266de5cfe7a502f9588c7b5b0dc0e624f1e9159160d02ce7f413843caf9ebc", checked := Try.checked }
namespace Rows
def none {H : Type} : Left H := { results := [], args := [] }

/-- 'laws.FnLockTrace': WHATEVER THE INPUT: true; the input reads as it did. -/
def fnLockTraceSpec : ChangeSpec := { name := "fnLockTrace", fn := fun _ => fun
  | [d] => { results := [.lit (.bool true)], args := [d] }
  | _ => none }
def fnLockTraceRow : OpenClaim := { program := "ytkolnakcgjlcgaa", sum := "a3266de5cfe7a502f9588c7b5b0dc0e624f1e9159160d02ce7f413843caf9ebc", func := "loop.example/lanekernel/laws.FnLockTrace", spec := "fnLockTrace", unfollowed := true, recurses := true, apart := false }
def FnLockTraceSaid : Prop := fnLockTraceRow.holds Try.pinned (OpenSpec.ofChange fnLockTraceSpec)

/-- ITS FALSE NEIGHBOUR: 'it returns false'. Refute it at one input. -/
def fnLockTraceWrong : ChangeSpec := { name := "fnLockTrace", fn := fun _ => fun
  | [d] => { results := [.lit (.bool false)], args := [d] }
  | _ => none }
def FnLockTraceWrongFalsely : Prop := fnLockTraceRow.holds Try.pinned (OpenSpec.ofChange fnLockTraceWrong)

/-- 'laws.FnLockRegs': WHATEVER THE INPUT: true; the input reads as it did. -/
def fnLockRegsSpec : ChangeSpec := { name := "fnLockRegs", fn := fun _ => fun
  | [d] => { results := [.lit (.bool true)], args := [d] }
  | _ => none }
def fnLockRegsRow : OpenClaim := { program := "ytkolnakcgjlcgaa", sum := "a3266de5cfe7a502f9588c7b5b0dc0e624f1e9159160d02ce7f413843caf9ebc", func := "loop.example/lanekernel/laws.FnLockRegs", spec := "fnLockRegs", unfollowed := true, recurses := true, apart := false }
def FnLockRegsSaid : Prop := fnLockRegsRow.holds Try.pinned (OpenSpec.ofChange fnLockRegsSpec)

/-- ITS FALSE NEIGHBOUR: 'it returns false'. Refute it at one input. -/
def fnLockRegsWrong : ChangeSpec := { name := "fnLockRegs", fn := fun _ => fun
  | [d] => { results := [.lit (.bool false)], args := [d] }
  | _ => none }
def FnLockRegsWrongFalsely : Prop := fnLockRegsRow.holds Try.pinned (OpenSpec.ofChange fnLockRegsWrong)

/-- 'laws.FnLockSplit': WHATEVER THE INPUT: true; the input reads as it did. -/
def fnLockSplitSpec : ChangeSpec := { name := "fnLockSplit", fn := fun _ => fun
  | [d] => { results := [.lit (.bool true)], args := [d] }
  | _ => none }
def fnLockSplitRow : OpenClaim := { program := "ytkolnakcgjlcgaa", sum := "a3266de5cfe7a502f9588c7b5b0dc0e624f1e9159160d02ce7f413843caf9ebc", func := "loop.example/lanekernel/laws.FnLockSplit", spec := "fnLockSplit", unfollowed := true, recurses := true, apart := false }
def FnLockSplitSaid : Prop := fnLockSplitRow.holds Try.pinned (OpenSpec.ofChange fnLockSplitSpec)

/-- ITS FALSE NEIGHBOUR: 'it returns false'. Refute it at one input. -/
def fnLockSplitWrong : ChangeSpec := { name := "fnLockSplit", fn := fun _ => fun
  | [d] => { results := [.lit (.bool false)], args := [d] }
  | _ => none }
def FnLockSplitWrongFalsely : Prop := fnLockSplitRow.holds Try.pinned (OpenSpec.ofChange fnLockSplitWrong)

/-- 'laws.FnLockAccesses': WHATEVER THE INPUT: true; the input reads as it did. -/
def fnLockAccessesSpec : ChangeSpec := { name := "fnLockAccesses", fn := fun _ => fun
  | [d] => { results := [.lit (.bool true)], args := [d] }
  | _ => none }
def fnLockAccessesRow : OpenClaim := { program := "ytkolnakcgjlcgaa", sum := "a3266de5cfe7a502f9588c7b5b0dc0e624f1e9159160d02ce7f413843caf9ebc", func := "loop.example/lanekernel/laws.FnLockAccesses", spec := "fnLockAccesses", unfollowed := true, recurses := true, apart := false }
def FnLockAccessesSaid : Prop := fnLockAccessesRow.holds Try.pinned (OpenSpec.ofChange fnLockAccessesSpec)

/-- ITS FALSE NEIGHBOUR: 'it returns false'. Refute it at one input. -/
def fnLockAccessesWrong : ChangeSpec := { name := "fnLockAccesses", fn := fun _ => fun
  | [d] => { results := [.lit (.bool false)], args := [d] }
  | _ => none }
def FnLockAccessesWrongFalsely : Prop := fnLockAccessesRow.holds Try.pinned (OpenSpec.ofChange fnLockAccessesWrong)

/-- 'laws.FnTraceMasks': WHATEVER THE INPUT: true; the input reads as it did. -/
def fnTraceMasksSpec : ChangeSpec := { name := "fnTraceMasks", fn := fun _ => fun
  | [d] => { results := [.lit (.bool true)], args := [d] }
  | _ => none }
def fnTraceMasksRow : OpenClaim := { program := "ytkolnakcgjlcgaa", sum := "a3266de5cfe7a502f9588c7b5b0dc0e624f1e9159160d02ce7f413843caf9ebc", func := "loop.example/lanekernel/laws.FnTraceMasks", spec := "fnTraceMasks", unfollowed := true, recurses := true, apart := false }
def FnTraceMasksSaid : Prop := fnTraceMasksRow.holds Try.pinned (OpenSpec.ofChange fnTraceMasksSpec)

/-- ITS FALSE NEIGHBOUR: 'it returns false'. Refute it at one input. -/
def fnTraceMasksWrong : ChangeSpec := { name := "fnTraceMasks", fn := fun _ => fun
  | [d] => { results := [.lit (.bool false)], args := [d] }
  | _ => none }
def FnTraceMasksWrongFalsely : Prop := fnTraceMasksRow.holds Try.pinned (OpenSpec.ofChange fnTraceMasksWrong)

/-- 'laws.FnTraceMore': WHATEVER THE INPUT: true; the input reads as it did. -/
def fnTraceMoreSpec : ChangeSpec := { name := "fnTraceMore", fn := fun _ => fun
  | [d1, d2] => { results := [.lit (.bool true)], args := [d1, d2] }
  | _ => none }
def fnTraceMoreRow : OpenClaim := { program := "ytkolnakcgjlcgaa", sum := "a3266de5cfe7a502f9588c7b5b0dc0e624f1e9159160d02ce7f413843caf9ebc", func := "loop.example/lanekernel/laws.FnTraceMore", spec := "fnTraceMore", unfollowed := true, recurses := true, apart := false }
def FnTraceMoreSaid : Prop := fnTraceMoreRow.holds Try.pinned (OpenSpec.ofChange fnTraceMoreSpec)

/-- ITS FALSE NEIGHBOUR: 'it returns false'. Refute it at one input. -/
def fnTraceMoreWrong : ChangeSpec := { name := "fnTraceMore", fn := fun _ => fun
  | [d1, d2] => { results := [.lit (.bool false)], args := [d1, d2] }
  | _ => none }
def FnTraceMoreWrongFalsely : Prop := fnTraceMoreRow.holds Try.pinned (OpenSpec.ofChange fnTraceMoreWrong)

/-- 'laws.FnLaneCost': WHATEVER THE INPUT: true; the input reads as it did. -/
def fnLaneCostSpec : ChangeSpec := { name := "fnLaneCost", fn := fun _ => fun
  | [d] => { results := [.lit (.bool true)], args := [d] }
  | _ => none }
def fnLaneCostRow : OpenClaim := { program := "ytkolnakcgjlcgaa", sum := "a3266de5cfe7a502f9588c7b5b0dc0e624f1e9159160d02ce7f413843caf9ebc", func := "loop.example/lanekernel/laws.FnLaneCost", spec := "fnLaneCost", unfollowed := true, recurses := true, apart := false }
def FnLaneCostSaid : Prop := fnLaneCostRow.holds Try.pinned (OpenSpec.ofChange fnLaneCostSpec)

/-- ITS FALSE NEIGHBOUR: 'it returns false'. Refute it at one input. -/
def fnLaneCostWrong : ChangeSpec := { name := "fnLaneCost", fn := fun _ => fun
  | [d] => { results := [.lit (.bool false)], args := [d] }
  | _ => none }
def FnLaneCostWrongFalsely : Prop := fnLaneCostRow.holds Try.pinned (OpenSpec.ofChange fnLaneCostWrong)

/-- 'laws.FnLostCost': WHATEVER THE INPUT: true; the input reads as it did. -/
def fnLostCostSpec : ChangeSpec := { name := "fnLostCost", fn := fun _ => fun
  | [d] => { results := [.lit (.bool true)], args := [d] }
  | _ => none }
def fnLostCostRow : OpenClaim := { program := "ytkolnakcgjlcgaa", sum := "a3266de5cfe7a502f9588c7b5b0dc0e624f1e9159160d02ce7f413843caf9ebc", func := "loop.example/lanekernel/laws.FnLostCost", spec := "fnLostCost", unfollowed := true, recurses := true, apart := false }
def FnLostCostSaid : Prop := fnLostCostRow.holds Try.pinned (OpenSpec.ofChange fnLostCostSpec)

/-- ITS FALSE NEIGHBOUR: 'it returns false'. Refute it at one input. -/
def fnLostCostWrong : ChangeSpec := { name := "fnLostCost", fn := fun _ => fun
  | [d] => { results := [.lit (.bool false)], args := [d] }
  | _ => none }
def FnLostCostWrongFalsely : Prop := fnLostCostRow.holds Try.pinned (OpenSpec.ofChange fnLostCostWrong)

/-- 'laws.FnLostBranch': WHATEVER THE INPUT: true; the input reads as it did. -/
def fnLostBranchSpec : ChangeSpec := { name := "fnLostBranch", fn := fun _ => fun
  | [d] => { results := [.lit (.bool true)], args := [d] }
  | _ => none }
def fnLostBranchRow : OpenClaim := { program := "ytkolnakcgjlcgaa", sum := "a3266de5cfe7a502f9588c7b5b0dc0e624f1e9159160d02ce7f413843caf9ebc", func := "loop.example/lanekernel/laws.FnLostBranch", spec := "fnLostBranch", unfollowed := true, recurses := true, apart := false }
def FnLostBranchSaid : Prop := fnLostBranchRow.holds Try.pinned (OpenSpec.ofChange fnLostBranchSpec)

/-- ITS FALSE NEIGHBOUR: 'it returns false'. Refute it at one input. -/
def fnLostBranchWrong : ChangeSpec := { name := "fnLostBranch", fn := fun _ => fun
  | [d] => { results := [.lit (.bool false)], args := [d] }
  | _ => none }
def FnLostBranchWrongFalsely : Prop := fnLostBranchRow.holds Try.pinned (OpenSpec.ofChange fnLostBranchWrong)

/-- 'laws.FnProgramJoin': WHATEVER THE INPUT: true; the input reads as it did. -/
def fnProgramJoinSpec : ChangeSpec := { name := "fnProgramJoin", fn := fun _ => fun
  | [d1, d2] => { results := [.lit (.bool true)], args := [d1, d2] }
  | _ => none }
def fnProgramJoinRow : OpenClaim := { program := "ytkolnakcgjlcgaa", sum := "a3266de5cfe7a502f9588c7b5b0dc0e624f1e9159160d02ce7f413843caf9ebc", func := "loop.example/lanekernel/laws.FnProgramJoin", spec := "fnProgramJoin", unfollowed := true, recurses := true, apart := false }
def FnProgramJoinSaid : Prop := fnProgramJoinRow.holds Try.pinned (OpenSpec.ofChange fnProgramJoinSpec)

/-- ITS FALSE NEIGHBOUR: 'it returns false'. Refute it at one input. -/
def fnProgramJoinWrong : ChangeSpec := { name := "fnProgramJoin", fn := fun _ => fun
  | [d1, d2] => { results := [.lit (.bool false)], args := [d1, d2] }
  | _ => none }
def FnProgramJoinWrongFalsely : Prop := fnProgramJoinRow.holds Try.pinned (OpenSpec.ofChange fnProgramJoinWrong)

/-- 'laws.FnWrapNever': WHATEVER THE INPUT: true; the input reads as it did. -/
def fnWrapNeverSpec : ChangeSpec := { name := "fnWrapNever", fn := fun _ => fun
  | [d1, d2] => { results := [.lit (.bool true)], args := [d1, d2] }
  | _ => none }
def fnWrapNeverRow : OpenClaim := { program := "ytkolnakcgjlcgaa", sum := "a3266de5cfe7a502f9588c7b5b0dc0e624f1e9159160d02ce7f413843caf9ebc", func := "loop.example/lanekernel/laws.FnWrapNever", spec := "fnWrapNever", unfollowed := true, recurses := true, apart := false }
def FnWrapNeverSaid : Prop := fnWrapNeverRow.holds Try.pinned (OpenSpec.ofChange fnWrapNeverSpec)

/-- ITS FALSE NEIGHBOUR: 'it returns false'. Refute it at one input. -/
def fnWrapNeverWrong : ChangeSpec := { name := "fnWrapNever", fn := fun _ => fun
  | [d1, d2] => { results := [.lit (.bool false)], args := [d1, d2] }
  | _ => none }
def FnWrapNeverWrongFalsely : Prop := fnWrapNeverRow.holds Try.pinned (OpenSpec.ofChange fnWrapNeverWrong)

/-- 'laws.FnElseAlways': WHATEVER THE INPUT: true; the input reads as it did. -/
def fnElseAlwaysSpec : ChangeSpec := { name := "fnElseAlways", fn := fun _ => fun
  | [d] => { results := [.lit (.bool true)], args := [d] }
  | _ => none }
def fnElseAlwaysRow : OpenClaim := { program := "ytkolnakcgjlcgaa", sum := "a3266de5cfe7a502f9588c7b5b0dc0e624f1e9159160d02ce7f413843caf9ebc", func := "loop.example/lanekernel/laws.FnElseAlways", spec := "fnElseAlways", unfollowed := true, recurses := true, apart := false }
def FnElseAlwaysSaid : Prop := fnElseAlwaysRow.holds Try.pinned (OpenSpec.ofChange fnElseAlwaysSpec)

/-- ITS FALSE NEIGHBOUR: 'it returns false'. Refute it at one input. -/
def fnElseAlwaysWrong : ChangeSpec := { name := "fnElseAlways", fn := fun _ => fun
  | [d] => { results := [.lit (.bool false)], args := [d] }
  | _ => none }
def FnElseAlwaysWrongFalsely : Prop := fnElseAlwaysRow.holds Try.pinned (OpenSpec.ofChange fnElseAlwaysWrong)

/- THE SECOND FORM. 'bulk': how many values and letters a reading holds, each counted each time it is reached (what is shared counts as often as it is met; a slice's spare places count too). A statement '..UptoSaid' is the law's where the arguments, and the package variables that the reading takes, are together of bulk at most 1048576: NARROWER than '..Said'. Prove '..Said' where nothing that the law and all that it calls make is longer than what came in: it says more and counts as full. Else prove '..UptoSaid'. A law counts once. -/
mutual
def uptoBulk {H : Type} : DataW H → Nat
  | .lit (.string bytes) => bytes.length + 1
  | .lit _ => 1
  | .nil => 1
  | .ptr d => uptoBulk d + 1
  | .slice elems spare => uptoBulkAll elems + uptoBulkAll spare + 1
  | .agg parts => uptoBulkAll parts + 1
  | .iface _ d => uptoBulk d + 1
  | .map entries => uptoBulkEntries entries + 1
  | .held _ => 1
def uptoBulkAll {H : Type} : List (DataW H) → Nat
  | [] => 0
  | d :: r => uptoBulk d + uptoBulkAll r
def uptoBulkEntries {H : Type} : List (Lit × DataW H) → Nat
  | [] => 0
  | x :: r => uptoBulkEntry x + uptoBulkEntries r
def uptoBulkEntry {H : Type} : Lit × DataW H → Nat
  | (.string bytes, d) => bytes.length + uptoBulk d + 1
  | (_, d) => uptoBulk d + 1
 end
def uptoSmall : (H : Type) → List (DataW H) → Bool := fun _ ds => decide (uptoBulkAll ds ≤ 1048576)
def OpenSpec.upto (s : _root_.Go.ChangeSpec) : _root_.Go.OpenSpec := { _root_.Go.OpenSpec.ofChange s with cond := some uptoSmall }

/-- 'laws.FnLockTrace', WHERE WHAT IT READS IS OF BULK AT MOST 1048576: true; the input reads as it did. -/
def fnLockTraceUptoRow : OpenClaim := { program := "ytkolnakcgjlcgaa", sum := "a3266de5cfe7a502f9588c7b5b0dc0e624f1e9159160d02ce7f413843caf9ebc", func := "loop.example/lanekernel/laws.FnLockTrace", spec := "fnLockTrace", unfollowed := true, recurses := true, apart := false, narrowed := true }
def FnLockTraceUptoSaid : Prop := fnLockTraceUptoRow.holds Try.pinned (OpenSpec.upto fnLockTraceSpec)

/-- 'laws.FnLockRegs', WHERE WHAT IT READS IS OF BULK AT MOST 1048576: true; the input reads as it did. -/
def fnLockRegsUptoRow : OpenClaim := { program := "ytkolnakcgjlcgaa", sum := "a3266de5cfe7a502f9588c7b5b0dc0e624f1e9159160d02ce7f413843caf9ebc", func := "loop.example/lanekernel/laws.FnLockRegs", spec := "fnLockRegs", unfollowed := true, recurses := true, apart := false, narrowed := true }
def FnLockRegsUptoSaid : Prop := fnLockRegsUptoRow.holds Try.pinned (OpenSpec.upto fnLockRegsSpec)

/-- 'laws.FnLockSplit', WHERE WHAT IT READS IS OF BULK AT MOST 1048576: true; the input reads as it did. -/
def fnLockSplitUptoRow : OpenClaim := { program := "ytkolnakcgjlcgaa", sum := "a3266de5cfe7a502f9588c7b5b0dc0e624f1e9159160d02ce7f413843caf9ebc", func := "loop.example/lanekernel/laws.FnLockSplit", spec := "fnLockSplit", unfollowed := true, recurses := true, apart := false, narrowed := true }
def FnLockSplitUptoSaid : Prop := fnLockSplitUptoRow.holds Try.pinned (OpenSpec.upto fnLockSplitSpec)

/-- 'laws.FnLockAccesses', WHERE WHAT IT READS IS OF BULK AT MOST 1048576: true; the input reads as it did. -/
def fnLockAccessesUptoRow : OpenClaim := { program := "ytkolnakcgjlcgaa", sum := "a3266de5cfe7a502f9588c7b5b0dc0e624f1e9159160d02ce7f413843caf9ebc", func := "loop.example/lanekernel/laws.FnLockAccesses", spec := "fnLockAccesses", unfollowed := true, recurses := true, apart := false, narrowed := true }
def FnLockAccessesUptoSaid : Prop := fnLockAccessesUptoRow.holds Try.pinned (OpenSpec.upto fnLockAccessesSpec)

/-- 'laws.FnTraceMasks', WHERE WHAT IT READS IS OF BULK AT MOST 1048576: true; the input reads as it did. -/
def fnTraceMasksUptoRow : OpenClaim := { program := "ytkolnakcgjlcgaa", sum := "a3266de5cfe7a502f9588c7b5b0dc0e624f1e9159160d02ce7f413843caf9ebc", func := "loop.example/lanekernel/laws.FnTraceMasks", spec := "fnTraceMasks", unfollowed := true, recurses := true, apart := false, narrowed := true }
def FnTraceMasksUptoSaid : Prop := fnTraceMasksUptoRow.holds Try.pinned (OpenSpec.upto fnTraceMasksSpec)

/-- 'laws.FnTraceMore', WHERE WHAT IT READS IS OF BULK AT MOST 1048576: true; the input reads as it did. -/
def fnTraceMoreUptoRow : OpenClaim := { program := "ytkolnakcgjlcgaa", sum := "a3266de5cfe7a502f9588c7b5b0dc0e624f1e9159160d02ce7f413843caf9ebc", func := "loop.example/lanekernel/laws.FnTraceMore", spec := "fnTraceMore", unfollowed := true, recurses := true, apart := false, narrowed := true }
def FnTraceMoreUptoSaid : Prop := fnTraceMoreUptoRow.holds Try.pinned (OpenSpec.upto fnTraceMoreSpec)

/-- 'laws.FnLaneCost', WHERE WHAT IT READS IS OF BULK AT MOST 1048576: true; the input reads as it did. -/
def fnLaneCostUptoRow : OpenClaim := { program := "ytkolnakcgjlcgaa", sum := "a3266de5cfe7a502f9588c7b5b0dc0e624f1e9159160d02ce7f413843caf9ebc", func := "loop.example/lanekernel/laws.FnLaneCost", spec := "fnLaneCost", unfollowed := true, recurses := true, apart := false, narrowed := true }
def FnLaneCostUptoSaid : Prop := fnLaneCostUptoRow.holds Try.pinned (OpenSpec.upto fnLaneCostSpec)

/-- 'laws.FnLostCost', WHERE WHAT IT READS IS OF BULK AT MOST 1048576: true; the input reads as it did. -/
def fnLostCostUptoRow : OpenClaim := { program := "ytkolnakcgjlcgaa", sum := "a3266de5cfe7a502f9588c7b5b0dc0e624f1e9159160d02ce7f413843caf9ebc", func := "loop.example/lanekernel/laws.FnLostCost", spec := "fnLostCost", unfollowed := true, recurses := true, apart := false, narrowed := true }
def FnLostCostUptoSaid : Prop := fnLostCostUptoRow.holds Try.pinned (OpenSpec.upto fnLostCostSpec)

/-- 'laws.FnLostBranch', WHERE WHAT IT READS IS OF BULK AT MOST 1048576: true; the input reads as it did. -/
def fnLostBranchUptoRow : OpenClaim := { program := "ytkolnakcgjlcgaa", sum := "a3266de5cfe7a502f9588c7b5b0dc0e624f1e9159160d02ce7f413843caf9ebc", func := "loop.example/lanekernel/laws.FnLostBranch", spec := "fnLostBranch", unfollowed := true, recurses := true, apart := false, narrowed := true }
def FnLostBranchUptoSaid : Prop := fnLostBranchUptoRow.holds Try.pinned (OpenSpec.upto fnLostBranchSpec)

/-- 'laws.FnProgramJoin', WHERE WHAT IT READS IS OF BULK AT MOST 1048576: true; the input reads as it did. -/
def fnProgramJoinUptoRow : OpenClaim := { program := "ytkolnakcgjlcgaa", sum := "a3266de5cfe7a502f9588c7b5b0dc0e624f1e9159160d02ce7f413843caf9ebc", func := "loop.example/lanekernel/laws.FnProgramJoin", spec := "fnProgramJoin", unfollowed := true, recurses := true, apart := false, narrowed := true }
def FnProgramJoinUptoSaid : Prop := fnProgramJoinUptoRow.holds Try.pinned (OpenSpec.upto fnProgramJoinSpec)

/-- 'laws.FnWrapNever', WHERE WHAT IT READS IS OF BULK AT MOST 1048576: true; the input reads as it did. -/
def fnWrapNeverUptoRow : OpenClaim := { program := "ytkolnakcgjlcgaa", sum := "a3266de5cfe7a502f9588c7b5b0dc0e624f1e9159160d02ce7f413843caf9ebc", func := "loop.example/lanekernel/laws.FnWrapNever", spec := "fnWrapNever", unfollowed := true, recurses := true, apart := false, narrowed := true }
def FnWrapNeverUptoSaid : Prop := fnWrapNeverUptoRow.holds Try.pinned (OpenSpec.upto fnWrapNeverSpec)

/-- 'laws.FnElseAlways', WHERE WHAT IT READS IS OF BULK AT MOST 1048576: true; the input reads as it did. -/
def fnElseAlwaysUptoRow : OpenClaim := { program := "ytkolnakcgjlcgaa", sum := "a3266de5cfe7a502f9588c7b5b0dc0e624f1e9159160d02ce7f413843caf9ebc", func := "loop.example/lanekernel/laws.FnElseAlways", spec := "fnElseAlways", unfollowed := true, recurses := true, apart := false, narrowed := true }
def FnElseAlwaysUptoSaid : Prop := fnElseAlwaysUptoRow.holds Try.pinned (OpenSpec.upto fnElseAlwaysSpec)

end Rows
end Go.Proofs.Ytkolnakcgjlcgaa
