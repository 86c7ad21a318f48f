/-
  No cell of these rows narrows 'for every input' (looked for: loops, veiled, ifaces, maps, wideKeys, modest, calm, conditions, laid).
  DERIVED. THE GIVEN ROWS OF THIS SEAT. 12 by the template 'for every input the law returns true; each argument reads behind the call as it read before'; 0 by the template 'total and deterministic' (their statements: YtokdfgodmhekmaaTotals.lean).
  GIVEN WITH THE SEED: the statements are not yours to turn. If you find one false, say at which input.
  Laid BY PROGRAM, IN A SANDBOX (cutbox-rows.mjs): the forced cells as the released guide's own fill.sh prints them over the translation 307b68308fe94703… (all of the seat's roots in one cut). By AI agents, Wed Nov 11 2026. No macro, syntax, notation, axiom, sorry.
-/
import Derived.Test.YtokdfgodmhekmaaChecked
import GoSem.Claim
import GoSem.ClaimJoined
import GoSem.ClaimMapViews
import Derived.JoinedTies
import Derived.KernelRfl
namespace Go.Proofs.Ytokdfgodmhekmaa
/- THE CELL 'sum', in the pinned program and in every row, IS THE sha256 OF THE DUMP (.gsa) THAT YtokdfgodmhekmaaProg.lean LOADS. Nothing in Lean hashes anything: it is a label: what it is worth is what the hold of that sum in a sandbox is worth. -/
noncomputable def Try.pinned : Pinned := { name := "ytokdfgodmhekmaa", sum := "307b68308fe9470392c3a9ab75a5e432f439a39d5965ac66794fe8ccf5eb8ce6", checked := Try.checked }
namespace Rows
def none {H : Type} : Left H := { results := [], args := [] }

/-- 'laws.FnExactRunLock': WHATEVER THE INPUT: true; the input reads as it did. -/
def fnExactRunLockSpec : ChangeSpec := { name := "fnExactRunLock", fn := fun _ => fun
  | [d1, d2, d3] => { results := [.lit (.bool true)], args := [d1, d2, d3] }
  | _ => none }
def fnExactRunLockRow : OpenClaim := { program := "ytokdfgodmhekmaa", sum := "307b68308fe9470392c3a9ab75a5e432f439a39d5965ac66794fe8ccf5eb8ce6", func := "loop.example/lanekernel/laws.FnExactRunLock", spec := "fnExactRunLock", unfollowed := true, recurses := true, apart := false }
def FnExactRunLockSaid : Prop := fnExactRunLockRow.holds Try.pinned (OpenSpec.ofChange fnExactRunLockSpec)

/-- ITS FALSE NEIGHBOUR: 'it returns false'. Refute it at one input. -/
def fnExactRunLockWrong : ChangeSpec := { name := "fnExactRunLock", fn := fun _ => fun
  | [d1, d2, d3] => { results := [.lit (.bool false)], args := [d1, d2, d3] }
  | _ => none }
def FnExactRunLockWrongFalsely : Prop := fnExactRunLockRow.holds Try.pinned (OpenSpec.ofChange fnExactRunLockWrong)

/-- 'laws.FnExactLockTrace': WHATEVER THE INPUT: true; the input reads as it did. -/
def fnExactLockTraceSpec : ChangeSpec := { name := "fnExactLockTrace", fn := fun _ => fun
  | [d1, d2, d3] => { results := [.lit (.bool true)], args := [d1, d2, d3] }
  | _ => none }
def fnExactLockTraceRow : OpenClaim := { program := "ytokdfgodmhekmaa", sum := "307b68308fe9470392c3a9ab75a5e432f439a39d5965ac66794fe8ccf5eb8ce6", func := "loop.example/lanekernel/laws.FnExactLockTrace", spec := "fnExactLockTrace", unfollowed := true, recurses := true, apart := false }
def FnExactLockTraceSaid : Prop := fnExactLockTraceRow.holds Try.pinned (OpenSpec.ofChange fnExactLockTraceSpec)

/-- ITS FALSE NEIGHBOUR: 'it returns false'. Refute it at one input. -/
def fnExactLockTraceWrong : ChangeSpec := { name := "fnExactLockTrace", fn := fun _ => fun
  | [d1, d2, d3] => { results := [.lit (.bool false)], args := [d1, d2, d3] }
  | _ => none }
def FnExactLockTraceWrongFalsely : Prop := fnExactLockTraceRow.holds Try.pinned (OpenSpec.ofChange fnExactLockTraceWrong)

/-- 'laws.FnExactLockRegs': WHATEVER THE INPUT: true; the input reads as it did. -/
def fnExactLockRegsSpec : ChangeSpec := { name := "fnExactLockRegs", fn := fun _ => fun
  | [d1, d2, d3] => { results := [.lit (.bool true)], args := [d1, d2, d3] }
  | _ => none }
def fnExactLockRegsRow : OpenClaim := { program := "ytokdfgodmhekmaa", sum := "307b68308fe9470392c3a9ab75a5e432f439a39d5965ac66794fe8ccf5eb8ce6", func := "loop.example/lanekernel/laws.FnExactLockRegs", spec := "fnExactLockRegs", unfollowed := true, recurses := true, apart := false }
def FnExactLockRegsSaid : Prop := fnExactLockRegsRow.holds Try.pinned (OpenSpec.ofChange fnExactLockRegsSpec)

/-- ITS FALSE NEIGHBOUR: 'it returns false'. Refute it at one input. -/
def fnExactLockRegsWrong : ChangeSpec := { name := "fnExactLockRegs", fn := fun _ => fun
  | [d1, d2, d3] => { results := [.lit (.bool false)], args := [d1, d2, d3] }
  | _ => none }
def FnExactLockRegsWrongFalsely : Prop := fnExactLockRegsRow.holds Try.pinned (OpenSpec.ofChange fnExactLockRegsWrong)

/-- 'laws.FnExactLockSplit': WHATEVER THE INPUT: true; the input reads as it did. -/
def fnExactLockSplitSpec : ChangeSpec := { name := "fnExactLockSplit", fn := fun _ => fun
  | [d1, d2, d3] => { results := [.lit (.bool true)], args := [d1, d2, d3] }
  | _ => none }
def fnExactLockSplitRow : OpenClaim := { program := "ytokdfgodmhekmaa", sum := "307b68308fe9470392c3a9ab75a5e432f439a39d5965ac66794fe8ccf5eb8ce6", func := "loop.example/lanekernel/laws.FnExactLockSplit", spec := "fnExactLockSplit", unfollowed := true, recurses := true, apart := false }
def FnExactLockSplitSaid : Prop := fnExactLockSplitRow.holds Try.pinned (OpenSpec.ofChange fnExactLockSplitSpec)

/-- ITS FALSE NEIGHBOUR: 'it returns false'. Refute it at one input. -/
def fnExactLockSplitWrong : ChangeSpec := { name := "fnExactLockSplit", fn := fun _ => fun
  | [d1, d2, d3] => { results := [.lit (.bool false)], args := [d1, d2, d3] }
  | _ => none }
def FnExactLockSplitWrongFalsely : Prop := fnExactLockSplitRow.holds Try.pinned (OpenSpec.ofChange fnExactLockSplitWrong)

/-- 'laws.FnExactLockAccesses': WHATEVER THE INPUT: true; the input reads as it did. -/
def fnExactLockAccessesSpec : ChangeSpec := { name := "fnExactLockAccesses", fn := fun _ => fun
  | [d1, d2, d3] => { results := [.lit (.bool true)], args := [d1, d2, d3] }
  | _ => none }
def fnExactLockAccessesRow : OpenClaim := { program := "ytokdfgodmhekmaa", sum := "307b68308fe9470392c3a9ab75a5e432f439a39d5965ac66794fe8ccf5eb8ce6", func := "loop.example/lanekernel/laws.FnExactLockAccesses", spec := "fnExactLockAccesses", unfollowed := true, recurses := true, apart := false }
def FnExactLockAccessesSaid : Prop := fnExactLockAccessesRow.holds Try.pinned (OpenSpec.ofChange fnExactLockAccessesSpec)

/-- ITS FALSE NEIGHBOUR: 'it returns false'. Refute it at one input. -/
def fnExactLockAccessesWrong : ChangeSpec := { name := "fnExactLockAccesses", fn := fun _ => fun
  | [d1, d2, d3] => { results := [.lit (.bool false)], args := [d1, d2, d3] }
  | _ => none }
def FnExactLockAccessesWrongFalsely : Prop := fnExactLockAccessesRow.holds Try.pinned (OpenSpec.ofChange fnExactLockAccessesWrong)

/-- 'laws.FnExactTraceCost': WHATEVER THE INPUT: true; the input reads as it did. -/
def fnExactTraceCostSpec : ChangeSpec := { name := "fnExactTraceCost", fn := fun _ => fun
  | [d1, d2, d3] => { results := [.lit (.bool true)], args := [d1, d2, d3] }
  | _ => none }
def fnExactTraceCostRow : OpenClaim := { program := "ytokdfgodmhekmaa", sum := "307b68308fe9470392c3a9ab75a5e432f439a39d5965ac66794fe8ccf5eb8ce6", func := "loop.example/lanekernel/laws.FnExactTraceCost", spec := "fnExactTraceCost", unfollowed := true, recurses := true, apart := false }
def FnExactTraceCostSaid : Prop := fnExactTraceCostRow.holds Try.pinned (OpenSpec.ofChange fnExactTraceCostSpec)

/-- ITS FALSE NEIGHBOUR: 'it returns false'. Refute it at one input. -/
def fnExactTraceCostWrong : ChangeSpec := { name := "fnExactTraceCost", fn := fun _ => fun
  | [d1, d2, d3] => { results := [.lit (.bool false)], args := [d1, d2, d3] }
  | _ => none }
def FnExactTraceCostWrongFalsely : Prop := fnExactTraceCostRow.holds Try.pinned (OpenSpec.ofChange fnExactTraceCostWrong)

/-- 'laws.FnExactLaneCost': WHATEVER THE INPUT: true; the input reads as it did. -/
def fnExactLaneCostSpec : ChangeSpec := { name := "fnExactLaneCost", fn := fun _ => fun
  | [d1, d2, d3, d4] => { results := [.lit (.bool true)], args := [d1, d2, d3, d4] }
  | _ => none }
def fnExactLaneCostRow : OpenClaim := { program := "ytokdfgodmhekmaa", sum := "307b68308fe9470392c3a9ab75a5e432f439a39d5965ac66794fe8ccf5eb8ce6", func := "loop.example/lanekernel/laws.FnExactLaneCost", spec := "fnExactLaneCost", unfollowed := true, recurses := true, apart := false }
def FnExactLaneCostSaid : Prop := fnExactLaneCostRow.holds Try.pinned (OpenSpec.ofChange fnExactLaneCostSpec)

/-- ITS FALSE NEIGHBOUR: 'it returns false'. Refute it at one input. -/
def fnExactLaneCostWrong : ChangeSpec := { name := "fnExactLaneCost", fn := fun _ => fun
  | [d1, d2, d3, d4] => { results := [.lit (.bool false)], args := [d1, d2, d3, d4] }
  | _ => none }
def FnExactLaneCostWrongFalsely : Prop := fnExactLaneCostRow.holds Try.pinned (OpenSpec.ofChange fnExactLaneCostWrong)

/-- 'laws.FnExactLostCost': WHATEVER THE INPUT: true; the input reads as it did. -/
def fnExactLostCostSpec : ChangeSpec := { name := "fnExactLostCost", fn := fun _ => fun
  | [d1, d2, d3] => { results := [.lit (.bool true)], args := [d1, d2, d3] }
  | _ => none }
def fnExactLostCostRow : OpenClaim := { program := "ytokdfgodmhekmaa", sum := "307b68308fe9470392c3a9ab75a5e432f439a39d5965ac66794fe8ccf5eb8ce6", func := "loop.example/lanekernel/laws.FnExactLostCost", spec := "fnExactLostCost", unfollowed := true, recurses := true, apart := false }
def FnExactLostCostSaid : Prop := fnExactLostCostRow.holds Try.pinned (OpenSpec.ofChange fnExactLostCostSpec)

/-- ITS FALSE NEIGHBOUR: 'it returns false'. Refute it at one input. -/
def fnExactLostCostWrong : ChangeSpec := { name := "fnExactLostCost", fn := fun _ => fun
  | [d1, d2, d3] => { results := [.lit (.bool false)], args := [d1, d2, d3] }
  | _ => none }
def FnExactLostCostWrongFalsely : Prop := fnExactLostCostRow.holds Try.pinned (OpenSpec.ofChange fnExactLostCostWrong)

/-- 'laws.FnExactRaceFree': WHATEVER THE INPUT: true; the input reads as it did. -/
def fnExactRaceFreeSpec : ChangeSpec := { name := "fnExactRaceFree", fn := fun _ => fun
  | [d1, d2, d3] => { results := [.lit (.bool true)], args := [d1, d2, d3] }
  | _ => none }
def fnExactRaceFreeRow : OpenClaim := { program := "ytokdfgodmhekmaa", sum := "307b68308fe9470392c3a9ab75a5e432f439a39d5965ac66794fe8ccf5eb8ce6", func := "loop.example/lanekernel/laws.FnExactRaceFree", spec := "fnExactRaceFree", unfollowed := true, recurses := true, apart := false }
def FnExactRaceFreeSaid : Prop := fnExactRaceFreeRow.holds Try.pinned (OpenSpec.ofChange fnExactRaceFreeSpec)

/-- ITS FALSE NEIGHBOUR: 'it returns false'. Refute it at one input. -/
def fnExactRaceFreeWrong : ChangeSpec := { name := "fnExactRaceFree", fn := fun _ => fun
  | [d1, d2, d3] => { results := [.lit (.bool false)], args := [d1, d2, d3] }
  | _ => none }
def FnExactRaceFreeWrongFalsely : Prop := fnExactRaceFreeRow.holds Try.pinned (OpenSpec.ofChange fnExactRaceFreeWrong)

/-- 'laws.FnExactIsSafe': WHATEVER THE INPUT: true; the input reads as it did. -/
def fnExactIsSafeSpec : ChangeSpec := { name := "fnExactIsSafe", fn := fun _ => fun
  | [d1, d2, d3] => { results := [.lit (.bool true)], args := [d1, d2, d3] }
  | _ => none }
def fnExactIsSafeRow : OpenClaim := { program := "ytokdfgodmhekmaa", sum := "307b68308fe9470392c3a9ab75a5e432f439a39d5965ac66794fe8ccf5eb8ce6", func := "loop.example/lanekernel/laws.FnExactIsSafe", spec := "fnExactIsSafe", unfollowed := true, recurses := true, apart := false }
def FnExactIsSafeSaid : Prop := fnExactIsSafeRow.holds Try.pinned (OpenSpec.ofChange fnExactIsSafeSpec)

/-- ITS FALSE NEIGHBOUR: 'it returns false'. Refute it at one input. -/
def fnExactIsSafeWrong : ChangeSpec := { name := "fnExactIsSafe", fn := fun _ => fun
  | [d1, d2, d3] => { results := [.lit (.bool false)], args := [d1, d2, d3] }
  | _ => none }
def FnExactIsSafeWrongFalsely : Prop := fnExactIsSafeRow.holds Try.pinned (OpenSpec.ofChange fnExactIsSafeWrong)

/-- 'laws.FnExactUnsafeReason': WHATEVER THE INPUT: true; the input reads as it did. -/
def fnExactUnsafeReasonSpec : ChangeSpec := { name := "fnExactUnsafeReason", fn := fun _ => fun
  | [d1, d2, d3] => { results := [.lit (.bool true)], args := [d1, d2, d3] }
  | _ => none }
def fnExactUnsafeReasonRow : OpenClaim := { program := "ytokdfgodmhekmaa", sum := "307b68308fe9470392c3a9ab75a5e432f439a39d5965ac66794fe8ccf5eb8ce6", func := "loop.example/lanekernel/laws.FnExactUnsafeReason", spec := "fnExactUnsafeReason", unfollowed := true, recurses := true, apart := false }
def FnExactUnsafeReasonSaid : Prop := fnExactUnsafeReasonRow.holds Try.pinned (OpenSpec.ofChange fnExactUnsafeReasonSpec)

/-- ITS FALSE NEIGHBOUR: 'it returns false'. Refute it at one input. -/
def fnExactUnsafeReasonWrong : ChangeSpec := { name := "fnExactUnsafeReason", fn := fun _ => fun
  | [d1, d2, d3] => { results := [.lit (.bool false)], args := [d1, d2, d3] }
  | _ => none }
def FnExactUnsafeReasonWrongFalsely : Prop := fnExactUnsafeReasonRow.holds Try.pinned (OpenSpec.ofChange fnExactUnsafeReasonWrong)

/-- 'laws.FnExactUniformHolds': WHATEVER THE INPUT: true; the input reads as it did. -/
def fnExactUniformHoldsSpec : ChangeSpec := { name := "fnExactUniformHolds", fn := fun _ => fun
  | [d1, d2, d3] => { results := [.lit (.bool true)], args := [d1, d2, d3] }
  | _ => none }
def fnExactUniformHoldsRow : OpenClaim := { program := "ytokdfgodmhekmaa", sum := "307b68308fe9470392c3a9ab75a5e432f439a39d5965ac66794fe8ccf5eb8ce6", func := "loop.example/lanekernel/laws.FnExactUniformHolds", spec := "fnExactUniformHolds", unfollowed := true, recurses := true, apart := false }
def FnExactUniformHoldsSaid : Prop := fnExactUniformHoldsRow.holds Try.pinned (OpenSpec.ofChange fnExactUniformHoldsSpec)

/-- ITS FALSE NEIGHBOUR: 'it returns false'. Refute it at one input. -/
def fnExactUniformHoldsWrong : ChangeSpec := { name := "fnExactUniformHolds", fn := fun _ => fun
  | [d1, d2, d3] => { results := [.lit (.bool false)], args := [d1, d2, d3] }
  | _ => none }
def FnExactUniformHoldsWrongFalsely : Prop := fnExactUniformHoldsRow.holds Try.pinned (OpenSpec.ofChange fnExactUniformHoldsWrong)

/- THE SECOND FORM. 'bulk': how many values and letters a reading holds, each counted each time it is reached (what is shared counts as often as it is met; a slice's spare places count too). A statement '..UptoSaid' is the law's where the arguments, and the package variables that the reading takes, are together of bulk at most 1048576: NARROWER than '..Said'. Prove '..Said' where nothing that the law and all that it calls make is longer than what came in: it says more and counts as full. Else prove '..UptoSaid'. A law counts once. -/
mutual
def uptoBulk {H : Type} : DataW H → Nat
  | .lit (.string bytes) => bytes.length + 1
  | .lit _ => 1
  | .nil => 1
  | .ptr d => uptoBulk d + 1
  | .slice elems spare => uptoBulkAll elems + uptoBulkAll spare + 1
  | .agg parts => uptoBulkAll parts + 1
  | .iface _ d => uptoBulk d + 1
  | .map entries => uptoBulkEntries entries + 1
  | .held _ => 1
def uptoBulkAll {H : Type} : List (DataW H) → Nat
  | [] => 0
  | d :: r => uptoBulk d + uptoBulkAll r
def uptoBulkEntries {H : Type} : List (Lit × DataW H) → Nat
  | [] => 0
  | x :: r => uptoBulkEntry x + uptoBulkEntries r
def uptoBulkEntry {H : Type} : Lit × DataW H → Nat
  | (.string bytes, d) => bytes.length + uptoBulk d + 1
  | (_, d) => uptoBulk d + 1
 end
def uptoSmall : (H : Type) → List (DataW H) → Bool := fun _ ds => decide (uptoBulkAll ds ≤ 1048576)
def OpenSpec.upto (s : _root_.Go.ChangeSpec) : _root_.Go.OpenSpec := { _root_.Go.OpenSpec.ofChange s with cond := some uptoSmall }

/-- 'laws.FnExactRunLock', WHERE WHAT IT READS IS OF BULK AT MOST 1048576: true; the input reads as it did. -/
def fnExactRunLockUptoRow : OpenClaim := { program := "ytokdfgodmhekmaa", sum := "307b68308fe9470392c3a9ab75a5e432f439a39d5965ac66794fe8ccf5eb8ce6", func := "loop.example/lanekernel/laws.FnExactRunLock", spec := "fnExactRunLock", unfollowed := true, recurses := true, apart := false, narrowed := true }
def FnExactRunLockUptoSaid : Prop := fnExactRunLockUptoRow.holds Try.pinned (OpenSpec.upto fnExactRunLockSpec)

/-- 'laws.FnExactLockTrace', WHERE WHAT IT READS IS OF BULK AT MOST 1048576: true; the input reads as it did. -/
def fnExactLockTraceUptoRow : OpenClaim := { program := "ytokdfgodmhekmaa", sum := "307b68308fe9470392c3a9ab75a5e432f439a39d5965ac66794fe8ccf5eb8ce6", func := "loop.example/lanekernel/laws.FnExactLockTrace", spec := "fnExactLockTrace", unfollowed := true, recurses := true, apart := false, narrowed := true }
def FnExactLockTraceUptoSaid : Prop := fnExactLockTraceUptoRow.holds Try.pinned (OpenSpec.upto fnExactLockTraceSpec)

/-- 'laws.FnExactLockRegs', WHERE WHAT IT READS IS OF BULK AT MOST 1048576: true; the input reads as it did. -/
def fnExactLockRegsUptoRow : OpenClaim := { program := "ytokdfgodmhekmaa", sum := "307b68308fe9470392c3a9ab75a5e432f439a39d5965ac66794fe8ccf5eb8ce6", func := "loop.example/lanekernel/laws.FnExactLockRegs", spec := "fnExactLockRegs", unfollowed := true, recurses := true, apart := false, narrowed := true }
def FnExactLockRegsUptoSaid : Prop := fnExactLockRegsUptoRow.holds Try.pinned (OpenSpec.upto fnExactLockRegsSpec)

/-- 'laws.FnExactLockSplit', WHERE WHAT IT READS IS OF BULK AT MOST 1048576: true; the input reads as it did. -/
def fnExactLockSplitUptoRow : OpenClaim := { program := "ytokdfgodmhekmaa", sum := "307b68308fe9470392c3a9ab75a5e432f439a39d5965ac66794fe8ccf5eb8ce6", func := "loop.example/lanekernel/laws.FnExactLockSplit", spec := "fnExactLockSplit", unfollowed := true, recurses := true, apart := false, narrowed := true }
def FnExactLockSplitUptoSaid : Prop := fnExactLockSplitUptoRow.holds Try.pinned (OpenSpec.upto fnExactLockSplitSpec)

/-- 'laws.FnExactLockAccesses', WHERE WHAT IT READS IS OF BULK AT MOST 1048576: true; the input reads as it did. -/
def fnExactLockAccessesUptoRow : OpenClaim := { program := "ytokdfgodmhekmaa", sum := "307b68308fe9470392c3a9ab75a5e432f439a39d5965ac66794fe8ccf5eb8ce6", func := "loop.example/lanekernel/laws.FnExactLockAccesses", spec := "fnExactLockAccesses", unfollowed := true, recurses := true, apart := false, narrowed := true }
def FnExactLockAccessesUptoSaid : Prop := fnExactLockAccessesUptoRow.holds Try.pinned (OpenSpec.upto fnExactLockAccessesSpec)

/-- 'laws.FnExactTraceCost', WHERE WHAT IT READS IS OF BULK AT MOST 1048576: true; the input reads as it did. -/
def fnExactTraceCostUptoRow : OpenClaim := { program := "ytokdfgodmhekmaa", sum := "307b68308fe9470392c3a9ab75a5e432f439a39d5965ac66794fe8ccf5eb8ce6", func := "loop.example/lanekernel/laws.FnExactTraceCost", spec := "fnExactTraceCost", unfollowed := true, recurses := true, apart := false, narrowed := true }
def FnExactTraceCostUptoSaid : Prop := fnExactTraceCostUptoRow.holds Try.pinned (OpenSpec.upto fnExactTraceCostSpec)

/-- 'laws.FnExactLaneCost', WHERE WHAT IT READS IS OF BULK AT MOST 1048576: true; the input reads as it did. -/
def fnExactLaneCostUptoRow : OpenClaim := { program := "ytokdfgodmhekmaa", sum := "307b68308fe9470392c3a9ab75a5e432f439a39d5965ac66794fe8ccf5eb8ce6", func := "loop.example/lanekernel/laws.FnExactLaneCost", spec := "fnExactLaneCost", unfollowed := true, recurses := true, apart := false, narrowed := true }
def FnExactLaneCostUptoSaid : Prop := fnExactLaneCostUptoRow.holds Try.pinned (OpenSpec.upto fnExactLaneCostSpec)

/-- 'laws.FnExactLostCost', WHERE WHAT IT READS IS OF BULK AT MOST 1048576: true; the input reads as it did. -/
def fnExactLostCostUptoRow : OpenClaim := { program := "ytokdfgodmhekmaa", sum := "307b68308fe9470392c3a9ab75a5e432f439a39d5965ac66794fe8ccf5eb8ce6", func := "loop.example/lanekernel/laws.FnExactLostCost", spec := "fnExactLostCost", unfollowed := true, recurses := true, apart := false, narrowed := true }
def FnExactLostCostUptoSaid : Prop := fnExactLostCostUptoRow.holds Try.pinned (OpenSpec.upto fnExactLostCostSpec)

/-- 'laws.FnExactRaceFree', WHERE WHAT IT READS IS OF BULK AT MOST 1048576: true; the input reads as it did. -/
def fnExactRaceFreeUptoRow : OpenClaim := { program := "ytokdfgodmhekmaa", sum := "307b68308fe9470392c3a9ab75a5e432f439a39d5965ac66794fe8ccf5eb8ce6", func := "loop.example/lanekernel/laws.FnExactRaceFree", spec := "fnExactRaceFree", unfollowed := true, recurses := true, apart := false, narrowed := true }
def FnExactRaceFreeUptoSaid : Prop := fnExactRaceFreeUptoRow.holds Try.pinned (OpenSpec.upto fnExactRaceFreeSpec)

/-- 'laws.FnExactIsSafe', WHERE WHAT IT READS IS OF BULK AT MOST 1048576: true; the input reads as it did. -/
def fnExactIsSafeUptoRow : OpenClaim := { program := "ytokdfgodmhekmaa", sum := "307b68308fe9470392c3a9ab75a5e432f439a39d5965ac66794fe8ccf5eb8ce6", func := "loop.example/lanekernel/laws.FnExactIsSafe", spec := "fnExactIsSafe", unfollowed := true, recurses := true, apart := false, narrowed := true }
def FnExactIsSafeUptoSaid : Prop := fnExactIsSafeUptoRow.holds Try.pinned (OpenSpec.upto fnExactIsSafeSpec)

/-- 'laws.FnExactUnsafeReason', WHERE WHAT IT READS IS OF BULK AT MOST 1048576: true; the input reads as it did. -/
def fnExactUnsafeReasonUptoRow : OpenClaim := { program := "ytokdfgodmhekmaa", sum := "307b68308fe9470392c3a9ab75a5e432f439a39d5965ac66794fe8ccf5eb8ce6", func := "loop.example/lanekernel/laws.FnExactUnsafeReason", spec := "fnExactUnsafeReason", unfollowed := true, recurses := true, apart := false, narrowed := true }
def FnExactUnsafeReasonUptoSaid : Prop := fnExactUnsafeReasonUptoRow.holds Try.pinned (OpenSpec.upto fnExactUnsafeReasonSpec)

/-- 'laws.FnExactUniformHolds', WHERE WHAT IT READS IS OF BULK AT MOST 1048576: true; the input reads as it did. -/
def fnExactUniformHoldsUptoRow : OpenClaim := { program := "ytokdfgodmhekmaa", sum := "307b68308fe9470392c3a9ab75a5e432f439a39d5965ac66794fe8ccf5eb8ce6", func := "loop.example/lanekernel/laws.FnExactUniformHolds", spec := "fnExactUniformHolds", unfollowed := true, recurses := true, apart := false, narrowed := true }
def FnExactUniformHoldsUptoSaid : Prop := fnExactUniformHoldsUptoRow.holds Try.pinned (OpenSpec.upto fnExactUniformHoldsSpec)

end Rows
end Go.Proofs.Ytokdfgodmhekmaa
