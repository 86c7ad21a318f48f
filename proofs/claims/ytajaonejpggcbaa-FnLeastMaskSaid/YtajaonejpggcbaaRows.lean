/-
  No cell of these rows narrows 'for every input' (looked for: loops, veiled, ifaces, maps, wideKeys, modest, calm, conditions, laid).
  DERIVED. THE GIVEN ROWS OF THIS SEAT. 10 by the template 'for every input the law returns true; each argument reads behind the call as it read before'; 0 by the template 'total and deterministic' (their statements: YtajaonejpggcbaaTotals.lean).
  GIVEN WITH THE SEED: the statements are not yours to turn. If you find one false, say at which input.
  Laid BY PROGRAM, IN A SANDBOX (cutbox-rows.mjs): the forced cells as the released guide's own fill.sh prints them over the translation 0a3d34177d796de8… (all of the seat's roots in one cut). By AI agents, Wed Nov 11 2026. No macro, syntax, notation, axiom, sorry.
-/
import Derived.Test.YtajaonejpggcbaaChecked
import GoSem.Claim
import GoSem.ClaimJoined
import GoSem.ClaimMapViews
import Derived.JoinedTies
import Derived.KernelRfl
namespace Go.Proofs.Ytajaonejpggcbaa
/- THE CELL 'sum', in the pinned program and in every row, IS THE sha256 OF THE DUMP (.gsa) THAT YtajaonejpggcbaaProg.lean LOADS. Nothing in Lean hashes anything: it is a label: what it is worth is what the hold of that sum in a sandbox is worth. -/
noncomputable def Try.pinned : Pinned := { name := "ytajaonejpggcbaa", sum := "0a3d34177d796de87f48b58713c4432e2b1ddb4f071bff534fa13af525948289", checked := Try.checked }
namespace Rows
def none {H : Type} : Left H := { results := [], args := [] }

/-- 'laws.FnExactLeastMask': WHATEVER THE INPUT: true; the input reads as it did. -/
def fnExactLeastMaskSpec : ChangeSpec := { name := "fnExactLeastMask", fn := fun _ => fun
  | [d1, d2] => { results := [.lit (.bool true)], args := [d1, d2] }
  | _ => none }
def fnExactLeastMaskRow : OpenClaim := { program := "ytajaonejpggcbaa", sum := "0a3d34177d796de87f48b58713c4432e2b1ddb4f071bff534fa13af525948289", func := "loop.example/lanekernel/laws.FnExactLeastMask", spec := "fnExactLeastMask", unfollowed := true, recurses := true, apart := false }
def FnExactLeastMaskSaid : Prop := fnExactLeastMaskRow.holds Try.pinned (OpenSpec.ofChange fnExactLeastMaskSpec)

/-- ITS FALSE NEIGHBOUR: 'it returns false'. Refute it at one input. -/
def fnExactLeastMaskWrong : ChangeSpec := { name := "fnExactLeastMask", fn := fun _ => fun
  | [d1, d2] => { results := [.lit (.bool false)], args := [d1, d2] }
  | _ => none }
def FnExactLeastMaskWrongFalsely : Prop := fnExactLeastMaskRow.holds Try.pinned (OpenSpec.ofChange fnExactLeastMaskWrong)

/-- 'laws.FnExactRunLeast': WHATEVER THE INPUT: true; the input reads as it did. -/
def fnExactRunLeastSpec : ChangeSpec := { name := "fnExactRunLeast", fn := fun _ => fun
  | [d1, d2, d3] => { results := [.lit (.bool true)], args := [d1, d2, d3] }
  | _ => none }
def fnExactRunLeastRow : OpenClaim := { program := "ytajaonejpggcbaa", sum := "0a3d34177d796de87f48b58713c4432e2b1ddb4f071bff534fa13af525948289", func := "loop.example/lanekernel/laws.FnExactRunLeast", spec := "fnExactRunLeast", unfollowed := true, recurses := true, apart := false }
def FnExactRunLeastSaid : Prop := fnExactRunLeastRow.holds Try.pinned (OpenSpec.ofChange fnExactRunLeastSpec)

/-- ITS FALSE NEIGHBOUR: 'it returns false'. Refute it at one input. -/
def fnExactRunLeastWrong : ChangeSpec := { name := "fnExactRunLeast", fn := fun _ => fun
  | [d1, d2, d3] => { results := [.lit (.bool false)], args := [d1, d2, d3] }
  | _ => none }
def FnExactRunLeastWrongFalsely : Prop := fnExactRunLeastRow.holds Try.pinned (OpenSpec.ofChange fnExactRunLeastWrong)

/-- 'laws.FnExactLeastTrace': WHATEVER THE INPUT: true; the input reads as it did. -/
def fnExactLeastTraceSpec : ChangeSpec := { name := "fnExactLeastTrace", fn := fun _ => fun
  | [d1, d2, d3] => { results := [.lit (.bool true)], args := [d1, d2, d3] }
  | _ => none }
def fnExactLeastTraceRow : OpenClaim := { program := "ytajaonejpggcbaa", sum := "0a3d34177d796de87f48b58713c4432e2b1ddb4f071bff534fa13af525948289", func := "loop.example/lanekernel/laws.FnExactLeastTrace", spec := "fnExactLeastTrace", unfollowed := true, recurses := true, apart := false }
def FnExactLeastTraceSaid : Prop := fnExactLeastTraceRow.holds Try.pinned (OpenSpec.ofChange fnExactLeastTraceSpec)

/-- ITS FALSE NEIGHBOUR: 'it returns false'. Refute it at one input. -/
def fnExactLeastTraceWrong : ChangeSpec := { name := "fnExactLeastTrace", fn := fun _ => fun
  | [d1, d2, d3] => { results := [.lit (.bool false)], args := [d1, d2, d3] }
  | _ => none }
def FnExactLeastTraceWrongFalsely : Prop := fnExactLeastTraceRow.holds Try.pinned (OpenSpec.ofChange fnExactLeastTraceWrong)

/-- 'laws.FnLeastMask': WHATEVER THE INPUT: true; the input reads as it did. -/
def fnLeastMaskSpec : ChangeSpec := { name := "fnLeastMask", fn := fun _ => fun
  | [d] => { results := [.lit (.bool true)], args := [d] }
  | _ => none }
def fnLeastMaskRow : OpenClaim := { program := "ytajaonejpggcbaa", sum := "0a3d34177d796de87f48b58713c4432e2b1ddb4f071bff534fa13af525948289", func := "loop.example/lanekernel/laws.FnLeastMask", spec := "fnLeastMask", unfollowed := true, recurses := true, apart := false }
def FnLeastMaskSaid : Prop := fnLeastMaskRow.holds Try.pinned (OpenSpec.ofChange fnLeastMaskSpec)

/-- ITS FALSE NEIGHBOUR: 'it returns false'. Refute it at one input. -/
def fnLeastMaskWrong : ChangeSpec := { name := "fnLeastMask", fn := fun _ => fun
  | [d] => { results := [.lit (.bool false)], args := [d] }
  | _ => none }
def FnLeastMaskWrongFalsely : Prop := fnLeastMaskRow.holds Try.pinned (OpenSpec.ofChange fnLeastMaskWrong)

/-- 'laws.FnLeastOne': WHATEVER THE INPUT: true; the input reads as it did. -/
def fnLeastOneSpec : ChangeSpec := { name := "fnLeastOne", fn := fun _ => fun
  | [d] => { results := [.lit (.bool true)], args := [d] }
  | _ => none }
def fnLeastOneRow : OpenClaim := { program := "ytajaonejpggcbaa", sum := "0a3d34177d796de87f48b58713c4432e2b1ddb4f071bff534fa13af525948289", func := "loop.example/lanekernel/laws.FnLeastOne", spec := "fnLeastOne", unfollowed := true, recurses := true, apart := false }
def FnLeastOneSaid : Prop := fnLeastOneRow.holds Try.pinned (OpenSpec.ofChange fnLeastOneSpec)

/-- ITS FALSE NEIGHBOUR: 'it returns false'. Refute it at one input. -/
def fnLeastOneWrong : ChangeSpec := { name := "fnLeastOne", fn := fun _ => fun
  | [d] => { results := [.lit (.bool false)], args := [d] }
  | _ => none }
def FnLeastOneWrongFalsely : Prop := fnLeastOneRow.holds Try.pinned (OpenSpec.ofChange fnLeastOneWrong)

/-- 'laws.FnRunLeast': WHATEVER THE INPUT: true; the input reads as it did. -/
def fnRunLeastSpec : ChangeSpec := { name := "fnRunLeast", fn := fun _ => fun
  | [d] => { results := [.lit (.bool true)], args := [d] }
  | _ => none }
def fnRunLeastRow : OpenClaim := { program := "ytajaonejpggcbaa", sum := "0a3d34177d796de87f48b58713c4432e2b1ddb4f071bff534fa13af525948289", func := "loop.example/lanekernel/laws.FnRunLeast", spec := "fnRunLeast", unfollowed := true, recurses := true, apart := false }
def FnRunLeastSaid : Prop := fnRunLeastRow.holds Try.pinned (OpenSpec.ofChange fnRunLeastSpec)

/-- ITS FALSE NEIGHBOUR: 'it returns false'. Refute it at one input. -/
def fnRunLeastWrong : ChangeSpec := { name := "fnRunLeast", fn := fun _ => fun
  | [d] => { results := [.lit (.bool false)], args := [d] }
  | _ => none }
def FnRunLeastWrongFalsely : Prop := fnRunLeastRow.holds Try.pinned (OpenSpec.ofChange fnRunLeastWrong)

/-- 'laws.FnLeastTrace': WHATEVER THE INPUT: true; the input reads as it did. -/
def fnLeastTraceSpec : ChangeSpec := { name := "fnLeastTrace", fn := fun _ => fun
  | [d] => { results := [.lit (.bool true)], args := [d] }
  | _ => none }
def fnLeastTraceRow : OpenClaim := { program := "ytajaonejpggcbaa", sum := "0a3d34177d796de87f48b58713c4432e2b1ddb4f071bff534fa13af525948289", func := "loop.example/lanekernel/laws.FnLeastTrace", spec := "fnLeastTrace", unfollowed := true, recurses := true, apart := false }
def FnLeastTraceSaid : Prop := fnLeastTraceRow.holds Try.pinned (OpenSpec.ofChange fnLeastTraceSpec)

/-- ITS FALSE NEIGHBOUR: 'it returns false'. Refute it at one input. -/
def fnLeastTraceWrong : ChangeSpec := { name := "fnLeastTrace", fn := fun _ => fun
  | [d] => { results := [.lit (.bool false)], args := [d] }
  | _ => none }
def FnLeastTraceWrongFalsely : Prop := fnLeastTraceRow.holds Try.pinned (OpenSpec.ofChange fnLeastTraceWrong)

/-- 'laws.FnRunLock': WHATEVER THE INPUT: true; the input reads as it did. -/
def fnRunLockSpec : ChangeSpec := { name := "fnRunLock", fn := fun _ => fun
  | [d] => { results := [.lit (.bool true)], args := [d] }
  | _ => none }
def fnRunLockRow : OpenClaim := { program := "ytajaonejpggcbaa", sum := "0a3d34177d796de87f48b58713c4432e2b1ddb4f071bff534fa13af525948289", func := "loop.example/lanekernel/laws.FnRunLock", spec := "fnRunLock", unfollowed := true, recurses := true, apart := false }
def FnRunLockSaid : Prop := fnRunLockRow.holds Try.pinned (OpenSpec.ofChange fnRunLockSpec)

/-- ITS FALSE NEIGHBOUR: 'it returns false'. Refute it at one input. -/
def fnRunLockWrong : ChangeSpec := { name := "fnRunLock", fn := fun _ => fun
  | [d] => { results := [.lit (.bool false)], args := [d] }
  | _ => none }
def FnRunLockWrongFalsely : Prop := fnRunLockRow.holds Try.pinned (OpenSpec.ofChange fnRunLockWrong)

/-- 'laws.FnIsSafe': WHATEVER THE INPUT: true; the input reads as it did. -/
def fnIsSafeSpec : ChangeSpec := { name := "fnIsSafe", fn := fun _ => fun
  | [d1, d2] => { results := [.lit (.bool true)], args := [d1, d2] }
  | _ => none }
def fnIsSafeRow : OpenClaim := { program := "ytajaonejpggcbaa", sum := "0a3d34177d796de87f48b58713c4432e2b1ddb4f071bff534fa13af525948289", func := "loop.example/lanekernel/laws.FnIsSafe", spec := "fnIsSafe", unfollowed := true, recurses := true, apart := false }
def FnIsSafeSaid : Prop := fnIsSafeRow.holds Try.pinned (OpenSpec.ofChange fnIsSafeSpec)

/-- ITS FALSE NEIGHBOUR: 'it returns false'. Refute it at one input. -/
def fnIsSafeWrong : ChangeSpec := { name := "fnIsSafe", fn := fun _ => fun
  | [d1, d2] => { results := [.lit (.bool false)], args := [d1, d2] }
  | _ => none }
def FnIsSafeWrongFalsely : Prop := fnIsSafeRow.holds Try.pinned (OpenSpec.ofChange fnIsSafeWrong)

/-- 'laws.FnLockOne': WHATEVER THE INPUT: true; the input reads as it did. -/
def fnLockOneSpec : ChangeSpec := { name := "fnLockOne", fn := fun _ => fun
  | [d] => { results := [.lit (.bool true)], args := [d] }
  | _ => none }
def fnLockOneRow : OpenClaim := { program := "ytajaonejpggcbaa", sum := "0a3d34177d796de87f48b58713c4432e2b1ddb4f071bff534fa13af525948289", func := "loop.example/lanekernel/laws.FnLockOne", spec := "fnLockOne", unfollowed := true, recurses := true, apart := false }
def FnLockOneSaid : Prop := fnLockOneRow.holds Try.pinned (OpenSpec.ofChange fnLockOneSpec)

/-- ITS FALSE NEIGHBOUR: 'it returns false'. Refute it at one input. -/
def fnLockOneWrong : ChangeSpec := { name := "fnLockOne", fn := fun _ => fun
  | [d] => { results := [.lit (.bool false)], args := [d] }
  | _ => none }
def FnLockOneWrongFalsely : Prop := fnLockOneRow.holds Try.pinned (OpenSpec.ofChange fnLockOneWrong)

/- THE SECOND FORM. 'bulk': how many values and letters a reading holds, each counted each time it is reached (what is shared counts as often as it is met; a slice's spare places count too). A statement '..UptoSaid' is the law's where the arguments, and the package variables that the reading takes, are together of bulk at most 1048576: NARROWER than '..Said'. Prove '..Said' where nothing that the law and all that it calls make is longer than what came in: it says more and counts as full. Else prove '..UptoSaid'. A law counts once. -/
mutual
def uptoBulk {H : Type} : DataW H → Nat
  | .lit (.string bytes) => bytes.length + 1
  | .lit _ => 1
  | .nil => 1
  | .ptr d => uptoBulk d + 1
  | .slice elems spare => uptoBulkAll elems + uptoBulkAll spare + 1
  | .agg parts => uptoBulkAll parts + 1
  | .iface _ d => uptoBulk d + 1
  | .map entries => uptoBulkEntries entries + 1
  | .held _ => 1
def uptoBulkAll {H : Type} : List (DataW H) → Nat
  | [] => 0
  | d :: r => uptoBulk d + uptoBulkAll r
def uptoBulkEntries {H : Type} : List (Lit × DataW H) → Nat
  | [] => 0
  | x :: r => uptoBulkEntry x + uptoBulkEntries r
def uptoBulkEntry {H : Type} : Lit × DataW H → Nat
  | (.string bytes, d) => bytes.length + uptoBulk d + 1
  | (_, d) => uptoBulk d + 1
 end
def uptoSmall : (H : Type) → List (DataW H) → Bool := fun _ ds => decide (uptoBulkAll ds ≤ 1048576)
def OpenSpec.upto (s : _root_.Go.ChangeSpec) : _root_.Go.OpenSpec := { _root_.Go.OpenSpec.ofChange s with cond := some uptoSmall }

/-- 'laws.FnExactLeastMask', WHERE WHAT IT READS IS OF BULK AT MOST 1048576: true; the input reads as it did. -/
def fnExactLeastMaskUptoRow : OpenClaim := { program := "ytajaonejpggcbaa", sum := "0a3d34177d796de87f48b58713c4432e2b1ddb4f071bff534fa13af525948289", func := "loop.example/lanekernel/laws.FnExactLeastMask", spec := "fnExactLeastMask", unfollowed := true, recurses := true, apart := false, narrowed := true }
def FnExactLeastMaskUptoSaid : Prop := fnExactLeastMaskUptoRow.holds Try.pinned (OpenSpec.upto fnExactLeastMaskSpec)

/-- 'laws.FnExactRunLeast', WHERE WHAT IT READS IS OF BULK AT MOST 1048576: true; the input reads as it did. -/
def fnExactRunLeastUptoRow : OpenClaim := { program := "ytajaonejpggcbaa", sum := "0a3d34177d796de87f48b58713c4432e2b1ddb4f071bff534fa13af525948289", func := "loop.example/lanekernel/laws.FnExactRunLeast", spec := "fnExactRunLeast", unfollowed := true, recurses := true, apart := false, narrowed := true }
def FnExactRunLeastUptoSaid : Prop := fnExactRunLeastUptoRow.holds Try.pinned (OpenSpec.upto fnExactRunLeastSpec)

/-- 'laws.FnExactLeastTrace', WHERE WHAT IT READS IS OF BULK AT MOST 1048576: true; the input reads as it did. -/
def fnExactLeastTraceUptoRow : OpenClaim := { program := "ytajaonejpggcbaa", sum := "0a3d34177d796de87f48b58713c4432e2b1ddb4f071bff534fa13af525948289", func := "loop.example/lanekernel/laws.FnExactLeastTrace", spec := "fnExactLeastTrace", unfollowed := true, recurses := true, apart := false, narrowed := true }
def FnExactLeastTraceUptoSaid : Prop := fnExactLeastTraceUptoRow.holds Try.pinned (OpenSpec.upto fnExactLeastTraceSpec)

/-- 'laws.FnLeastMask', WHERE WHAT IT READS IS OF BULK AT MOST 1048576: true; the input reads as it did. -/
def fnLeastMaskUptoRow : OpenClaim := { program := "ytajaonejpggcbaa", sum := "0a3d34177d796de87f48b58713c4432e2b1ddb4f071bff534fa13af525948289", func := "loop.example/lanekernel/laws.FnLeastMask", spec := "fnLeastMask", unfollowed := true, recurses := true, apart := false, narrowed := true }
def FnLeastMaskUptoSaid : Prop := fnLeastMaskUptoRow.holds Try.pinned (OpenSpec.upto fnLeastMaskSpec)

/-- 'laws.FnLeastOne', WHERE WHAT IT READS IS OF BULK AT MOST 1048576: true; the input reads as it did. -/
def fnLeastOneUptoRow : OpenClaim := { program := "ytajaonejpggcbaa", sum := "0a3d34177d796de87f48b58713c4432e2b1ddb4f071bff534fa13af525948289", func := "loop.example/lanekernel/laws.FnLeastOne", spec := "fnLeastOne", unfollowed := true, recurses := true, apart := false, narrowed := true }
def FnLeastOneUptoSaid : Prop := fnLeastOneUptoRow.holds Try.pinned (OpenSpec.upto fnLeastOneSpec)

/-- 'laws.FnRunLeast', WHERE WHAT IT READS IS OF BULK AT MOST 1048576: true; the input reads as it did. -/
def fnRunLeastUptoRow : OpenClaim := { program := "ytajaonejpggcbaa", sum := "0a3d34177d796de87f48b58713c4432e2b1ddb4f071bff534fa13af525948289", func := "loop.example/lanekernel/laws.FnRunLeast", spec := "fnRunLeast", unfollowed := true, recurses := true, apart := false, narrowed := true }
def FnRunLeastUptoSaid : Prop := fnRunLeastUptoRow.holds Try.pinned (OpenSpec.upto fnRunLeastSpec)

/-- 'laws.FnLeastTrace', WHERE WHAT IT READS IS OF BULK AT MOST 1048576: true; the input reads as it did. -/
def fnLeastTraceUptoRow : OpenClaim := { program := "ytajaonejpggcbaa", sum := "0a3d34177d796de87f48b58713c4432e2b1ddb4f071bff534fa13af525948289", func := "loop.example/lanekernel/laws.FnLeastTrace", spec := "fnLeastTrace", unfollowed := true, recurses := true, apart := false, narrowed := true }
def FnLeastTraceUptoSaid : Prop := fnLeastTraceUptoRow.holds Try.pinned (OpenSpec.upto fnLeastTraceSpec)

/-- 'laws.FnRunLock', WHERE WHAT IT READS IS OF BULK AT MOST 1048576: true; the input reads as it did. -/
def fnRunLockUptoRow : OpenClaim := { program := "ytajaonejpggcbaa", sum := "0a3d34177d796de87f48b58713c4432e2b1ddb4f071bff534fa13af525948289", func := "loop.example/lanekernel/laws.FnRunLock", spec := "fnRunLock", unfollowed := true, recurses := true, apart := false, narrowed := true }
def FnRunLockUptoSaid : Prop := fnRunLockUptoRow.holds Try.pinned (OpenSpec.upto fnRunLockSpec)

/-- 'laws.FnIsSafe', WHERE WHAT IT READS IS OF BULK AT MOST 1048576: true; the input reads as it did. -/
def fnIsSafeUptoRow : OpenClaim := { program := "ytajaonejpggcbaa", sum := "0a3d34177d796de87f48b58713c4432e2b1ddb4f071bff534fa13af525948289", func := "loop.example/lanekernel/laws.FnIsSafe", spec := "fnIsSafe", unfollowed := true, recurses := true, apart := false, narrowed := true }
def FnIsSafeUptoSaid : Prop := fnIsSafeUptoRow.holds Try.pinned (OpenSpec.upto fnIsSafeSpec)

/-- 'laws.FnLockOne', WHERE WHAT IT READS IS OF BULK AT MOST 1048576: true; the input reads as it did. -/
def fnLockOneUptoRow : OpenClaim := { program := "ytajaonejpggcbaa", sum := "0a3d34177d796de87f48b58713c4432e2b1ddb4f071bff534fa13af525948289", func := "loop.example/lanekernel/laws.FnLockOne", spec := "fnLockOne", unfollowed := true, recurses := true, apart := false, narrowed := true }
def FnLockOneUptoSaid : Prop := fnLockOneUptoRow.holds Try.pinned (OpenSpec.upto fnLockOneSpec)

end Rows
end Go.Proofs.Ytajaonejpggcbaa
