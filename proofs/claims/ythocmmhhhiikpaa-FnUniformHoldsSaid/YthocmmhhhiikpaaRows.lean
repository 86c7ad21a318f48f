/-
  No cell of these rows narrows 'for every input' (looked for: loops, veiled, ifaces, maps, wideKeys, modest, calm, conditions, laid).
  DERIVED. THE GIVEN ROWS OF THIS SEAT. 7 by the template 'for every input the law returns true; each argument reads behind the call as it read before'; 0 by the template 'total and deterministic' (their statements: YthocmmhhhiikpaaTotals.lean).
  GIVEN WITH THE SEED: the statements are not yours to turn. If you find one false, say at which input.
  Laid BY PROGRAM, IN A SANDBOX (cutbox-rows.mjs): the forced cells as the released guide's own fill.sh prints them over the translation ca89a7e465095c47… (all of the seat's roots in one cut). By AI agents, Wed Nov 11 2026. No macro, syntax, notation, axiom, sorry.
-/
import Derived.Test.YthocmmhhhiikpaaChecked
import GoSem.Claim
import GoSem.ClaimJoined
import GoSem.ClaimMapViews
import Derived.JoinedTies
import Derived.KernelRfl
namespace Go.Proofs.Ythocmmhhhiikpaa
/- THE CELL 'sum', in the pinned program and in every row, IS THE sha256 OF THE DUMP (.gsa) THAT YthocmmhhhiikpaaProg.lean LOADS. Nothing in Lean hashes anything: it is a label: what it is worth is what the hold of that sum in a sandbox is worth. -/
noncomputable def Try.pinned : Pinned := { name := "ythocmmhhhiikpaa", sum := "ca89a7e465095c476c846935e55edd7ad7f1bc4c4d78aa24605d4d7d41749cda", checked := Try.checked }
namespace Rows
def none {H : Type} : Left H := { results := [], args := [] }

/-- 'laws.FnExactUniformSets': WHATEVER THE INPUT: true; the input reads as it did. -/
def fnExactUniformSetsSpec : ChangeSpec := { name := "fnExactUniformSets", fn := fun _ => fun
  | [d] => { results := [.lit (.bool true)], args := [d] }
  | _ => none }
def fnExactUniformSetsRow : OpenClaim := { program := "ythocmmhhhiikpaa", sum := "ca89a7e465095c476c846935e55edd7ad7f1bc4c4d78aa24605d4d7d41749cda", func := "loop.example/lanekernel/laws.FnExactUniformSets", spec := "fnExactUniformSets", recurses := true, apart := false }
def FnExactUniformSetsSaid : Prop := fnExactUniformSetsRow.holds Try.pinned (OpenSpec.ofChange fnExactUniformSetsSpec)

/-- ITS FALSE NEIGHBOUR: 'it returns false'. Refute it at one input. -/
def fnExactUniformSetsWrong : ChangeSpec := { name := "fnExactUniformSets", fn := fun _ => fun
  | [d] => { results := [.lit (.bool false)], args := [d] }
  | _ => none }
def FnExactUniformSetsWrongFalsely : Prop := fnExactUniformSetsRow.holds Try.pinned (OpenSpec.ofChange fnExactUniformSetsWrong)

/-- 'laws.FnExactUniformBlocks': WHATEVER THE INPUT: true; the input reads as it did. -/
def fnExactUniformBlocksSpec : ChangeSpec := { name := "fnExactUniformBlocks", fn := fun _ => fun
  | [d] => { results := [.lit (.bool true)], args := [d] }
  | _ => none }
def fnExactUniformBlocksRow : OpenClaim := { program := "ythocmmhhhiikpaa", sum := "ca89a7e465095c476c846935e55edd7ad7f1bc4c4d78aa24605d4d7d41749cda", func := "loop.example/lanekernel/laws.FnExactUniformBlocks", spec := "fnExactUniformBlocks", recurses := true, apart := false }
def FnExactUniformBlocksSaid : Prop := fnExactUniformBlocksRow.holds Try.pinned (OpenSpec.ofChange fnExactUniformBlocksSpec)

/-- ITS FALSE NEIGHBOUR: 'it returns false'. Refute it at one input. -/
def fnExactUniformBlocksWrong : ChangeSpec := { name := "fnExactUniformBlocks", fn := fun _ => fun
  | [d] => { results := [.lit (.bool false)], args := [d] }
  | _ => none }
def FnExactUniformBlocksWrongFalsely : Prop := fnExactUniformBlocksRow.holds Try.pinned (OpenSpec.ofChange fnExactUniformBlocksWrong)

/-- 'laws.FnUniformSets': WHATEVER THE INPUT: true; the input reads as it did. -/
def fnUniformSetsSpec : ChangeSpec := { name := "fnUniformSets", fn := fun _ => fun
  | [d] => { results := [.lit (.bool true)], args := [d] }
  | _ => none }
def fnUniformSetsRow : OpenClaim := { program := "ythocmmhhhiikpaa", sum := "ca89a7e465095c476c846935e55edd7ad7f1bc4c4d78aa24605d4d7d41749cda", func := "loop.example/lanekernel/laws.FnUniformSets", spec := "fnUniformSets", recurses := true, apart := false }
def FnUniformSetsSaid : Prop := fnUniformSetsRow.holds Try.pinned (OpenSpec.ofChange fnUniformSetsSpec)

/-- ITS FALSE NEIGHBOUR: 'it returns false'. Refute it at one input. -/
def fnUniformSetsWrong : ChangeSpec := { name := "fnUniformSets", fn := fun _ => fun
  | [d] => { results := [.lit (.bool false)], args := [d] }
  | _ => none }
def FnUniformSetsWrongFalsely : Prop := fnUniformSetsRow.holds Try.pinned (OpenSpec.ofChange fnUniformSetsWrong)

/-- 'laws.FnUniformLane': WHATEVER THE INPUT: true; the input reads as it did. -/
def fnUniformLaneSpec : ChangeSpec := { name := "fnUniformLane", fn := fun _ => fun
  | [d1, d2] => { results := [.lit (.bool true)], args := [d1, d2] }
  | _ => none }
def fnUniformLaneRow : OpenClaim := { program := "ythocmmhhhiikpaa", sum := "ca89a7e465095c476c846935e55edd7ad7f1bc4c4d78aa24605d4d7d41749cda", func := "loop.example/lanekernel/laws.FnUniformLane", spec := "fnUniformLane", recurses := true, apart := false }
def FnUniformLaneSaid : Prop := fnUniformLaneRow.holds Try.pinned (OpenSpec.ofChange fnUniformLaneSpec)

/-- ITS FALSE NEIGHBOUR: 'it returns false'. Refute it at one input. -/
def fnUniformLaneWrong : ChangeSpec := { name := "fnUniformLane", fn := fun _ => fun
  | [d1, d2] => { results := [.lit (.bool false)], args := [d1, d2] }
  | _ => none }
def FnUniformLaneWrongFalsely : Prop := fnUniformLaneRow.holds Try.pinned (OpenSpec.ofChange fnUniformLaneWrong)

/-- 'laws.FnUniformLess': WHATEVER THE INPUT: true; the input reads as it did. -/
def fnUniformLessSpec : ChangeSpec := { name := "fnUniformLess", fn := fun _ => fun
  | [d1, d2] => { results := [.lit (.bool true)], args := [d1, d2] }
  | _ => none }
def fnUniformLessRow : OpenClaim := { program := "ythocmmhhhiikpaa", sum := "ca89a7e465095c476c846935e55edd7ad7f1bc4c4d78aa24605d4d7d41749cda", func := "loop.example/lanekernel/laws.FnUniformLess", spec := "fnUniformLess", recurses := true, apart := false }
def FnUniformLessSaid : Prop := fnUniformLessRow.holds Try.pinned (OpenSpec.ofChange fnUniformLessSpec)

/-- ITS FALSE NEIGHBOUR: 'it returns false'. Refute it at one input. -/
def fnUniformLessWrong : ChangeSpec := { name := "fnUniformLess", fn := fun _ => fun
  | [d1, d2] => { results := [.lit (.bool false)], args := [d1, d2] }
  | _ => none }
def FnUniformLessWrongFalsely : Prop := fnUniformLessRow.holds Try.pinned (OpenSpec.ofChange fnUniformLessWrong)

/-- 'laws.FnUniformBlocks': WHATEVER THE INPUT: true; the input reads as it did. -/
def fnUniformBlocksSpec : ChangeSpec := { name := "fnUniformBlocks", fn := fun _ => fun
  | [d] => { results := [.lit (.bool true)], args := [d] }
  | _ => none }
def fnUniformBlocksRow : OpenClaim := { program := "ythocmmhhhiikpaa", sum := "ca89a7e465095c476c846935e55edd7ad7f1bc4c4d78aa24605d4d7d41749cda", func := "loop.example/lanekernel/laws.FnUniformBlocks", spec := "fnUniformBlocks", unfollowed := true, recurses := true, apart := false }
def FnUniformBlocksSaid : Prop := fnUniformBlocksRow.holds Try.pinned (OpenSpec.ofChange fnUniformBlocksSpec)

/-- ITS FALSE NEIGHBOUR: 'it returns false'. Refute it at one input. -/
def fnUniformBlocksWrong : ChangeSpec := { name := "fnUniformBlocks", fn := fun _ => fun
  | [d] => { results := [.lit (.bool false)], args := [d] }
  | _ => none }
def FnUniformBlocksWrongFalsely : Prop := fnUniformBlocksRow.holds Try.pinned (OpenSpec.ofChange fnUniformBlocksWrong)

/-- 'laws.FnUniformHolds': WHATEVER THE INPUT: true; the input reads as it did. -/
def fnUniformHoldsSpec : ChangeSpec := { name := "fnUniformHolds", fn := fun _ => fun
  | [d] => { results := [.lit (.bool true)], args := [d] }
  | _ => none }
def fnUniformHoldsRow : OpenClaim := { program := "ythocmmhhhiikpaa", sum := "ca89a7e465095c476c846935e55edd7ad7f1bc4c4d78aa24605d4d7d41749cda", func := "loop.example/lanekernel/laws.FnUniformHolds", spec := "fnUniformHolds", unfollowed := true, recurses := true, apart := false }
def FnUniformHoldsSaid : Prop := fnUniformHoldsRow.holds Try.pinned (OpenSpec.ofChange fnUniformHoldsSpec)

/-- ITS FALSE NEIGHBOUR: 'it returns false'. Refute it at one input. -/
def fnUniformHoldsWrong : ChangeSpec := { name := "fnUniformHolds", fn := fun _ => fun
  | [d] => { results := [.lit (.bool false)], args := [d] }
  | _ => none }
def FnUniformHoldsWrongFalsely : Prop := fnUniformHoldsRow.holds Try.pinned (OpenSpec.ofChange fnUniformHoldsWrong)

/- THE SECOND FORM. 'bulk': how many values and letters a reading holds, each counted each time it is reached (what is shared counts as often as it is met; a slice's spare places count too). A statement '..UptoSaid' is the law's where the arguments, and the package variables that the reading takes, are together of bulk at most 1048576: NARROWER than '..Said'. Prove '..Said' where nothing that the law and all that it calls make is longer than what came in: it says more and counts as full. Else prove '..UptoSaid'. A law counts once. -/
mutual
def uptoBulk {H : Type} : DataW H → Nat
  | .lit (.string bytes) => bytes.length + 1
  | .lit _ => 1
  | .nil => 1
  | .ptr d => uptoBulk d + 1
  | .slice elems spare => uptoBulkAll elems + uptoBulkAll spare + 1
  | .agg parts => uptoBulkAll parts + 1
  | .iface _ d => uptoBulk d + 1
  | .map entries => uptoBulkEntries entries + 1
  | .held _ => 1
def uptoBulkAll {H : Type} : List (DataW H) → Nat
  | [] => 0
  | d :: r => uptoBulk d + uptoBulkAll r
def uptoBulkEntries {H : Type} : List (Lit × DataW H) → Nat
  | [] => 0
  | x :: r => uptoBulkEntry x + uptoBulkEntries r
def uptoBulkEntry {H : Type} : Lit × DataW H → Nat
  | (.string bytes, d) => bytes.length + uptoBulk d + 1
  | (_, d) => uptoBulk d + 1
 end
def uptoSmall : (H : Type) → List (DataW H) → Bool := fun _ ds => decide (uptoBulkAll ds ≤ 1048576)
def OpenSpec.upto (s : _root_.Go.ChangeSpec) : _root_.Go.OpenSpec := { _root_.Go.OpenSpec.ofChange s with cond := some uptoSmall }

/-- 'laws.FnExactUniformSets', WHERE WHAT IT READS IS OF BULK AT MOST 1048576: true; the input reads as it did. -/
def fnExactUniformSetsUptoRow : OpenClaim := { program := "ythocmmhhhiikpaa", sum := "ca89a7e465095c476c846935e55edd7ad7f1bc4c4d78aa24605d4d7d41749cda", func := "loop.example/lanekernel/laws.FnExactUniformSets", spec := "fnExactUniformSets", recurses := true, apart := false, narrowed := true }
def FnExactUniformSetsUptoSaid : Prop := fnExactUniformSetsUptoRow.holds Try.pinned (OpenSpec.upto fnExactUniformSetsSpec)

/-- 'laws.FnExactUniformBlocks', WHERE WHAT IT READS IS OF BULK AT MOST 1048576: true; the input reads as it did. -/
def fnExactUniformBlocksUptoRow : OpenClaim := { program := "ythocmmhhhiikpaa", sum := "ca89a7e465095c476c846935e55edd7ad7f1bc4c4d78aa24605d4d7d41749cda", func := "loop.example/lanekernel/laws.FnExactUniformBlocks", spec := "fnExactUniformBlocks", recurses := true, apart := false, narrowed := true }
def FnExactUniformBlocksUptoSaid : Prop := fnExactUniformBlocksUptoRow.holds Try.pinned (OpenSpec.upto fnExactUniformBlocksSpec)

/-- 'laws.FnUniformSets', WHERE WHAT IT READS IS OF BULK AT MOST 1048576: true; the input reads as it did. -/
def fnUniformSetsUptoRow : OpenClaim := { program := "ythocmmhhhiikpaa", sum := "ca89a7e465095c476c846935e55edd7ad7f1bc4c4d78aa24605d4d7d41749cda", func := "loop.example/lanekernel/laws.FnUniformSets", spec := "fnUniformSets", recurses := true, apart := false, narrowed := true }
def FnUniformSetsUptoSaid : Prop := fnUniformSetsUptoRow.holds Try.pinned (OpenSpec.upto fnUniformSetsSpec)

/-- 'laws.FnUniformLane', WHERE WHAT IT READS IS OF BULK AT MOST 1048576: true; the input reads as it did. -/
def fnUniformLaneUptoRow : OpenClaim := { program := "ythocmmhhhiikpaa", sum := "ca89a7e465095c476c846935e55edd7ad7f1bc4c4d78aa24605d4d7d41749cda", func := "loop.example/lanekernel/laws.FnUniformLane", spec := "fnUniformLane", recurses := true, apart := false, narrowed := true }
def FnUniformLaneUptoSaid : Prop := fnUniformLaneUptoRow.holds Try.pinned (OpenSpec.upto fnUniformLaneSpec)

/-- 'laws.FnUniformLess', WHERE WHAT IT READS IS OF BULK AT MOST 1048576: true; the input reads as it did. -/
def fnUniformLessUptoRow : OpenClaim := { program := "ythocmmhhhiikpaa", sum := "ca89a7e465095c476c846935e55edd7ad7f1bc4c4d78aa24605d4d7d41749cda", func := "loop.example/lanekernel/laws.FnUniformLess", spec := "fnUniformLess", recurses := true, apart := false, narrowed := true }
def FnUniformLessUptoSaid : Prop := fnUniformLessUptoRow.holds Try.pinned (OpenSpec.upto fnUniformLessSpec)

/-- 'laws.FnUniformBlocks', WHERE WHAT IT READS IS OF BULK AT MOST 1048576: true; the input reads as it did. -/
def fnUniformBlocksUptoRow : OpenClaim := { program := "ythocmmhhhiikpaa", sum := "ca89a7e465095c476c846935e55edd7ad7f1bc4c4d78aa24605d4d7d41749cda", func := "loop.example/lanekernel/laws.FnUniformBlocks", spec := "fnUniformBlocks", unfollowed := true, recurses := true, apart := false, narrowed := true }
def FnUniformBlocksUptoSaid : Prop := fnUniformBlocksUptoRow.holds Try.pinned (OpenSpec.upto fnUniformBlocksSpec)

/-- 'laws.FnUniformHolds', WHERE WHAT IT READS IS OF BULK AT MOST 1048576: true; the input reads as it did. -/
def fnUniformHoldsUptoRow : OpenClaim := { program := "ythocmmhhhiikpaa", sum := "ca89a7e465095c476c846935e55edd7ad7f1bc4c4d78aa24605d4d7d41749cda", func := "loop.example/lanekernel/laws.FnUniformHolds", spec := "fnUniformHolds", unfollowed := true, recurses := true, apart := false, narrowed := true }
def FnUniformHoldsUptoSaid : Prop := fnUniformHoldsUptoRow.holds Try.pinned (OpenSpec.upto fnUniformHoldsSpec)

end Rows
end Go.Proofs.Ythocmmhhhiikpaa
