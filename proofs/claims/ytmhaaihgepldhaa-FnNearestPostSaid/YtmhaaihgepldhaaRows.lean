/-
  No cell of these rows narrows 'for every input' (looked for: loops, veiled, ifaces, maps, wideKeys, modest, calm, conditions, laid).
  DERIVED. THE GIVEN ROWS OF THIS SEAT. 10 by the template 'for every input the law returns true; each argument reads behind the call as it read before'; 0 by the template 'total and deterministic' (their statements: YtmhaaihgepldhaaTotals.lean).
  GIVEN WITH THE SEED: the statements are not yours to turn. If you find one false, say at which input.
  Laid BY PROGRAM, IN A SANDBOX (cutbox-rows.mjs): the forced cells as the released guide's own fill.sh prints them over the translation 11c33174bdd09c8c… (all of the seat's roots in one cut). By AI agents, Wed Nov 11 2026. No macro, syntax, notation, axiom, sorry.
-/
import Derived.Test.YtmhaaihgepldhaaChecked
import GoSem.Claim
import GoSem.ClaimJoined
import GoSem.ClaimMapViews
import Derived.JoinedTies
import Derived.KernelRfl
namespace Go.Proofs.Ytmhaaihgepldhaa
/- THE CELL 'sum', in the pinned program and in every row, IS THE sha256 OF THE DUMP (.gsa) THAT YtmhaaihgepldhaaProg.lean LOADS. Nothing in Lean hashes anything: it is a label: what it is worth is what the hold of that sum in a sandbox is worth. -/
noncomputable def Try.pinned : Pinned := { name := "ytmhaaihgepldhaa", sum := "11c33174bdd09c8c02a2e418de5af37463627bcbbb3c28f3aebdbc7027fd143e", checked := Try.checked }
namespace Rows
def none {H : Type} : Left H := { results := [], args := [] }

/-- 'laws.FnExactNearestPost': WHATEVER THE INPUT: true; the input reads as it did. -/
def fnExactNearestPostSpec : ChangeSpec := { name := "fnExactNearestPost", fn := fun _ => fun
  | [d1, d2, d3] => { results := [.lit (.bool true)], args := [d1, d2, d3] }
  | _ => none }
def fnExactNearestPostRow : OpenClaim := { program := "ytmhaaihgepldhaa", sum := "11c33174bdd09c8c02a2e418de5af37463627bcbbb3c28f3aebdbc7027fd143e", func := "loop.example/lanekernel/laws.FnExactNearestPost", spec := "fnExactNearestPost", apart := false }
def FnExactNearestPostSaid : Prop := fnExactNearestPostRow.holds Try.pinned (OpenSpec.ofChange fnExactNearestPostSpec)

/-- ITS FALSE NEIGHBOUR: 'it returns false'. Refute it at one input. -/
def fnExactNearestPostWrong : ChangeSpec := { name := "fnExactNearestPost", fn := fun _ => fun
  | [d1, d2, d3] => { results := [.lit (.bool false)], args := [d1, d2, d3] }
  | _ => none }
def FnExactNearestPostWrongFalsely : Prop := fnExactNearestPostRow.holds Try.pinned (OpenSpec.ofChange fnExactNearestPostWrong)

/-- 'laws.FnExactMeetPlace': WHATEVER THE INPUT: true; the input reads as it did. -/
def fnExactMeetPlaceSpec : ChangeSpec := { name := "fnExactMeetPlace", fn := fun _ => fun
  | [d1, d2] => { results := [.lit (.bool true)], args := [d1, d2] }
  | _ => none }
def fnExactMeetPlaceRow : OpenClaim := { program := "ytmhaaihgepldhaa", sum := "11c33174bdd09c8c02a2e418de5af37463627bcbbb3c28f3aebdbc7027fd143e", func := "loop.example/lanekernel/laws.FnExactMeetPlace", spec := "fnExactMeetPlace", apart := false }
def FnExactMeetPlaceSaid : Prop := fnExactMeetPlaceRow.holds Try.pinned (OpenSpec.ofChange fnExactMeetPlaceSpec)

/-- ITS FALSE NEIGHBOUR: 'it returns false'. Refute it at one input. -/
def fnExactMeetPlaceWrong : ChangeSpec := { name := "fnExactMeetPlace", fn := fun _ => fun
  | [d1, d2] => { results := [.lit (.bool false)], args := [d1, d2] }
  | _ => none }
def FnExactMeetPlaceWrongFalsely : Prop := fnExactMeetPlaceRow.holds Try.pinned (OpenSpec.ofChange fnExactMeetPlaceWrong)

/-- 'laws.FnPostDominates': WHATEVER THE INPUT: true; the input reads as it did. -/
def fnPostDominatesSpec : ChangeSpec := { name := "fnPostDominates", fn := fun _ => fun
  | [d] => { results := [.lit (.bool true)], args := [d] }
  | _ => none }
def fnPostDominatesRow : OpenClaim := { program := "ytmhaaihgepldhaa", sum := "11c33174bdd09c8c02a2e418de5af37463627bcbbb3c28f3aebdbc7027fd143e", func := "loop.example/lanekernel/laws.FnPostDominates", spec := "fnPostDominates", recurses := true, apart := false }
def FnPostDominatesSaid : Prop := fnPostDominatesRow.holds Try.pinned (OpenSpec.ofChange fnPostDominatesSpec)

/-- ITS FALSE NEIGHBOUR: 'it returns false'. Refute it at one input. -/
def fnPostDominatesWrong : ChangeSpec := { name := "fnPostDominates", fn := fun _ => fun
  | [d] => { results := [.lit (.bool false)], args := [d] }
  | _ => none }
def FnPostDominatesWrongFalsely : Prop := fnPostDominatesRow.holds Try.pinned (OpenSpec.ofChange fnPostDominatesWrong)

/-- 'laws.FnNearestPost': WHATEVER THE INPUT: true; the input reads as it did. -/
def fnNearestPostSpec : ChangeSpec := { name := "fnNearestPost", fn := fun _ => fun
  | [d] => { results := [.lit (.bool true)], args := [d] }
  | _ => none }
def fnNearestPostRow : OpenClaim := { program := "ytmhaaihgepldhaa", sum := "11c33174bdd09c8c02a2e418de5af37463627bcbbb3c28f3aebdbc7027fd143e", func := "loop.example/lanekernel/laws.FnNearestPost", spec := "fnNearestPost", recurses := true, apart := false }
def FnNearestPostSaid : Prop := fnNearestPostRow.holds Try.pinned (OpenSpec.ofChange fnNearestPostSpec)

/-- ITS FALSE NEIGHBOUR: 'it returns false'. Refute it at one input. -/
def fnNearestPostWrong : ChangeSpec := { name := "fnNearestPost", fn := fun _ => fun
  | [d] => { results := [.lit (.bool false)], args := [d] }
  | _ => none }
def FnNearestPostWrongFalsely : Prop := fnNearestPostRow.holds Try.pinned (OpenSpec.ofChange fnNearestPostWrong)

/-- 'laws.FnMeetEnd': WHATEVER THE INPUT: true; the input reads as it did. -/
def fnMeetEndSpec : ChangeSpec := { name := "fnMeetEnd", fn := fun _ => fun
  | [d1, d2] => { results := [.lit (.bool true)], args := [d1, d2] }
  | _ => none }
def fnMeetEndRow : OpenClaim := { program := "ytmhaaihgepldhaa", sum := "11c33174bdd09c8c02a2e418de5af37463627bcbbb3c28f3aebdbc7027fd143e", func := "loop.example/lanekernel/laws.FnMeetEnd", spec := "fnMeetEnd", recurses := true, apart := false }
def FnMeetEndSaid : Prop := fnMeetEndRow.holds Try.pinned (OpenSpec.ofChange fnMeetEndSpec)

/-- ITS FALSE NEIGHBOUR: 'it returns false'. Refute it at one input. -/
def fnMeetEndWrong : ChangeSpec := { name := "fnMeetEnd", fn := fun _ => fun
  | [d1, d2] => { results := [.lit (.bool false)], args := [d1, d2] }
  | _ => none }
def FnMeetEndWrongFalsely : Prop := fnMeetEndRow.holds Try.pinned (OpenSpec.ofChange fnMeetEndWrong)

/-- 'laws.FnMeetPlace': WHATEVER THE INPUT: true; the input reads as it did. -/
def fnMeetPlaceSpec : ChangeSpec := { name := "fnMeetPlace", fn := fun _ => fun
  | [d] => { results := [.lit (.bool true)], args := [d] }
  | _ => none }
def fnMeetPlaceRow : OpenClaim := { program := "ytmhaaihgepldhaa", sum := "11c33174bdd09c8c02a2e418de5af37463627bcbbb3c28f3aebdbc7027fd143e", func := "loop.example/lanekernel/laws.FnMeetPlace", spec := "fnMeetPlace", recurses := true, apart := false }
def FnMeetPlaceSaid : Prop := fnMeetPlaceRow.holds Try.pinned (OpenSpec.ofChange fnMeetPlaceSpec)

/-- ITS FALSE NEIGHBOUR: 'it returns false'. Refute it at one input. -/
def fnMeetPlaceWrong : ChangeSpec := { name := "fnMeetPlace", fn := fun _ => fun
  | [d] => { results := [.lit (.bool false)], args := [d] }
  | _ => none }
def FnMeetPlaceWrongFalsely : Prop := fnMeetPlaceRow.holds Try.pinned (OpenSpec.ofChange fnMeetPlaceWrong)

/-- 'laws.FnMeetInner': WHATEVER THE INPUT: true; the input reads as it did. -/
def fnMeetInnerSpec : ChangeSpec := { name := "fnMeetInner", fn := fun _ => fun
  | [d] => { results := [.lit (.bool true)], args := [d] }
  | _ => none }
def fnMeetInnerRow : OpenClaim := { program := "ytmhaaihgepldhaa", sum := "11c33174bdd09c8c02a2e418de5af37463627bcbbb3c28f3aebdbc7027fd143e", func := "loop.example/lanekernel/laws.FnMeetInner", spec := "fnMeetInner", recurses := true, apart := false }
def FnMeetInnerSaid : Prop := fnMeetInnerRow.holds Try.pinned (OpenSpec.ofChange fnMeetInnerSpec)

/-- ITS FALSE NEIGHBOUR: 'it returns false'. Refute it at one input. -/
def fnMeetInnerWrong : ChangeSpec := { name := "fnMeetInner", fn := fun _ => fun
  | [d] => { results := [.lit (.bool false)], args := [d] }
  | _ => none }
def FnMeetInnerWrongFalsely : Prop := fnMeetInnerRow.holds Try.pinned (OpenSpec.ofChange fnMeetInnerWrong)

/-- 'laws.FnExactLiveSets': WHATEVER THE INPUT: true; the input reads as it did. -/
def fnExactLiveSetsSpec : ChangeSpec := { name := "fnExactLiveSets", fn := fun _ => fun
  | [d] => { results := [.lit (.bool true)], args := [d] }
  | _ => none }
def fnExactLiveSetsRow : OpenClaim := { program := "ytmhaaihgepldhaa", sum := "11c33174bdd09c8c02a2e418de5af37463627bcbbb3c28f3aebdbc7027fd143e", func := "loop.example/lanekernel/laws.FnExactLiveSets", spec := "fnExactLiveSets", apart := false }
def FnExactLiveSetsSaid : Prop := fnExactLiveSetsRow.holds Try.pinned (OpenSpec.ofChange fnExactLiveSetsSpec)

/-- ITS FALSE NEIGHBOUR: 'it returns false'. Refute it at one input. -/
def fnExactLiveSetsWrong : ChangeSpec := { name := "fnExactLiveSets", fn := fun _ => fun
  | [d] => { results := [.lit (.bool false)], args := [d] }
  | _ => none }
def FnExactLiveSetsWrongFalsely : Prop := fnExactLiveSetsRow.holds Try.pinned (OpenSpec.ofChange fnExactLiveSetsWrong)

/-- 'laws.FnExactLiveMost': WHATEVER THE INPUT: true; the input reads as it did. -/
def fnExactLiveMostSpec : ChangeSpec := { name := "fnExactLiveMost", fn := fun _ => fun
  | [d] => { results := [.lit (.bool true)], args := [d] }
  | _ => none }
def fnExactLiveMostRow : OpenClaim := { program := "ytmhaaihgepldhaa", sum := "11c33174bdd09c8c02a2e418de5af37463627bcbbb3c28f3aebdbc7027fd143e", func := "loop.example/lanekernel/laws.FnExactLiveMost", spec := "fnExactLiveMost", apart := false }
def FnExactLiveMostSaid : Prop := fnExactLiveMostRow.holds Try.pinned (OpenSpec.ofChange fnExactLiveMostSpec)

/-- ITS FALSE NEIGHBOUR: 'it returns false'. Refute it at one input. -/
def fnExactLiveMostWrong : ChangeSpec := { name := "fnExactLiveMost", fn := fun _ => fun
  | [d] => { results := [.lit (.bool false)], args := [d] }
  | _ => none }
def FnExactLiveMostWrongFalsely : Prop := fnExactLiveMostRow.holds Try.pinned (OpenSpec.ofChange fnExactLiveMostWrong)

/-- 'laws.FnExactDeadPlaces': WHATEVER THE INPUT: true; the input reads as it did. -/
def fnExactDeadPlacesSpec : ChangeSpec := { name := "fnExactDeadPlaces", fn := fun _ => fun
  | [d] => { results := [.lit (.bool true)], args := [d] }
  | _ => none }
def fnExactDeadPlacesRow : OpenClaim := { program := "ytmhaaihgepldhaa", sum := "11c33174bdd09c8c02a2e418de5af37463627bcbbb3c28f3aebdbc7027fd143e", func := "loop.example/lanekernel/laws.FnExactDeadPlaces", spec := "fnExactDeadPlaces", apart := false }
def FnExactDeadPlacesSaid : Prop := fnExactDeadPlacesRow.holds Try.pinned (OpenSpec.ofChange fnExactDeadPlacesSpec)

/-- ITS FALSE NEIGHBOUR: 'it returns false'. Refute it at one input. -/
def fnExactDeadPlacesWrong : ChangeSpec := { name := "fnExactDeadPlaces", fn := fun _ => fun
  | [d] => { results := [.lit (.bool false)], args := [d] }
  | _ => none }
def FnExactDeadPlacesWrongFalsely : Prop := fnExactDeadPlacesRow.holds Try.pinned (OpenSpec.ofChange fnExactDeadPlacesWrong)

/- THE SECOND FORM. 'bulk': how many values and letters a reading holds, each counted each time it is reached (what is shared counts as often as it is met; a slice's spare places count too). A statement '..UptoSaid' is the law's where the arguments, and the package variables that the reading takes, are together of bulk at most 1048576: NARROWER than '..Said'. Prove '..Said' where nothing that the law and all that it calls make is longer than what came in: it says more and counts as full. Else prove '..UptoSaid'. A law counts once. -/
mutual
def uptoBulk {H : Type} : DataW H → Nat
  | .lit (.string bytes) => bytes.length + 1
  | .lit _ => 1
  | .nil => 1
  | .ptr d => uptoBulk d + 1
  | .slice elems spare => uptoBulkAll elems + uptoBulkAll spare + 1
  | .agg parts => uptoBulkAll parts + 1
  | .iface _ d => uptoBulk d + 1
  | .map entries => uptoBulkEntries entries + 1
  | .held _ => 1
def uptoBulkAll {H : Type} : List (DataW H) → Nat
  | [] => 0
  | d :: r => uptoBulk d + uptoBulkAll r
def uptoBulkEntries {H : Type} : List (Lit × DataW H) → Nat
  | [] => 0
  | x :: r => uptoBulkEntry x + uptoBulkEntries r
def uptoBulkEntry {H : Type} : Lit × DataW H → Nat
  | (.string bytes, d) => bytes.length + uptoBulk d + 1
  | (_, d) => uptoBulk d + 1
 end
def uptoSmall : (H : Type) → List (DataW H) → Bool := fun _ ds => decide (uptoBulkAll ds ≤ 1048576)
def OpenSpec.upto (s : _root_.Go.ChangeSpec) : _root_.Go.OpenSpec := { _root_.Go.OpenSpec.ofChange s with cond := some uptoSmall }

/-- 'laws.FnExactNearestPost', WHERE WHAT IT READS IS OF BULK AT MOST 1048576: true; the input reads as it did. -/
def fnExactNearestPostUptoRow : OpenClaim := { program := "ytmhaaihgepldhaa", sum := "11c33174bdd09c8c02a2e418de5af37463627bcbbb3c28f3aebdbc7027fd143e", func := "loop.example/lanekernel/laws.FnExactNearestPost", spec := "fnExactNearestPost", apart := false, narrowed := true }
def FnExactNearestPostUptoSaid : Prop := fnExactNearestPostUptoRow.holds Try.pinned (OpenSpec.upto fnExactNearestPostSpec)

/-- 'laws.FnExactMeetPlace', WHERE WHAT IT READS IS OF BULK AT MOST 1048576: true; the input reads as it did. -/
def fnExactMeetPlaceUptoRow : OpenClaim := { program := "ytmhaaihgepldhaa", sum := "11c33174bdd09c8c02a2e418de5af37463627bcbbb3c28f3aebdbc7027fd143e", func := "loop.example/lanekernel/laws.FnExactMeetPlace", spec := "fnExactMeetPlace", apart := false, narrowed := true }
def FnExactMeetPlaceUptoSaid : Prop := fnExactMeetPlaceUptoRow.holds Try.pinned (OpenSpec.upto fnExactMeetPlaceSpec)

/-- 'laws.FnPostDominates', WHERE WHAT IT READS IS OF BULK AT MOST 1048576: true; the input reads as it did. -/
def fnPostDominatesUptoRow : OpenClaim := { program := "ytmhaaihgepldhaa", sum := "11c33174bdd09c8c02a2e418de5af37463627bcbbb3c28f3aebdbc7027fd143e", func := "loop.example/lanekernel/laws.FnPostDominates", spec := "fnPostDominates", recurses := true, apart := false, narrowed := true }
def FnPostDominatesUptoSaid : Prop := fnPostDominatesUptoRow.holds Try.pinned (OpenSpec.upto fnPostDominatesSpec)

/-- 'laws.FnNearestPost', WHERE WHAT IT READS IS OF BULK AT MOST 1048576: true; the input reads as it did. -/
def fnNearestPostUptoRow : OpenClaim := { program := "ytmhaaihgepldhaa", sum := "11c33174bdd09c8c02a2e418de5af37463627bcbbb3c28f3aebdbc7027fd143e", func := "loop.example/lanekernel/laws.FnNearestPost", spec := "fnNearestPost", recurses := true, apart := false, narrowed := true }
def FnNearestPostUptoSaid : Prop := fnNearestPostUptoRow.holds Try.pinned (OpenSpec.upto fnNearestPostSpec)

/-- 'laws.FnMeetEnd', WHERE WHAT IT READS IS OF BULK AT MOST 1048576: true; the input reads as it did. -/
def fnMeetEndUptoRow : OpenClaim := { program := "ytmhaaihgepldhaa", sum := "11c33174bdd09c8c02a2e418de5af37463627bcbbb3c28f3aebdbc7027fd143e", func := "loop.example/lanekernel/laws.FnMeetEnd", spec := "fnMeetEnd", recurses := true, apart := false, narrowed := true }
def FnMeetEndUptoSaid : Prop := fnMeetEndUptoRow.holds Try.pinned (OpenSpec.upto fnMeetEndSpec)

/-- 'laws.FnMeetPlace', WHERE WHAT IT READS IS OF BULK AT MOST 1048576: true; the input reads as it did. -/
def fnMeetPlaceUptoRow : OpenClaim := { program := "ytmhaaihgepldhaa", sum := "11c33174bdd09c8c02a2e418de5af37463627bcbbb3c28f3aebdbc7027fd143e", func := "loop.example/lanekernel/laws.FnMeetPlace", spec := "fnMeetPlace", recurses := true, apart := false, narrowed := true }
def FnMeetPlaceUptoSaid : Prop := fnMeetPlaceUptoRow.holds Try.pinned (OpenSpec.upto fnMeetPlaceSpec)

/-- 'laws.FnMeetInner', WHERE WHAT IT READS IS OF BULK AT MOST 1048576: true; the input reads as it did. -/
def fnMeetInnerUptoRow : OpenClaim := { program := "ytmhaaihgepldhaa", sum := "11c33174bdd09c8c02a2e418de5af37463627bcbbb3c28f3aebdbc7027fd143e", func := "loop.example/lanekernel/laws.FnMeetInner", spec := "fnMeetInner", recurses := true, apart := false, narrowed := true }
def FnMeetInnerUptoSaid : Prop := fnMeetInnerUptoRow.holds Try.pinned (OpenSpec.upto fnMeetInnerSpec)

/-- 'laws.FnExactLiveSets', WHERE WHAT IT READS IS OF BULK AT MOST 1048576: true; the input reads as it did. -/
def fnExactLiveSetsUptoRow : OpenClaim := { program := "ytmhaaihgepldhaa", sum := "11c33174bdd09c8c02a2e418de5af37463627bcbbb3c28f3aebdbc7027fd143e", func := "loop.example/lanekernel/laws.FnExactLiveSets", spec := "fnExactLiveSets", apart := false, narrowed := true }
def FnExactLiveSetsUptoSaid : Prop := fnExactLiveSetsUptoRow.holds Try.pinned (OpenSpec.upto fnExactLiveSetsSpec)

/-- 'laws.FnExactLiveMost', WHERE WHAT IT READS IS OF BULK AT MOST 1048576: true; the input reads as it did. -/
def fnExactLiveMostUptoRow : OpenClaim := { program := "ytmhaaihgepldhaa", sum := "11c33174bdd09c8c02a2e418de5af37463627bcbbb3c28f3aebdbc7027fd143e", func := "loop.example/lanekernel/laws.FnExactLiveMost", spec := "fnExactLiveMost", apart := false, narrowed := true }
def FnExactLiveMostUptoSaid : Prop := fnExactLiveMostUptoRow.holds Try.pinned (OpenSpec.upto fnExactLiveMostSpec)

/-- 'laws.FnExactDeadPlaces', WHERE WHAT IT READS IS OF BULK AT MOST 1048576: true; the input reads as it did. -/
def fnExactDeadPlacesUptoRow : OpenClaim := { program := "ytmhaaihgepldhaa", sum := "11c33174bdd09c8c02a2e418de5af37463627bcbbb3c28f3aebdbc7027fd143e", func := "loop.example/lanekernel/laws.FnExactDeadPlaces", spec := "fnExactDeadPlaces", apart := false, narrowed := true }
def FnExactDeadPlacesUptoSaid : Prop := fnExactDeadPlacesUptoRow.holds Try.pinned (OpenSpec.upto fnExactDeadPlacesSpec)

end Rows
end Go.Proofs.Ytmhaaihgepldhaa
