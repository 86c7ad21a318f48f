/-
  No cell of these rows narrows 'for every input' (looked for: loops, veiled, ifaces, maps, wideKeys, modest, calm, conditions, laid).
  DERIVED. THE GIVEN ROWS OF THIS SEAT. 11 by the template 'for every input the law returns true; each argument reads behind the call as it read before'; 0 by the template 'total and deterministic' (their statements: YtonmndojlnohcaaTotals.lean).
  GIVEN WITH THE SEED: the statements are not yours to turn. If you find one false, say at which input.
  Laid BY PROGRAM, IN A SANDBOX (cutbox-rows.mjs): the forced cells as the released guide's own fill.sh prints them over the translation 3693a85ce657266f… (all of the seat's roots in one cut). By AI agents, Wed Nov 11 2026. No macro, syntax, notation, axiom, sorry.
-/
import Derived.Test.YtonmndojlnohcaaChecked
import GoSem.Claim
import GoSem.ClaimJoined
import GoSem.ClaimMapViews
import Derived.JoinedTies
import Derived.KernelRfl
namespace Go.Proofs.Ytonmndojlnohcaa
/- THE CELL 'sum', in the pinned program and in every row, IS THE sha256 OF THE DUMP (.gsa) THAT YtonmndojlnohcaaProg.lean LOADS. Nothing in Lean hashes anything: it is a label: what it is worth is what the hold of that sum in a sandbox is worth. -/
noncomputable def Try.pinned : Pinned := { name := "ytonmndojlnohcaa", sum := "3693a85ce657266fbfc113159912b86e550ffcba1256ed13464547c42414fcd4", checked := Try.checked }
namespace Rows
def none {H : Type} : Left H := { results := [], args := [] }

/-- 'laws.FnBarrierExtra': WHATEVER THE INPUT: true; the input reads as it did. -/
def fnBarrierExtraSpec : ChangeSpec := { name := "fnBarrierExtra", fn := fun _ => fun
  | [d] => { results := [.lit (.bool true)], args := [d] }
  | _ => none }
def fnBarrierExtraRow : OpenClaim := { program := "ytonmndojlnohcaa", sum := "3693a85ce657266fbfc113159912b86e550ffcba1256ed13464547c42414fcd4", func := "loop.example/lanekernel/laws.FnBarrierExtra", spec := "fnBarrierExtra", unfollowed := true, recurses := true, apart := false }
def FnBarrierExtraSaid : Prop := fnBarrierExtraRow.holds Try.pinned (OpenSpec.ofChange fnBarrierExtraSpec)

/-- ITS FALSE NEIGHBOUR: 'it returns false'. Refute it at one input. -/
def fnBarrierExtraWrong : ChangeSpec := { name := "fnBarrierExtra", fn := fun _ => fun
  | [d] => { results := [.lit (.bool false)], args := [d] }
  | _ => none }
def FnBarrierExtraWrongFalsely : Prop := fnBarrierExtraRow.holds Try.pinned (OpenSpec.ofChange fnBarrierExtraWrong)

/-- 'laws.FnAccessesNone': WHATEVER THE INPUT: true; the input reads as it did. -/
def fnAccessesNoneSpec : ChangeSpec := { name := "fnAccessesNone", fn := fun _ => fun
  | [d] => { results := [.lit (.bool true)], args := [d] }
  | _ => none }
def fnAccessesNoneRow : OpenClaim := { program := "ytonmndojlnohcaa", sum := "3693a85ce657266fbfc113159912b86e550ffcba1256ed13464547c42414fcd4", func := "loop.example/lanekernel/laws.FnAccessesNone", spec := "fnAccessesNone", unfollowed := true, recurses := true, apart := false }
def FnAccessesNoneSaid : Prop := fnAccessesNoneRow.holds Try.pinned (OpenSpec.ofChange fnAccessesNoneSpec)

/-- ITS FALSE NEIGHBOUR: 'it returns false'. Refute it at one input. -/
def fnAccessesNoneWrong : ChangeSpec := { name := "fnAccessesNone", fn := fun _ => fun
  | [d] => { results := [.lit (.bool false)], args := [d] }
  | _ => none }
def FnAccessesNoneWrongFalsely : Prop := fnAccessesNoneRow.holds Try.pinned (OpenSpec.ofChange fnAccessesNoneWrong)

/-- 'laws.FnAccessesLater': WHATEVER THE INPUT: true; the input reads as it did. -/
def fnAccessesLaterSpec : ChangeSpec := { name := "fnAccessesLater", fn := fun _ => fun
  | [d] => { results := [.lit (.bool true)], args := [d] }
  | _ => none }
def fnAccessesLaterRow : OpenClaim := { program := "ytonmndojlnohcaa", sum := "3693a85ce657266fbfc113159912b86e550ffcba1256ed13464547c42414fcd4", func := "loop.example/lanekernel/laws.FnAccessesLater", spec := "fnAccessesLater", unfollowed := true, recurses := true, apart := false }
def FnAccessesLaterSaid : Prop := fnAccessesLaterRow.holds Try.pinned (OpenSpec.ofChange fnAccessesLaterSpec)

/-- ITS FALSE NEIGHBOUR: 'it returns false'. Refute it at one input. -/
def fnAccessesLaterWrong : ChangeSpec := { name := "fnAccessesLater", fn := fun _ => fun
  | [d] => { results := [.lit (.bool false)], args := [d] }
  | _ => none }
def FnAccessesLaterWrongFalsely : Prop := fnAccessesLaterRow.holds Try.pinned (OpenSpec.ofChange fnAccessesLaterWrong)

/-- 'laws.FnRaceSame': WHATEVER THE INPUT: true; the input reads as it did. -/
def fnRaceSameSpec : ChangeSpec := { name := "fnRaceSame", fn := fun _ => fun
  | [d] => { results := [.lit (.bool true)], args := [d] }
  | _ => none }
def fnRaceSameRow : OpenClaim := { program := "ytonmndojlnohcaa", sum := "3693a85ce657266fbfc113159912b86e550ffcba1256ed13464547c42414fcd4", func := "loop.example/lanekernel/laws.FnRaceSame", spec := "fnRaceSame", unfollowed := true, recurses := true, apart := false }
def FnRaceSameSaid : Prop := fnRaceSameRow.holds Try.pinned (OpenSpec.ofChange fnRaceSameSpec)

/-- ITS FALSE NEIGHBOUR: 'it returns false'. Refute it at one input. -/
def fnRaceSameWrong : ChangeSpec := { name := "fnRaceSame", fn := fun _ => fun
  | [d] => { results := [.lit (.bool false)], args := [d] }
  | _ => none }
def FnRaceSameWrongFalsely : Prop := fnRaceSameRow.holds Try.pinned (OpenSpec.ofChange fnRaceSameWrong)

/-- 'laws.FnRaceApart': WHATEVER THE INPUT: true; the input reads as it did. -/
def fnRaceApartSpec : ChangeSpec := { name := "fnRaceApart", fn := fun _ => fun
  | [d] => { results := [.lit (.bool true)], args := [d] }
  | _ => none }
def fnRaceApartRow : OpenClaim := { program := "ytonmndojlnohcaa", sum := "3693a85ce657266fbfc113159912b86e550ffcba1256ed13464547c42414fcd4", func := "loop.example/lanekernel/laws.FnRaceApart", spec := "fnRaceApart", unfollowed := true, recurses := true, apart := false }
def FnRaceApartSaid : Prop := fnRaceApartRow.holds Try.pinned (OpenSpec.ofChange fnRaceApartSpec)

/-- ITS FALSE NEIGHBOUR: 'it returns false'. Refute it at one input. -/
def fnRaceApartWrong : ChangeSpec := { name := "fnRaceApart", fn := fun _ => fun
  | [d] => { results := [.lit (.bool false)], args := [d] }
  | _ => none }
def FnRaceApartWrongFalsely : Prop := fnRaceApartRow.holds Try.pinned (OpenSpec.ofChange fnRaceApartWrong)

/-- 'laws.FnRaceBarrier': WHATEVER THE INPUT: true; the input reads as it did. -/
def fnRaceBarrierSpec : ChangeSpec := { name := "fnRaceBarrier", fn := fun _ => fun
  | [d] => { results := [.lit (.bool true)], args := [d] }
  | _ => none }
def fnRaceBarrierRow : OpenClaim := { program := "ytonmndojlnohcaa", sum := "3693a85ce657266fbfc113159912b86e550ffcba1256ed13464547c42414fcd4", func := "loop.example/lanekernel/laws.FnRaceBarrier", spec := "fnRaceBarrier", unfollowed := true, recurses := true, apart := false }
def FnRaceBarrierSaid : Prop := fnRaceBarrierRow.holds Try.pinned (OpenSpec.ofChange fnRaceBarrierSpec)

/-- ITS FALSE NEIGHBOUR: 'it returns false'. Refute it at one input. -/
def fnRaceBarrierWrong : ChangeSpec := { name := "fnRaceBarrier", fn := fun _ => fun
  | [d] => { results := [.lit (.bool false)], args := [d] }
  | _ => none }
def FnRaceBarrierWrongFalsely : Prop := fnRaceBarrierRow.holds Try.pinned (OpenSpec.ofChange fnRaceBarrierWrong)

/-- 'laws.FnRaceFree': WHATEVER THE INPUT: true; the input reads as it did. -/
def fnRaceFreeSpec : ChangeSpec := { name := "fnRaceFree", fn := fun _ => fun
  | [d] => { results := [.lit (.bool true)], args := [d] }
  | _ => none }
def fnRaceFreeRow : OpenClaim := { program := "ytonmndojlnohcaa", sum := "3693a85ce657266fbfc113159912b86e550ffcba1256ed13464547c42414fcd4", func := "loop.example/lanekernel/laws.FnRaceFree", spec := "fnRaceFree", unfollowed := true, recurses := true, apart := false }
def FnRaceFreeSaid : Prop := fnRaceFreeRow.holds Try.pinned (OpenSpec.ofChange fnRaceFreeSpec)

/-- ITS FALSE NEIGHBOUR: 'it returns false'. Refute it at one input. -/
def fnRaceFreeWrong : ChangeSpec := { name := "fnRaceFree", fn := fun _ => fun
  | [d] => { results := [.lit (.bool false)], args := [d] }
  | _ => none }
def FnRaceFreeWrongFalsely : Prop := fnRaceFreeRow.holds Try.pinned (OpenSpec.ofChange fnRaceFreeWrong)

/-- 'laws.FnStoresPrivate': WHATEVER THE INPUT: true; the input reads as it did. -/
def fnStoresPrivateSpec : ChangeSpec := { name := "fnStoresPrivate", fn := fun _ => fun
  | [d] => { results := [.lit (.bool true)], args := [d] }
  | _ => none }
def fnStoresPrivateRow : OpenClaim := { program := "ytonmndojlnohcaa", sum := "3693a85ce657266fbfc113159912b86e550ffcba1256ed13464547c42414fcd4", func := "loop.example/lanekernel/laws.FnStoresPrivate", spec := "fnStoresPrivate", unfollowed := true, recurses := true, apart := false }
def FnStoresPrivateSaid : Prop := fnStoresPrivateRow.holds Try.pinned (OpenSpec.ofChange fnStoresPrivateSpec)

/-- ITS FALSE NEIGHBOUR: 'it returns false'. Refute it at one input. -/
def fnStoresPrivateWrong : ChangeSpec := { name := "fnStoresPrivate", fn := fun _ => fun
  | [d] => { results := [.lit (.bool false)], args := [d] }
  | _ => none }
def FnStoresPrivateWrongFalsely : Prop := fnStoresPrivateRow.holds Try.pinned (OpenSpec.ofChange fnStoresPrivateWrong)

/-- 'laws.FnUnsafeReason': WHATEVER THE INPUT: true; the input reads as it did. -/
def fnUnsafeReasonSpec : ChangeSpec := { name := "fnUnsafeReason", fn := fun _ => fun
  | [d] => { results := [.lit (.bool true)], args := [d] }
  | _ => none }
def fnUnsafeReasonRow : OpenClaim := { program := "ytonmndojlnohcaa", sum := "3693a85ce657266fbfc113159912b86e550ffcba1256ed13464547c42414fcd4", func := "loop.example/lanekernel/laws.FnUnsafeReason", spec := "fnUnsafeReason", unfollowed := true, recurses := true, apart := false }
def FnUnsafeReasonSaid : Prop := fnUnsafeReasonRow.holds Try.pinned (OpenSpec.ofChange fnUnsafeReasonSpec)

/-- ITS FALSE NEIGHBOUR: 'it returns false'. Refute it at one input. -/
def fnUnsafeReasonWrong : ChangeSpec := { name := "fnUnsafeReason", fn := fun _ => fun
  | [d] => { results := [.lit (.bool false)], args := [d] }
  | _ => none }
def FnUnsafeReasonWrongFalsely : Prop := fnUnsafeReasonRow.holds Try.pinned (OpenSpec.ofChange fnUnsafeReasonWrong)

/-- 'laws.FnSafeLess': WHATEVER THE INPUT: true; the input reads as it did. -/
def fnSafeLessSpec : ChangeSpec := { name := "fnSafeLess", fn := fun _ => fun
  | [d] => { results := [.lit (.bool true)], args := [d] }
  | _ => none }
def fnSafeLessRow : OpenClaim := { program := "ytonmndojlnohcaa", sum := "3693a85ce657266fbfc113159912b86e550ffcba1256ed13464547c42414fcd4", func := "loop.example/lanekernel/laws.FnSafeLess", spec := "fnSafeLess", unfollowed := true, recurses := true, apart := false }
def FnSafeLessSaid : Prop := fnSafeLessRow.holds Try.pinned (OpenSpec.ofChange fnSafeLessSpec)

/-- ITS FALSE NEIGHBOUR: 'it returns false'. Refute it at one input. -/
def fnSafeLessWrong : ChangeSpec := { name := "fnSafeLess", fn := fun _ => fun
  | [d] => { results := [.lit (.bool false)], args := [d] }
  | _ => none }
def FnSafeLessWrongFalsely : Prop := fnSafeLessRow.holds Try.pinned (OpenSpec.ofChange fnSafeLessWrong)

/-- 'laws.FnSafeBarrier': WHATEVER THE INPUT: true; the input reads as it did. -/
def fnSafeBarrierSpec : ChangeSpec := { name := "fnSafeBarrier", fn := fun _ => fun
  | [d1, d2] => { results := [.lit (.bool true)], args := [d1, d2] }
  | _ => none }
def fnSafeBarrierRow : OpenClaim := { program := "ytonmndojlnohcaa", sum := "3693a85ce657266fbfc113159912b86e550ffcba1256ed13464547c42414fcd4", func := "loop.example/lanekernel/laws.FnSafeBarrier", spec := "fnSafeBarrier", unfollowed := true, recurses := true, apart := false }
def FnSafeBarrierSaid : Prop := fnSafeBarrierRow.holds Try.pinned (OpenSpec.ofChange fnSafeBarrierSpec)

/-- ITS FALSE NEIGHBOUR: 'it returns false'. Refute it at one input. -/
def fnSafeBarrierWrong : ChangeSpec := { name := "fnSafeBarrier", fn := fun _ => fun
  | [d1, d2] => { results := [.lit (.bool false)], args := [d1, d2] }
  | _ => none }
def FnSafeBarrierWrongFalsely : Prop := fnSafeBarrierRow.holds Try.pinned (OpenSpec.ofChange fnSafeBarrierWrong)

/- THE SECOND FORM. 'bulk': how many values and letters a reading holds, each counted each time it is reached (what is shared counts as often as it is met; a slice's spare places count too). A statement '..UptoSaid' is the law's where the arguments, and the package variables that the reading takes, are together of bulk at most 1048576: NARROWER than '..Said'. Prove '..Said' where nothing that the law and all that it calls make is longer than what came in: it says more and counts as full. Else prove '..UptoSaid'. A law counts once. -/
mutual
def uptoBulk {H : Type} : DataW H → Nat
  | .lit (.string bytes) => bytes.length + 1
  | .lit _ => 1
  | .nil => 1
  | .ptr d => uptoBulk d + 1
  | .slice elems spare => uptoBulkAll elems + uptoBulkAll spare + 1
  | .agg parts => uptoBulkAll parts + 1
  | .iface _ d => uptoBulk d + 1
  | .map entries => uptoBulkEntries entries + 1
  | .held _ => 1
def uptoBulkAll {H : Type} : List (DataW H) → Nat
  | [] => 0
  | d :: r => uptoBulk d + uptoBulkAll r
def uptoBulkEntries {H : Type} : List (Lit × DataW H) → Nat
  | [] => 0
  | x :: r => uptoBulkEntry x + uptoBulkEntries r
def uptoBulkEntry {H : Type} : Lit × DataW H → Nat
  | (.string bytes, d) => bytes.length + uptoBulk d + 1
  | (_, d) => uptoBulk d + 1
 end
def uptoSmall : (H : Type) → List (DataW H) → Bool := fun _ ds => decide (uptoBulkAll ds ≤ 1048576)
def OpenSpec.upto (s : _root_.Go.ChangeSpec) : _root_.Go.OpenSpec := { _root_.Go.OpenSpec.ofChange s with cond := some uptoSmall }

/-- 'laws.FnBarrierExtra', WHERE WHAT IT READS IS OF BULK AT MOST 1048576: true; the input reads as it did. -/
def fnBarrierExtraUptoRow : OpenClaim := { program := "ytonmndojlnohcaa", sum := "3693a85ce657266fbfc113159912b86e550ffcba1256ed13464547c42414fcd4", func := "loop.example/lanekernel/laws.FnBarrierExtra", spec := "fnBarrierExtra", unfollowed := true, recurses := true, apart := false, narrowed := true }
def FnBarrierExtraUptoSaid : Prop := fnBarrierExtraUptoRow.holds Try.pinned (OpenSpec.upto fnBarrierExtraSpec)

/-- 'laws.FnAccessesNone', WHERE WHAT IT READS IS OF BULK AT MOST 1048576: true; the input reads as it did. -/
def fnAccessesNoneUptoRow : OpenClaim := { program := "ytonmndojlnohcaa", sum := "3693a85ce657266fbfc113159912b86e550ffcba1256ed13464547c42414fcd4", func := "loop.example/lanekernel/laws.FnAccessesNone", spec := "fnAccessesNone", unfollowed := true, recurses := true, apart := false, narrowed := true }
def FnAccessesNoneUptoSaid : Prop := fnAccessesNoneUptoRow.holds Try.pinned (OpenSpec.upto fnAccessesNoneSpec)

/-- 'laws.FnAccessesLater', WHERE WHAT IT READS IS OF BULK AT MOST 1048576: true; the input reads as it did. -/
def fnAccessesLaterUptoRow : OpenClaim := { program := "ytonmndojlnohcaa", sum := "3693a85ce657266fbfc113159912b86e550ffcba1256ed13464547c42414fcd4", func := "loop.example/lanekernel/laws.FnAccessesLater", spec := "fnAccessesLater", unfollowed := true, recurses := true, apart := false, narrowed := true }
def FnAccessesLaterUptoSaid : Prop := fnAccessesLaterUptoRow.holds Try.pinned (OpenSpec.upto fnAccessesLaterSpec)

/-- 'laws.FnRaceSame', WHERE WHAT IT READS IS OF BULK AT MOST 1048576: true; the input reads as it did. -/
def fnRaceSameUptoRow : OpenClaim := { program := "ytonmndojlnohcaa", sum := "3693a85ce657266fbfc113159912b86e550ffcba1256ed13464547c42414fcd4", func := "loop.example/lanekernel/laws.FnRaceSame", spec := "fnRaceSame", unfollowed := true, recurses := true, apart := false, narrowed := true }
def FnRaceSameUptoSaid : Prop := fnRaceSameUptoRow.holds Try.pinned (OpenSpec.upto fnRaceSameSpec)

/-- 'laws.FnRaceApart', WHERE WHAT IT READS IS OF BULK AT MOST 1048576: true; the input reads as it did. -/
def fnRaceApartUptoRow : OpenClaim := { program := "ytonmndojlnohcaa", sum := "3693a85ce657266fbfc113159912b86e550ffcba1256ed13464547c42414fcd4", func := "loop.example/lanekernel/laws.FnRaceApart", spec := "fnRaceApart", unfollowed := true, recurses := true, apart := false, narrowed := true }
def FnRaceApartUptoSaid : Prop := fnRaceApartUptoRow.holds Try.pinned (OpenSpec.upto fnRaceApartSpec)

/-- 'laws.FnRaceBarrier', WHERE WHAT IT READS IS OF BULK AT MOST 1048576: true; the input reads as it did. -/
def fnRaceBarrierUptoRow : OpenClaim := { program := "ytonmndojlnohcaa", sum := "3693a85ce657266fbfc113159912b86e550ffcba1256ed13464547c42414fcd4", func := "loop.example/lanekernel/laws.FnRaceBarrier", spec := "fnRaceBarrier", unfollowed := true, recurses := true, apart := false, narrowed := true }
def FnRaceBarrierUptoSaid : Prop := fnRaceBarrierUptoRow.holds Try.pinned (OpenSpec.upto fnRaceBarrierSpec)

/-- 'laws.FnRaceFree', WHERE WHAT IT READS IS OF BULK AT MOST 1048576: true; the input reads as it did. -/
def fnRaceFreeUptoRow : OpenClaim := { program := "ytonmndojlnohcaa", sum := "3693a85ce657266fbfc113159912b86e550ffcba1256ed13464547c42414fcd4", func := "loop.example/lanekernel/laws.FnRaceFree", spec := "fnRaceFree", unfollowed := true, recurses := true, apart := false, narrowed := true }
def FnRaceFreeUptoSaid : Prop := fnRaceFreeUptoRow.holds Try.pinned (OpenSpec.upto fnRaceFreeSpec)

/-- 'laws.FnStoresPrivate', WHERE WHAT IT READS IS OF BULK AT MOST 1048576: true; the input reads as it did. -/
def fnStoresPrivateUptoRow : OpenClaim := { program := "ytonmndojlnohcaa", sum := "3693a85ce657266fbfc113159912b86e550ffcba1256ed13464547c42414fcd4", func := "loop.example/lanekernel/laws.FnStoresPrivate", spec := "fnStoresPrivate", unfollowed := true, recurses := true, apart := false, narrowed := true }
def FnStoresPrivateUptoSaid : Prop := fnStoresPrivateUptoRow.holds Try.pinned (OpenSpec.upto fnStoresPrivateSpec)

/-- 'laws.FnUnsafeReason', WHERE WHAT IT READS IS OF BULK AT MOST 1048576: true; the input reads as it did. -/
def fnUnsafeReasonUptoRow : OpenClaim := { program := "ytonmndojlnohcaa", sum := "3693a85ce657266fbfc113159912b86e550ffcba1256ed13464547c42414fcd4", func := "loop.example/lanekernel/laws.FnUnsafeReason", spec := "fnUnsafeReason", unfollowed := true, recurses := true, apart := false, narrowed := true }
def FnUnsafeReasonUptoSaid : Prop := fnUnsafeReasonUptoRow.holds Try.pinned (OpenSpec.upto fnUnsafeReasonSpec)

/-- 'laws.FnSafeLess', WHERE WHAT IT READS IS OF BULK AT MOST 1048576: true; the input reads as it did. -/
def fnSafeLessUptoRow : OpenClaim := { program := "ytonmndojlnohcaa", sum := "3693a85ce657266fbfc113159912b86e550ffcba1256ed13464547c42414fcd4", func := "loop.example/lanekernel/laws.FnSafeLess", spec := "fnSafeLess", unfollowed := true, recurses := true, apart := false, narrowed := true }
def FnSafeLessUptoSaid : Prop := fnSafeLessUptoRow.holds Try.pinned (OpenSpec.upto fnSafeLessSpec)

/-- 'laws.FnSafeBarrier', WHERE WHAT IT READS IS OF BULK AT MOST 1048576: true; the input reads as it did. -/
def fnSafeBarrierUptoRow : OpenClaim := { program := "ytonmndojlnohcaa", sum := "3693a85ce657266fbfc113159912b86e550ffcba1256ed13464547c42414fcd4", func := "loop.example/lanekernel/laws.FnSafeBarrier", spec := "fnSafeBarrier", unfollowed := true, recurses := true, apart := false, narrowed := true }
def FnSafeBarrierUptoSaid : Prop := fnSafeBarrierUptoRow.holds Try.pinned (OpenSpec.upto fnSafeBarrierSpec)

end Rows
end Go.Proofs.Ytonmndojlnohcaa
