/- The element types of this seat's slices. No condition. -/
import Derived.Test.YtmhaaihgepldhaaRows
import Derived.Test.YtmhaaihgepldhaaBase
namespace Go.Proofs.Ytmhaaihgepldhaa
open Go.RowKit

theorem elInt : ElT Try.prog 53 3 1 [.int .i64 0] 8 := ⟨by kernel_rfl, ⟨.int .i64 0, by kernel_rfl, by kernel_rfl, rfl⟩, by decide⟩

theorem elBool : ElT Try.prog 41 4 1 [.bool false] 1 := ⟨by kernel_rfl, ⟨.bool false, by kernel_rfl, by kernel_rfl, rfl⟩, by decide⟩

theorem elInts : ElT Try.prog 22 53 1 [.slice none 0 0] 24 := ⟨by kernel_rfl, ⟨.slice none 0 0, by kernel_rfl, by kernel_rfl, rfl⟩, by decide⟩

theorem elCode : ElT Try.prog 31 65 4 [.int .i64 0, .int .i64 0, .int .i64 0, .int .i64 0] 32 := ⟨by kernel_rfl, ⟨.agg #[.int .i64 0, .int .i64 0, .int .i64 0, .int .i64 0], by kernel_rfl, by kernel_rfl, rfl⟩, by decide⟩

end Go.Proofs.Ytmhaaihgepldhaa
