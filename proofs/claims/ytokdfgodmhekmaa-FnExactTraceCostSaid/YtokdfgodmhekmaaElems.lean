/- The element types of this seat's slices. No condition. -/
import Derived.Test.YtokdfgodmhekmaaRows
import Derived.Test.YtokdfgodmhekmaaBase
namespace Go.Proofs.Ytokdfgodmhekmaa
open Go.RowKit

theorem elInt : ElT Try.prog 23 3 1 [.int .i64 0] 8 := ⟨by kernel_rfl, ⟨.int .i64 0, by kernel_rfl, by kernel_rfl, rfl⟩, by decide⟩

theorem elInts : ElT Try.prog 39 23 1 [.slice none 0 0] 24 := ⟨by kernel_rfl, ⟨.slice none 0 0, by kernel_rfl, by kernel_rfl, rfl⟩, by decide⟩

theorem elCode : ElT Try.prog 27 61 4 [.int .i64 0, .int .i64 0, .int .i64 0, .int .i64 0] 32 := ⟨by kernel_rfl, ⟨.agg #[.int .i64 0, .int .i64 0, .int .i64 0, .int .i64 0], by kernel_rfl, by kernel_rfl, rfl⟩, by decide⟩

end Go.Proofs.Ytokdfgodmhekmaa
