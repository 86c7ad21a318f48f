/- Sums, products and comparisons of words, the reference's and the program's. No condition. -/
import Derived.Test.YtokdfgodmhekmaaCodeW
import Derived.Test.YtokdfgodmhekmaaICodeV
namespace Go.Proofs.Ytokdfgodmhekmaa
open Go.RowKit

theorem sWordAdd_any (x y : Int) (w : World) (hx : Word x) (hy : Word y) :
    Calls Try.prog 109 #[.int .i64 x, .int .i64 y] w fun e w' => e = .returned (.int .i64 ((x + y) % 256)) ∧ w = w' := by
  have HX := Lib.hid hx
  have HY := Lib.hid hy
  obtain ⟨hx0, hx1⟩ := hx
  obtain ⟨hy0, hy1⟩ := hy
  go_enter Try.func109, Try.ntmps109
  go_wp2_with fail
  refine (l2Word_any x _ true (by simp [HX.out])).mono ?_
  rintro e w' ⟨rfl, rfl⟩
  go_wp2_with fail
  refine (l2Word_any y _ true (by simp [HY.out])).mono ?_
  rintro e w' ⟨rfl, rfl⟩
  go_wp2
  go_ret
  exact ⟨rfl, rfl⟩

theorem sWordMul_any (x y : Int) (w : World) (hx : Word x) (hy : Word y) :
    Calls Try.prog 110 #[.int .i64 x, .int .i64 y] w fun e w' => e = .returned (.int .i64 (x * y % 256)) ∧ w = w' := by
  have HX := Lib.hid hx
  have HY := Lib.hid hy
  obtain ⟨hx0, hx1⟩ := hx
  obtain ⟨hy0, hy1⟩ := hy
  have hm0 : 0 ≤ x * y := Int.mul_nonneg hx0 hy0
  have hm1 : x * y ≤ 65025 := by have := Int.mul_le_mul hx1 hy1 hy0 (by decide : (0 : Int) ≤ 255); omega
  go_enter Try.func110, Try.ntmps110
  go_wp2_with fail
  refine (l2Word_any x _ true (by simp [HX.out])).mono ?_
  rintro e w' ⟨rfl, rfl⟩
  go_wp2_with fail
  refine (l2Word_any y _ true (by simp [HY.out])).mono ?_
  rintro e w' ⟨rfl, rfl⟩
  go_wp2
  go_ret
  exact ⟨rfl, rfl⟩

theorem sWordLess_any (x y : Int) (w : World) (hx : Word x) (hy : Word y) :
    Calls Try.prog 111 #[.int .i64 x, .int .i64 y] w fun e w' => e = .returned (.int .i64 (if x < y then 1 else 0)) ∧ w = w' := by
  have HX := Lib.hid hx
  have HY := Lib.hid hy
  obtain ⟨hx0, hx1⟩ := hx
  obtain ⟨hy0, hy1⟩ := hy
  by_cases hlt : x < y
  · rw [if_pos hlt]
    go_enter Try.func111, Try.ntmps111
    go_wp2_with fail
    refine (l2Word_any x _ true (by simp [HX.out])).mono ?_
    rintro e w' ⟨rfl, rfl⟩
    go_wp2_with fail
    refine (l2Word_any y _ true (by simp [HY.out])).mono ?_
    rintro e w' ⟨rfl, rfl⟩
    go_wp2
    go_ret
    exact ⟨rfl, rfl⟩
  · rw [if_neg hlt]
    go_enter Try.func111, Try.ntmps111
    go_wp2_with fail
    refine (l2Word_any x _ true (by simp [HX.out])).mono ?_
    rintro e w' ⟨rfl, rfl⟩
    go_wp2_with fail
    refine (l2Word_any y _ true (by simp [HY.out])).mono ?_
    rintro e w' ⟨rfl, rfl⟩
    go_wp2
    go_ret
    exact ⟨rfl, rfl⟩

theorem iWordAdd_any (x y : Int) (w : World) (hx : Word x) (hy : Word y) :
    Calls Try.prog 127 #[.int .i64 x, .int .i64 y] w fun e w' => e = .returned (.int .i64 ((x + y) % 256)) ∧ w = w' := by
  have HX := Lib.hid hx
  have HY := Lib.hid hy
  obtain ⟨hx0, hx1⟩ := hx
  obtain ⟨hy0, hy1⟩ := hy
  go_enter Try.func127, Try.ntmps127
  go_wp2_with fail
  refine (isWord_any x _ true (by simp [HX.out])).mono ?_
  rintro e w' ⟨rfl, rfl⟩
  go_wp2_with fail
  refine (isWord_any y _ true (by simp [HY.out])).mono ?_
  rintro e w' ⟨rfl, rfl⟩
  go_wp2
  go_ret
  exact ⟨rfl, rfl⟩

theorem iWordMul_any (x y : Int) (w : World) (hx : Word x) (hy : Word y) :
    Calls Try.prog 128 #[.int .i64 x, .int .i64 y] w fun e w' => e = .returned (.int .i64 (x * y % 256)) ∧ w = w' := by
  have HX := Lib.hid hx
  have HY := Lib.hid hy
  obtain ⟨hx0, hx1⟩ := hx
  obtain ⟨hy0, hy1⟩ := hy
  have hm0 : 0 ≤ x * y := Int.mul_nonneg hx0 hy0
  have hm1 : x * y ≤ 65025 := by have := Int.mul_le_mul hx1 hy1 hy0 (by decide : (0 : Int) ≤ 255); omega
  go_enter Try.func128, Try.ntmps128
  go_wp2_with fail
  refine (isWord_any x _ true (by simp [HX.out])).mono ?_
  rintro e w' ⟨rfl, rfl⟩
  go_wp2_with fail
  refine (isWord_any y _ true (by simp [HY.out])).mono ?_
  rintro e w' ⟨rfl, rfl⟩
  go_wp2
  go_ret
  exact ⟨rfl, rfl⟩

theorem iWordLess_any (x y : Int) (w : World) (hx : Word x) (hy : Word y) :
    Calls Try.prog 129 #[.int .i64 x, .int .i64 y] w fun e w' => e = .returned (.int .i64 (if x < y then 1 else 0)) ∧ w = w' := by
  have HX := Lib.hid hx
  have HY := Lib.hid hy
  obtain ⟨hx0, hx1⟩ := hx
  obtain ⟨hy0, hy1⟩ := hy
  by_cases hlt : x < y
  · rw [if_pos hlt]
    go_enter Try.func129, Try.ntmps129
    go_wp2_with fail
    refine (isWord_any x _ true (by simp [HX.out])).mono ?_
    rintro e w' ⟨rfl, rfl⟩
    go_wp2_with fail
    refine (isWord_any y _ true (by simp [HY.out])).mono ?_
    rintro e w' ⟨rfl, rfl⟩
    go_wp2
    go_ret
    exact ⟨rfl, rfl⟩
  · rw [if_neg hlt]
    go_enter Try.func129, Try.ntmps129
    go_wp2_with fail
    refine (isWord_any x _ true (by simp [HX.out])).mono ?_
    rintro e w' ⟨rfl, rfl⟩
    go_wp2_with fail
    refine (isWord_any y _ true (by simp [HY.out])).mono ?_
    rintro e w' ⟨rfl, rfl⟩
    go_wp2
    go_ret
    exact ⟨rfl, rfl⟩

end Go.Proofs.Ytokdfgodmhekmaa
