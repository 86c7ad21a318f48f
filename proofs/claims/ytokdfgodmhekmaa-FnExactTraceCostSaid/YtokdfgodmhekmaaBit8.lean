/- Sets as numbers that are not negative: Go's operations on their digits. No program in sight. -/
import Derived.Test.YtokdfgodmhekmaaBit16
import Derived.Laws.BitsAllLaws
import Derived.Lib.QuoteBits
namespace Go.Proofs.Ytokdfgodmhekmaa
open Go.RowKit

theorem ofInt64 (i : Nat) (h : i < 9223372036854775808) : (BitVec.ofInt 64 (i : Int)).toNat = i := ofInt_u64 i (by omega)
theorem bits_or {a b : Nat} (ha : a < 4611686018427387904) (hb : b < 4611686018427387904) : bits .or .i64 (a : Int) (b : Int) = ((a ||| b : Nat) : Int) := by
  show IntKind.i64.wrap ((BitVec.ofInt 64 (a : Int) ||| BitVec.ofInt 64 (b : Int)).toNat : Int) = _
  rw [BitVec.toNat_or, ofInt64 a (by omega), ofInt64 b (by omega)]
  have := Nat.or_lt_two_pow (n := 62) (by omega : a < 2 ^ 62) (by omega : b < 2 ^ 62)
  exact Lib.wrap_i64_small _ (by omega)
theorem bits_and {a b : Nat} (ha : a < 4611686018427387904) (hb : b < 4611686018427387904) : bits .and .i64 (a : Int) (b : Int) = ((a &&& b : Nat) : Int) := by
  show IntKind.i64.wrap ((BitVec.ofInt 64 (a : Int) &&& BitVec.ofInt 64 (b : Int)).toNat : Int) = _
  rw [BitVec.toNat_and, ofInt64 a (by omega), ofInt64 b (by omega)]
  have := Nat.and_lt_two_pow (n := 62) a (by omega : b < 2 ^ 62)
  exact Lib.wrap_i64_small _ (by omega)
theorem bits_xor {a b : Nat} (ha : a < 4611686018427387904) (hb : b < 4611686018427387904) : bits .xor .i64 (a : Int) (b : Int) = ((a ^^^ b : Nat) : Int) := by
  show IntKind.i64.wrap ((BitVec.ofInt 64 (a : Int) ^^^ BitVec.ofInt 64 (b : Int)).toNat : Int) = _
  rw [BitVec.toNat_xor, ofInt64 a (by omega), ofInt64 b (by omega)]
  have := Nat.xor_lt_two_pow (n := 62) (by omega : a < 2 ^ 62) (by omega : b < 2 ^ 62)
  exact Lib.wrap_i64_small _ (by omega)
theorem and_not_nat {a b : Nat} (ha : a < 2 ^ 64) (hb : b < 2 ^ 64) : a &&& (2 ^ 64 - 1 - b) = a ^^^ (a &&& b) := by
  apply Nat.eq_of_testBit_eq
  intro i
  rw [show 2 ^ 64 - 1 - b = 2 ^ 64 - (b + 1) by omega, Nat.testBit_and, Nat.testBit_xor, Nat.testBit_and, Nat.testBit_two_pow_sub_succ hb]
  by_cases hi : i < 64
  · simp [hi]; cases a.testBit i <;> cases b.testBit i <;> rfl
  · have : a.testBit i = false := Nat.testBit_lt_two_pow (Nat.lt_of_lt_of_le ha (Nat.pow_le_pow_right (by decide) (by omega)))
    simp [this]
theorem bits_andNot {a b : Nat} (ha : a < 4611686018427387904) (hb : b < 4611686018427387904) : bits .andNot .i64 (a : Int) (b : Int) = ((a ^^^ (a &&& b) : Nat) : Int) := by
  show IntKind.i64.wrap ((BitVec.ofInt 64 (a : Int) &&& ~~~BitVec.ofInt 64 (b : Int)).toNat : Int) = _
  rw [BitVec.toNat_and, BitVec.toNat_not, ofInt64 a (by omega), ofInt64 b (by omega), and_not_nat (by omega) (by omega)]
  have := Nat.xor_lt_two_pow (n := 62) (by omega : a < 2 ^ 62) (Nat.and_lt_two_pow (n := 62) a (by omega : b < 2 ^ 62))
  exact Lib.wrap_i64_small _ (by omega)

/-- Digit i of a number. -/
theorem digit_cast (u i : Nat) : ((u : Int) / 2 ^ i) % 2 = ((u / 2 ^ i % 2 : Nat) : Int) := by
  have : ((2 ^ i : Nat) : Int) = (2 : Int) ^ i := by simp
  rw [← this]; norm_cast
theorem digit_nonneg (u i : Nat) : (0 : Int) ≤ (u : Int) / 2 ^ i := Int.ediv_nonneg (by omega) (Int.pow_nonneg (by decide))
theorem digit_testBit (u i : Nat) : u / 2 ^ i % 2 = if u.testBit i then 1 else 0 := by
  rw [Nat.testBit_eq_decide_div_mod_eq]
  have := Nat.mod_two_eq_zero_or_one (u / 2 ^ i)
  rcases this with h | h <;> simp [h]

theorem digit_eq1 (u i : Nat) : (((u : Int) / 2 ^ i) % 2 == 1) = u.testBit i := by
  rw [digit_cast, digit_testBit]
  cases u.testBit i <;> simp
theorem digit_eq0 (u i : Nat) : (((u : Int) / 2 ^ i) % 2 == 0) = !u.testBit i := by
  rw [digit_cast, digit_testBit]
  cases u.testBit i <;> simp

/-- How many digits below i are 1. -/
def cnt (u : Nat) : Nat → Nat
  | 0 => 0
  | i + 1 => cnt u i + u / 2 ^ i % 2
theorem cnt_le (u : Nat) : ∀ i, cnt u i ≤ i
  | 0 => Nat.le_refl _
  | i + 1 => by
    have := cnt_le u i
    have h := Nat.mod_lt (u / 2 ^ i) (by decide : 0 < 2)
    show cnt u i + u / 2 ^ i % 2 ≤ i + 1
    omega

end Go.Proofs.Ytokdfgodmhekmaa
