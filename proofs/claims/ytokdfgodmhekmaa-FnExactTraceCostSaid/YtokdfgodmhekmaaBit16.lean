/- Sets of registers as numbers below 16. No program in sight. -/
import Derived.Test.YtokdfgodmhekmaaBase
namespace Go.Proofs.Ytokdfgodmhekmaa
open Go.RowKit

theorem or16' : ∀ a b : Fin 16, bits .or .i64 (a.val : Int) (b.val : Int) = ((a.val ||| b.val : Nat) : Int) := by decide +kernel
theorem not16' : ∀ a b : Fin 16, bits .andNot .i64 (a.val : Int) (b.val : Int) = ((a.val ^^^ (a.val &&& b.val) : Nat) : Int) := by decide +kernel
theorem or16 {a b : Nat} (ha : a < 16) (hb : b < 16) : bits .or .i64 (a : Int) (b : Int) = ((a ||| b : Nat) : Int) := or16' ⟨a, ha⟩ ⟨b, hb⟩
theorem not16 {a b : Nat} (ha : a < 16) (hb : b < 16) : bits .andNot .i64 (a : Int) (b : Int) = ((a ^^^ (a &&& b) : Nat) : Int) := not16' ⟨a, ha⟩ ⟨b, hb⟩
theorem or_lt {a b : Nat} (ha : a < 16) (hb : b < 16) : a ||| b < 16 := Nat.or_lt_two_pow (n := 4) ha hb
theorem del_lt {a b : Nat} (ha : a < 16) (hb : b < 16) : a ^^^ (a &&& b) < 16 := Nat.xor_lt_two_pow (n := 4) ha (Nat.and_lt_two_pow (n := 4) _ hb)

/-- The set of one register. -/
def pw (x : Int) : Nat := 2 ^ x.toNat
theorem pw_lt {x : Int} (h1 : x ≤ 3) : pw x < 16 := by
  unfold pw
  have : x.toNat ≤ 3 := by omega
  calc 2 ^ x.toNat ≤ 2 ^ 3 := Nat.pow_le_pow_right (by decide) this
    _ < 16 := by decide

end Go.Proofs.Ytokdfgodmhekmaa
