/- Graphs: which are valid, as the reference and the program find it. No condition. -/
import Derived.Test.YtokdfgodmhekmaaElems
namespace Go.Proofs.Ytokdfgodmhekmaa
open Go.RowKit

set_option maxHeartbeats 400000 in
theorem l1In_t (n lo hi : Int) (w : World) (h : lo ≤ n ∧ n ≤ hi) :
    Calls Try.prog 69 #[.int .i64 n, .int .i64 lo, .int .i64 hi] w fun e w' => e = .returned (.bool true) ∧ w = w' := by
  obtain ⟨h1, h2⟩ := h
  go_enter Try.func69, Try.ntmps69
  go_wp2
  go_ret
  exact ⟨rfl, rfl⟩
set_option maxHeartbeats 400000 in
theorem l1In_f (n lo hi : Int) (w : World) (h : ¬ (lo ≤ n ∧ n ≤ hi)) :
    Calls Try.prog 69 #[.int .i64 n, .int .i64 lo, .int .i64 hi] w fun e w' => e = .returned (.bool false) ∧ w = w' := by
  by_cases h1 : lo ≤ n
  · have h2 : ¬ n ≤ hi := by omega
    clear h
    go_enter Try.func69, Try.ntmps69
    go_wp2
    go_ret
    exact ⟨rfl, rfl⟩
  · clear h
    go_enter Try.func69, Try.ntmps69
    go_wp2
    go_ret
    exact ⟨rfl, rfl⟩
theorem l1In_any (n lo hi : Int) (w : World) (B : Bool) (hB : B = true ↔ (lo ≤ n ∧ n ≤ hi)) :
    Calls Try.prog 69 #[.int .i64 n, .int .i64 lo, .int .i64 hi] w fun e w' => e = .returned (.bool B) ∧ w = w' := by
  cases B
  · exact l1In_f n lo hi w (fun h => by simp [h] at hB)
  · exact l1In_t n lo hi w (hB.1 rfl)

set_option maxHeartbeats 400000 in
theorem within_t (n lo hi : Int) (w : World) (h : lo ≤ n ∧ n ≤ hi) :
    Calls Try.prog 70 #[.int .i64 n, .int .i64 lo, .int .i64 hi] w fun e w' => e = .returned (.bool true) ∧ w = w' := by
  obtain ⟨h1, h2⟩ := h
  go_enter Try.func70, Try.ntmps70
  go_wp2
  go_ret
  exact ⟨rfl, rfl⟩
set_option maxHeartbeats 400000 in
theorem within_f (n lo hi : Int) (w : World) (h : ¬ (lo ≤ n ∧ n ≤ hi)) :
    Calls Try.prog 70 #[.int .i64 n, .int .i64 lo, .int .i64 hi] w fun e w' => e = .returned (.bool false) ∧ w = w' := by
  by_cases h1 : lo ≤ n
  · have h2 : ¬ n ≤ hi := by omega
    clear h
    go_enter Try.func70, Try.ntmps70
    go_wp2
    go_ret
    exact ⟨rfl, rfl⟩
  · clear h
    go_enter Try.func70, Try.ntmps70
    go_wp2
    go_ret
    exact ⟨rfl, rfl⟩
theorem within_any (n lo hi : Int) (w : World) (B : Bool) (hB : B = true ↔ (lo ≤ n ∧ n ≤ hi)) :
    Calls Try.prog 70 #[.int .i64 n, .int .i64 lo, .int .i64 hi] w fun e w' => e = .returned (.bool B) ∧ w = w' := by
  cases B
  · exact within_f n lo hi w (fun h => by simp [h] at hB)
  · exact within_t n lo hi w (hB.1 rfl)

def rowOk (n : Nat) (r : List Int) (m : Nat) : Prop := ∀ j, j < m → 0 ≤ r.getD j 0 ∧ r.getD j 0 ≤ (n : Int) - 1 ∧ ∀ i, i < j → r.getD i 0 ≠ r.getD j 0
def GValid (xss : List (List Int)) : Prop := (∀ k, k < xss.length → rowOk xss.length (xss.getD k []) (xss.getD k []).length) ∧ xss.length ≤ 64

theorem rowOk_step {n : Nat} {xs : List Int} {j : Nat} {x : Int} (h : rowOk n xs j) (hx : xs.getD j 0 = x) (h1 : 0 ≤ x) (h2 : x ≤ (n : Int) - 1) (hn : ∀ i, i < j → xs.getD i 0 ≠ x) : rowOk n xs (j + 1) := by
  intro j' hj'
  by_cases e : j' = j
  · subst e; rw [hx]; exact ⟨h1, h2, hn⟩
  · exact h j' (by omega)

end Go.Proofs.Ytokdfgodmhekmaa
