/- What instructions read and write, plainly. No condition. -/
import Derived.Test.YtokdfgodmhekmaaCodes
import Derived.Test.YtokdfgodmhekmaaLiveP
namespace Go.Proofs.Ytokdfgodmhekmaa
open Go.RowKit
theorem boxed {w w1 : World} {o a b c : Int} {t : TypeId} (hp : Pure (w.alloc (.cells #[.int .i64 o, .int .i64 a, .int .i64 b, .int .i64 c] t)) w1) :
    w1.cell? ⟨w.heap.size, 0, none⟩ = some (.int .i64 o) ∧ w1.cell? ⟨w.heap.size, 1, none⟩ = some (.int .i64 a) ∧ w1.cell? ⟨w.heap.size, 2, none⟩ = some (.int .i64 b) ∧ w1.cell? ⟨w.heap.size, 3, none⟩ = some (.int .i64 c) ∧ Pure w w1 := by
  have c0 := cell_of_row _ _ 0 _ _ _ (heap_alloc_new w (.cells #[.int .i64 o, .int .i64 a, .int .i64 b, .int .i64 c] t))
  have c1 := cell_of_row _ _ 1 _ _ _ (heap_alloc_new w (.cells #[.int .i64 o, .int .i64 a, .int .i64 b, .int .i64 c] t))
  have c2 := cell_of_row _ _ 2 _ _ _ (heap_alloc_new w (.cells #[.int .i64 o, .int .i64 a, .int .i64 b, .int .i64 c] t))
  have c3 := cell_of_row _ _ 3 _ _ _ (heap_alloc_new w (.cells #[.int .i64 o, .int .i64 a, .int .i64 b, .int .i64 c] t))
  have hlt : w.heap.size < (w.alloc (.cells #[.int .i64 o, .int .i64 a, .int .i64 b, .int .i64 c] t)).heap.size := World.block_lt_of_cell? _ _ c0
  exact ⟨(hp.cell _ _ hlt).trans c0, (hp.cell _ _ hlt).trans c1, (hp.cell _ _ hlt).trans c2, (hp.cell _ _ hlt).trans c3, (Pure.alloc (Pure.refl w) _).trans hp⟩

theorem shl_pw {x : Int} (h1 : 0 ≤ x) (h2 : x ≤ 3) : wrap64 (2 ^ x.toNat) = ((pw x : Nat) : Int) := by
  have : x = 0 ∨ x = 1 ∨ x = 2 ∨ x = 3 := by omega
  rcases this with rfl | rfl | rfl | rfl
  all_goals (rw [← IntWalk.i64_left, IntWalk.i64_in _ ⟨by decide, by decide⟩]; rfl)

/-- The sets of the registers that an instruction reads, and that it writes. -/
def rd (c : Cd) : Nat :=
  if c.op = 5 ∨ c.op = 8 then pw c.b else if c.op = 3 ∨ c.op = 4 ∨ c.op = 9 then pw c.a ||| pw c.b else if c.op = 6 then pw c.b ||| pw c.c
  else if c.op = 7 then pw c.a ||| pw c.b ||| pw c.c else if c.op = 11 ∨ c.op = 13 then pw c.a else 0
def wrg (c : Cd) : Int := if 1 ≤ c.op ∧ c.op ≤ 8 then c.a else -1
def wst (c : Cd) : Nat := if 1 ≤ c.op ∧ c.op ≤ 8 then pw c.a else 0
theorem CdOk.regs {o a b c : Int} (h : CdOk ⟨o, a, b, c⟩) : (0 ≤ a ∧ a ≤ 3) ∧ (o ≠ 1 → 0 ≤ b) ∧ (o ≠ 1 → o ≠ 13 → b ≤ 3) ∧ 0 ≤ c ∧ c ≤ 3 ∧ 1 ≤ o ∧ o ≤ 14 := by
  unfold CdOk Reg at h
  simp only at h
  omega
theorem rd_lt {c : Cd} (h : CdOk c) : rd c < 16 := by
  obtain ⟨o, a, b, d⟩ := c
  obtain ⟨h1, h2, h3, h4, h5, _⟩ := h.regs
  unfold rd
  simp only
  repeat' split
  all_goals first | exact pw_lt (by omega) | exact or_lt (pw_lt (by omega)) (pw_lt (by omega)) | exact or_lt (or_lt (pw_lt (by omega)) (pw_lt (by omega))) (pw_lt (by omega)) | decide
theorem wr_lt {c : Cd} (h : CdOk c) : wst c < 16 := by
  obtain ⟨o, a, b, d⟩ := c
  obtain ⟨h1, _⟩ := h.regs
  unfold wst
  simp only
  split
  · exact pw_lt (by omega)
  · decide


end Go.Proofs.Ytokdfgodmhekmaa
