/- What an instruction costs. No condition. -/
import Derived.Test.YtokdfgodmhekmaaHist
import Derived.Test.YtokdfgodmhekmaaCodeV
import Derived.Test.YtokdfgodmhekmaaICodeV
import Derived.Test.YtokdfgodmhekmaaKeep
namespace Go.Proofs.Ytokdfgodmhekmaa
open Go.RowKit

theorem eqI (x y : Int) : ((x == y) = true ∧ x = y) ∨ ((x == y) = false ∧ x ≠ y) := by
  by_cases h : x = y
  · exact .inl ⟨by simp [h], h⟩
  · exact .inr ⟨by simp [h], h⟩

set_option maxHeartbeats 1000000 in
set_option maxRecDepth 100000 in
theorem scost_any (cd : Cd) (w : World) (h : CdOk cd) (q : Nat) (hq : cdCost cd = q) :
    Calls Try.prog 66 #[.agg #[.int .i64 cd.op, .int .i64 cd.a, .int .i64 cd.b, .int .i64 cd.c]] w fun e w' => e = .returned (.int .i64 (q : Nat)) ∧ Pure w w' := by
  have H := Lib.hid h
  have HQ := Lib.hid hq
  obtain ⟨op, a, b, c⟩ := cd
  clear h hq
  unfold cdCost at HQ
  have HP := Lib.hid (show Pure w (w.alloc (.cells #[.int .i64 op, .int .i64 a, .int .i64 b, .int .i64 c] 61)) from Pure.alloc (Pure.refl _) _)
  have hx0 : (w.alloc (.cells #[.int .i64 op, .int .i64 a, .int .i64 b, .int .i64 c] 61)).cell? ⟨w.heap.size, 0, none⟩ = some (.int .i64 op) := (cell_of_row _ _ 0 _ _ _ (heap_alloc_new w (.cells #[.int .i64 op, .int .i64 a, .int .i64 b, .int .i64 c] 61))).trans rfl
  have HX := Lib.hid hx0
  clear hx0
  by_cases ho : op = 4 ∨ op = 8 ∨ op = 9 ∨ op = 12 ∨ op = 14
  · rcases ho with rfl | rfl | rfl | rfl | rfl
    all_goals
      obtain rfl : _ = q := HQ.out
      clear HQ
      go_enter Try.func66, Try.ntmps66
      go_wp2_with fail
      refine (scv_any ⟨_, a, b, c⟩ _ true ⟨fun _ => H.out, fun _ => rfl⟩).mono ?_
      rintro e w1 ⟨rfl, hp1⟩
      have hx := keepPc hp1 HX.out
      clear HX
      go_wp2
      go_ret
      exact ⟨rfl, HP.out.trans hp1⟩
  · have HO := Lib.hid ho; clear ho
    have d4 : (op == 4) = false := by have := HO.out; rw [beq_eq_false_iff_ne]; omega
    have d8 : (op == 8) = false := by have := HO.out; rw [beq_eq_false_iff_ne]; omega
    have d9 : (op == 9) = false := by have := HO.out; rw [beq_eq_false_iff_ne]; omega
    have d12 : (op == 12) = false := by have := HO.out; rw [beq_eq_false_iff_ne]; omega
    have d14 : (op == 14) = false := by have := HO.out; rw [beq_eq_false_iff_ne]; omega
    obtain rfl : 1 = q := by
      have h1 := HQ.out
      have h2 := HO.out
      rw [← h1, if_neg (by show ¬ op = 4; omega), if_neg (by show ¬ (op = 8 ∨ op = 9); omega), if_neg (by show ¬ (op = 12 ∨ op = 14); omega)]
    clear HQ
    go_enter Try.func66, Try.ntmps66
    go_wp2_with fail
    refine (scv_any ⟨_, a, b, c⟩ _ true ⟨fun _ => H.out, fun _ => rfl⟩).mono ?_
    rintro e w1 ⟨rfl, hp1⟩
    have hx := keepPc hp1 HX.out
    clear HX
    go_wp2
    go_ret
    exact ⟨rfl, HP.out.trans hp1⟩

set_option maxHeartbeats 1000000 in
set_option maxRecDepth 100000 in
theorem icost_any (cd : Cd) (w : World) (h : CdOk cd) (q : Nat) (hq : cdCost cd = q) :
    Calls Try.prog 88 #[.agg #[.int .i64 cd.op, .int .i64 cd.a, .int .i64 cd.b, .int .i64 cd.c]] w fun e w' => e = .returned (.int .i64 (q : Nat)) ∧ Pure w w' := by
  have H := Lib.hid h
  have HQ := Lib.hid hq
  obtain ⟨op, a, b, c⟩ := cd
  clear h hq
  unfold cdCost at HQ
  have HP := Lib.hid (show Pure w (w.alloc (.cells #[.int .i64 op, .int .i64 a, .int .i64 b, .int .i64 c] 61)) from Pure.alloc (Pure.refl _) _)
  have hx0 : (w.alloc (.cells #[.int .i64 op, .int .i64 a, .int .i64 b, .int .i64 c] 61)).cell? ⟨w.heap.size, 0, none⟩ = some (.int .i64 op) := (cell_of_row _ _ 0 _ _ _ (heap_alloc_new w (.cells #[.int .i64 op, .int .i64 a, .int .i64 b, .int .i64 c] 61))).trans rfl
  have HX := Lib.hid hx0
  clear hx0
  by_cases ho : op = 4 ∨ op = 8 ∨ op = 9 ∨ op = 12 ∨ op = 14
  · rcases ho with rfl | rfl | rfl | rfl | rfl
    all_goals
      obtain rfl : _ = q := HQ.out
      clear HQ
      go_enter Try.func88, Try.ntmps88
      go_wp2_with fail
      refine (icv_any ⟨_, a, b, c⟩ _ true ⟨fun _ => H.out, fun _ => rfl⟩).mono ?_
      rintro e w1 ⟨rfl, hp1⟩
      have hx := keepPc hp1 HX.out
      clear HX
      go_wp2
      go_ret
      exact ⟨rfl, HP.out.trans hp1⟩
  · have HO := Lib.hid ho; clear ho
    have d4 : (op == 4) = false := by have := HO.out; rw [beq_eq_false_iff_ne]; omega
    have d8 : (op == 8) = false := by have := HO.out; rw [beq_eq_false_iff_ne]; omega
    have d9 : (op == 9) = false := by have := HO.out; rw [beq_eq_false_iff_ne]; omega
    have d12 : (op == 12) = false := by have := HO.out; rw [beq_eq_false_iff_ne]; omega
    have d14 : (op == 14) = false := by have := HO.out; rw [beq_eq_false_iff_ne]; omega
    obtain rfl : 1 = q := by
      have h1 := HQ.out
      have h2 := HO.out
      rw [← h1, if_neg (by show ¬ op = 4; omega), if_neg (by show ¬ (op = 8 ∨ op = 9); omega), if_neg (by show ¬ (op = 12 ∨ op = 14); omega)]
    clear HQ
    go_enter Try.func88, Try.ntmps88
    go_wp2_with fail
    refine (icv_any ⟨_, a, b, c⟩ _ true ⟨fun _ => H.out, fun _ => rfl⟩).mono ?_
    rintro e w1 ⟨rfl, hp1⟩
    have hx := keepPc hp1 HX.out
    clear HX
    go_wp2
    go_ret
    exact ⟨rfl, HP.out.trans hp1⟩

end Go.Proofs.Ytokdfgodmhekmaa
