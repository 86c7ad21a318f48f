/- Which instructions are valid, as the reference finds it. No condition. -/
import Derived.Test.YtokdfgodmhekmaaCodes
import Derived.Test.YtokdfgodmhekmaaGV
namespace Go.Proofs.Ytokdfgodmhekmaa
open Go.RowKit

set_option maxHeartbeats 400000 in
theorem l2Word_any (n : Int) (w : World) (B : Bool) (hB : B = true ↔ Word n) :
    Calls Try.prog 102 #[.int .i64 n] w fun e w' => e = .returned (.bool B) ∧ w = w' := by
  have HB := Lib.hid hB; clear hB
  go_enter Try.func102, Try.ntmps102
  go_wp2_with fail
  refine (l1In_any _ _ _ _ B HB.out).mono ?_
  rintro e w' ⟨rfl, rfl⟩
  go_wp2
  go_ret
  exact ⟨rfl, rfl⟩
theorem regB (x : Int) : ∃ B : Bool, B = true ↔ (0 ≤ x ∧ x ≤ 3) := ⟨decide (0 ≤ x ∧ x ≤ 3), by simp⟩
theorem wordB (x : Int) : ∃ B : Bool, B = true ↔ Word x := by unfold Word; exact ⟨decide (0 ≤ x ∧ x ≤ 255), by simp⟩
theorem turnB (x : Int) : ∃ B : Bool, B = true ↔ (1 ≤ x ∧ x ≤ 4) := ⟨decide (1 ≤ x ∧ x ≤ 4), by simp⟩

set_option maxHeartbeats 1000000 in
theorem scv_1 (a b c : Int) (w : World) (B : Bool) (hB : B = true ↔ CdOk ⟨1, a, b, c⟩) :
    Calls Try.prog 87 #[.agg #[.int .i64 1, .int .i64 a, .int .i64 b, .int .i64 c]] w fun e w' => e = .returned (.bool B) ∧ Pure w w' := by
  have HB := Lib.hid hB; clear hB
  obtain ⟨ra, hra⟩ := regB a
  obtain ⟨rb, hrb⟩ := regB b
  obtain ⟨wb, hwb⟩ := wordB b
  have HW := Lib.hid hwb; clear hwb
  have HA := Lib.hid hra; clear hra
  have HR := Lib.hid hrb; clear hrb
  cases ra
  · go_enter Try.func87, Try.ntmps87
    go_wp2_with fail
    refine (l1In_any _ _ _ _ false (by have := HA.out; simpa using this)).mono ?_
    rintro e w1 ⟨rfl, rfl⟩
    go_wp2_with fail
    refine (l1In_any _ _ _ _ rb (by have := HR.out; simpa using this)).mono ?_
    rintro e w1 ⟨rfl, rfl⟩
    go_wp2
    go_ret
    refine ⟨ret_bool ?_, (by repeat (first | assumption | exact Pure.refl _ | refine Pure.drewN ?_ _ | refine Pure.drew ?_ | refine Pure.alloc ?_ _ | refine Pure.setCell ?_ (by simp <;> omega) _))⟩
    rw [Bool.eq_iff_iff, HB.out]
    have t1 := HA.out; have t2 := HR.out; have t4 := HW.out
    simp only [Bool.false_eq_true, false_iff, true_iff, beq_iff_eq, CdOk, Reg, Word, true_and, and_true, true_or, or_true] at *
    first | omega | (constructor <;> intro h <;> omega)
  · cases wb
    · go_enter Try.func87, Try.ntmps87
      go_wp2_with fail
      refine (l1In_any _ _ _ _ true (by have := HA.out; simpa using this)).mono ?_
      rintro e w1 ⟨rfl, rfl⟩
      go_wp2_with fail
      refine (l1In_any _ _ _ _ rb (by have := HR.out; simpa using this)).mono ?_
      rintro e w1 ⟨rfl, rfl⟩
      go_wp2_with fail
      refine (l2Word_any _ _ false (by have := HW.out; simpa using this)).mono ?_
      rintro e w1 ⟨rfl, rfl⟩
      go_wp2
      go_ret
      refine ⟨ret_bool ?_, (by repeat (first | assumption | exact Pure.refl _ | refine Pure.drewN ?_ _ | refine Pure.drew ?_ | refine Pure.alloc ?_ _ | refine Pure.setCell ?_ (by simp <;> omega) _))⟩
      rw [Bool.eq_iff_iff, HB.out]
      have t1 := HA.out; have t2 := HR.out; have t4 := HW.out
      simp only [Bool.false_eq_true, false_iff, true_iff, beq_iff_eq, CdOk, Reg, Word, true_and, and_true, true_or, or_true] at *
      first | omega | (constructor <;> intro h <;> omega)
    · go_enter Try.func87, Try.ntmps87
      go_wp2_with fail
      refine (l1In_any _ _ _ _ true (by have := HA.out; simpa using this)).mono ?_
      rintro e w1 ⟨rfl, rfl⟩
      go_wp2_with fail
      refine (l1In_any _ _ _ _ rb (by have := HR.out; simpa using this)).mono ?_
      rintro e w1 ⟨rfl, rfl⟩
      go_wp2_with fail
      refine (l2Word_any _ _ true (by have := HW.out; simpa using this)).mono ?_
      rintro e w1 ⟨rfl, rfl⟩
      go_wp2
      go_ret
      refine ⟨ret_bool ?_, (by repeat (first | assumption | exact Pure.refl _ | refine Pure.drewN ?_ _ | refine Pure.drew ?_ | refine Pure.alloc ?_ _ | refine Pure.setCell ?_ (by simp <;> omega) _))⟩
      rw [Bool.eq_iff_iff, HB.out]
      have t1 := HA.out; have t2 := HR.out; have t4 := HW.out
      simp only [Bool.false_eq_true, false_iff, true_iff, beq_iff_eq, CdOk, Reg, Word, true_and, and_true, true_or, or_true] at *
      first | omega | (constructor <;> intro h <;> omega)

set_option maxHeartbeats 1000000 in
theorem scv_2 (a b c : Int) (w : World) (B : Bool) (hB : B = true ↔ CdOk ⟨2, a, b, c⟩) :
    Calls Try.prog 87 #[.agg #[.int .i64 2, .int .i64 a, .int .i64 b, .int .i64 c]] w fun e w' => e = .returned (.bool B) ∧ Pure w w' := by
  have HB := Lib.hid hB; clear hB
  obtain ⟨ra, hra⟩ := regB a
  obtain ⟨rb, hrb⟩ := regB b
  have HA := Lib.hid hra; clear hra
  have HR := Lib.hid hrb; clear hrb
  cases ra
  · go_enter Try.func87, Try.ntmps87
    go_wp2_with fail
    refine (l1In_any _ _ _ _ false (by have := HA.out; simpa using this)).mono ?_
    rintro e w1 ⟨rfl, rfl⟩
    go_wp2_with fail
    refine (l1In_any _ _ _ _ rb (by have := HR.out; simpa using this)).mono ?_
    rintro e w1 ⟨rfl, rfl⟩
    go_wp2
    go_ret
    refine ⟨ret_bool ?_, (by repeat (first | assumption | exact Pure.refl _ | refine Pure.drewN ?_ _ | refine Pure.drew ?_ | refine Pure.alloc ?_ _ | refine Pure.setCell ?_ (by simp <;> omega) _))⟩
    rw [Bool.eq_iff_iff, HB.out]
    have t1 := HA.out; have t2 := HR.out
    simp only [Bool.false_eq_true, false_iff, true_iff, beq_iff_eq, CdOk, Reg, Word, true_and, and_true, true_or, or_true] at *
    first | omega | (constructor <;> intro h <;> omega)
  · by_cases hb0 : b = 0
    · have d0 : (b == 0) = true := by simp [hb0]
      have Hb0 := Lib.hid hb0; clear hb0
      go_enter Try.func87, Try.ntmps87
      go_wp2_with fail
      refine (l1In_any _ _ _ _ true (by have := HA.out; simpa using this)).mono ?_
      rintro e w1 ⟨rfl, rfl⟩
      go_wp2_with fail
      refine (l1In_any _ _ _ _ rb (by have := HR.out; simpa using this)).mono ?_
      rintro e w1 ⟨rfl, rfl⟩
      go_wp2
      go_ret
      refine ⟨ret_bool ?_, (by repeat (first | assumption | exact Pure.refl _ | refine Pure.drewN ?_ _ | refine Pure.drew ?_ | refine Pure.alloc ?_ _ | refine Pure.setCell ?_ (by simp <;> omega) _))⟩
      rw [Bool.eq_iff_iff, HB.out]
      have t1 := HA.out; have t2 := HR.out
      simp only [Bool.false_eq_true, false_iff, true_iff, beq_iff_eq, CdOk, Reg, Word, true_and, and_true, true_or, or_true] at *
      have := Hb0.out; first | omega | (constructor <;> intro h <;> omega)
    · have d0 : (b == 0) = false := by simp [hb0]
      have Hb0 := Lib.hid hb0; clear hb0
      go_enter Try.func87, Try.ntmps87
      go_wp2_with fail
      refine (l1In_any _ _ _ _ true (by have := HA.out; simpa using this)).mono ?_
      rintro e w1 ⟨rfl, rfl⟩
      go_wp2_with fail
      refine (l1In_any _ _ _ _ rb (by have := HR.out; simpa using this)).mono ?_
      rintro e w1 ⟨rfl, rfl⟩
      go_wp2
      go_ret
      refine ⟨ret_bool ?_, (by repeat (first | assumption | exact Pure.refl _ | refine Pure.drewN ?_ _ | refine Pure.drew ?_ | refine Pure.alloc ?_ _ | refine Pure.setCell ?_ (by simp <;> omega) _))⟩
      rw [Bool.eq_iff_iff, HB.out]
      have t1 := HA.out; have t2 := HR.out
      simp only [Bool.false_eq_true, false_iff, true_iff, beq_iff_eq, CdOk, Reg, Word, true_and, and_true, true_or, or_true] at *
      have := Hb0.out; first | omega | (constructor <;> intro h <;> omega)

set_option maxHeartbeats 1000000 in
theorem scv_3 (a b c : Int) (w : World) (B : Bool) (hB : B = true ↔ CdOk ⟨3, a, b, c⟩) :
    Calls Try.prog 87 #[.agg #[.int .i64 3, .int .i64 a, .int .i64 b, .int .i64 c]] w fun e w' => e = .returned (.bool B) ∧ Pure w w' := by
  have HB := Lib.hid hB; clear hB
  obtain ⟨ra, hra⟩ := regB a
  obtain ⟨rb, hrb⟩ := regB b
  have HA := Lib.hid hra; clear hra
  have HR := Lib.hid hrb; clear hrb
  cases ra
  · go_enter Try.func87, Try.ntmps87
    go_wp2_with fail
    refine (l1In_any _ _ _ _ false (by have := HA.out; simpa using this)).mono ?_
    rintro e w1 ⟨rfl, rfl⟩
    go_wp2_with fail
    refine (l1In_any _ _ _ _ rb (by have := HR.out; simpa using this)).mono ?_
    rintro e w1 ⟨rfl, rfl⟩
    go_wp2
    go_ret
    refine ⟨ret_bool ?_, (by repeat (first | assumption | exact Pure.refl _ | refine Pure.drewN ?_ _ | refine Pure.drew ?_ | refine Pure.alloc ?_ _ | refine Pure.setCell ?_ (by simp <;> omega) _))⟩
    rw [Bool.eq_iff_iff, HB.out]
    have t1 := HA.out; have t2 := HR.out
    simp only [Bool.false_eq_true, false_iff, true_iff, beq_iff_eq, CdOk, Reg, Word, true_and, and_true, true_or, or_true] at *
    first | omega | (constructor <;> intro h <;> omega)
  · cases rb
    · go_enter Try.func87, Try.ntmps87
      go_wp2_with fail
      refine (l1In_any _ _ _ _ true (by have := HA.out; simpa using this)).mono ?_
      rintro e w1 ⟨rfl, rfl⟩
      go_wp2_with fail
      refine (l1In_any _ _ _ _ false (by have := HR.out; simpa using this)).mono ?_
      rintro e w1 ⟨rfl, rfl⟩
      go_wp2
      go_ret
      refine ⟨ret_bool ?_, (by repeat (first | assumption | exact Pure.refl _ | refine Pure.drewN ?_ _ | refine Pure.drew ?_ | refine Pure.alloc ?_ _ | refine Pure.setCell ?_ (by simp <;> omega) _))⟩
      rw [Bool.eq_iff_iff, HB.out]
      have t1 := HA.out; have t2 := HR.out
      simp only [Bool.false_eq_true, false_iff, true_iff, beq_iff_eq, CdOk, Reg, Word, true_and, and_true, true_or, or_true] at *
      first | omega | (constructor <;> intro h <;> omega)
    · go_enter Try.func87, Try.ntmps87
      go_wp2_with fail
      refine (l1In_any _ _ _ _ true (by have := HA.out; simpa using this)).mono ?_
      rintro e w1 ⟨rfl, rfl⟩
      go_wp2_with fail
      refine (l1In_any _ _ _ _ true (by have := HR.out; simpa using this)).mono ?_
      rintro e w1 ⟨rfl, rfl⟩
      go_wp2
      go_ret
      refine ⟨ret_bool ?_, (by repeat (first | assumption | exact Pure.refl _ | refine Pure.drewN ?_ _ | refine Pure.drew ?_ | refine Pure.alloc ?_ _ | refine Pure.setCell ?_ (by simp <;> omega) _))⟩
      rw [Bool.eq_iff_iff, HB.out]
      have t1 := HA.out; have t2 := HR.out
      simp only [Bool.false_eq_true, false_iff, true_iff, beq_iff_eq, CdOk, Reg, Word, true_and, and_true, true_or, or_true] at *
      first | omega | (constructor <;> intro h <;> omega)

set_option maxHeartbeats 1000000 in
theorem scv_4 (a b c : Int) (w : World) (B : Bool) (hB : B = true ↔ CdOk ⟨4, a, b, c⟩) :
    Calls Try.prog 87 #[.agg #[.int .i64 4, .int .i64 a, .int .i64 b, .int .i64 c]] w fun e w' => e = .returned (.bool B) ∧ Pure w w' := by
  have HB := Lib.hid hB; clear hB
  obtain ⟨ra, hra⟩ := regB a
  obtain ⟨rb, hrb⟩ := regB b
  have HA := Lib.hid hra; clear hra
  have HR := Lib.hid hrb; clear hrb
  cases ra
  · go_enter Try.func87, Try.ntmps87
    go_wp2_with fail
    refine (l1In_any _ _ _ _ false (by have := HA.out; simpa using this)).mono ?_
    rintro e w1 ⟨rfl, rfl⟩
    go_wp2_with fail
    refine (l1In_any _ _ _ _ rb (by have := HR.out; simpa using this)).mono ?_
    rintro e w1 ⟨rfl, rfl⟩
    go_wp2
    go_ret
    refine ⟨ret_bool ?_, (by repeat (first | assumption | exact Pure.refl _ | refine Pure.drewN ?_ _ | refine Pure.drew ?_ | refine Pure.alloc ?_ _ | refine Pure.setCell ?_ (by simp <;> omega) _))⟩
    rw [Bool.eq_iff_iff, HB.out]
    have t1 := HA.out; have t2 := HR.out
    simp only [Bool.false_eq_true, false_iff, true_iff, beq_iff_eq, CdOk, Reg, Word, true_and, and_true, true_or, or_true] at *
    first | omega | (constructor <;> intro h <;> omega)
  · cases rb
    · go_enter Try.func87, Try.ntmps87
      go_wp2_with fail
      refine (l1In_any _ _ _ _ true (by have := HA.out; simpa using this)).mono ?_
      rintro e w1 ⟨rfl, rfl⟩
      go_wp2_with fail
      refine (l1In_any _ _ _ _ false (by have := HR.out; simpa using this)).mono ?_
      rintro e w1 ⟨rfl, rfl⟩
      go_wp2
      go_ret
      refine ⟨ret_bool ?_, (by repeat (first | assumption | exact Pure.refl _ | refine Pure.drewN ?_ _ | refine Pure.drew ?_ | refine Pure.alloc ?_ _ | refine Pure.setCell ?_ (by simp <;> omega) _))⟩
      rw [Bool.eq_iff_iff, HB.out]
      have t1 := HA.out; have t2 := HR.out
      simp only [Bool.false_eq_true, false_iff, true_iff, beq_iff_eq, CdOk, Reg, Word, true_and, and_true, true_or, or_true] at *
      first | omega | (constructor <;> intro h <;> omega)
    · go_enter Try.func87, Try.ntmps87
      go_wp2_with fail
      refine (l1In_any _ _ _ _ true (by have := HA.out; simpa using this)).mono ?_
      rintro e w1 ⟨rfl, rfl⟩
      go_wp2_with fail
      refine (l1In_any _ _ _ _ true (by have := HR.out; simpa using this)).mono ?_
      rintro e w1 ⟨rfl, rfl⟩
      go_wp2
      go_ret
      refine ⟨ret_bool ?_, (by repeat (first | assumption | exact Pure.refl _ | refine Pure.drewN ?_ _ | refine Pure.drew ?_ | refine Pure.alloc ?_ _ | refine Pure.setCell ?_ (by simp <;> omega) _))⟩
      rw [Bool.eq_iff_iff, HB.out]
      have t1 := HA.out; have t2 := HR.out
      simp only [Bool.false_eq_true, false_iff, true_iff, beq_iff_eq, CdOk, Reg, Word, true_and, and_true, true_or, or_true] at *
      first | omega | (constructor <;> intro h <;> omega)

set_option maxHeartbeats 1000000 in
theorem scv_5 (a b c : Int) (w : World) (B : Bool) (hB : B = true ↔ CdOk ⟨5, a, b, c⟩) :
    Calls Try.prog 87 #[.agg #[.int .i64 5, .int .i64 a, .int .i64 b, .int .i64 c]] w fun e w' => e = .returned (.bool B) ∧ Pure w w' := by
  have HB := Lib.hid hB; clear hB
  obtain ⟨ra, hra⟩ := regB a
  obtain ⟨rb, hrb⟩ := regB b
  have HA := Lib.hid hra; clear hra
  have HR := Lib.hid hrb; clear hrb
  cases ra
  · go_enter Try.func87, Try.ntmps87
    go_wp2_with fail
    refine (l1In_any _ _ _ _ false (by have := HA.out; simpa using this)).mono ?_
    rintro e w1 ⟨rfl, rfl⟩
    go_wp2_with fail
    refine (l1In_any _ _ _ _ rb (by have := HR.out; simpa using this)).mono ?_
    rintro e w1 ⟨rfl, rfl⟩
    go_wp2
    go_ret
    refine ⟨ret_bool ?_, (by repeat (first | assumption | exact Pure.refl _ | refine Pure.drewN ?_ _ | refine Pure.drew ?_ | refine Pure.alloc ?_ _ | refine Pure.setCell ?_ (by simp <;> omega) _))⟩
    rw [Bool.eq_iff_iff, HB.out]
    have t1 := HA.out; have t2 := HR.out
    simp only [Bool.false_eq_true, false_iff, true_iff, beq_iff_eq, CdOk, Reg, Word, true_and, and_true, true_or, or_true] at *
    first | omega | (constructor <;> intro h <;> omega)
  · cases rb
    · go_enter Try.func87, Try.ntmps87
      go_wp2_with fail
      refine (l1In_any _ _ _ _ true (by have := HA.out; simpa using this)).mono ?_
      rintro e w1 ⟨rfl, rfl⟩
      go_wp2_with fail
      refine (l1In_any _ _ _ _ false (by have := HR.out; simpa using this)).mono ?_
      rintro e w1 ⟨rfl, rfl⟩
      go_wp2
      go_ret
      refine ⟨ret_bool ?_, (by repeat (first | assumption | exact Pure.refl _ | refine Pure.drewN ?_ _ | refine Pure.drew ?_ | refine Pure.alloc ?_ _ | refine Pure.setCell ?_ (by simp <;> omega) _))⟩
      rw [Bool.eq_iff_iff, HB.out]
      have t1 := HA.out; have t2 := HR.out
      simp only [Bool.false_eq_true, false_iff, true_iff, beq_iff_eq, CdOk, Reg, Word, true_and, and_true, true_or, or_true] at *
      first | omega | (constructor <;> intro h <;> omega)
    · go_enter Try.func87, Try.ntmps87
      go_wp2_with fail
      refine (l1In_any _ _ _ _ true (by have := HA.out; simpa using this)).mono ?_
      rintro e w1 ⟨rfl, rfl⟩
      go_wp2_with fail
      refine (l1In_any _ _ _ _ true (by have := HR.out; simpa using this)).mono ?_
      rintro e w1 ⟨rfl, rfl⟩
      go_wp2
      go_ret
      refine ⟨ret_bool ?_, (by repeat (first | assumption | exact Pure.refl _ | refine Pure.drewN ?_ _ | refine Pure.drew ?_ | refine Pure.alloc ?_ _ | refine Pure.setCell ?_ (by simp <;> omega) _))⟩
      rw [Bool.eq_iff_iff, HB.out]
      have t1 := HA.out; have t2 := HR.out
      simp only [Bool.false_eq_true, false_iff, true_iff, beq_iff_eq, CdOk, Reg, Word, true_and, and_true, true_or, or_true] at *
      first | omega | (constructor <;> intro h <;> omega)

set_option maxHeartbeats 1000000 in
theorem scv_6 (a b c : Int) (w : World) (B : Bool) (hB : B = true ↔ CdOk ⟨6, a, b, c⟩) :
    Calls Try.prog 87 #[.agg #[.int .i64 6, .int .i64 a, .int .i64 b, .int .i64 c]] w fun e w' => e = .returned (.bool B) ∧ Pure w w' := by
  have HB := Lib.hid hB; clear hB
  obtain ⟨ra, hra⟩ := regB a
  obtain ⟨rb, hrb⟩ := regB b
  obtain ⟨rc, hrc⟩ := regB c
  have HC := Lib.hid hrc; clear hrc
  have HA := Lib.hid hra; clear hra
  have HR := Lib.hid hrb; clear hrb
  cases ra
  · go_enter Try.func87, Try.ntmps87
    go_wp2_with fail
    refine (l1In_any _ _ _ _ false (by have := HA.out; simpa using this)).mono ?_
    rintro e w1 ⟨rfl, rfl⟩
    go_wp2_with fail
    refine (l1In_any _ _ _ _ rb (by have := HR.out; simpa using this)).mono ?_
    rintro e w1 ⟨rfl, rfl⟩
    go_wp2
    go_ret
    refine ⟨ret_bool ?_, (by repeat (first | assumption | exact Pure.refl _ | refine Pure.drewN ?_ _ | refine Pure.drew ?_ | refine Pure.alloc ?_ _ | refine Pure.setCell ?_ (by simp <;> omega) _))⟩
    rw [Bool.eq_iff_iff, HB.out]
    have t1 := HA.out; have t2 := HR.out; have t3 := HC.out
    simp only [Bool.false_eq_true, false_iff, true_iff, beq_iff_eq, CdOk, Reg, Word, true_and, and_true, true_or, or_true] at *
    first | omega | (constructor <;> intro h <;> omega)
  · cases rb
    · go_enter Try.func87, Try.ntmps87
      go_wp2_with fail
      refine (l1In_any _ _ _ _ true (by have := HA.out; simpa using this)).mono ?_
      rintro e w1 ⟨rfl, rfl⟩
      go_wp2_with fail
      refine (l1In_any _ _ _ _ false (by have := HR.out; simpa using this)).mono ?_
      rintro e w1 ⟨rfl, rfl⟩
      go_wp2
      go_ret
      refine ⟨ret_bool ?_, (by repeat (first | assumption | exact Pure.refl _ | refine Pure.drewN ?_ _ | refine Pure.drew ?_ | refine Pure.alloc ?_ _ | refine Pure.setCell ?_ (by simp <;> omega) _))⟩
      rw [Bool.eq_iff_iff, HB.out]
      have t1 := HA.out; have t2 := HR.out; have t3 := HC.out
      simp only [Bool.false_eq_true, false_iff, true_iff, beq_iff_eq, CdOk, Reg, Word, true_and, and_true, true_or, or_true] at *
      first | omega | (constructor <;> intro h <;> omega)
    · cases rc
      · go_enter Try.func87, Try.ntmps87
        go_wp2_with fail
        refine (l1In_any _ _ _ _ true (by have := HA.out; simpa using this)).mono ?_
        rintro e w1 ⟨rfl, rfl⟩
        go_wp2_with fail
        refine (l1In_any _ _ _ _ true (by have := HR.out; simpa using this)).mono ?_
        rintro e w1 ⟨rfl, rfl⟩
        go_wp2_with fail
        refine (l1In_any _ _ _ _ false (by have := HC.out; simpa using this)).mono ?_
        rintro e w1 ⟨rfl, rfl⟩
        go_wp2
        go_ret
        refine ⟨ret_bool ?_, (by repeat (first | assumption | exact Pure.refl _ | refine Pure.drewN ?_ _ | refine Pure.drew ?_ | refine Pure.alloc ?_ _ | refine Pure.setCell ?_ (by simp <;> omega) _))⟩
        rw [Bool.eq_iff_iff, HB.out]
        have t1 := HA.out; have t2 := HR.out; have t3 := HC.out
        simp only [Bool.false_eq_true, false_iff, true_iff, beq_iff_eq, CdOk, Reg, Word, true_and, and_true, true_or, or_true] at *
        first | omega | (constructor <;> intro h <;> omega)
      · go_enter Try.func87, Try.ntmps87
        go_wp2_with fail
        refine (l1In_any _ _ _ _ true (by have := HA.out; simpa using this)).mono ?_
        rintro e w1 ⟨rfl, rfl⟩
        go_wp2_with fail
        refine (l1In_any _ _ _ _ true (by have := HR.out; simpa using this)).mono ?_
        rintro e w1 ⟨rfl, rfl⟩
        go_wp2_with fail
        refine (l1In_any _ _ _ _ true (by have := HC.out; simpa using this)).mono ?_
        rintro e w1 ⟨rfl, rfl⟩
        go_wp2
        go_ret
        refine ⟨ret_bool ?_, (by repeat (first | assumption | exact Pure.refl _ | refine Pure.drewN ?_ _ | refine Pure.drew ?_ | refine Pure.alloc ?_ _ | refine Pure.setCell ?_ (by simp <;> omega) _))⟩
        rw [Bool.eq_iff_iff, HB.out]
        have t1 := HA.out; have t2 := HR.out; have t3 := HC.out
        simp only [Bool.false_eq_true, false_iff, true_iff, beq_iff_eq, CdOk, Reg, Word, true_and, and_true, true_or, or_true] at *
        first | omega | (constructor <;> intro h <;> omega)

set_option maxHeartbeats 1000000 in
theorem scv_7 (a b c : Int) (w : World) (B : Bool) (hB : B = true ↔ CdOk ⟨7, a, b, c⟩) :
    Calls Try.prog 87 #[.agg #[.int .i64 7, .int .i64 a, .int .i64 b, .int .i64 c]] w fun e w' => e = .returned (.bool B) ∧ Pure w w' := by
  have HB := Lib.hid hB; clear hB
  obtain ⟨ra, hra⟩ := regB a
  obtain ⟨rb, hrb⟩ := regB b
  obtain ⟨rc, hrc⟩ := regB c
  have HC := Lib.hid hrc; clear hrc
  have HA := Lib.hid hra; clear hra
  have HR := Lib.hid hrb; clear hrb
  cases ra
  · go_enter Try.func87, Try.ntmps87
    go_wp2_with fail
    refine (l1In_any _ _ _ _ false (by have := HA.out; simpa using this)).mono ?_
    rintro e w1 ⟨rfl, rfl⟩
    go_wp2_with fail
    refine (l1In_any _ _ _ _ rb (by have := HR.out; simpa using this)).mono ?_
    rintro e w1 ⟨rfl, rfl⟩
    go_wp2
    go_ret
    refine ⟨ret_bool ?_, (by repeat (first | assumption | exact Pure.refl _ | refine Pure.drewN ?_ _ | refine Pure.drew ?_ | refine Pure.alloc ?_ _ | refine Pure.setCell ?_ (by simp <;> omega) _))⟩
    rw [Bool.eq_iff_iff, HB.out]
    have t1 := HA.out; have t2 := HR.out; have t3 := HC.out
    simp only [Bool.false_eq_true, false_iff, true_iff, beq_iff_eq, CdOk, Reg, Word, true_and, and_true, true_or, or_true] at *
    first | omega | (constructor <;> intro h <;> omega)
  · cases rb
    · go_enter Try.func87, Try.ntmps87
      go_wp2_with fail
      refine (l1In_any _ _ _ _ true (by have := HA.out; simpa using this)).mono ?_
      rintro e w1 ⟨rfl, rfl⟩
      go_wp2_with fail
      refine (l1In_any _ _ _ _ false (by have := HR.out; simpa using this)).mono ?_
      rintro e w1 ⟨rfl, rfl⟩
      go_wp2
      go_ret
      refine ⟨ret_bool ?_, (by repeat (first | assumption | exact Pure.refl _ | refine Pure.drewN ?_ _ | refine Pure.drew ?_ | refine Pure.alloc ?_ _ | refine Pure.setCell ?_ (by simp <;> omega) _))⟩
      rw [Bool.eq_iff_iff, HB.out]
      have t1 := HA.out; have t2 := HR.out; have t3 := HC.out
      simp only [Bool.false_eq_true, false_iff, true_iff, beq_iff_eq, CdOk, Reg, Word, true_and, and_true, true_or, or_true] at *
      first | omega | (constructor <;> intro h <;> omega)
    · cases rc
      · go_enter Try.func87, Try.ntmps87
        go_wp2_with fail
        refine (l1In_any _ _ _ _ true (by have := HA.out; simpa using this)).mono ?_
        rintro e w1 ⟨rfl, rfl⟩
        go_wp2_with fail
        refine (l1In_any _ _ _ _ true (by have := HR.out; simpa using this)).mono ?_
        rintro e w1 ⟨rfl, rfl⟩
        go_wp2_with fail
        refine (l1In_any _ _ _ _ false (by have := HC.out; simpa using this)).mono ?_
        rintro e w1 ⟨rfl, rfl⟩
        go_wp2
        go_ret
        refine ⟨ret_bool ?_, (by repeat (first | assumption | exact Pure.refl _ | refine Pure.drewN ?_ _ | refine Pure.drew ?_ | refine Pure.alloc ?_ _ | refine Pure.setCell ?_ (by simp <;> omega) _))⟩
        rw [Bool.eq_iff_iff, HB.out]
        have t1 := HA.out; have t2 := HR.out; have t3 := HC.out
        simp only [Bool.false_eq_true, false_iff, true_iff, beq_iff_eq, CdOk, Reg, Word, true_and, and_true, true_or, or_true] at *
        first | omega | (constructor <;> intro h <;> omega)
      · go_enter Try.func87, Try.ntmps87
        go_wp2_with fail
        refine (l1In_any _ _ _ _ true (by have := HA.out; simpa using this)).mono ?_
        rintro e w1 ⟨rfl, rfl⟩
        go_wp2_with fail
        refine (l1In_any _ _ _ _ true (by have := HR.out; simpa using this)).mono ?_
        rintro e w1 ⟨rfl, rfl⟩
        go_wp2_with fail
        refine (l1In_any _ _ _ _ true (by have := HC.out; simpa using this)).mono ?_
        rintro e w1 ⟨rfl, rfl⟩
        go_wp2
        go_ret
        refine ⟨ret_bool ?_, (by repeat (first | assumption | exact Pure.refl _ | refine Pure.drewN ?_ _ | refine Pure.drew ?_ | refine Pure.alloc ?_ _ | refine Pure.setCell ?_ (by simp <;> omega) _))⟩
        rw [Bool.eq_iff_iff, HB.out]
        have t1 := HA.out; have t2 := HR.out; have t3 := HC.out
        simp only [Bool.false_eq_true, false_iff, true_iff, beq_iff_eq, CdOk, Reg, Word, true_and, and_true, true_or, or_true] at *
        first | omega | (constructor <;> intro h <;> omega)

end Go.Proofs.Ytokdfgodmhekmaa
