/- Which instructions are valid, as the reference finds it. Which instructions are valid, as the program finds it. Sums, products and comparisons of words, the reference's and the program's. What instructions read and write, plainly. No condition. -/
import Derived.Test.YtkolnakcgjlcgaaQaa
import Derived.Test.YtkolnakcgjlcgaaQab

namespace Go.Proofs.Ytkolnakcgjlcgaa
open Go.RowKit

set_option maxHeartbeats 400000 in
theorem l2Word_any (n : Int) (w : World) (B : Bool) (hB : B = true ↔ Word n) :
    Calls Try.prog 88 #[.int .i64 n] w fun e w' => e = .returned (.bool B) ∧ w = w' := by
  have HB := Lib.hid hB; clear hB
  go_enter Try.func88, Try.ntmps88
  go_wp2_with fail
  refine (l1In_any _ _ _ _ B HB.out).mono ?_
  rintro e w' ⟨rfl, rfl⟩
  go_wp2
  go_ret
  exact ⟨rfl, rfl⟩
theorem regB (x : Int) : ∃ B : Bool, B = true ↔ (0 ≤ x ∧ x ≤ 3) := ⟨decide (0 ≤ x ∧ x ≤ 3), by simp⟩
theorem wordB (x : Int) : ∃ B : Bool, B = true ↔ Word x := by unfold Word; exact ⟨decide (0 ≤ x ∧ x ≤ 255), by simp⟩
theorem turnB (x : Int) : ∃ B : Bool, B = true ↔ (1 ≤ x ∧ x ≤ 4) := ⟨decide (1 ≤ x ∧ x ≤ 4), by simp⟩

set_option maxHeartbeats 1000000 in
theorem scv_1 (a b c : Int) (w : World) (B : Bool) (hB : B = true ↔ CdOk ⟨1, a, b, c⟩) :
    Calls Try.prog 82 #[.agg #[.int .i64 1, .int .i64 a, .int .i64 b, .int .i64 c]] w fun e w' => e = .returned (.bool B) ∧ Pure w w' := by
  have HB := Lib.hid hB; clear hB
  obtain ⟨ra, hra⟩ := regB a
  obtain ⟨rb, hrb⟩ := regB b
  obtain ⟨wb, hwb⟩ := wordB b
  have HW := Lib.hid hwb; clear hwb
  have HA := Lib.hid hra; clear hra
  have HR := Lib.hid hrb; clear hrb
  cases ra
  · go_enter Try.func82, Try.ntmps82
    go_wp2_with fail
    refine (l1In_any _ _ _ _ false (by have := HA.out; simpa using this)).mono ?_
    rintro e w1 ⟨rfl, rfl⟩
    go_wp2_with fail
    refine (l1In_any _ _ _ _ rb (by have := HR.out; simpa using this)).mono ?_
    rintro e w1 ⟨rfl, rfl⟩
    go_wp2
    go_ret
    refine ⟨ret_bool ?_, (by repeat (first | assumption | exact Pure.refl _ | refine Pure.drewN ?_ _ | refine Pure.drew ?_ | refine Pure.alloc ?_ _ | refine Pure.setCell ?_ (by simp <;> omega) _))⟩
    rw [Bool.eq_iff_iff, HB.out]
    have t1 := HA.out; have t2 := HR.out; have t4 := HW.out
    simp only [Bool.false_eq_true, false_iff, CdOk, Reg, Word, true_and] at *
    first | omega | (constructor <;> intro h <;> omega)
  · cases wb
    · go_enter Try.func82, Try.ntmps82
      go_wp2_with fail
      refine (l1In_any _ _ _ _ true (by have := HA.out; simpa using this)).mono ?_
      rintro e w1 ⟨rfl, rfl⟩
      go_wp2_with fail
      refine (l1In_any _ _ _ _ rb (by have := HR.out; simpa using this)).mono ?_
      rintro e w1 ⟨rfl, rfl⟩
      go_wp2_with fail
      refine (l2Word_any _ _ false (by have := HW.out; simpa using this)).mono ?_
      rintro e w1 ⟨rfl, rfl⟩
      go_wp2
      go_ret
      refine ⟨ret_bool ?_, (by repeat (first | assumption | exact Pure.refl _ | refine Pure.drewN ?_ _ | refine Pure.drew ?_ | refine Pure.alloc ?_ _ | refine Pure.setCell ?_ (by simp <;> omega) _))⟩
      rw [Bool.eq_iff_iff, HB.out]
      have t1 := HA.out; have t2 := HR.out; have t4 := HW.out
      simp only [Bool.false_eq_true, false_iff, true_iff, CdOk, Reg, Word, true_and] at *
      first | omega | (constructor <;> intro h <;> omega)
    · go_enter Try.func82, Try.ntmps82
      go_wp2_with fail
      refine (l1In_any _ _ _ _ true (by have := HA.out; simpa using this)).mono ?_
      rintro e w1 ⟨rfl, rfl⟩
      go_wp2_with fail
      refine (l1In_any _ _ _ _ rb (by have := HR.out; simpa using this)).mono ?_
      rintro e w1 ⟨rfl, rfl⟩
      go_wp2_with fail
      refine (l2Word_any _ _ true (by have := HW.out; simpa using this)).mono ?_
      rintro e w1 ⟨rfl, rfl⟩
      go_wp2
      go_ret
      refine ⟨ret_bool ?_, (by repeat (first | assumption | exact Pure.refl _ | refine Pure.drewN ?_ _ | refine Pure.drew ?_ | refine Pure.alloc ?_ _ | refine Pure.setCell ?_ (by simp <;> omega) _))⟩
      rw [Bool.eq_iff_iff, HB.out]
      have t1 := HA.out; have t2 := HR.out; have t4 := HW.out
      simp only [true_iff, beq_iff_eq, CdOk, Reg, Word, true_and] at *
      first | omega | (constructor <;> intro h <;> omega)

set_option maxHeartbeats 1000000 in
theorem scv_2 (a b c : Int) (w : World) (B : Bool) (hB : B = true ↔ CdOk ⟨2, a, b, c⟩) :
    Calls Try.prog 82 #[.agg #[.int .i64 2, .int .i64 a, .int .i64 b, .int .i64 c]] w fun e w' => e = .returned (.bool B) ∧ Pure w w' := by
  have HB := Lib.hid hB; clear hB
  obtain ⟨ra, hra⟩ := regB a
  obtain ⟨rb, hrb⟩ := regB b
  have HA := Lib.hid hra; clear hra
  have HR := Lib.hid hrb; clear hrb
  cases ra
  · go_enter Try.func82, Try.ntmps82
    go_wp2_with fail
    refine (l1In_any _ _ _ _ false (by have := HA.out; simpa using this)).mono ?_
    rintro e w1 ⟨rfl, rfl⟩
    go_wp2_with fail
    refine (l1In_any _ _ _ _ rb (by have := HR.out; simpa using this)).mono ?_
    rintro e w1 ⟨rfl, rfl⟩
    go_wp2
    go_ret
    refine ⟨ret_bool ?_, (by repeat (first | assumption | exact Pure.refl _ | refine Pure.drewN ?_ _ | refine Pure.drew ?_ | refine Pure.alloc ?_ _ | refine Pure.setCell ?_ (by simp <;> omega) _))⟩
    rw [Bool.eq_iff_iff, HB.out]
    have t1 := HA.out; have t2 := HR.out
    simp only [Bool.false_eq_true, false_iff, CdOk, Reg, Word, true_and, true_or] at *
    first | omega | (constructor <;> intro h <;> omega)
  · by_cases hb0 : b = 0
    · have d0 : (b == 0) = true := by simp [hb0]
      have Hb0 := Lib.hid hb0; clear hb0
      go_enter Try.func82, Try.ntmps82
      go_wp2_with fail
      refine (l1In_any _ _ _ _ true (by have := HA.out; simpa using this)).mono ?_
      rintro e w1 ⟨rfl, rfl⟩
      go_wp2_with fail
      refine (l1In_any _ _ _ _ rb (by have := HR.out; simpa using this)).mono ?_
      rintro e w1 ⟨rfl, rfl⟩
      go_wp2
      go_ret
      refine ⟨ret_bool ?_, (by repeat (first | assumption | exact Pure.refl _ | refine Pure.drewN ?_ _ | refine Pure.drew ?_ | refine Pure.alloc ?_ _ | refine Pure.setCell ?_ (by simp <;> omega) _))⟩
      rw [Bool.eq_iff_iff, HB.out]
      have t1 := HA.out; have t2 := HR.out
      simp only [true_iff, beq_iff_eq, CdOk, Reg, Word, true_and, true_or] at *
      have := Hb0.out; first | omega | (constructor <;> intro h <;> omega)
    · have d0 : (b == 0) = false := by simp [hb0]
      have Hb0 := Lib.hid hb0; clear hb0
      go_enter Try.func82, Try.ntmps82
      go_wp2_with fail
      refine (l1In_any _ _ _ _ true (by have := HA.out; simpa using this)).mono ?_
      rintro e w1 ⟨rfl, rfl⟩
      go_wp2_with fail
      refine (l1In_any _ _ _ _ rb (by have := HR.out; simpa using this)).mono ?_
      rintro e w1 ⟨rfl, rfl⟩
      go_wp2
      go_ret
      refine ⟨ret_bool ?_, (by repeat (first | assumption | exact Pure.refl _ | refine Pure.drewN ?_ _ | refine Pure.drew ?_ | refine Pure.alloc ?_ _ | refine Pure.setCell ?_ (by simp <;> omega) _))⟩
      rw [Bool.eq_iff_iff, HB.out]
      have t1 := HA.out; have t2 := HR.out
      simp only [Bool.false_eq_true, false_iff, true_iff, CdOk, Reg, Word, true_and, true_or] at *
      have := Hb0.out; first | omega | (constructor <;> intro h <;> omega)

set_option maxHeartbeats 1000000 in
theorem scv_3 (a b c : Int) (w : World) (B : Bool) (hB : B = true ↔ CdOk ⟨3, a, b, c⟩) :
    Calls Try.prog 82 #[.agg #[.int .i64 3, .int .i64 a, .int .i64 b, .int .i64 c]] w fun e w' => e = .returned (.bool B) ∧ Pure w w' := by
  have HB := Lib.hid hB; clear hB
  obtain ⟨ra, hra⟩ := regB a
  obtain ⟨rb, hrb⟩ := regB b
  have HA := Lib.hid hra; clear hra
  have HR := Lib.hid hrb; clear hrb
  cases ra
  · go_enter Try.func82, Try.ntmps82
    go_wp2_with fail
    refine (l1In_any _ _ _ _ false (by have := HA.out; simpa using this)).mono ?_
    rintro e w1 ⟨rfl, rfl⟩
    go_wp2_with fail
    refine (l1In_any _ _ _ _ rb (by have := HR.out; simpa using this)).mono ?_
    rintro e w1 ⟨rfl, rfl⟩
    go_wp2
    go_ret
    refine ⟨ret_bool ?_, (by repeat (first | assumption | exact Pure.refl _ | refine Pure.drewN ?_ _ | refine Pure.drew ?_ | refine Pure.alloc ?_ _ | refine Pure.setCell ?_ (by simp <;> omega) _))⟩
    rw [Bool.eq_iff_iff, HB.out]
    have t1 := HA.out; have t2 := HR.out
    simp only [Bool.false_eq_true, false_iff, CdOk, Reg, Word, true_and, true_or] at *
    first | omega | (constructor <;> intro h <;> omega)
  · cases rb
    · go_enter Try.func82, Try.ntmps82
      go_wp2_with fail
      refine (l1In_any _ _ _ _ true (by have := HA.out; simpa using this)).mono ?_
      rintro e w1 ⟨rfl, rfl⟩
      go_wp2_with fail
      refine (l1In_any _ _ _ _ false (by have := HR.out; simpa using this)).mono ?_
      rintro e w1 ⟨rfl, rfl⟩
      go_wp2
      go_ret
      refine ⟨ret_bool ?_, (by repeat (first | assumption | exact Pure.refl _ | refine Pure.drewN ?_ _ | refine Pure.drew ?_ | refine Pure.alloc ?_ _ | refine Pure.setCell ?_ (by simp <;> omega) _))⟩
      rw [Bool.eq_iff_iff, HB.out]
      have t1 := HA.out; have t2 := HR.out
      simp only [Bool.false_eq_true, false_iff, true_iff, CdOk, Reg, Word, true_and, true_or] at *
      first | omega | (constructor <;> intro h <;> omega)
    · go_enter Try.func82, Try.ntmps82
      go_wp2_with fail
      refine (l1In_any _ _ _ _ true (by have := HA.out; simpa using this)).mono ?_
      rintro e w1 ⟨rfl, rfl⟩
      go_wp2_with fail
      refine (l1In_any _ _ _ _ true (by have := HR.out; simpa using this)).mono ?_
      rintro e w1 ⟨rfl, rfl⟩
      go_wp2
      go_ret
      refine ⟨ret_bool ?_, (by repeat (first | assumption | exact Pure.refl _ | refine Pure.drewN ?_ _ | refine Pure.drew ?_ | refine Pure.alloc ?_ _ | refine Pure.setCell ?_ (by simp <;> omega) _))⟩
      rw [Bool.eq_iff_iff, HB.out]
      have t1 := HA.out; have t2 := HR.out
      simp only [true_iff, beq_iff_eq, CdOk, Reg, Word, true_and, true_or] at *
      first | omega | (constructor <;> intro h <;> omega)

set_option maxHeartbeats 1000000 in
theorem scv_4 (a b c : Int) (w : World) (B : Bool) (hB : B = true ↔ CdOk ⟨4, a, b, c⟩) :
    Calls Try.prog 82 #[.agg #[.int .i64 4, .int .i64 a, .int .i64 b, .int .i64 c]] w fun e w' => e = .returned (.bool B) ∧ Pure w w' := by
  have HB := Lib.hid hB; clear hB
  obtain ⟨ra, hra⟩ := regB a
  obtain ⟨rb, hrb⟩ := regB b
  have HA := Lib.hid hra; clear hra
  have HR := Lib.hid hrb; clear hrb
  cases ra
  · go_enter Try.func82, Try.ntmps82
    go_wp2_with fail
    refine (l1In_any _ _ _ _ false (by have := HA.out; simpa using this)).mono ?_
    rintro e w1 ⟨rfl, rfl⟩
    go_wp2_with fail
    refine (l1In_any _ _ _ _ rb (by have := HR.out; simpa using this)).mono ?_
    rintro e w1 ⟨rfl, rfl⟩
    go_wp2
    go_ret
    refine ⟨ret_bool ?_, (by repeat (first | assumption | exact Pure.refl _ | refine Pure.drewN ?_ _ | refine Pure.drew ?_ | refine Pure.alloc ?_ _ | refine Pure.setCell ?_ (by simp <;> omega) _))⟩
    rw [Bool.eq_iff_iff, HB.out]
    have t1 := HA.out; have t2 := HR.out
    simp only [Bool.false_eq_true, false_iff, CdOk, Reg, Word, true_and, true_or, or_true] at *
    first | omega | (constructor <;> intro h <;> omega)
  · cases rb
    · go_enter Try.func82, Try.ntmps82
      go_wp2_with fail
      refine (l1In_any _ _ _ _ true (by have := HA.out; simpa using this)).mono ?_
      rintro e w1 ⟨rfl, rfl⟩
      go_wp2_with fail
      refine (l1In_any _ _ _ _ false (by have := HR.out; simpa using this)).mono ?_
      rintro e w1 ⟨rfl, rfl⟩
      go_wp2
      go_ret
      refine ⟨ret_bool ?_, (by repeat (first | assumption | exact Pure.refl _ | refine Pure.drewN ?_ _ | refine Pure.drew ?_ | refine Pure.alloc ?_ _ | refine Pure.setCell ?_ (by simp <;> omega) _))⟩
      rw [Bool.eq_iff_iff, HB.out]
      have t1 := HA.out; have t2 := HR.out
      simp only [Bool.false_eq_true, false_iff, true_iff, CdOk, Reg, Word, true_and, true_or, or_true] at *
      first | omega | (constructor <;> intro h <;> omega)
    · go_enter Try.func82, Try.ntmps82
      go_wp2_with fail
      refine (l1In_any _ _ _ _ true (by have := HA.out; simpa using this)).mono ?_
      rintro e w1 ⟨rfl, rfl⟩
      go_wp2_with fail
      refine (l1In_any _ _ _ _ true (by have := HR.out; simpa using this)).mono ?_
      rintro e w1 ⟨rfl, rfl⟩
      go_wp2
      go_ret
      refine ⟨ret_bool ?_, (by repeat (first | assumption | exact Pure.refl _ | refine Pure.drewN ?_ _ | refine Pure.drew ?_ | refine Pure.alloc ?_ _ | refine Pure.setCell ?_ (by simp <;> omega) _))⟩
      rw [Bool.eq_iff_iff, HB.out]
      have t1 := HA.out; have t2 := HR.out
      simp only [true_iff, beq_iff_eq, CdOk, Reg, Word, true_and, true_or, or_true] at *
      first | omega | (constructor <;> intro h <;> omega)

set_option maxHeartbeats 1000000 in
theorem scv_5 (a b c : Int) (w : World) (B : Bool) (hB : B = true ↔ CdOk ⟨5, a, b, c⟩) :
    Calls Try.prog 82 #[.agg #[.int .i64 5, .int .i64 a, .int .i64 b, .int .i64 c]] w fun e w' => e = .returned (.bool B) ∧ Pure w w' := by
  have HB := Lib.hid hB; clear hB
  obtain ⟨ra, hra⟩ := regB a
  obtain ⟨rb, hrb⟩ := regB b
  have HA := Lib.hid hra; clear hra
  have HR := Lib.hid hrb; clear hrb
  cases ra
  · go_enter Try.func82, Try.ntmps82
    go_wp2_with fail
    refine (l1In_any _ _ _ _ false (by have := HA.out; simpa using this)).mono ?_
    rintro e w1 ⟨rfl, rfl⟩
    go_wp2_with fail
    refine (l1In_any _ _ _ _ rb (by have := HR.out; simpa using this)).mono ?_
    rintro e w1 ⟨rfl, rfl⟩
    go_wp2
    go_ret
    refine ⟨ret_bool ?_, (by repeat (first | assumption | exact Pure.refl _ | refine Pure.drewN ?_ _ | refine Pure.drew ?_ | refine Pure.alloc ?_ _ | refine Pure.setCell ?_ (by simp <;> omega) _))⟩
    rw [Bool.eq_iff_iff, HB.out]
    have t1 := HA.out; have t2 := HR.out
    simp only [Bool.false_eq_true, false_iff, CdOk, Reg, Word, true_and, true_or, or_true] at *
    first | omega | (constructor <;> intro h <;> omega)
  · cases rb
    · go_enter Try.func82, Try.ntmps82
      go_wp2_with fail
      refine (l1In_any _ _ _ _ true (by have := HA.out; simpa using this)).mono ?_
      rintro e w1 ⟨rfl, rfl⟩
      go_wp2_with fail
      refine (l1In_any _ _ _ _ false (by have := HR.out; simpa using this)).mono ?_
      rintro e w1 ⟨rfl, rfl⟩
      go_wp2
      go_ret
      refine ⟨ret_bool ?_, (by repeat (first | assumption | exact Pure.refl _ | refine Pure.drewN ?_ _ | refine Pure.drew ?_ | refine Pure.alloc ?_ _ | refine Pure.setCell ?_ (by simp <;> omega) _))⟩
      rw [Bool.eq_iff_iff, HB.out]
      have t1 := HA.out; have t2 := HR.out
      simp only [Bool.false_eq_true, false_iff, true_iff, CdOk, Reg, Word, true_and, true_or, or_true] at *
      first | omega | (constructor <;> intro h <;> omega)
    · go_enter Try.func82, Try.ntmps82
      go_wp2_with fail
      refine (l1In_any _ _ _ _ true (by have := HA.out; simpa using this)).mono ?_
      rintro e w1 ⟨rfl, rfl⟩
      go_wp2_with fail
      refine (l1In_any _ _ _ _ true (by have := HR.out; simpa using this)).mono ?_
      rintro e w1 ⟨rfl, rfl⟩
      go_wp2
      go_ret
      refine ⟨ret_bool ?_, (by repeat (first | assumption | exact Pure.refl _ | refine Pure.drewN ?_ _ | refine Pure.drew ?_ | refine Pure.alloc ?_ _ | refine Pure.setCell ?_ (by simp <;> omega) _))⟩
      rw [Bool.eq_iff_iff, HB.out]
      have t1 := HA.out; have t2 := HR.out
      simp only [true_iff, beq_iff_eq, CdOk, Reg, Word, true_and, true_or, or_true] at *
      first | omega | (constructor <;> intro h <;> omega)

set_option maxHeartbeats 1000000 in
theorem scv_6 (a b c : Int) (w : World) (B : Bool) (hB : B = true ↔ CdOk ⟨6, a, b, c⟩) :
    Calls Try.prog 82 #[.agg #[.int .i64 6, .int .i64 a, .int .i64 b, .int .i64 c]] w fun e w' => e = .returned (.bool B) ∧ Pure w w' := by
  have HB := Lib.hid hB; clear hB
  obtain ⟨ra, hra⟩ := regB a
  obtain ⟨rb, hrb⟩ := regB b
  obtain ⟨rc, hrc⟩ := regB c
  have HC := Lib.hid hrc; clear hrc
  have HA := Lib.hid hra; clear hra
  have HR := Lib.hid hrb; clear hrb
  cases ra
  · go_enter Try.func82, Try.ntmps82
    go_wp2_with fail
    refine (l1In_any _ _ _ _ false (by have := HA.out; simpa using this)).mono ?_
    rintro e w1 ⟨rfl, rfl⟩
    go_wp2_with fail
    refine (l1In_any _ _ _ _ rb (by have := HR.out; simpa using this)).mono ?_
    rintro e w1 ⟨rfl, rfl⟩
    go_wp2
    go_ret
    refine ⟨ret_bool ?_, (by repeat (first | assumption | exact Pure.refl _ | refine Pure.drewN ?_ _ | refine Pure.drew ?_ | refine Pure.alloc ?_ _ | refine Pure.setCell ?_ (by simp <;> omega) _))⟩
    rw [Bool.eq_iff_iff, HB.out]
    have t1 := HA.out; have t2 := HR.out; have t3 := HC.out
    simp only [Bool.false_eq_true, false_iff, CdOk, Reg, Word, true_and, true_or] at *
    first | omega | (constructor <;> intro h <;> omega)
  · cases rb
    · go_enter Try.func82, Try.ntmps82
      go_wp2_with fail
      refine (l1In_any _ _ _ _ true (by have := HA.out; simpa using this)).mono ?_
      rintro e w1 ⟨rfl, rfl⟩
      go_wp2_with fail
      refine (l1In_any _ _ _ _ false (by have := HR.out; simpa using this)).mono ?_
      rintro e w1 ⟨rfl, rfl⟩
      go_wp2
      go_ret
      refine ⟨ret_bool ?_, (by repeat (first | assumption | exact Pure.refl _ | refine Pure.drewN ?_ _ | refine Pure.drew ?_ | refine Pure.alloc ?_ _ | refine Pure.setCell ?_ (by simp <;> omega) _))⟩
      rw [Bool.eq_iff_iff, HB.out]
      have t1 := HA.out; have t2 := HR.out; have t3 := HC.out
      simp only [Bool.false_eq_true, false_iff, true_iff, CdOk, Reg, Word, true_and, true_or] at *
      first | omega | (constructor <;> intro h <;> omega)
    · cases rc
      · go_enter Try.func82, Try.ntmps82
        go_wp2_with fail
        refine (l1In_any _ _ _ _ true (by have := HA.out; simpa using this)).mono ?_
        rintro e w1 ⟨rfl, rfl⟩
        go_wp2_with fail
        refine (l1In_any _ _ _ _ true (by have := HR.out; simpa using this)).mono ?_
        rintro e w1 ⟨rfl, rfl⟩
        go_wp2_with fail
        refine (l1In_any _ _ _ _ false (by have := HC.out; simpa using this)).mono ?_
        rintro e w1 ⟨rfl, rfl⟩
        go_wp2
        go_ret
        refine ⟨ret_bool ?_, (by repeat (first | assumption | exact Pure.refl _ | refine Pure.drewN ?_ _ | refine Pure.drew ?_ | refine Pure.alloc ?_ _ | refine Pure.setCell ?_ (by simp <;> omega) _))⟩
        rw [Bool.eq_iff_iff, HB.out]
        have t1 := HA.out; have t2 := HR.out; have t3 := HC.out
        simp only [Bool.false_eq_true, false_iff, true_iff, CdOk, Reg, Word, true_and, true_or] at *
        first | omega | (constructor <;> intro h <;> omega)
      · go_enter Try.func82, Try.ntmps82
        go_wp2_with fail
        refine (l1In_any _ _ _ _ true (by have := HA.out; simpa using this)).mono ?_
        rintro e w1 ⟨rfl, rfl⟩
        go_wp2_with fail
        refine (l1In_any _ _ _ _ true (by have := HR.out; simpa using this)).mono ?_
        rintro e w1 ⟨rfl, rfl⟩
        go_wp2_with fail
        refine (l1In_any _ _ _ _ true (by have := HC.out; simpa using this)).mono ?_
        rintro e w1 ⟨rfl, rfl⟩
        go_wp2
        go_ret
        refine ⟨ret_bool ?_, (by repeat (first | assumption | exact Pure.refl _ | refine Pure.drewN ?_ _ | refine Pure.drew ?_ | refine Pure.alloc ?_ _ | refine Pure.setCell ?_ (by simp <;> omega) _))⟩
        rw [Bool.eq_iff_iff, HB.out]
        have t1 := HA.out; have t2 := HR.out; have t3 := HC.out
        simp only [true_iff, CdOk, Reg, Word, true_and, true_or] at *
        first | omega | (constructor <;> intro h <;> omega)

set_option maxHeartbeats 1000000 in
theorem scv_7 (a b c : Int) (w : World) (B : Bool) (hB : B = true ↔ CdOk ⟨7, a, b, c⟩) :
    Calls Try.prog 82 #[.agg #[.int .i64 7, .int .i64 a, .int .i64 b, .int .i64 c]] w fun e w' => e = .returned (.bool B) ∧ Pure w w' := by
  have HB := Lib.hid hB; clear hB
  obtain ⟨ra, hra⟩ := regB a
  obtain ⟨rb, hrb⟩ := regB b
  obtain ⟨rc, hrc⟩ := regB c
  have HC := Lib.hid hrc; clear hrc
  have HA := Lib.hid hra; clear hra
  have HR := Lib.hid hrb; clear hrb
  cases ra
  · go_enter Try.func82, Try.ntmps82
    go_wp2_with fail
    refine (l1In_any _ _ _ _ false (by have := HA.out; simpa using this)).mono ?_
    rintro e w1 ⟨rfl, rfl⟩
    go_wp2_with fail
    refine (l1In_any _ _ _ _ rb (by have := HR.out; simpa using this)).mono ?_
    rintro e w1 ⟨rfl, rfl⟩
    go_wp2
    go_ret
    refine ⟨ret_bool ?_, (by repeat (first | assumption | exact Pure.refl _ | refine Pure.drewN ?_ _ | refine Pure.drew ?_ | refine Pure.alloc ?_ _ | refine Pure.setCell ?_ (by simp <;> omega) _))⟩
    rw [Bool.eq_iff_iff, HB.out]
    have t1 := HA.out; have t2 := HR.out; have t3 := HC.out
    simp only [Bool.false_eq_true, false_iff, CdOk, Reg, Word, true_and, or_true] at *
    first | omega | (constructor <;> intro h <;> omega)
  · cases rb
    · go_enter Try.func82, Try.ntmps82
      go_wp2_with fail
      refine (l1In_any _ _ _ _ true (by have := HA.out; simpa using this)).mono ?_
      rintro e w1 ⟨rfl, rfl⟩
      go_wp2_with fail
      refine (l1In_any _ _ _ _ false (by have := HR.out; simpa using this)).mono ?_
      rintro e w1 ⟨rfl, rfl⟩
      go_wp2
      go_ret
      refine ⟨ret_bool ?_, (by repeat (first | assumption | exact Pure.refl _ | refine Pure.drewN ?_ _ | refine Pure.drew ?_ | refine Pure.alloc ?_ _ | refine Pure.setCell ?_ (by simp <;> omega) _))⟩
      rw [Bool.eq_iff_iff, HB.out]
      have t1 := HA.out; have t2 := HR.out; have t3 := HC.out
      simp only [Bool.false_eq_true, false_iff, true_iff, CdOk, Reg, Word, true_and, or_true] at *
      first | omega | (constructor <;> intro h <;> omega)
    · cases rc
      · go_enter Try.func82, Try.ntmps82
        go_wp2_with fail
        refine (l1In_any _ _ _ _ true (by have := HA.out; simpa using this)).mono ?_
        rintro e w1 ⟨rfl, rfl⟩
        go_wp2_with fail
        refine (l1In_any _ _ _ _ true (by have := HR.out; simpa using this)).mono ?_
        rintro e w1 ⟨rfl, rfl⟩
        go_wp2_with fail
        refine (l1In_any _ _ _ _ false (by have := HC.out; simpa using this)).mono ?_
        rintro e w1 ⟨rfl, rfl⟩
        go_wp2
        go_ret
        refine ⟨ret_bool ?_, (by repeat (first | assumption | exact Pure.refl _ | refine Pure.drewN ?_ _ | refine Pure.drew ?_ | refine Pure.alloc ?_ _ | refine Pure.setCell ?_ (by simp <;> omega) _))⟩
        rw [Bool.eq_iff_iff, HB.out]
        have t1 := HA.out; have t2 := HR.out; have t3 := HC.out
        simp only [Bool.false_eq_true, false_iff, true_iff, CdOk, Reg, Word, true_and, or_true] at *
        first | omega | (constructor <;> intro h <;> omega)
      · go_enter Try.func82, Try.ntmps82
        go_wp2_with fail
        refine (l1In_any _ _ _ _ true (by have := HA.out; simpa using this)).mono ?_
        rintro e w1 ⟨rfl, rfl⟩
        go_wp2_with fail
        refine (l1In_any _ _ _ _ true (by have := HR.out; simpa using this)).mono ?_
        rintro e w1 ⟨rfl, rfl⟩
        go_wp2_with fail
        refine (l1In_any _ _ _ _ true (by have := HC.out; simpa using this)).mono ?_
        rintro e w1 ⟨rfl, rfl⟩
        go_wp2
        go_ret
        refine ⟨ret_bool ?_, (by repeat (first | assumption | exact Pure.refl _ | refine Pure.drewN ?_ _ | refine Pure.drew ?_ | refine Pure.alloc ?_ _ | refine Pure.setCell ?_ (by simp <;> omega) _))⟩
        rw [Bool.eq_iff_iff, HB.out]
        have t1 := HA.out; have t2 := HR.out; have t3 := HC.out
        simp only [true_iff, CdOk, Reg, Word, true_and, or_true] at *
        first | omega | (constructor <;> intro h <;> omega)

end Go.Proofs.Ytkolnakcgjlcgaa

namespace Go.Proofs.Ytkolnakcgjlcgaa
open Go.RowKit

set_option maxHeartbeats 400000 in
theorem isReg_any (n : Int) (w : World) (B : Bool) (hB : B = true ↔ Reg n) :
    Calls Try.prog 103 #[.int .i64 n] w fun e w' => e = .returned (.bool B) ∧ w = w' := by
  have HB := Lib.hid hB; clear hB
  go_enter Try.func103, Try.ntmps103
  go_wp2_with fail
  refine (within_any _ _ _ _ B HB.out).mono ?_
  rintro e w' ⟨rfl, rfl⟩
  go_wp2
  go_ret
  exact ⟨rfl, rfl⟩
set_option maxHeartbeats 400000 in
theorem isWord_any (n : Int) (w : World) (B : Bool) (hB : B = true ↔ Word n) :
    Calls Try.prog 104 #[.int .i64 n] w fun e w' => e = .returned (.bool B) ∧ w = w' := by
  have HB := Lib.hid hB; clear hB
  go_enter Try.func104, Try.ntmps104
  go_wp2_with fail
  refine (within_any _ _ _ _ B HB.out).mono ?_
  rintro e w' ⟨rfl, rfl⟩
  go_wp2
  go_ret
  exact ⟨rfl, rfl⟩

def nregs (op : Int) : Int := if op = 1 ∨ op = 2 ∨ op = 11 ∨ op = 13 then 1 else if op = 3 ∨ op = 4 ∨ op = 5 ∨ op = 8 ∨ op = 9 then 2 else if op = 6 ∨ op = 7 then 3 else 0

set_option maxHeartbeats 1000000 in
theorem registers_any (op : Int) (w : World) (g : Int) (hg : nregs op = g) :
    Calls Try.prog 102 #[.int .i64 op] w fun e w' => e = .returned (.int .i64 g) ∧ w = w' := by
  by_cases ho : op = 1 ∨ op = 2 ∨ op = 11 ∨ op = 13 ∨ op = 3 ∨ op = 4 ∨ op = 5 ∨ op = 8 ∨ op = 9 ∨ op = 6 ∨ op = 7
  · rcases ho with rfl | rfl | rfl | rfl | rfl | rfl | rfl | rfl | rfl | rfl | rfl
    all_goals
      have hg' : g = _ := hg.symm
      simp [nregs] at hg'
      subst hg'
      clear hg
      go_enter Try.func102, Try.ntmps102
      go_wp2
      go_ret
      exact ⟨rfl, rfl⟩
  · have hg' : g = 0 := by rw [← hg]; unfold nregs; rw [if_neg (by omega), if_neg (by omega), if_neg (by omega)]
    subst hg'
    clear hg
    have HO := Lib.hid ho; clear ho
    have d1 : (op == 1) = false := by have := HO.out; rw [beq_eq_false_iff_ne]; omega
    have d2 : (op == 2) = false := by have := HO.out; rw [beq_eq_false_iff_ne]; omega
    have d11 : (op == 11) = false := by have := HO.out; rw [beq_eq_false_iff_ne]; omega
    have d13 : (op == 13) = false := by have := HO.out; rw [beq_eq_false_iff_ne]; omega
    have d3 : (op == 3) = false := by have := HO.out; rw [beq_eq_false_iff_ne]; omega
    have d4 : (op == 4) = false := by have := HO.out; rw [beq_eq_false_iff_ne]; omega
    have d5 : (op == 5) = false := by have := HO.out; rw [beq_eq_false_iff_ne]; omega
    have d8 : (op == 8) = false := by have := HO.out; rw [beq_eq_false_iff_ne]; omega
    have d9 : (op == 9) = false := by have := HO.out; rw [beq_eq_false_iff_ne]; omega
    have d6 : (op == 6) = false := by have := HO.out; rw [beq_eq_false_iff_ne]; omega
    have d7 : (op == 7) = false := by have := HO.out; rw [beq_eq_false_iff_ne]; omega
    go_enter Try.func102, Try.ntmps102
    go_wp2
    go_ret
    exact ⟨rfl, rfl⟩

def okAt (op : Int) (j : Nat) (n : Int) : Prop := if (j : Int) < nregs op then Reg n else if j = 1 ∧ op = 1 then Word n else if j = 1 ∧ op = 13 then (1 ≤ n ∧ n ≤ 4) else n = 0
theorem okAt_all (c : Cd) : CdOk c ↔ (okAt c.op 0 c.a ∧ okAt c.op 1 c.b ∧ okAt c.op 2 c.c) ∧ (1 ≤ c.op ∧ c.op ≤ 14) := by
  obtain ⟨o, a, b, c⟩ := c
  by_cases ho : 1 ≤ o ∧ o ≤ 14
  · have : o = 1 ∨ o = 2 ∨ o = 3 ∨ o = 4 ∨ o = 5 ∨ o = 6 ∨ o = 7 ∨ o = 8 ∨ o = 9 ∨ o = 10 ∨ o = 11 ∨ o = 12 ∨ o = 13 ∨ o = 14 := by omega
    rcases this with rfl | rfl | rfl | rfl | rfl | rfl | rfl | rfl | rfl | rfl | rfl | rfl | rfl | rfl
    all_goals
      simp [CdOk, okAt, nregs, Reg, Word]
      try omega
  · unfold CdOk
    simp only
    constructor
    · intro h; omega
    · intro h; exact absurd h.2 ho

set_option maxHeartbeats 2000000 in
theorem icv_any (c : Cd) (w : World) (B : Bool) (hB : B = true ↔ CdOk c) :
    Calls Try.prog 81 #[cdv c] w fun e w' => e = .returned (.bool B) ∧ Pure w w' := by
  rw [okAt_all] at hB
  unfold cdv
  obtain ⟨o, a, b, c⟩ := c
  simp only at hB ⊢
  have HB := Lib.hid hB; clear hB
  obtain ⟨g, Hg⟩ : ∃ g, Hid (nregs o = g) := ⟨_, rfl⟩
  go_enter Try.func81, Try.ntmps81
  go_wp2_with fail
  go_loopg [15] 3 (fun gk i wr => ∃ k : Nat, gk + k = 3 ∧ i = .int .i64 k ∧ wr = (w.alloc (.cells #[.int .i64 o, .int .i64 a, .int .i64 b, .int .i64 c] 36)).alloc (.cells #[.int .i64 a, .int .i64 b, .int .i64 c] 3) ∧ (0 < k → okAt o 0 a) ∧ (1 < k → okAt o 1 b) ∧ (2 < k → okAt o 2 c))
  case atStart => exact ⟨0, rfl, rfl, rfl, by simp, by simp, by simp⟩
  case round =>
    obtain ⟨k, hgk, rfl, rfl, h0, h1, h2⟩ := hrel
    have hk3 : k = 0 ∨ k = 1 ∨ k = 2 ∨ k = 3 := by omega
    have H0 := Lib.hid h0
    have H1 := Lib.hid h1
    have H2 := Lib.hid h2
    clear h0 h1 h2
    rcases hk3 with rfl | rfl | rfl | rfl
    · by_cases hg : (0 : Int) < g
      · have ok : okAt o 0 a ↔ Reg a := by unfold okAt; rw [if_pos (by rw [Hg.out]; exact hg)]
        have OK := Lib.hid ok; clear ok
        by_cases hr : Reg a
        all_goals
          have HR := Lib.hid hr; clear hr
        · go_wp2_with fail
          refine (registers_any _ _ g Hg.out).mono ?_
          rintro e w' ⟨rfl, rfl⟩
          go_wp2_with fail
          refine (isReg_any _ _ true (by simp [HR.out])).mono ?_
          rintro e w' ⟨rfl, rfl⟩
          go_wp2
          go_roundg 2
          case measure => omega
          case rel => exact ⟨1, by omega, rfl, rfl, (fun _ => OK.out.2 HR.out), (fun h => absurd h (by omega)), (fun h => absurd h (by omega))⟩
        · go_wp2_with fail
          refine (registers_any _ _ g Hg.out).mono ?_
          rintro e w' ⟨rfl, rfl⟩
          go_wp2_with fail
          refine (isReg_any _ _ false (by simp [HR.out])).mono ?_
          rintro e w' ⟨rfl, rfl⟩
          go_wp2
          go_ret
          refine ⟨ret_bool ?_, (by repeat (first | assumption | exact Pure.refl _ | refine Pure.drewN ?_ _ | refine Pure.drew ?_ | refine Pure.alloc ?_ _ | refine Pure.setCell ?_ (by simp <;> omega) _))⟩
          cases hb : B
          · rfl
          · exact absurd (HB.out.1 hb).1.1 (fun h => HR.out (OK.out.1 h))
      · have ok : okAt o 0 a ↔ a = 0 := by unfold okAt; rw [if_neg (by rw [Hg.out]; simpa using hg), if_neg (fun h => by cases h.1), if_neg (fun h => by cases h.1)]
        have OK := Lib.hid ok; clear ok
        by_cases hr : a = 0
        · have dn : (a != 0) = false := by simp [hr]
          have HR := Lib.hid hr; clear hr
          go_wp2_with fail
          refine (registers_any _ _ g Hg.out).mono ?_
          rintro e w' ⟨rfl, rfl⟩
          go_wp2
          go_roundg 2
          case measure => omega
          case rel => exact ⟨1, by omega, rfl, rfl, (fun _ => OK.out.2 HR.out), (fun h => absurd h (by omega)), (fun h => absurd h (by omega))⟩
        · have dn : (a != 0) = true := by simp [hr]
          have HR := Lib.hid hr; clear hr
          go_wp2_with fail
          refine (registers_any _ _ g Hg.out).mono ?_
          rintro e w' ⟨rfl, rfl⟩
          go_wp2
          go_ret
          refine ⟨ret_bool ?_, (by repeat (first | assumption | exact Pure.refl _ | refine Pure.drewN ?_ _ | refine Pure.drew ?_ | refine Pure.alloc ?_ _ | refine Pure.setCell ?_ (by simp <;> omega) _))⟩
          cases hb : B
          · rfl
          · exact absurd (HB.out.1 hb).1.1 (fun h => HR.out (OK.out.1 h))
    · by_cases hg : (1 : Int) < g
      · have ok : okAt o 1 b ↔ Reg b := by unfold okAt; rw [if_pos (by rw [Hg.out]; exact hg)]
        have OK := Lib.hid ok; clear ok
        by_cases hr : Reg b
        all_goals
          have HR := Lib.hid hr; clear hr
        · go_wp2_with fail
          refine (registers_any _ _ g Hg.out).mono ?_
          rintro e w' ⟨rfl, rfl⟩
          go_wp2_with fail
          refine (isReg_any _ _ true (by simp [HR.out])).mono ?_
          rintro e w' ⟨rfl, rfl⟩
          go_wp2
          go_roundg 1
          case measure => omega
          case rel => exact ⟨2, by omega, rfl, rfl, (fun _ => H0.out (by omega)), (fun _ => OK.out.2 HR.out), (fun h => absurd h (by omega))⟩
        · go_wp2_with fail
          refine (registers_any _ _ g Hg.out).mono ?_
          rintro e w' ⟨rfl, rfl⟩
          go_wp2_with fail
          refine (isReg_any _ _ false (by simp [HR.out])).mono ?_
          rintro e w' ⟨rfl, rfl⟩
          go_wp2
          go_ret
          refine ⟨ret_bool ?_, (by repeat (first | assumption | exact Pure.refl _ | refine Pure.drewN ?_ _ | refine Pure.drew ?_ | refine Pure.alloc ?_ _ | refine Pure.setCell ?_ (by simp <;> omega) _))⟩
          cases hb : B
          · rfl
          · exact absurd (HB.out.1 hb).1.2.1 (fun h => HR.out (OK.out.1 h))
      · by_cases ho1 : o = 1
        · have d1 : (o == 1) = true := by simp [ho1]
          have ok : okAt o 1 b ↔ Word b := by unfold okAt; rw [if_neg (by rw [Hg.out]; simpa using hg), if_pos ⟨rfl, ho1⟩]
          have OK := Lib.hid ok; have HO1 := Lib.hid ho1; clear ok ho1
          by_cases hr : Word b
          all_goals
            have HR := Lib.hid hr; clear hr
          · go_wp2_with fail
            refine (registers_any _ _ g Hg.out).mono ?_
            rintro e w' ⟨rfl, rfl⟩
            go_wp2_with fail
            refine (isWord_any _ _ true (by simp [HR.out])).mono ?_
            rintro e w' ⟨rfl, rfl⟩
            go_wp2
            go_roundg 1
            case measure => omega
            case rel => exact ⟨2, by omega, rfl, rfl, (fun _ => H0.out (by omega)), (fun _ => OK.out.2 HR.out), (fun h => absurd h (by omega))⟩
          · go_wp2_with fail
            refine (registers_any _ _ g Hg.out).mono ?_
            rintro e w' ⟨rfl, rfl⟩
            go_wp2_with fail
            refine (isWord_any _ _ false (by simp [HR.out])).mono ?_
            rintro e w' ⟨rfl, rfl⟩
            go_wp2
            go_ret
            refine ⟨ret_bool ?_, (by repeat (first | assumption | exact Pure.refl _ | refine Pure.drewN ?_ _ | refine Pure.drew ?_ | refine Pure.alloc ?_ _ | refine Pure.setCell ?_ (by simp <;> omega) _))⟩
            cases hb : B
            · rfl
            · exact absurd (HB.out.1 hb).1.2.1 (fun h => HR.out (OK.out.1 h))
        · have d1 : (o == 1) = false := by simp [ho1]
          by_cases ho13 : o = 13
          · have d13 : (o == 13) = true := by simp [ho13]
            have ok : okAt o 1 b ↔ (1 ≤ b ∧ b ≤ 4) := by unfold okAt; rw [if_neg (by rw [Hg.out]; simpa using hg), if_neg (fun h => ho1 h.2), if_pos ⟨rfl, ho13⟩]
            have OK := Lib.hid ok; have HO1 := Lib.hid ho1; have HO13 := Lib.hid ho13; clear ok ho1 ho13
            by_cases hr : 1 ≤ b ∧ b ≤ 4
            all_goals
              have HR := Lib.hid hr; clear hr
            · go_wp2_with fail
              refine (registers_any _ _ g Hg.out).mono ?_
              rintro e w' ⟨rfl, rfl⟩
              go_wp2_with fail
              refine (within_any _ _ _ _ true (by simp [HR.out])).mono ?_
              rintro e w' ⟨rfl, rfl⟩
              go_wp2
              go_roundg 1
              case measure => omega
              case rel => exact ⟨2, by omega, rfl, rfl, (fun _ => H0.out (by omega)), (fun _ => OK.out.2 HR.out), (fun h => absurd h (by omega))⟩
            · go_wp2_with fail
              refine (registers_any _ _ g Hg.out).mono ?_
              rintro e w' ⟨rfl, rfl⟩
              go_wp2_with fail
              refine (within_any _ _ _ _ false (by simp [HR.out])).mono ?_
              rintro e w' ⟨rfl, rfl⟩
              go_wp2
              go_ret
              refine ⟨ret_bool ?_, (by repeat (first | assumption | exact Pure.refl _ | refine Pure.drewN ?_ _ | refine Pure.drew ?_ | refine Pure.alloc ?_ _ | refine Pure.setCell ?_ (by simp <;> omega) _))⟩
              cases hb : B
              · rfl
              · exact absurd (HB.out.1 hb).1.2.1 (fun h => HR.out (OK.out.1 h))
          · have d13 : (o == 13) = false := by simp [ho13]
            have ok : okAt o 1 b ↔ b = 0 := by unfold okAt; rw [if_neg (by rw [Hg.out]; simpa using hg), if_neg (fun h => ho1 h.2), if_neg (fun h => ho13 h.2)]
            have OK := Lib.hid ok; have HO1 := Lib.hid ho1; have HO13 := Lib.hid ho13; clear ok ho1 ho13
            by_cases hr : b = 0
            · have dn : (b != 0) = false := by simp [hr]
              have HR := Lib.hid hr; clear hr
              go_wp2_with fail
              refine (registers_any _ _ g Hg.out).mono ?_
              rintro e w' ⟨rfl, rfl⟩
              go_wp2
              go_roundg 1
              case measure => omega
              case rel => exact ⟨2, by omega, rfl, rfl, (fun _ => H0.out (by omega)), (fun _ => OK.out.2 HR.out), (fun h => absurd h (by omega))⟩
            · have dn : (b != 0) = true := by simp [hr]
              have HR := Lib.hid hr; clear hr
              go_wp2_with fail
              refine (registers_any _ _ g Hg.out).mono ?_
              rintro e w' ⟨rfl, rfl⟩
              go_wp2
              go_ret
              refine ⟨ret_bool ?_, (by repeat (first | assumption | exact Pure.refl _ | refine Pure.drewN ?_ _ | refine Pure.drew ?_ | refine Pure.alloc ?_ _ | refine Pure.setCell ?_ (by simp <;> omega) _))⟩
              cases hb : B
              · rfl
              · exact absurd (HB.out.1 hb).1.2.1 (fun h => HR.out (OK.out.1 h))
    · by_cases hg : (2 : Int) < g
      · have ok : okAt o 2 c ↔ Reg c := by unfold okAt; rw [if_pos (by rw [Hg.out]; exact hg)]
        have OK := Lib.hid ok; clear ok
        by_cases hr : Reg c
        all_goals
          have HR := Lib.hid hr; clear hr
        · go_wp2_with fail
          refine (registers_any _ _ g Hg.out).mono ?_
          rintro e w' ⟨rfl, rfl⟩
          go_wp2_with fail
          refine (isReg_any _ _ true (by simp [HR.out])).mono ?_
          rintro e w' ⟨rfl, rfl⟩
          go_wp2
          go_roundg 0
          case measure => omega
          case rel => exact ⟨3, by omega, rfl, rfl, (fun _ => H0.out (by omega)), (fun _ => H1.out (by omega)), (fun _ => OK.out.2 HR.out)⟩
        · go_wp2_with fail
          refine (registers_any _ _ g Hg.out).mono ?_
          rintro e w' ⟨rfl, rfl⟩
          go_wp2_with fail
          refine (isReg_any _ _ false (by simp [HR.out])).mono ?_
          rintro e w' ⟨rfl, rfl⟩
          go_wp2
          go_ret
          refine ⟨ret_bool ?_, (by repeat (first | assumption | exact Pure.refl _ | refine Pure.drewN ?_ _ | refine Pure.drew ?_ | refine Pure.alloc ?_ _ | refine Pure.setCell ?_ (by simp <;> omega) _))⟩
          cases hb : B
          · rfl
          · exact absurd (HB.out.1 hb).1.2.2 (fun h => HR.out (OK.out.1 h))
      · have ok : okAt o 2 c ↔ c = 0 := by unfold okAt; rw [if_neg (by rw [Hg.out]; simpa using hg), if_neg (fun h => by cases h.1), if_neg (fun h => by cases h.1)]
        have OK := Lib.hid ok; clear ok
        by_cases hr : c = 0
        · have dn : (c != 0) = false := by simp [hr]
          have HR := Lib.hid hr; clear hr
          go_wp2_with fail
          refine (registers_any _ _ g Hg.out).mono ?_
          rintro e w' ⟨rfl, rfl⟩
          go_wp2
          go_roundg 0
          case measure => omega
          case rel => exact ⟨3, by omega, rfl, rfl, (fun _ => H0.out (by omega)), (fun _ => H1.out (by omega)), (fun _ => OK.out.2 HR.out)⟩
        · have dn : (c != 0) = true := by simp [hr]
          have HR := Lib.hid hr; clear hr
          go_wp2_with fail
          refine (registers_any _ _ g Hg.out).mono ?_
          rintro e w' ⟨rfl, rfl⟩
          go_wp2
          go_ret
          refine ⟨ret_bool ?_, (by repeat (first | assumption | exact Pure.refl _ | refine Pure.drewN ?_ _ | refine Pure.drew ?_ | refine Pure.alloc ?_ _ | refine Pure.setCell ?_ (by simp <;> omega) _))⟩
          cases hb : B
          · rfl
          · exact absurd (HB.out.1 hb).1.2.2 (fun h => HR.out (OK.out.1 h))
    · have HB2 : Hid (B = true ↔ (1 ≤ o ∧ o ≤ 14)) := by
        refine HB.out.trans ⟨fun h => h.2, fun h => ⟨⟨H0.out (by omega), H1.out (by omega), H2.out (by omega)⟩, h⟩⟩
      go_wp2_with fail
      refine (within_any _ _ _ _ B HB2.out).mono ?_
      rintro e w' ⟨rfl, rfl⟩
      go_wp2
      go_ret
      exact ⟨rfl, (by repeat (first | assumption | exact Pure.refl _ | refine Pure.drewN ?_ _ | refine Pure.drew ?_ | refine Pure.alloc ?_ _ | refine Pure.setCell ?_ (by simp <;> omega) _))⟩

end Go.Proofs.Ytkolnakcgjlcgaa

namespace Go.Proofs.Ytkolnakcgjlcgaa
open Go.RowKit

theorem sWordAdd_any (x y : Int) (w : World) (hx : Word x) (hy : Word y) :
    Calls Try.prog 122 #[.int .i64 x, .int .i64 y] w fun e w' => e = .returned (.int .i64 ((x + y) % 256)) ∧ w = w' := by
  have HX := Lib.hid hx
  have HY := Lib.hid hy
  obtain ⟨hx0, hx1⟩ := hx
  obtain ⟨hy0, hy1⟩ := hy
  go_enter Try.func122, Try.ntmps122
  go_wp2_with fail
  refine (l2Word_any x _ true (by simp [HX.out])).mono ?_
  rintro e w' ⟨rfl, rfl⟩
  go_wp2_with fail
  refine (l2Word_any y _ true (by simp [HY.out])).mono ?_
  rintro e w' ⟨rfl, rfl⟩
  go_wp2
  go_ret
  exact ⟨rfl, rfl⟩

theorem sWordMul_any (x y : Int) (w : World) (hx : Word x) (hy : Word y) :
    Calls Try.prog 123 #[.int .i64 x, .int .i64 y] w fun e w' => e = .returned (.int .i64 (x * y % 256)) ∧ w = w' := by
  have HX := Lib.hid hx
  have HY := Lib.hid hy
  obtain ⟨hx0, hx1⟩ := hx
  obtain ⟨hy0, hy1⟩ := hy
  have hm0 : 0 ≤ x * y := Int.mul_nonneg hx0 hy0
  have hm1 : x * y ≤ 65025 := by have := Int.mul_le_mul hx1 hy1 hy0 (by decide : (0 : Int) ≤ 255); omega
  go_enter Try.func123, Try.ntmps123
  go_wp2_with fail
  refine (l2Word_any x _ true (by simp [HX.out])).mono ?_
  rintro e w' ⟨rfl, rfl⟩
  go_wp2_with fail
  refine (l2Word_any y _ true (by simp [HY.out])).mono ?_
  rintro e w' ⟨rfl, rfl⟩
  go_wp2
  go_ret
  exact ⟨rfl, rfl⟩

theorem sWordLess_any (x y : Int) (w : World) (hx : Word x) (hy : Word y) :
    Calls Try.prog 124 #[.int .i64 x, .int .i64 y] w fun e w' => e = .returned (.int .i64 (if x < y then 1 else 0)) ∧ w = w' := by
  have HX := Lib.hid hx
  have HY := Lib.hid hy
  obtain ⟨hx0, hx1⟩ := hx
  obtain ⟨hy0, hy1⟩ := hy
  by_cases hlt : x < y
  · rw [if_pos hlt]
    go_enter Try.func124, Try.ntmps124
    go_wp2_with fail
    refine (l2Word_any x _ true (by simp [HX.out])).mono ?_
    rintro e w' ⟨rfl, rfl⟩
    go_wp2_with fail
    refine (l2Word_any y _ true (by simp [HY.out])).mono ?_
    rintro e w' ⟨rfl, rfl⟩
    go_wp2
    go_ret
    exact ⟨rfl, rfl⟩
  · rw [if_neg hlt]
    go_enter Try.func124, Try.ntmps124
    go_wp2_with fail
    refine (l2Word_any x _ true (by simp [HX.out])).mono ?_
    rintro e w' ⟨rfl, rfl⟩
    go_wp2_with fail
    refine (l2Word_any y _ true (by simp [HY.out])).mono ?_
    rintro e w' ⟨rfl, rfl⟩
    go_wp2
    go_ret
    exact ⟨rfl, rfl⟩

theorem iWordAdd_any (x y : Int) (w : World) (hx : Word x) (hy : Word y) :
    Calls Try.prog 116 #[.int .i64 x, .int .i64 y] w fun e w' => e = .returned (.int .i64 ((x + y) % 256)) ∧ w = w' := by
  have HX := Lib.hid hx
  have HY := Lib.hid hy
  obtain ⟨hx0, hx1⟩ := hx
  obtain ⟨hy0, hy1⟩ := hy
  go_enter Try.func116, Try.ntmps116
  go_wp2_with fail
  refine (isWord_any x _ true (by simp [HX.out])).mono ?_
  rintro e w' ⟨rfl, rfl⟩
  go_wp2_with fail
  refine (isWord_any y _ true (by simp [HY.out])).mono ?_
  rintro e w' ⟨rfl, rfl⟩
  go_wp2
  go_ret
  exact ⟨rfl, rfl⟩

theorem iWordMul_any (x y : Int) (w : World) (hx : Word x) (hy : Word y) :
    Calls Try.prog 117 #[.int .i64 x, .int .i64 y] w fun e w' => e = .returned (.int .i64 (x * y % 256)) ∧ w = w' := by
  have HX := Lib.hid hx
  have HY := Lib.hid hy
  obtain ⟨hx0, hx1⟩ := hx
  obtain ⟨hy0, hy1⟩ := hy
  have hm0 : 0 ≤ x * y := Int.mul_nonneg hx0 hy0
  have hm1 : x * y ≤ 65025 := by have := Int.mul_le_mul hx1 hy1 hy0 (by decide : (0 : Int) ≤ 255); omega
  go_enter Try.func117, Try.ntmps117
  go_wp2_with fail
  refine (isWord_any x _ true (by simp [HX.out])).mono ?_
  rintro e w' ⟨rfl, rfl⟩
  go_wp2_with fail
  refine (isWord_any y _ true (by simp [HY.out])).mono ?_
  rintro e w' ⟨rfl, rfl⟩
  go_wp2
  go_ret
  exact ⟨rfl, rfl⟩

theorem iWordLess_any (x y : Int) (w : World) (hx : Word x) (hy : Word y) :
    Calls Try.prog 118 #[.int .i64 x, .int .i64 y] w fun e w' => e = .returned (.int .i64 (if x < y then 1 else 0)) ∧ w = w' := by
  have HX := Lib.hid hx
  have HY := Lib.hid hy
  obtain ⟨hx0, hx1⟩ := hx
  obtain ⟨hy0, hy1⟩ := hy
  by_cases hlt : x < y
  · rw [if_pos hlt]
    go_enter Try.func118, Try.ntmps118
    go_wp2_with fail
    refine (isWord_any x _ true (by simp [HX.out])).mono ?_
    rintro e w' ⟨rfl, rfl⟩
    go_wp2_with fail
    refine (isWord_any y _ true (by simp [HY.out])).mono ?_
    rintro e w' ⟨rfl, rfl⟩
    go_wp2
    go_ret
    exact ⟨rfl, rfl⟩
  · rw [if_neg hlt]
    go_enter Try.func118, Try.ntmps118
    go_wp2_with fail
    refine (isWord_any x _ true (by simp [HX.out])).mono ?_
    rintro e w' ⟨rfl, rfl⟩
    go_wp2_with fail
    refine (isWord_any y _ true (by simp [HY.out])).mono ?_
    rintro e w' ⟨rfl, rfl⟩
    go_wp2
    go_ret
    exact ⟨rfl, rfl⟩

end Go.Proofs.Ytkolnakcgjlcgaa

namespace Go.Proofs.Ytkolnakcgjlcgaa
open Go.RowKit
theorem boxed {w w1 : World} {o a b c : Int} {t : TypeId} (hp : Pure (w.alloc (.cells #[.int .i64 o, .int .i64 a, .int .i64 b, .int .i64 c] t)) w1) :
    w1.cell? ⟨w.heap.size, 0, none⟩ = some (.int .i64 o) ∧ w1.cell? ⟨w.heap.size, 1, none⟩ = some (.int .i64 a) ∧ w1.cell? ⟨w.heap.size, 2, none⟩ = some (.int .i64 b) ∧ w1.cell? ⟨w.heap.size, 3, none⟩ = some (.int .i64 c) ∧ Pure w w1 := by
  have c0 := cell_of_row _ _ 0 _ _ _ (heap_alloc_new w (.cells #[.int .i64 o, .int .i64 a, .int .i64 b, .int .i64 c] t))
  have c1 := cell_of_row _ _ 1 _ _ _ (heap_alloc_new w (.cells #[.int .i64 o, .int .i64 a, .int .i64 b, .int .i64 c] t))
  have c2 := cell_of_row _ _ 2 _ _ _ (heap_alloc_new w (.cells #[.int .i64 o, .int .i64 a, .int .i64 b, .int .i64 c] t))
  have c3 := cell_of_row _ _ 3 _ _ _ (heap_alloc_new w (.cells #[.int .i64 o, .int .i64 a, .int .i64 b, .int .i64 c] t))
  have hlt : w.heap.size < (w.alloc (.cells #[.int .i64 o, .int .i64 a, .int .i64 b, .int .i64 c] t)).heap.size := World.block_lt_of_cell? _ _ c0
  exact ⟨(hp.cell _ _ hlt).trans c0, (hp.cell _ _ hlt).trans c1, (hp.cell _ _ hlt).trans c2, (hp.cell _ _ hlt).trans c3, (Pure.alloc (Pure.refl w) _).trans hp⟩

theorem CdOk.regs {o a b c : Int} (h : CdOk ⟨o, a, b, c⟩) : (0 ≤ a ∧ a ≤ 3) ∧ (o ≠ 1 → 0 ≤ b) ∧ (o ≠ 1 → o ≠ 13 → b ≤ 3) ∧ 0 ≤ c ∧ c ≤ 3 ∧ 1 ≤ o ∧ o ≤ 14 := by
  unfold CdOk Reg at h
  simp only at h
  omega
end Go.Proofs.Ytkolnakcgjlcgaa
