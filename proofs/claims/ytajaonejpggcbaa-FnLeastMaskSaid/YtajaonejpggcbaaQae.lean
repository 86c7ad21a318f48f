/- Which instructions are valid, as the program finds it. Sums, products and comparisons of words, the reference's and the program's. What instructions read and write, plainly. What an instruction does to one lane, as the reference reckons it. append to a slice that is still the empty one it began as, or the call's own. Sets as numbers that are not negative: Go's operations on their digits. No program in sight. No condition. -/
import Derived.StillTailTactics
import Derived.ArgAppend
import Derived.Laws.BitsAllLaws
import Derived.Lib.QuoteBits
import Derived.Test.YtajaonejpggcbaaQaa
import Derived.Test.YtajaonejpggcbaaQab
import Derived.Test.YtajaonejpggcbaaQac
import Derived.Test.YtajaonejpggcbaaQad

namespace Go.Proofs.Ytajaonejpggcbaa
open Go.RowKit

set_option maxHeartbeats 400000 in
theorem isReg_any (n : Int) (w : World) (B : Bool) (hB : B = true ↔ Reg n) :
    Calls Try.prog 151 #[.int .i64 n] w fun e w' => e = .returned (.bool B) ∧ w = w' := by
  have HB := Lib.hid hB; clear hB
  go_enter Try.func151, Try.ntmps151
  go_wp2_with fail
  refine (within_any _ _ _ _ B HB.out).mono ?_
  rintro e w' ⟨rfl, rfl⟩
  go_wp2
  go_ret
  exact ⟨rfl, rfl⟩
set_option maxHeartbeats 400000 in
theorem isWord_any (n : Int) (w : World) (B : Bool) (hB : B = true ↔ Word n) :
    Calls Try.prog 122 #[.int .i64 n] w fun e w' => e = .returned (.bool B) ∧ w = w' := by
  have HB := Lib.hid hB; clear hB
  go_enter Try.func122, Try.ntmps122
  go_wp2_with fail
  refine (within_any _ _ _ _ B HB.out).mono ?_
  rintro e w' ⟨rfl, rfl⟩
  go_wp2
  go_ret
  exact ⟨rfl, rfl⟩

def nregs (op : Int) : Int := if op = 1 ∨ op = 2 ∨ op = 11 ∨ op = 13 then 1 else if op = 3 ∨ op = 4 ∨ op = 5 ∨ op = 8 ∨ op = 9 then 2 else if op = 6 ∨ op = 7 then 3 else 0

set_option maxHeartbeats 1000000 in
theorem registers_any (op : Int) (w : World) (g : Int) (hg : nregs op = g) :
    Calls Try.prog 150 #[.int .i64 op] w fun e w' => e = .returned (.int .i64 g) ∧ w = w' := by
  by_cases ho : op = 1 ∨ op = 2 ∨ op = 11 ∨ op = 13 ∨ op = 3 ∨ op = 4 ∨ op = 5 ∨ op = 8 ∨ op = 9 ∨ op = 6 ∨ op = 7
  · rcases ho with rfl | rfl | rfl | rfl | rfl | rfl | rfl | rfl | rfl | rfl | rfl
    all_goals
      have hg' : g = _ := hg.symm
      simp [nregs] at hg'
      subst hg'
      clear hg
      go_enter Try.func150, Try.ntmps150
      go_wp2
      go_ret
      exact ⟨rfl, rfl⟩
  · have hg' : g = 0 := by rw [← hg]; unfold nregs; rw [if_neg (by omega), if_neg (by omega), if_neg (by omega)]
    subst hg'
    clear hg
    have HO := Lib.hid ho; clear ho
    have d1 : (op == 1) = false := by have := HO.out; rw [beq_eq_false_iff_ne]; omega
    have d2 : (op == 2) = false := by have := HO.out; rw [beq_eq_false_iff_ne]; omega
    have d11 : (op == 11) = false := by have := HO.out; rw [beq_eq_false_iff_ne]; omega
    have d13 : (op == 13) = false := by have := HO.out; rw [beq_eq_false_iff_ne]; omega
    have d3 : (op == 3) = false := by have := HO.out; rw [beq_eq_false_iff_ne]; omega
    have d4 : (op == 4) = false := by have := HO.out; rw [beq_eq_false_iff_ne]; omega
    have d5 : (op == 5) = false := by have := HO.out; rw [beq_eq_false_iff_ne]; omega
    have d8 : (op == 8) = false := by have := HO.out; rw [beq_eq_false_iff_ne]; omega
    have d9 : (op == 9) = false := by have := HO.out; rw [beq_eq_false_iff_ne]; omega
    have d6 : (op == 6) = false := by have := HO.out; rw [beq_eq_false_iff_ne]; omega
    have d7 : (op == 7) = false := by have := HO.out; rw [beq_eq_false_iff_ne]; omega
    go_enter Try.func150, Try.ntmps150
    go_wp2
    go_ret
    exact ⟨rfl, rfl⟩

def okAt (op : Int) (j : Nat) (n : Int) : Prop := if (j : Int) < nregs op then Reg n else if j = 1 ∧ op = 1 then Word n else if j = 1 ∧ op = 13 then (1 ≤ n ∧ n ≤ 4) else n = 0
theorem okAt_all (c : Cd) : CdOk c ↔ (okAt c.op 0 c.a ∧ okAt c.op 1 c.b ∧ okAt c.op 2 c.c) ∧ (1 ≤ c.op ∧ c.op ≤ 14) := by
  obtain ⟨o, a, b, c⟩ := c
  by_cases ho : 1 ≤ o ∧ o ≤ 14
  · have : o = 1 ∨ o = 2 ∨ o = 3 ∨ o = 4 ∨ o = 5 ∨ o = 6 ∨ o = 7 ∨ o = 8 ∨ o = 9 ∨ o = 10 ∨ o = 11 ∨ o = 12 ∨ o = 13 ∨ o = 14 := by omega
    rcases this with rfl | rfl | rfl | rfl | rfl | rfl | rfl | rfl | rfl | rfl | rfl | rfl | rfl | rfl
    all_goals
      simp [CdOk, okAt, nregs, Reg, Word]
      try omega
  · unfold CdOk
    simp only
    constructor
    · intro h; omega
    · intro h; exact absurd h.2 ho

set_option maxHeartbeats 2000000 in
theorem icv_any (c : Cd) (w : World) (B : Bool) (hB : B = true ↔ CdOk c) :
    Calls Try.prog 120 #[cdv c] w fun e w' => e = .returned (.bool B) ∧ Pure w w' := by
  rw [okAt_all] at hB
  unfold cdv
  obtain ⟨o, a, b, c⟩ := c
  simp only at hB ⊢
  have HB := Lib.hid hB; clear hB
  obtain ⟨g, Hg⟩ : ∃ g, Hid (nregs o = g) := ⟨_, rfl⟩
  go_enter Try.func120, Try.ntmps120
  go_wp2_with fail
  go_loopg [15] 3 (fun gk i wr => ∃ k : Nat, gk + k = 3 ∧ i = .int .i64 k ∧ wr = (w.alloc (.cells #[.int .i64 o, .int .i64 a, .int .i64 b, .int .i64 c] 68)).alloc (.cells #[.int .i64 a, .int .i64 b, .int .i64 c] 3) ∧ (0 < k → okAt o 0 a) ∧ (1 < k → okAt o 1 b) ∧ (2 < k → okAt o 2 c))
  case atStart => exact ⟨0, rfl, rfl, rfl, by simp, by simp, by simp⟩
  case round =>
    obtain ⟨k, hgk, rfl, rfl, h0, h1, h2⟩ := hrel
    have hk3 : k = 0 ∨ k = 1 ∨ k = 2 ∨ k = 3 := by omega
    have H0 := Lib.hid h0
    have H1 := Lib.hid h1
    have H2 := Lib.hid h2
    clear h0 h1 h2
    rcases hk3 with rfl | rfl | rfl | rfl
    · by_cases hg : (0 : Int) < g
      · have ok : okAt o 0 a ↔ Reg a := by unfold okAt; rw [if_pos (by rw [Hg.out]; exact hg)]
        have OK := Lib.hid ok; clear ok
        by_cases hr : Reg a
        all_goals
          have HR := Lib.hid hr; clear hr
        · go_wp2_with fail
          refine (registers_any _ _ g Hg.out).mono ?_
          rintro e w' ⟨rfl, rfl⟩
          go_wp2_with fail
          refine (isReg_any _ _ true (by simp [HR.out])).mono ?_
          rintro e w' ⟨rfl, rfl⟩
          go_wp2
          go_roundg 2
          case measure => omega
          case rel => exact ⟨1, by omega, rfl, rfl, (fun _ => OK.out.2 HR.out), (fun h => absurd h (by omega)), (fun h => absurd h (by omega))⟩
        · go_wp2_with fail
          refine (registers_any _ _ g Hg.out).mono ?_
          rintro e w' ⟨rfl, rfl⟩
          go_wp2_with fail
          refine (isReg_any _ _ false (by simp [HR.out])).mono ?_
          rintro e w' ⟨rfl, rfl⟩
          go_wp2
          go_ret
          refine ⟨ret_bool ?_, (by repeat (first | assumption | exact Pure.refl _ | refine Pure.drewN ?_ _ | refine Pure.drew ?_ | refine Pure.alloc ?_ _ | refine Pure.setCell ?_ (by simp <;> omega) _))⟩
          cases hb : B
          · rfl
          · exact absurd (HB.out.1 hb).1.1 (fun h => HR.out (OK.out.1 h))
      · have ok : okAt o 0 a ↔ a = 0 := by unfold okAt; rw [if_neg (by rw [Hg.out]; simpa using hg), if_neg (fun h => by cases h.1), if_neg (fun h => by cases h.1)]
        have OK := Lib.hid ok; clear ok
        by_cases hr : a = 0
        · have dn : (a != 0) = false := by simp [hr]
          have HR := Lib.hid hr; clear hr
          go_wp2_with fail
          refine (registers_any _ _ g Hg.out).mono ?_
          rintro e w' ⟨rfl, rfl⟩
          go_wp2
          go_roundg 2
          case measure => omega
          case rel => exact ⟨1, by omega, rfl, rfl, (fun _ => OK.out.2 HR.out), (fun h => absurd h (by omega)), (fun h => absurd h (by omega))⟩
        · have dn : (a != 0) = true := by simp [hr]
          have HR := Lib.hid hr; clear hr
          go_wp2_with fail
          refine (registers_any _ _ g Hg.out).mono ?_
          rintro e w' ⟨rfl, rfl⟩
          go_wp2
          go_ret
          refine ⟨ret_bool ?_, (by repeat (first | assumption | exact Pure.refl _ | refine Pure.drewN ?_ _ | refine Pure.drew ?_ | refine Pure.alloc ?_ _ | refine Pure.setCell ?_ (by simp <;> omega) _))⟩
          cases hb : B
          · rfl
          · exact absurd (HB.out.1 hb).1.1 (fun h => HR.out (OK.out.1 h))
    · by_cases hg : (1 : Int) < g
      · have ok : okAt o 1 b ↔ Reg b := by unfold okAt; rw [if_pos (by rw [Hg.out]; exact hg)]
        have OK := Lib.hid ok; clear ok
        by_cases hr : Reg b
        all_goals
          have HR := Lib.hid hr; clear hr
        · go_wp2_with fail
          refine (registers_any _ _ g Hg.out).mono ?_
          rintro e w' ⟨rfl, rfl⟩
          go_wp2_with fail
          refine (isReg_any _ _ true (by simp [HR.out])).mono ?_
          rintro e w' ⟨rfl, rfl⟩
          go_wp2
          go_roundg 1
          case measure => omega
          case rel => exact ⟨2, by omega, rfl, rfl, (fun _ => H0.out (by omega)), (fun _ => OK.out.2 HR.out), (fun h => absurd h (by omega))⟩
        · go_wp2_with fail
          refine (registers_any _ _ g Hg.out).mono ?_
          rintro e w' ⟨rfl, rfl⟩
          go_wp2_with fail
          refine (isReg_any _ _ false (by simp [HR.out])).mono ?_
          rintro e w' ⟨rfl, rfl⟩
          go_wp2
          go_ret
          refine ⟨ret_bool ?_, (by repeat (first | assumption | exact Pure.refl _ | refine Pure.drewN ?_ _ | refine Pure.drew ?_ | refine Pure.alloc ?_ _ | refine Pure.setCell ?_ (by simp <;> omega) _))⟩
          cases hb : B
          · rfl
          · exact absurd (HB.out.1 hb).1.2.1 (fun h => HR.out (OK.out.1 h))
      · by_cases ho1 : o = 1
        · have d1 : (o == 1) = true := by simp [ho1]
          have ok : okAt o 1 b ↔ Word b := by unfold okAt; rw [if_neg (by rw [Hg.out]; simpa using hg), if_pos ⟨rfl, ho1⟩]
          have OK := Lib.hid ok; have HO1 := Lib.hid ho1; clear ok ho1
          by_cases hr : Word b
          all_goals
            have HR := Lib.hid hr; clear hr
          · go_wp2_with fail
            refine (registers_any _ _ g Hg.out).mono ?_
            rintro e w' ⟨rfl, rfl⟩
            go_wp2_with fail
            refine (isWord_any _ _ true (by simp [HR.out])).mono ?_
            rintro e w' ⟨rfl, rfl⟩
            go_wp2
            go_roundg 1
            case measure => omega
            case rel => exact ⟨2, by omega, rfl, rfl, (fun _ => H0.out (by omega)), (fun _ => OK.out.2 HR.out), (fun h => absurd h (by omega))⟩
          · go_wp2_with fail
            refine (registers_any _ _ g Hg.out).mono ?_
            rintro e w' ⟨rfl, rfl⟩
            go_wp2_with fail
            refine (isWord_any _ _ false (by simp [HR.out])).mono ?_
            rintro e w' ⟨rfl, rfl⟩
            go_wp2
            go_ret
            refine ⟨ret_bool ?_, (by repeat (first | assumption | exact Pure.refl _ | refine Pure.drewN ?_ _ | refine Pure.drew ?_ | refine Pure.alloc ?_ _ | refine Pure.setCell ?_ (by simp <;> omega) _))⟩
            cases hb : B
            · rfl
            · exact absurd (HB.out.1 hb).1.2.1 (fun h => HR.out (OK.out.1 h))
        · have d1 : (o == 1) = false := by simp [ho1]
          by_cases ho13 : o = 13
          · have d13 : (o == 13) = true := by simp [ho13]
            have ok : okAt o 1 b ↔ (1 ≤ b ∧ b ≤ 4) := by unfold okAt; rw [if_neg (by rw [Hg.out]; simpa using hg), if_neg (fun h => ho1 h.2), if_pos ⟨rfl, ho13⟩]
            have OK := Lib.hid ok; have HO1 := Lib.hid ho1; have HO13 := Lib.hid ho13; clear ok ho1 ho13
            by_cases hr : 1 ≤ b ∧ b ≤ 4
            all_goals
              have HR := Lib.hid hr; clear hr
            · go_wp2_with fail
              refine (registers_any _ _ g Hg.out).mono ?_
              rintro e w' ⟨rfl, rfl⟩
              go_wp2_with fail
              refine (within_any _ _ _ _ true (by simp [HR.out])).mono ?_
              rintro e w' ⟨rfl, rfl⟩
              go_wp2
              go_roundg 1
              case measure => omega
              case rel => exact ⟨2, by omega, rfl, rfl, (fun _ => H0.out (by omega)), (fun _ => OK.out.2 HR.out), (fun h => absurd h (by omega))⟩
            · go_wp2_with fail
              refine (registers_any _ _ g Hg.out).mono ?_
              rintro e w' ⟨rfl, rfl⟩
              go_wp2_with fail
              refine (within_any _ _ _ _ false (by simp [HR.out])).mono ?_
              rintro e w' ⟨rfl, rfl⟩
              go_wp2
              go_ret
              refine ⟨ret_bool ?_, (by repeat (first | assumption | exact Pure.refl _ | refine Pure.drewN ?_ _ | refine Pure.drew ?_ | refine Pure.alloc ?_ _ | refine Pure.setCell ?_ (by simp <;> omega) _))⟩
              cases hb : B
              · rfl
              · exact absurd (HB.out.1 hb).1.2.1 (fun h => HR.out (OK.out.1 h))
          · have d13 : (o == 13) = false := by simp [ho13]
            have ok : okAt o 1 b ↔ b = 0 := by unfold okAt; rw [if_neg (by rw [Hg.out]; simpa using hg), if_neg (fun h => ho1 h.2), if_neg (fun h => ho13 h.2)]
            have OK := Lib.hid ok; have HO1 := Lib.hid ho1; have HO13 := Lib.hid ho13; clear ok ho1 ho13
            by_cases hr : b = 0
            · have dn : (b != 0) = false := by simp [hr]
              have HR := Lib.hid hr; clear hr
              go_wp2_with fail
              refine (registers_any _ _ g Hg.out).mono ?_
              rintro e w' ⟨rfl, rfl⟩
              go_wp2
              go_roundg 1
              case measure => omega
              case rel => exact ⟨2, by omega, rfl, rfl, (fun _ => H0.out (by omega)), (fun _ => OK.out.2 HR.out), (fun h => absurd h (by omega))⟩
            · have dn : (b != 0) = true := by simp [hr]
              have HR := Lib.hid hr; clear hr
              go_wp2_with fail
              refine (registers_any _ _ g Hg.out).mono ?_
              rintro e w' ⟨rfl, rfl⟩
              go_wp2
              go_ret
              refine ⟨ret_bool ?_, (by repeat (first | assumption | exact Pure.refl _ | refine Pure.drewN ?_ _ | refine Pure.drew ?_ | refine Pure.alloc ?_ _ | refine Pure.setCell ?_ (by simp <;> omega) _))⟩
              cases hb : B
              · rfl
              · exact absurd (HB.out.1 hb).1.2.1 (fun h => HR.out (OK.out.1 h))
    · by_cases hg : (2 : Int) < g
      · have ok : okAt o 2 c ↔ Reg c := by unfold okAt; rw [if_pos (by rw [Hg.out]; exact hg)]
        have OK := Lib.hid ok; clear ok
        by_cases hr : Reg c
        all_goals
          have HR := Lib.hid hr; clear hr
        · go_wp2_with fail
          refine (registers_any _ _ g Hg.out).mono ?_
          rintro e w' ⟨rfl, rfl⟩
          go_wp2_with fail
          refine (isReg_any _ _ true (by simp [HR.out])).mono ?_
          rintro e w' ⟨rfl, rfl⟩
          go_wp2
          go_roundg 0
          case measure => omega
          case rel => exact ⟨3, by omega, rfl, rfl, (fun _ => H0.out (by omega)), (fun _ => H1.out (by omega)), (fun _ => OK.out.2 HR.out)⟩
        · go_wp2_with fail
          refine (registers_any _ _ g Hg.out).mono ?_
          rintro e w' ⟨rfl, rfl⟩
          go_wp2_with fail
          refine (isReg_any _ _ false (by simp [HR.out])).mono ?_
          rintro e w' ⟨rfl, rfl⟩
          go_wp2
          go_ret
          refine ⟨ret_bool ?_, (by repeat (first | assumption | exact Pure.refl _ | refine Pure.drewN ?_ _ | refine Pure.drew ?_ | refine Pure.alloc ?_ _ | refine Pure.setCell ?_ (by simp <;> omega) _))⟩
          cases hb : B
          · rfl
          · exact absurd (HB.out.1 hb).1.2.2 (fun h => HR.out (OK.out.1 h))
      · have ok : okAt o 2 c ↔ c = 0 := by unfold okAt; rw [if_neg (by rw [Hg.out]; simpa using hg), if_neg (fun h => by cases h.1), if_neg (fun h => by cases h.1)]
        have OK := Lib.hid ok; clear ok
        by_cases hr : c = 0
        · have dn : (c != 0) = false := by simp [hr]
          have HR := Lib.hid hr; clear hr
          go_wp2_with fail
          refine (registers_any _ _ g Hg.out).mono ?_
          rintro e w' ⟨rfl, rfl⟩
          go_wp2
          go_roundg 0
          case measure => omega
          case rel => exact ⟨3, by omega, rfl, rfl, (fun _ => H0.out (by omega)), (fun _ => H1.out (by omega)), (fun _ => OK.out.2 HR.out)⟩
        · have dn : (c != 0) = true := by simp [hr]
          have HR := Lib.hid hr; clear hr
          go_wp2_with fail
          refine (registers_any _ _ g Hg.out).mono ?_
          rintro e w' ⟨rfl, rfl⟩
          go_wp2
          go_ret
          refine ⟨ret_bool ?_, (by repeat (first | assumption | exact Pure.refl _ | refine Pure.drewN ?_ _ | refine Pure.drew ?_ | refine Pure.alloc ?_ _ | refine Pure.setCell ?_ (by simp <;> omega) _))⟩
          cases hb : B
          · rfl
          · exact absurd (HB.out.1 hb).1.2.2 (fun h => HR.out (OK.out.1 h))
    · have HB2 : Hid (B = true ↔ (1 ≤ o ∧ o ≤ 14)) := by
        refine HB.out.trans ⟨fun h => h.2, fun h => ⟨⟨H0.out (by omega), H1.out (by omega), H2.out (by omega)⟩, h⟩⟩
      go_wp2_with fail
      refine (within_any _ _ _ _ B HB2.out).mono ?_
      rintro e w' ⟨rfl, rfl⟩
      go_wp2
      go_ret
      exact ⟨rfl, (by repeat (first | assumption | exact Pure.refl _ | refine Pure.drewN ?_ _ | refine Pure.drew ?_ | refine Pure.alloc ?_ _ | refine Pure.setCell ?_ (by simp <;> omega) _))⟩

end Go.Proofs.Ytajaonejpggcbaa

namespace Go.Proofs.Ytajaonejpggcbaa
open Go.RowKit

theorem sWordAdd_any (x y : Int) (w : World) (hx : Word x) (hy : Word y) :
    Calls Try.prog 152 #[.int .i64 x, .int .i64 y] w fun e w' => e = .returned (.int .i64 ((x + y) % 256)) ∧ w = w' := by
  have HX := Lib.hid hx
  have HY := Lib.hid hy
  obtain ⟨hx0, hx1⟩ := hx
  obtain ⟨hy0, hy1⟩ := hy
  go_enter Try.func152, Try.ntmps152
  go_wp2_with fail
  refine (l2Word_any x _ true (by simp [HX.out])).mono ?_
  rintro e w' ⟨rfl, rfl⟩
  go_wp2_with fail
  refine (l2Word_any y _ true (by simp [HY.out])).mono ?_
  rintro e w' ⟨rfl, rfl⟩
  go_wp2
  go_ret
  exact ⟨rfl, rfl⟩

theorem sWordMul_any (x y : Int) (w : World) (hx : Word x) (hy : Word y) :
    Calls Try.prog 153 #[.int .i64 x, .int .i64 y] w fun e w' => e = .returned (.int .i64 (x * y % 256)) ∧ w = w' := by
  have HX := Lib.hid hx
  have HY := Lib.hid hy
  obtain ⟨hx0, hx1⟩ := hx
  obtain ⟨hy0, hy1⟩ := hy
  have hm0 : 0 ≤ x * y := Int.mul_nonneg hx0 hy0
  have hm1 : x * y ≤ 65025 := by have := Int.mul_le_mul hx1 hy1 hy0 (by decide : (0 : Int) ≤ 255); omega
  go_enter Try.func153, Try.ntmps153
  go_wp2_with fail
  refine (l2Word_any x _ true (by simp [HX.out])).mono ?_
  rintro e w' ⟨rfl, rfl⟩
  go_wp2_with fail
  refine (l2Word_any y _ true (by simp [HY.out])).mono ?_
  rintro e w' ⟨rfl, rfl⟩
  go_wp2
  go_ret
  exact ⟨rfl, rfl⟩

theorem sWordLess_any (x y : Int) (w : World) (hx : Word x) (hy : Word y) :
    Calls Try.prog 154 #[.int .i64 x, .int .i64 y] w fun e w' => e = .returned (.int .i64 (if x < y then 1 else 0)) ∧ w = w' := by
  have HX := Lib.hid hx
  have HY := Lib.hid hy
  obtain ⟨hx0, hx1⟩ := hx
  obtain ⟨hy0, hy1⟩ := hy
  by_cases hlt : x < y
  · rw [if_pos hlt]
    go_enter Try.func154, Try.ntmps154
    go_wp2_with fail
    refine (l2Word_any x _ true (by simp [HX.out])).mono ?_
    rintro e w' ⟨rfl, rfl⟩
    go_wp2_with fail
    refine (l2Word_any y _ true (by simp [HY.out])).mono ?_
    rintro e w' ⟨rfl, rfl⟩
    go_wp2
    go_ret
    exact ⟨rfl, rfl⟩
  · rw [if_neg hlt]
    go_enter Try.func154, Try.ntmps154
    go_wp2_with fail
    refine (l2Word_any x _ true (by simp [HX.out])).mono ?_
    rintro e w' ⟨rfl, rfl⟩
    go_wp2_with fail
    refine (l2Word_any y _ true (by simp [HY.out])).mono ?_
    rintro e w' ⟨rfl, rfl⟩
    go_wp2
    go_ret
    exact ⟨rfl, rfl⟩

end Go.Proofs.Ytajaonejpggcbaa

namespace Go.Proofs.Ytajaonejpggcbaa
open Go.RowKit
theorem boxed {w w1 : World} {o a b c : Int} {t : TypeId} (hp : Pure (w.alloc (.cells #[.int .i64 o, .int .i64 a, .int .i64 b, .int .i64 c] t)) w1) :
    w1.cell? ⟨w.heap.size, 0, none⟩ = some (.int .i64 o) ∧ w1.cell? ⟨w.heap.size, 1, none⟩ = some (.int .i64 a) ∧ w1.cell? ⟨w.heap.size, 2, none⟩ = some (.int .i64 b) ∧ w1.cell? ⟨w.heap.size, 3, none⟩ = some (.int .i64 c) ∧ Pure w w1 := by
  have c0 := cell_of_row _ _ 0 _ _ _ (heap_alloc_new w (.cells #[.int .i64 o, .int .i64 a, .int .i64 b, .int .i64 c] t))
  have c1 := cell_of_row _ _ 1 _ _ _ (heap_alloc_new w (.cells #[.int .i64 o, .int .i64 a, .int .i64 b, .int .i64 c] t))
  have c2 := cell_of_row _ _ 2 _ _ _ (heap_alloc_new w (.cells #[.int .i64 o, .int .i64 a, .int .i64 b, .int .i64 c] t))
  have c3 := cell_of_row _ _ 3 _ _ _ (heap_alloc_new w (.cells #[.int .i64 o, .int .i64 a, .int .i64 b, .int .i64 c] t))
  have hlt : w.heap.size < (w.alloc (.cells #[.int .i64 o, .int .i64 a, .int .i64 b, .int .i64 c] t)).heap.size := World.block_lt_of_cell? _ _ c0
  exact ⟨(hp.cell _ _ hlt).trans c0, (hp.cell _ _ hlt).trans c1, (hp.cell _ _ hlt).trans c2, (hp.cell _ _ hlt).trans c3, (Pure.alloc (Pure.refl w) _).trans hp⟩

theorem CdOk.regs {o a b c : Int} (h : CdOk ⟨o, a, b, c⟩) : (0 ≤ a ∧ a ≤ 3) ∧ (o ≠ 1 → 0 ≤ b) ∧ (o ≠ 1 → o ≠ 13 → b ≤ 3) ∧ 0 ≤ c ∧ c ≤ 3 ∧ 1 ≤ o ∧ o ≤ 14 := by
  unfold CdOk Reg at h
  simp only at h
  omega
end Go.Proofs.Ytajaonejpggcbaa

namespace Go.Proofs.Ytajaonejpggcbaa
open Go.RowKit

theorem region_tail {P : Program} {id : Nat} {Q : Exit → Act → World → Prop} {a : Act} {w : World} {l : List Oper} (n : Nat) (hm : P.follows .mixedOrders = true) (hB : Region.lexTailB .any l.toArray n = true)
    (h : wpStill P l.toArray w.drew (fun a' => wpList P l.toArray Q (l.drop n) a' w.drew) (l.take n) a) : (Code.region id l.toArray true).wp P Q a w :=
  wp_region_still_tail n hm hB h

def SimPost (o : RMo) (x : Cd) (k : Nat) (R : Nat → Nat → Int) (M : Nat → Int) (w : World) (e : Ending) (w' : World) : Prop :=
  e = .returned (.tuple #[]) ∧ RM o w' (upR R k (simR x k o.m (R k) M)) (simM x o.m (R k) M) ∧ Chg (o.lane k) w w'
theorem SimPost.reg {o : RMo} {x : Cd} {k r : Nat} {v : Int} {R : Nat → Nat → Int} {M : Nat → Int} {w w' : World} (h : RM o w R M) (hk : k < o.n) (hr : r < 4) (hR : simR x k o.m (R k) M = setF (R k) r v) (hM : simM x o.m (R k) M = M)
    (hp : Pure (w.setCell ⟨o.rows k, r, none⟩ (.int .i64 v)) w') : SimPost o x k R M w (.returned (.tuple #[])) w' := by
  refine ⟨rfl, ?_, (Chg.of_set w _ _ _ (.inl rfl)).trans (Chg.of_pure hp)⟩
  rw [hR, hM]
  exact (h.setReg hk hr v).pure hp
theorem SimPost.same {o : RMo} {x : Cd} {k : Nat} {R : Nat → Nat → Int} {M : Nat → Int} {w w' : World} (h : RM o w R M) (hR : simR x k o.m (R k) M = R k) (hM : simM x o.m (R k) M = M) (hp : Pure w w') : SimPost o x k R M w (.returned (.tuple #[])) w' := by
  refine ⟨rfl, ?_, Chg.of_pure hp⟩
  rw [hR, hM, upR_same]
  exact h.pure hp
theorem SimPost.mem {o : RMo} {x : Cd} {k j : Nat} {v : Int} {R : Nat → Nat → Int} {M : Nat → Int} {w w' : World} (h : RM o w R M) (hR : simR x k o.m (R k) M = R k) (hM : simM x o.m (R k) M = setF M j v)
    (hp : Pure (w.setCell ⟨o.gm, j, none⟩ (.int .i64 v)) w') : SimPost o x k R M w (.returned (.tuple #[])) w' := by
  refine ⟨rfl, ?_, (Chg.of_set w _ _ _ (.inr rfl)).trans (Chg.of_pure hp)⟩
  rw [hR, hM, upR_same]
  exact (h.setMem j v).pure hp

set_option maxHeartbeats 1000000 in
set_option maxRecDepth 100000 in
theorem s6_1 (o : RMo) (k : Nat) (an : Nat) (han : an < 4) (b : Int) (w : World) (R : Nat → Nat → Int) (M : Nat → Int) (h : RM o w R M) (hk : k < o.n) (_hR : ∀ r, Word (R k r)) :
    Calls Try.prog 130 #[o.row k, o.vm, cdv ⟨1, an, b, 0⟩, .int .i64 k] w (SimPost o ⟨1, an, b, 0⟩ k R M w) := by
  have H := Lib.hid h
  have hk8 : k < 8 := Nat.lt_of_lt_of_le hk h.n8
  have hlt : o.rows k < w.heap.size := (Array.getElem?_eq_some_iff.1 (h.row k hk)).1
  have ha0 : (0 : Int) ≤ (an : Int) := by omega
  have ha4 : (an : Int) < 4 := by omega
  have f1 := h.regFrozen hk an
  have qa := h.regCell hk han
  clear h _hR
  unfold cdv RMo.row RMo.vm
  simp only
  go_enter Try.func130, Try.ntmps130
  go_wp2
  go_end0
  exact SimPost.reg H.out hk han rfl rfl (by repeat (first | assumption | exact Pure.refl _ | refine Pure.drewN ?_ _ | refine Pure.drew ?_ | refine Pure.alloc ?_ _ | refine Pure.setCell ?_ (by simp <;> omega) _))

set_option maxHeartbeats 1000000 in
set_option maxRecDepth 100000 in
theorem s6_2 (o : RMo) (k : Nat) (an : Nat) (han : an < 4) (w : World) (R : Nat → Nat → Int) (M : Nat → Int) (h : RM o w R M) (hk : k < o.n) (_hR : ∀ r, Word (R k r)) :
    Calls Try.prog 130 #[o.row k, o.vm, cdv ⟨2, an, 0, 0⟩, .int .i64 k] w (SimPost o ⟨2, an, 0, 0⟩ k R M w) := by
  have H := Lib.hid h
  have hk8 : k < 8 := Nat.lt_of_lt_of_le hk h.n8
  have hlt : o.rows k < w.heap.size := (Array.getElem?_eq_some_iff.1 (h.row k hk)).1
  have ha0 : (0 : Int) ≤ (an : Int) := by omega
  have ha4 : (an : Int) < 4 := by omega
  have f1 := h.regFrozen hk an
  have qa := h.regCell hk han
  clear h _hR
  unfold cdv RMo.row RMo.vm
  simp only
  go_enter Try.func130, Try.ntmps130
  go_wp2
  go_end0
  exact SimPost.reg H.out hk han rfl rfl (by repeat (first | assumption | exact Pure.refl _ | refine Pure.drewN ?_ _ | refine Pure.drew ?_ | refine Pure.alloc ?_ _ | refine Pure.setCell ?_ (by simp <;> omega) _))

set_option maxHeartbeats 1000000 in
set_option maxRecDepth 100000 in
theorem s6_3 (o : RMo) (k : Nat) (an : Nat) (han : an < 4) (bn : Nat) (hbn : bn < 4) (w : World) (R : Nat → Nat → Int) (M : Nat → Int) (h : RM o w R M) (hk : k < o.n) (hR : ∀ r, Word (R k r)) :
    Calls Try.prog 130 #[o.row k, o.vm, cdv ⟨3, an, bn, 0⟩, .int .i64 k] w (SimPost o ⟨3, an, bn, 0⟩ k R M w) := by
  have H := Lib.hid h
  have hk8 : k < 8 := Nat.lt_of_lt_of_le hk h.n8
  have hlt : o.rows k < w.heap.size := (Array.getElem?_eq_some_iff.1 (h.row k hk)).1
  have ha0 : (0 : Int) ≤ (an : Int) := by omega
  have ha4 : (an : Int) < 4 := by omega
  have hb0 : (0 : Int) ≤ (bn : Int) := by omega
  have hb4 : (bn : Int) < 4 := by omega
  have f1 := h.regFrozen hk an
  have qa := h.regCell hk han
  obtain ⟨x, Hx⟩ : ∃ x, Hid (R k an = x) := ⟨_, rfl⟩
  have hwx : Word x := by rw [← Hx.out]; exact hR an
  rw [Hx.out] at qa
  have qb := h.regCell hk hbn
  obtain ⟨y, Hy⟩ : ∃ y, Hid (R k bn = y) := ⟨_, rfl⟩
  have hwy : Word y := by rw [← Hy.out]; exact hR bn
  rw [Hy.out] at qb
  have HWx := Lib.hid hwx; clear hwx
  have HWy := Lib.hid hwy; clear hwy
  clear h hR
  unfold cdv RMo.row RMo.vm
  simp only
  go_enter Try.func130, Try.ntmps130
  go_wp2
  refine region_tail 15 (by kernel_rfl) (by kernel_rfl) ?_
  simp only [List.take_succ_cons, List.take_zero, List.drop_succ_cons, List.drop_zero]
  repeat still_step
  still_call ((sWordAdd_any x y _ HWx.out HWy.out).mono fun e w' h => ⟨h.1, h.2.symm⟩)
  repeat still_step
  refine wpStill_nil ?_
  go_wp2
  go_end0
  exact SimPost.reg H.out hk han (show setF (R k) an ((R k an + R k bn) % 256) = _ by rw [Hx.out, Hy.out]) rfl (by repeat (first | assumption | exact Pure.refl _ | refine Pure.drewN ?_ _ | refine Pure.drew ?_ | refine Pure.alloc ?_ _ | refine Pure.setCell ?_ (by simp <;> omega) _))

set_option maxHeartbeats 1000000 in
set_option maxRecDepth 100000 in
theorem s6_4 (o : RMo) (k : Nat) (an : Nat) (han : an < 4) (bn : Nat) (hbn : bn < 4) (w : World) (R : Nat → Nat → Int) (M : Nat → Int) (h : RM o w R M) (hk : k < o.n) (hR : ∀ r, Word (R k r)) :
    Calls Try.prog 130 #[o.row k, o.vm, cdv ⟨4, an, bn, 0⟩, .int .i64 k] w (SimPost o ⟨4, an, bn, 0⟩ k R M w) := by
  have H := Lib.hid h
  have hk8 : k < 8 := Nat.lt_of_lt_of_le hk h.n8
  have hlt : o.rows k < w.heap.size := (Array.getElem?_eq_some_iff.1 (h.row k hk)).1
  have ha0 : (0 : Int) ≤ (an : Int) := by omega
  have ha4 : (an : Int) < 4 := by omega
  have hb0 : (0 : Int) ≤ (bn : Int) := by omega
  have hb4 : (bn : Int) < 4 := by omega
  have f1 := h.regFrozen hk an
  have qa := h.regCell hk han
  obtain ⟨x, Hx⟩ : ∃ x, Hid (R k an = x) := ⟨_, rfl⟩
  have hwx : Word x := by rw [← Hx.out]; exact hR an
  rw [Hx.out] at qa
  have qb := h.regCell hk hbn
  obtain ⟨y, Hy⟩ : ∃ y, Hid (R k bn = y) := ⟨_, rfl⟩
  have hwy : Word y := by rw [← Hy.out]; exact hR bn
  rw [Hy.out] at qb
  have HWx := Lib.hid hwx; clear hwx
  have HWy := Lib.hid hwy; clear hwy
  clear h hR
  unfold cdv RMo.row RMo.vm
  simp only
  go_enter Try.func130, Try.ntmps130
  go_wp2
  refine region_tail 15 (by kernel_rfl) (by kernel_rfl) ?_
  simp only [List.take_succ_cons, List.take_zero, List.drop_succ_cons, List.drop_zero]
  repeat still_step
  still_call ((sWordMul_any x y _ HWx.out HWy.out).mono fun e w' h => ⟨h.1, h.2.symm⟩)
  repeat still_step
  refine wpStill_nil ?_
  go_wp2
  go_end0
  exact SimPost.reg H.out hk han (show setF (R k) an (R k an * R k bn % 256) = _ by rw [Hx.out, Hy.out]) rfl (by repeat (first | assumption | exact Pure.refl _ | refine Pure.drewN ?_ _ | refine Pure.drew ?_ | refine Pure.alloc ?_ _ | refine Pure.setCell ?_ (by simp <;> omega) _))

set_option maxHeartbeats 1000000 in
set_option maxRecDepth 100000 in
theorem s6_5 (o : RMo) (k : Nat) (an : Nat) (han : an < 4) (bn : Nat) (hbn : bn < 4) (w : World) (R : Nat → Nat → Int) (M : Nat → Int) (h : RM o w R M) (hk : k < o.n) (hR : ∀ r, Word (R k r)) :
    Calls Try.prog 130 #[o.row k, o.vm, cdv ⟨5, an, bn, 0⟩, .int .i64 k] w (SimPost o ⟨5, an, bn, 0⟩ k R M w) := by
  have H := Lib.hid h
  have hk8 : k < 8 := Nat.lt_of_lt_of_le hk h.n8
  have hlt : o.rows k < w.heap.size := (Array.getElem?_eq_some_iff.1 (h.row k hk)).1
  have ha0 : (0 : Int) ≤ (an : Int) := by omega
  have ha4 : (an : Int) < 4 := by omega
  have hb0 : (0 : Int) ≤ (bn : Int) := by omega
  have hb4 : (bn : Int) < 4 := by omega
  have f1 := h.regFrozen hk an
  have qa := h.regCell hk han
  have qb := h.regCell hk hbn
  obtain ⟨y, Hy⟩ : ∃ y, Hid (R k bn = y) := ⟨_, rfl⟩
  have hwy : Word y := by rw [← Hy.out]; exact hR bn
  rw [Hy.out] at qb
  clear h hR
  unfold cdv RMo.row RMo.vm
  simp only
  go_enter Try.func130, Try.ntmps130
  go_wp2
  refine region_tail 9 (by kernel_rfl) (by kernel_rfl) ?_
  simp only [List.take_succ_cons, List.take_zero, List.drop_succ_cons, List.drop_zero]
  repeat still_step
  refine wpStill_nil ?_
  go_wp2
  go_end0
  exact SimPost.reg H.out hk han (show setF (R k) an (R k bn) = _ by rw [Hy.out]) rfl (by repeat (first | assumption | exact Pure.refl _ | refine Pure.drewN ?_ _ | refine Pure.drew ?_ | refine Pure.alloc ?_ _ | refine Pure.setCell ?_ (by simp <;> omega) _))

set_option maxHeartbeats 1000000 in
set_option maxRecDepth 100000 in
theorem s6_6 (o : RMo) (k : Nat) (an : Nat) (han : an < 4) (bn : Nat) (hbn : bn < 4) (cn : Nat) (hcn : cn < 4) (w : World) (R : Nat → Nat → Int) (M : Nat → Int) (h : RM o w R M) (hk : k < o.n) (hR : ∀ r, Word (R k r)) :
    Calls Try.prog 130 #[o.row k, o.vm, cdv ⟨6, an, bn, cn⟩, .int .i64 k] w (SimPost o ⟨6, an, bn, cn⟩ k R M w) := by
  have H := Lib.hid h
  have hk8 : k < 8 := Nat.lt_of_lt_of_le hk h.n8
  have hlt : o.rows k < w.heap.size := (Array.getElem?_eq_some_iff.1 (h.row k hk)).1
  have ha0 : (0 : Int) ≤ (an : Int) := by omega
  have ha4 : (an : Int) < 4 := by omega
  have hb0 : (0 : Int) ≤ (bn : Int) := by omega
  have hb4 : (bn : Int) < 4 := by omega
  have hc0 : (0 : Int) ≤ (cn : Int) := by omega
  have hc4 : (cn : Int) < 4 := by omega
  have f1 := h.regFrozen hk an
  have qa := h.regCell hk han
  have qb := h.regCell hk hbn
  obtain ⟨y, Hy⟩ : ∃ y, Hid (R k bn = y) := ⟨_, rfl⟩
  have hwy : Word y := by rw [← Hy.out]; exact hR bn
  rw [Hy.out] at qb
  have qc := h.regCell hk hcn
  obtain ⟨z, Hz⟩ : ∃ z, Hid (R k cn = z) := ⟨_, rfl⟩
  have hwz : Word z := by rw [← Hz.out]; exact hR cn
  rw [Hz.out] at qc
  have HWy := Lib.hid hwy; clear hwy
  have HWz := Lib.hid hwz; clear hwz
  obtain ⟨b, Hb⟩ : ∃ b : Int, Hid ((if y < z then 1 else 0) = b) := ⟨_, rfl⟩
  have hL : ∀ w : World, Calls Try.prog 154 #[.int .i64 y, .int .i64 z] w fun e w' => e = .returned (.int .i64 b) ∧ w' = w := fun w => (sWordLess_any y z w HWy.out HWz.out).mono fun e w' h => ⟨by rw [← Hb.out]; exact h.1, h.2.symm⟩
  have HL := Lib.hid hL; clear hL
  clear h hR
  unfold cdv RMo.row RMo.vm
  simp only
  go_enter Try.func130, Try.ntmps130
  go_wp2
  refine region_tail 15 (by kernel_rfl) (by kernel_rfl) ?_
  simp only [List.take_succ_cons, List.take_zero, List.drop_succ_cons, List.drop_zero]
  repeat still_step
  still_call (HL.out _)
  repeat still_step
  refine wpStill_nil ?_
  go_wp2
  go_end0
  exact SimPost.reg H.out hk han (show setF (R k) an (if R k bn < R k cn then 1 else 0) = _ by rw [Hy.out, Hz.out, Hb.out]) rfl (by repeat (first | assumption | exact Pure.refl _ | refine Pure.drewN ?_ _ | refine Pure.drew ?_ | refine Pure.alloc ?_ _ | refine Pure.setCell ?_ (by simp <;> omega) _))

set_option maxHeartbeats 1000000 in
set_option maxRecDepth 100000 in
theorem s6_7 (o : RMo) (k : Nat) (an : Nat) (han : an < 4) (bn : Nat) (hbn : bn < 4) (cn : Nat) (hcn : cn < 4) (w : World) (R : Nat → Nat → Int) (M : Nat → Int) (h : RM o w R M) (hk : k < o.n) (hR : ∀ r, Word (R k r)) :
    Calls Try.prog 130 #[o.row k, o.vm, cdv ⟨7, an, bn, cn⟩, .int .i64 k] w (SimPost o ⟨7, an, bn, cn⟩ k R M w) := by
  have H := Lib.hid h
  have hk8 : k < 8 := Nat.lt_of_lt_of_le hk h.n8
  have hlt : o.rows k < w.heap.size := (Array.getElem?_eq_some_iff.1 (h.row k hk)).1
  have ha0 : (0 : Int) ≤ (an : Int) := by omega
  have ha4 : (an : Int) < 4 := by omega
  have hb0 : (0 : Int) ≤ (bn : Int) := by omega
  have hb4 : (bn : Int) < 4 := by omega
  have hc0 : (0 : Int) ≤ (cn : Int) := by omega
  have hc4 : (cn : Int) < 4 := by omega
  have f1 := h.regFrozen hk an
  have qa := h.regCell hk han
  have qb := h.regCell hk hbn
  obtain ⟨y, Hy⟩ : ∃ y, Hid (R k bn = y) := ⟨_, rfl⟩
  have hwy : Word y := by rw [← Hy.out]; exact hR bn
  rw [Hy.out] at qb
  have qc := h.regCell hk hcn
  obtain ⟨z, Hz⟩ : ∃ z, Hid (R k cn = z) := ⟨_, rfl⟩
  have hwz : Word z := by rw [← Hz.out]; exact hR cn
  rw [Hz.out] at qc
  clear h hR
  unfold cdv RMo.row RMo.vm
  simp only
  by_cases hz0 : z = 0
  · have hzb : (z != 0) = false := by rw [bne_eq_false_iff_eq]; exact hz0
    have HZ := Lib.hid hz0; clear hz0
    go_enter Try.func130, Try.ntmps130
    go_wp2
    go_end0
    exact SimPost.same H.out (show (if R k cn = 0 then R k else setF (R k) an (R k bn)) = _ by rw [Hz.out, if_pos HZ.out]) rfl (by repeat (first | assumption | exact Pure.refl _ | refine Pure.drewN ?_ _ | refine Pure.drew ?_ | refine Pure.alloc ?_ _ | refine Pure.setCell ?_ (by simp <;> omega) _))
  · have hzb : (z != 0) = true := by rw [bne_iff_ne]; exact hz0
    have HZ := Lib.hid hz0; clear hz0
    go_enter Try.func130, Try.ntmps130
    go_wp2
    refine region_tail 9 (by kernel_rfl) (by kernel_rfl) ?_
    simp only [List.take_succ_cons, List.take_zero, List.drop_succ_cons, List.drop_zero]
    repeat still_step
    refine wpStill_nil ?_
    go_wp2
    go_end0
    exact SimPost.reg H.out hk han (show (if R k cn = 0 then R k else setF (R k) an (R k bn)) = _ by rw [Hz.out, if_neg HZ.out, Hy.out]) rfl (by repeat (first | assumption | exact Pure.refl _ | refine Pure.drewN ?_ _ | refine Pure.drew ?_ | refine Pure.alloc ?_ _ | refine Pure.setCell ?_ (by simp <;> omega) _))

set_option maxHeartbeats 1000000 in
set_option maxRecDepth 100000 in
theorem s6_8 (o : RMo) (k : Nat) (an : Nat) (han : an < 4) (bn : Nat) (hbn : bn < 4) (w : World) (R : Nat → Nat → Int) (M : Nat → Int) (h : RM o w R M) (hk : k < o.n) (hR : ∀ r, Word (R k r)) :
    Calls Try.prog 130 #[o.row k, o.vm, cdv ⟨8, an, bn, 0⟩, .int .i64 k] w (SimPost o ⟨8, an, bn, 0⟩ k R M w) := by
  have H := Lib.hid h
  have hk8 : k < 8 := Nat.lt_of_lt_of_le hk h.n8
  have hlt : o.rows k < w.heap.size := (Array.getElem?_eq_some_iff.1 (h.row k hk)).1
  have ha0 : (0 : Int) ≤ (an : Int) := by omega
  have ha4 : (an : Int) < 4 := by omega
  have hb0 : (0 : Int) ≤ (bn : Int) := by omega
  have hb4 : (bn : Int) < 4 := by omega
  have f1 := h.regFrozen hk an
  have qa := h.regCell hk han
  have qb := h.regCell hk hbn
  obtain ⟨y, Hy⟩ : ∃ y, Hid (R k bn = y) := ⟨_, rfl⟩
  have hwy : Word y := by rw [← Hy.out]; exact hR bn
  rw [Hy.out] at qb
  obtain ⟨hy0, hy1⟩ := hwy
  obtain ⟨yn, rfl⟩ := Int.eq_ofNat_of_zero_le hy0
  have hm1 := h.m1
  have hm32 := h.m32
  have hmi : ¬ ((o.m : Int) = 0) := by omega
  have hmn : ¬ o.m = 0 := by omega
  have hmb : ((o.m : Int) == 0) = false := by rw [beq_eq_false_iff_ne]; omega
  have hjn : yn % o.m < o.m := Nat.mod_lt _ (by omega)
  have htm : (yn : Int).tmod (o.m : Int) = ((yn % o.m : Nat) : Int) := by rw [Int.tmod_eq_emod_of_nonneg (by omega)]; norm_cast
  have HC : Hid (cellOf ⟨8, an, bn, 0⟩ o.m (R k) = yn % o.m) := Lib.hid (by unfold cellOf; rw [Int.toNat_natCast, Hy.out, Int.toNat_natCast])
  obtain ⟨j, Hj⟩ : ∃ j, Hid (yn % o.m = j) := ⟨_, rfl⟩
  rw [Hj.out] at htm hjn HC
  have hj0 : (0 : Int) ≤ (j : Int) := by omega
  have hj1 : (j : Int) < (o.m : Int) := by omega
  have hgm : o.gm < w.heap.size := h.gmlo.2
  have qm := h.memCell hjn
  clear h hR
  unfold cdv RMo.row RMo.vm
  simp only
  go_enter Try.func130, Try.ntmps130
  go_wp2
  refine region_tail 15 (by kernel_rfl) (by kernel_rfl) ?_
  simp only [List.take_succ_cons, List.take_zero, List.drop_succ_cons, List.drop_zero]
  repeat still_step
  refine wpStill_nil ?_
  go_wp2
  go_end0
  exact SimPost.reg H.out hk han (show setF (R k) an (M (cellOf ⟨8, an, bn, 0⟩ o.m (R k))) = _ by rw [HC.out]) rfl (by repeat (first | assumption | exact Pure.refl _ | refine Pure.drewN ?_ _ | refine Pure.drew ?_ | refine Pure.alloc ?_ _ | refine Pure.setCell ?_ (by simp <;> omega) _))

set_option maxHeartbeats 1000000 in
set_option maxRecDepth 100000 in
theorem s6_9 (o : RMo) (k : Nat) (an : Nat) (han : an < 4) (bn : Nat) (hbn : bn < 4) (w : World) (R : Nat → Nat → Int) (M : Nat → Int) (h : RM o w R M) (hk : k < o.n) (hR : ∀ r, Word (R k r)) :
    Calls Try.prog 130 #[o.row k, o.vm, cdv ⟨9, an, bn, 0⟩, .int .i64 k] w (SimPost o ⟨9, an, bn, 0⟩ k R M w) := by
  have H := Lib.hid h
  have hk8 : k < 8 := Nat.lt_of_lt_of_le hk h.n8
  have hlt : o.rows k < w.heap.size := (Array.getElem?_eq_some_iff.1 (h.row k hk)).1
  have ha0 : (0 : Int) ≤ (an : Int) := by omega
  have ha4 : (an : Int) < 4 := by omega
  have hb0 : (0 : Int) ≤ (bn : Int) := by omega
  have hb4 : (bn : Int) < 4 := by omega
  have f1 := h.regFrozen hk an
  have qa := h.regCell hk han
  obtain ⟨x, Hx⟩ : ∃ x, Hid (R k an = x) := ⟨_, rfl⟩
  have hwx : Word x := by rw [← Hx.out]; exact hR an
  rw [Hx.out] at qa
  have qb := h.regCell hk hbn
  obtain ⟨y, Hy⟩ : ∃ y, Hid (R k bn = y) := ⟨_, rfl⟩
  have hwy : Word y := by rw [← Hy.out]; exact hR bn
  rw [Hy.out] at qb
  obtain ⟨hy0, hy1⟩ := hwy
  obtain ⟨yn, rfl⟩ := Int.eq_ofNat_of_zero_le hy0
  have hm1 := h.m1
  have hm32 := h.m32
  have hmi : ¬ ((o.m : Int) = 0) := by omega
  have hmn : ¬ o.m = 0 := by omega
  have hmb : ((o.m : Int) == 0) = false := by rw [beq_eq_false_iff_ne]; omega
  have hjn : yn % o.m < o.m := Nat.mod_lt _ (by omega)
  have htm : (yn : Int).tmod (o.m : Int) = ((yn % o.m : Nat) : Int) := by rw [Int.tmod_eq_emod_of_nonneg (by omega)]; norm_cast
  have HC : Hid (cellOf ⟨9, an, bn, 0⟩ o.m (R k) = yn % o.m) := Lib.hid (by unfold cellOf; rw [Int.toNat_natCast, Hy.out, Int.toNat_natCast])
  obtain ⟨j, Hj⟩ : ∃ j, Hid (yn % o.m = j) := ⟨_, rfl⟩
  rw [Hj.out] at htm hjn HC
  have hj0 : (0 : Int) ≤ (j : Int) := by omega
  have hj1 : (j : Int) < (o.m : Int) := by omega
  have hgm : o.gm < w.heap.size := h.gmlo.2
  have qm := h.memCell hjn
  have f2 := h.memFrozen j
  clear h hR
  unfold cdv RMo.row RMo.vm
  simp only
  go_enter Try.func130, Try.ntmps130
  go_wp2
  refine region_tail 15 (by kernel_rfl) (by kernel_rfl) ?_
  simp only [List.take_succ_cons, List.take_zero, List.drop_succ_cons, List.drop_zero]
  repeat still_step
  refine wpStill_nil ?_
  go_wp2
  go_end0
  exact SimPost.mem H.out rfl (show setF M (cellOf ⟨9, an, bn, 0⟩ o.m (R k)) (R k an) = _ by rw [HC.out, Hx.out]) (by repeat (first | assumption | exact Pure.refl _ | refine Pure.drewN ?_ _ | refine Pure.drew ?_ | refine Pure.alloc ?_ _ | refine Pure.setCell ?_ (by simp <;> omega) _))

set_option maxHeartbeats 1000000 in
set_option maxRecDepth 100000 in
theorem s6_10 (o : RMo) (k : Nat) (w : World) (R : Nat → Nat → Int) (M : Nat → Int) (h : RM o w R M) (_hk : k < o.n) (_hR : ∀ r, Word (R k r)) :
    Calls Try.prog 130 #[o.row k, o.vm, cdv ⟨10, 0, 0, 0⟩, .int .i64 k] w (SimPost o ⟨10, 0, 0, 0⟩ k R M w) := by
  have H := Lib.hid h
  clear h _hR
  unfold cdv RMo.row RMo.vm
  simp only
  go_enter Try.func130, Try.ntmps130
  go_wp2
  go_end0
  exact SimPost.same H.out rfl rfl (by repeat (first | assumption | exact Pure.refl _ | refine Pure.drewN ?_ _ | refine Pure.drew ?_ | refine Pure.alloc ?_ _ | refine Pure.setCell ?_ (by simp <;> omega) _))

theorem s6_any (o : RMo) (x : Cd) (k : Nat) (w : World) (R : Nat → Nat → Int) (M : Nat → Int) (h : RM o w R M) (hk : k < o.n) (hx : Plain x) (hR : ∀ r, Word (R k r)) :
    Calls Try.prog 130 #[o.row k, o.vm, cdv x, .int .i64 k] w (SimPost o x k R M w) := by
  obtain ⟨hok, n11, n12, n13, n14⟩ := hx
  obtain ⟨op, a, b, c⟩ := x
  simp only at n11 n12 n13 n14
  obtain ⟨⟨ha0, ha3⟩, hb0, hb3, hc0, hc3, ho1, ho2⟩ := hok.regs
  unfold CdOk at hok
  simp only at hok
  have ho : op = 1 ∨ op = 2 ∨ op = 3 ∨ op = 4 ∨ op = 5 ∨ op = 6 ∨ op = 7 ∨ op = 8 ∨ op = 9 ∨ op = 10 := by omega
  obtain ⟨an, rfl⟩ := Int.eq_ofNat_of_zero_le ha0
  obtain ⟨cn, rfl⟩ := Int.eq_ofNat_of_zero_le hc0
  have han : an < 4 := by omega
  have hcn : cn < 4 := by omega
  rcases ho with rfl | ho
  · have hc : cn = 0 := by omega
    subst hc
    exact s6_1 o k an han b w R M h hk hR
  obtain ⟨bn, rfl⟩ := Int.eq_ofNat_of_zero_le (hb0 (by omega))
  have hbn : bn < 4 := by have := hb3 (by omega) (by omega); omega
  rcases ho with rfl | rfl | rfl | rfl | rfl | rfl | rfl | rfl | rfl
  · have hb9 : bn = 0 := by omega
    have hc9 : cn = 0 := by omega
    subst hb9
    subst hc9
    exact s6_2 o k an han w R M h hk hR
  · have hc9 : cn = 0 := by omega
    subst hc9
    exact s6_3 o k an han bn hbn w R M h hk hR
  · have hc9 : cn = 0 := by omega
    subst hc9
    exact s6_4 o k an han bn hbn w R M h hk hR
  · have hc9 : cn = 0 := by omega
    subst hc9
    exact s6_5 o k an han bn hbn w R M h hk hR
  · exact s6_6 o k an han bn hbn cn hcn w R M h hk hR
  · exact s6_7 o k an han bn hbn cn hcn w R M h hk hR
  · have hc9 : cn = 0 := by omega
    subst hc9
    exact s6_8 o k an han bn hbn w R M h hk hR
  · have hc9 : cn = 0 := by omega
    subst hc9
    exact s6_9 o k an han bn hbn w R M h hk hR
  · have ha9 : an = 0 := by omega
    have hb9 : bn = 0 := by omega
    have hc9 : cn = 0 := by omega
    subst ha9
    subst hb9
    subst hc9
    exact s6_10 o k w R M h hk hR

end Go.Proofs.Ytajaonejpggcbaa

namespace Go.Proofs.Ytajaonejpggcbaa
open Go.RowKit

/-- A slice of the call's own, or still the empty one (v0) that was there first. -/
def OwnE (v0 : Value) (w : World) (B e s : Nat) (v : Value) (n : Nat) (xs : List Value) : Prop := OwnO w B e s v n xs ∨ (n = 0 ∧ xs = [] ∧ v = v0)
theorem OwnE.pure {v0 : Value} {w w' : World} {B e s n : Nat} {v : Value} {xs : List Value} (h : OwnE v0 w B e s v n xs) (hp : Pure w w') : OwnE v0 w' B e s v n xs := h.imp (fun h => h.pure hp) id
theorem OwnE.start (v0 : Value) (w : World) (B e s : Nat) : OwnE v0 w B e s v0 0 [] := .inr ⟨rfl, rfl, rfl⟩
theorem OwnO.base' {w : World} {B B' e s n : Nat} {v : Value} {xs : List Value} (h : OwnO w B e s v n xs) (hB : B' ≤ B) : OwnO w B' e s v n xs := by
  refine ⟨h.1, ?_⟩
  rcases h.2 with h | ⟨g, off, cap, cur, e1, e2, e3⟩
  · exact .inl h
  · exact .inr ⟨g, off, cap, cur, e1, by omega, e3⟩
theorem OwnE.own {v0 : Value} {w : World} {B B0 e s n : Nat} {v : Value} {xs : List Value} (h : OwnE v0 w B e s v n xs) (h0 : OwnO w B0 e s v0 0 []) (hB : B0 ≤ B) : OwnO w B0 e s v n xs := by
  rcases h with h | ⟨rfl, rfl, rfl⟩
  · exact h.base' hB
  · exact h0
theorem OwnE.form {b : Nat} {w : World} {B e s n : Nat} {v : Value} {xs : List Value} (h : OwnE (.slice (some ⟨b, 0, none⟩) 0 0) w B e s v n xs) : ∃ A c, v = .slice A n c := by
  rcases h with h | ⟨rfl, rfl, rfl⟩
  · exact h.form
  · exact ⟨_, _, rfl⟩

end Go.Proofs.Ytajaonejpggcbaa

namespace Go.Proofs.Ytajaonejpggcbaa
open Go.RowKit

theorem ofInt64 (i : Nat) (h : i < 9223372036854775808) : (BitVec.ofInt 64 (i : Int)).toNat = i := ofInt_u64 i (by omega)
theorem bits_or {a b : Nat} (ha : a < 4611686018427387904) (hb : b < 4611686018427387904) : bits .or .i64 (a : Int) (b : Int) = ((a ||| b : Nat) : Int) := by
  show IntKind.i64.wrap ((BitVec.ofInt 64 (a : Int) ||| BitVec.ofInt 64 (b : Int)).toNat : Int) = _
  rw [BitVec.toNat_or, ofInt64 a (by omega), ofInt64 b (by omega)]
  have := Nat.or_lt_two_pow (n := 62) (by omega : a < 2 ^ 62) (by omega : b < 2 ^ 62)
  exact Lib.wrap_i64_small _ (by omega)
theorem bits_and {a b : Nat} (ha : a < 4611686018427387904) (hb : b < 4611686018427387904) : bits .and .i64 (a : Int) (b : Int) = ((a &&& b : Nat) : Int) := by
  show IntKind.i64.wrap ((BitVec.ofInt 64 (a : Int) &&& BitVec.ofInt 64 (b : Int)).toNat : Int) = _
  rw [BitVec.toNat_and, ofInt64 a (by omega), ofInt64 b (by omega)]
  have := Nat.and_lt_two_pow (n := 62) a (by omega : b < 2 ^ 62)
  exact Lib.wrap_i64_small _ (by omega)
theorem bits_xor {a b : Nat} (ha : a < 4611686018427387904) (hb : b < 4611686018427387904) : bits .xor .i64 (a : Int) (b : Int) = ((a ^^^ b : Nat) : Int) := by
  show IntKind.i64.wrap ((BitVec.ofInt 64 (a : Int) ^^^ BitVec.ofInt 64 (b : Int)).toNat : Int) = _
  rw [BitVec.toNat_xor, ofInt64 a (by omega), ofInt64 b (by omega)]
  have := Nat.xor_lt_two_pow (n := 62) (by omega : a < 2 ^ 62) (by omega : b < 2 ^ 62)
  exact Lib.wrap_i64_small _ (by omega)
/-- Digit i of a number. -/
theorem digit_cast (u i : Nat) : ((u : Int) / 2 ^ i) % 2 = ((u / 2 ^ i % 2 : Nat) : Int) := by
  have : ((2 ^ i : Nat) : Int) = (2 : Int) ^ i := by simp
  rw [← this]; norm_cast
theorem digit_nonneg (u i : Nat) : (0 : Int) ≤ (u : Int) / 2 ^ i := Int.ediv_nonneg (by omega) (Int.pow_nonneg (by decide))
theorem digit_testBit (u i : Nat) : u / 2 ^ i % 2 = if u.testBit i then 1 else 0 := by
  rw [Nat.testBit_eq_decide_div_mod_eq]
  have := Nat.mod_two_eq_zero_or_one (u / 2 ^ i)
  rcases this with h | h <;> simp [h]

theorem digit_eq1 (u i : Nat) : (((u : Int) / 2 ^ i) % 2 == 1) = u.testBit i := by
  rw [digit_cast, digit_testBit]
  cases u.testBit i <;> simp
end Go.Proofs.Ytajaonejpggcbaa
