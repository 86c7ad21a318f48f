/- Which instructions are valid, as the program finds it. No condition. -/
import Derived.Test.YtokdfgodmhekmaaCodes
import Derived.Test.YtokdfgodmhekmaaGV
namespace Go.Proofs.Ytokdfgodmhekmaa
open Go.RowKit

set_option maxHeartbeats 400000 in
theorem isReg_any (n : Int) (w : World) (B : Bool) (hB : B = true ↔ Reg n) :
    Calls Try.prog 121 #[.int .i64 n] w fun e w' => e = .returned (.bool B) ∧ w = w' := by
  have HB := Lib.hid hB; clear hB
  go_enter Try.func121, Try.ntmps121
  go_wp2_with fail
  refine (within_any _ _ _ _ B HB.out).mono ?_
  rintro e w' ⟨rfl, rfl⟩
  go_wp2
  go_ret
  exact ⟨rfl, rfl⟩
set_option maxHeartbeats 400000 in
theorem isWord_any (n : Int) (w : World) (B : Bool) (hB : B = true ↔ Word n) :
    Calls Try.prog 114 #[.int .i64 n] w fun e w' => e = .returned (.bool B) ∧ w = w' := by
  have HB := Lib.hid hB; clear hB
  go_enter Try.func114, Try.ntmps114
  go_wp2_with fail
  refine (within_any _ _ _ _ B HB.out).mono ?_
  rintro e w' ⟨rfl, rfl⟩
  go_wp2
  go_ret
  exact ⟨rfl, rfl⟩

def nregs (op : Int) : Int := if op = 1 ∨ op = 2 ∨ op = 11 ∨ op = 13 then 1 else if op = 3 ∨ op = 4 ∨ op = 5 ∨ op = 8 ∨ op = 9 then 2 else if op = 6 ∨ op = 7 then 3 else 0

set_option maxHeartbeats 1000000 in
theorem registers_any (op : Int) (w : World) (g : Int) (hg : nregs op = g) :
    Calls Try.prog 120 #[.int .i64 op] w fun e w' => e = .returned (.int .i64 g) ∧ w = w' := by
  by_cases ho : op = 1 ∨ op = 2 ∨ op = 11 ∨ op = 13 ∨ op = 3 ∨ op = 4 ∨ op = 5 ∨ op = 8 ∨ op = 9 ∨ op = 6 ∨ op = 7
  · rcases ho with rfl | rfl | rfl | rfl | rfl | rfl | rfl | rfl | rfl | rfl | rfl
    all_goals
      have hg' : g = _ := hg.symm
      simp [nregs] at hg'
      subst hg'
      clear hg
      go_enter Try.func120, Try.ntmps120
      go_wp2
      go_ret
      exact ⟨rfl, rfl⟩
  · have hg' : g = 0 := by rw [← hg]; unfold nregs; rw [if_neg (by omega), if_neg (by omega), if_neg (by omega)]
    subst hg'
    clear hg
    have HO := Lib.hid ho; clear ho
    have d1 : (op == 1) = false := by have := HO.out; rw [beq_eq_false_iff_ne]; omega
    have d2 : (op == 2) = false := by have := HO.out; rw [beq_eq_false_iff_ne]; omega
    have d11 : (op == 11) = false := by have := HO.out; rw [beq_eq_false_iff_ne]; omega
    have d13 : (op == 13) = false := by have := HO.out; rw [beq_eq_false_iff_ne]; omega
    have d3 : (op == 3) = false := by have := HO.out; rw [beq_eq_false_iff_ne]; omega
    have d4 : (op == 4) = false := by have := HO.out; rw [beq_eq_false_iff_ne]; omega
    have d5 : (op == 5) = false := by have := HO.out; rw [beq_eq_false_iff_ne]; omega
    have d8 : (op == 8) = false := by have := HO.out; rw [beq_eq_false_iff_ne]; omega
    have d9 : (op == 9) = false := by have := HO.out; rw [beq_eq_false_iff_ne]; omega
    have d6 : (op == 6) = false := by have := HO.out; rw [beq_eq_false_iff_ne]; omega
    have d7 : (op == 7) = false := by have := HO.out; rw [beq_eq_false_iff_ne]; omega
    go_enter Try.func120, Try.ntmps120
    go_wp2
    go_ret
    exact ⟨rfl, rfl⟩

def okAt (op : Int) (j : Nat) (n : Int) : Prop := if (j : Int) < nregs op then Reg n else if j = 1 ∧ op = 1 then Word n else if j = 1 ∧ op = 13 then (1 ≤ n ∧ n ≤ 4) else n = 0
theorem okAt_all (c : Cd) : CdOk c ↔ (okAt c.op 0 c.a ∧ okAt c.op 1 c.b ∧ okAt c.op 2 c.c) ∧ (1 ≤ c.op ∧ c.op ≤ 14) := by
  obtain ⟨o, a, b, c⟩ := c
  by_cases ho : 1 ≤ o ∧ o ≤ 14
  · have : o = 1 ∨ o = 2 ∨ o = 3 ∨ o = 4 ∨ o = 5 ∨ o = 6 ∨ o = 7 ∨ o = 8 ∨ o = 9 ∨ o = 10 ∨ o = 11 ∨ o = 12 ∨ o = 13 ∨ o = 14 := by omega
    rcases this with rfl | rfl | rfl | rfl | rfl | rfl | rfl | rfl | rfl | rfl | rfl | rfl | rfl | rfl
    all_goals
      simp [CdOk, okAt, nregs, Reg, Word]
      try omega
  · unfold CdOk
    simp only
    constructor
    · intro h; omega
    · intro h; exact absurd h.2 ho

set_option maxHeartbeats 2000000 in
theorem icv_any (c : Cd) (w : World) (B : Bool) (hB : B = true ↔ CdOk c) :
    Calls Try.prog 106 #[cdv c] w fun e w' => e = .returned (.bool B) ∧ Pure w w' := by
  rw [okAt_all] at hB
  unfold cdv
  obtain ⟨o, a, b, c⟩ := c
  simp only at hB ⊢
  have HB := Lib.hid hB; clear hB
  obtain ⟨g, Hg⟩ : ∃ g, Hid (nregs o = g) := ⟨_, rfl⟩
  go_enter Try.func106, Try.ntmps106
  go_wp2_with fail
  go_loopg [15] 3 (fun gk i wr => ∃ k : Nat, gk + k = 3 ∧ i = .int .i64 k ∧ wr = (w.alloc (.cells #[.int .i64 o, .int .i64 a, .int .i64 b, .int .i64 c] 61)).alloc (.cells #[.int .i64 a, .int .i64 b, .int .i64 c] 3) ∧ (0 < k → okAt o 0 a) ∧ (1 < k → okAt o 1 b) ∧ (2 < k → okAt o 2 c))
  case atStart => exact ⟨0, rfl, rfl, rfl, by simp, by simp, by simp⟩
  case round =>
    obtain ⟨k, hgk, rfl, rfl, h0, h1, h2⟩ := hrel
    have hk3 : k = 0 ∨ k = 1 ∨ k = 2 ∨ k = 3 := by omega
    have H0 := Lib.hid h0
    have H1 := Lib.hid h1
    have H2 := Lib.hid h2
    clear h0 h1 h2
    rcases hk3 with rfl | rfl | rfl | rfl
    · by_cases hg : (0 : Int) < g
      · have ok : okAt o 0 a ↔ Reg a := by unfold okAt; rw [if_pos (by rw [Hg.out]; exact hg)]
        have OK := Lib.hid ok; clear ok
        by_cases hr : Reg a
        all_goals
          have HR := Lib.hid hr; clear hr
        · go_wp2_with fail
          refine (registers_any _ _ g Hg.out).mono ?_
          rintro e w' ⟨rfl, rfl⟩
          go_wp2_with fail
          refine (isReg_any _ _ true (by simp [HR.out])).mono ?_
          rintro e w' ⟨rfl, rfl⟩
          go_wp2
          go_roundg 2
          case measure => omega
          case rel => exact ⟨1, by omega, rfl, rfl, (fun _ => OK.out.2 HR.out), (fun h => absurd h (by omega)), (fun h => absurd h (by omega))⟩
        · go_wp2_with fail
          refine (registers_any _ _ g Hg.out).mono ?_
          rintro e w' ⟨rfl, rfl⟩
          go_wp2_with fail
          refine (isReg_any _ _ false (by simp [HR.out])).mono ?_
          rintro e w' ⟨rfl, rfl⟩
          go_wp2
          go_ret
          refine ⟨ret_bool ?_, (by repeat (first | assumption | exact Pure.refl _ | refine Pure.drewN ?_ _ | refine Pure.drew ?_ | refine Pure.alloc ?_ _ | refine Pure.setCell ?_ (by simp <;> omega) _))⟩
          cases hb : B
          · rfl
          · exact absurd (HB.out.1 hb).1.1 (fun h => HR.out (OK.out.1 h))
      · have ok : okAt o 0 a ↔ a = 0 := by unfold okAt; rw [if_neg (by rw [Hg.out]; simpa using hg), if_neg (fun h => by cases h.1), if_neg (fun h => by cases h.1)]
        have OK := Lib.hid ok; clear ok
        by_cases hr : a = 0
        · have dn : (a != 0) = false := by simp [hr]
          have HR := Lib.hid hr; clear hr
          go_wp2_with fail
          refine (registers_any _ _ g Hg.out).mono ?_
          rintro e w' ⟨rfl, rfl⟩
          go_wp2
          go_roundg 2
          case measure => omega
          case rel => exact ⟨1, by omega, rfl, rfl, (fun _ => OK.out.2 HR.out), (fun h => absurd h (by omega)), (fun h => absurd h (by omega))⟩
        · have dn : (a != 0) = true := by simp [hr]
          have HR := Lib.hid hr; clear hr
          go_wp2_with fail
          refine (registers_any _ _ g Hg.out).mono ?_
          rintro e w' ⟨rfl, rfl⟩
          go_wp2
          go_ret
          refine ⟨ret_bool ?_, (by repeat (first | assumption | exact Pure.refl _ | refine Pure.drewN ?_ _ | refine Pure.drew ?_ | refine Pure.alloc ?_ _ | refine Pure.setCell ?_ (by simp <;> omega) _))⟩
          cases hb : B
          · rfl
          · exact absurd (HB.out.1 hb).1.1 (fun h => HR.out (OK.out.1 h))
    · by_cases hg : (1 : Int) < g
      · have ok : okAt o 1 b ↔ Reg b := by unfold okAt; rw [if_pos (by rw [Hg.out]; exact hg)]
        have OK := Lib.hid ok; clear ok
        by_cases hr : Reg b
        all_goals
          have HR := Lib.hid hr; clear hr
        · go_wp2_with fail
          refine (registers_any _ _ g Hg.out).mono ?_
          rintro e w' ⟨rfl, rfl⟩
          go_wp2_with fail
          refine (isReg_any _ _ true (by simp [HR.out])).mono ?_
          rintro e w' ⟨rfl, rfl⟩
          go_wp2
          go_roundg 1
          case measure => omega
          case rel => exact ⟨2, by omega, rfl, rfl, (fun _ => H0.out (by omega)), (fun _ => OK.out.2 HR.out), (fun h => absurd h (by omega))⟩
        · go_wp2_with fail
          refine (registers_any _ _ g Hg.out).mono ?_
          rintro e w' ⟨rfl, rfl⟩
          go_wp2_with fail
          refine (isReg_any _ _ false (by simp [HR.out])).mono ?_
          rintro e w' ⟨rfl, rfl⟩
          go_wp2
          go_ret
          refine ⟨ret_bool ?_, (by repeat (first | assumption | exact Pure.refl _ | refine Pure.drewN ?_ _ | refine Pure.drew ?_ | refine Pure.alloc ?_ _ | refine Pure.setCell ?_ (by simp <;> omega) _))⟩
          cases hb : B
          · rfl
          · exact absurd (HB.out.1 hb).1.2.1 (fun h => HR.out (OK.out.1 h))
      · by_cases ho1 : o = 1
        · have d1 : (o == 1) = true := by simp [ho1]
          have ok : okAt o 1 b ↔ Word b := by unfold okAt; rw [if_neg (by rw [Hg.out]; simpa using hg), if_pos ⟨rfl, ho1⟩]
          have OK := Lib.hid ok; have HO1 := Lib.hid ho1; clear ok ho1
          by_cases hr : Word b
          all_goals
            have HR := Lib.hid hr; clear hr
          · go_wp2_with fail
            refine (registers_any _ _ g Hg.out).mono ?_
            rintro e w' ⟨rfl, rfl⟩
            go_wp2_with fail
            refine (isWord_any _ _ true (by simp [HR.out])).mono ?_
            rintro e w' ⟨rfl, rfl⟩
            go_wp2
            go_roundg 1
            case measure => omega
            case rel => exact ⟨2, by omega, rfl, rfl, (fun _ => H0.out (by omega)), (fun _ => OK.out.2 HR.out), (fun h => absurd h (by omega))⟩
          · go_wp2_with fail
            refine (registers_any _ _ g Hg.out).mono ?_
            rintro e w' ⟨rfl, rfl⟩
            go_wp2_with fail
            refine (isWord_any _ _ false (by simp [HR.out])).mono ?_
            rintro e w' ⟨rfl, rfl⟩
            go_wp2
            go_ret
            refine ⟨ret_bool ?_, (by repeat (first | assumption | exact Pure.refl _ | refine Pure.drewN ?_ _ | refine Pure.drew ?_ | refine Pure.alloc ?_ _ | refine Pure.setCell ?_ (by simp <;> omega) _))⟩
            cases hb : B
            · rfl
            · exact absurd (HB.out.1 hb).1.2.1 (fun h => HR.out (OK.out.1 h))
        · have d1 : (o == 1) = false := by simp [ho1]
          by_cases ho13 : o = 13
          · have d13 : (o == 13) = true := by simp [ho13]
            have ok : okAt o 1 b ↔ (1 ≤ b ∧ b ≤ 4) := by unfold okAt; rw [if_neg (by rw [Hg.out]; simpa using hg), if_neg (fun h => ho1 h.2), if_pos ⟨rfl, ho13⟩]
            have OK := Lib.hid ok; have HO1 := Lib.hid ho1; have HO13 := Lib.hid ho13; clear ok ho1 ho13
            by_cases hr : 1 ≤ b ∧ b ≤ 4
            all_goals
              have HR := Lib.hid hr; clear hr
            · go_wp2_with fail
              refine (registers_any _ _ g Hg.out).mono ?_
              rintro e w' ⟨rfl, rfl⟩
              go_wp2_with fail
              refine (within_any _ _ _ _ true (by simp [HR.out])).mono ?_
              rintro e w' ⟨rfl, rfl⟩
              go_wp2
              go_roundg 1
              case measure => omega
              case rel => exact ⟨2, by omega, rfl, rfl, (fun _ => H0.out (by omega)), (fun _ => OK.out.2 HR.out), (fun h => absurd h (by omega))⟩
            · go_wp2_with fail
              refine (registers_any _ _ g Hg.out).mono ?_
              rintro e w' ⟨rfl, rfl⟩
              go_wp2_with fail
              refine (within_any _ _ _ _ false (by simp [HR.out])).mono ?_
              rintro e w' ⟨rfl, rfl⟩
              go_wp2
              go_ret
              refine ⟨ret_bool ?_, (by repeat (first | assumption | exact Pure.refl _ | refine Pure.drewN ?_ _ | refine Pure.drew ?_ | refine Pure.alloc ?_ _ | refine Pure.setCell ?_ (by simp <;> omega) _))⟩
              cases hb : B
              · rfl
              · exact absurd (HB.out.1 hb).1.2.1 (fun h => HR.out (OK.out.1 h))
          · have d13 : (o == 13) = false := by simp [ho13]
            have ok : okAt o 1 b ↔ b = 0 := by unfold okAt; rw [if_neg (by rw [Hg.out]; simpa using hg), if_neg (fun h => ho1 h.2), if_neg (fun h => ho13 h.2)]
            have OK := Lib.hid ok; have HO1 := Lib.hid ho1; have HO13 := Lib.hid ho13; clear ok ho1 ho13
            by_cases hr : b = 0
            · have dn : (b != 0) = false := by simp [hr]
              have HR := Lib.hid hr; clear hr
              go_wp2_with fail
              refine (registers_any _ _ g Hg.out).mono ?_
              rintro e w' ⟨rfl, rfl⟩
              go_wp2
              go_roundg 1
              case measure => omega
              case rel => exact ⟨2, by omega, rfl, rfl, (fun _ => H0.out (by omega)), (fun _ => OK.out.2 HR.out), (fun h => absurd h (by omega))⟩
            · have dn : (b != 0) = true := by simp [hr]
              have HR := Lib.hid hr; clear hr
              go_wp2_with fail
              refine (registers_any _ _ g Hg.out).mono ?_
              rintro e w' ⟨rfl, rfl⟩
              go_wp2
              go_ret
              refine ⟨ret_bool ?_, (by repeat (first | assumption | exact Pure.refl _ | refine Pure.drewN ?_ _ | refine Pure.drew ?_ | refine Pure.alloc ?_ _ | refine Pure.setCell ?_ (by simp <;> omega) _))⟩
              cases hb : B
              · rfl
              · exact absurd (HB.out.1 hb).1.2.1 (fun h => HR.out (OK.out.1 h))
    · by_cases hg : (2 : Int) < g
      · have ok : okAt o 2 c ↔ Reg c := by unfold okAt; rw [if_pos (by rw [Hg.out]; exact hg)]
        have OK := Lib.hid ok; clear ok
        by_cases hr : Reg c
        all_goals
          have HR := Lib.hid hr; clear hr
        · go_wp2_with fail
          refine (registers_any _ _ g Hg.out).mono ?_
          rintro e w' ⟨rfl, rfl⟩
          go_wp2_with fail
          refine (isReg_any _ _ true (by simp [HR.out])).mono ?_
          rintro e w' ⟨rfl, rfl⟩
          go_wp2
          go_roundg 0
          case measure => omega
          case rel => exact ⟨3, by omega, rfl, rfl, (fun _ => H0.out (by omega)), (fun _ => H1.out (by omega)), (fun _ => OK.out.2 HR.out)⟩
        · go_wp2_with fail
          refine (registers_any _ _ g Hg.out).mono ?_
          rintro e w' ⟨rfl, rfl⟩
          go_wp2_with fail
          refine (isReg_any _ _ false (by simp [HR.out])).mono ?_
          rintro e w' ⟨rfl, rfl⟩
          go_wp2
          go_ret
          refine ⟨ret_bool ?_, (by repeat (first | assumption | exact Pure.refl _ | refine Pure.drewN ?_ _ | refine Pure.drew ?_ | refine Pure.alloc ?_ _ | refine Pure.setCell ?_ (by simp <;> omega) _))⟩
          cases hb : B
          · rfl
          · exact absurd (HB.out.1 hb).1.2.2 (fun h => HR.out (OK.out.1 h))
      · have ok : okAt o 2 c ↔ c = 0 := by unfold okAt; rw [if_neg (by rw [Hg.out]; simpa using hg), if_neg (fun h => by cases h.1), if_neg (fun h => by cases h.1)]
        have OK := Lib.hid ok; clear ok
        by_cases hr : c = 0
        · have dn : (c != 0) = false := by simp [hr]
          have HR := Lib.hid hr; clear hr
          go_wp2_with fail
          refine (registers_any _ _ g Hg.out).mono ?_
          rintro e w' ⟨rfl, rfl⟩
          go_wp2
          go_roundg 0
          case measure => omega
          case rel => exact ⟨3, by omega, rfl, rfl, (fun _ => H0.out (by omega)), (fun _ => H1.out (by omega)), (fun _ => OK.out.2 HR.out)⟩
        · have dn : (c != 0) = true := by simp [hr]
          have HR := Lib.hid hr; clear hr
          go_wp2_with fail
          refine (registers_any _ _ g Hg.out).mono ?_
          rintro e w' ⟨rfl, rfl⟩
          go_wp2
          go_ret
          refine ⟨ret_bool ?_, (by repeat (first | assumption | exact Pure.refl _ | refine Pure.drewN ?_ _ | refine Pure.drew ?_ | refine Pure.alloc ?_ _ | refine Pure.setCell ?_ (by simp <;> omega) _))⟩
          cases hb : B
          · rfl
          · exact absurd (HB.out.1 hb).1.2.2 (fun h => HR.out (OK.out.1 h))
    · have HB2 : Hid (B = true ↔ (1 ≤ o ∧ o ≤ 14)) := by
        refine HB.out.trans ⟨fun h => h.2, fun h => ⟨⟨H0.out (by omega), H1.out (by omega), H2.out (by omega)⟩, h⟩⟩
      go_wp2_with fail
      refine (within_any _ _ _ _ B HB2.out).mono ?_
      rintro e w' ⟨rfl, rfl⟩
      go_wp2
      go_ret
      exact ⟨rfl, (by repeat (first | assumption | exact Pure.refl _ | refine Pure.drewN ?_ _ | refine Pure.drew ?_ | refine Pure.alloc ?_ _ | refine Pure.setCell ?_ (by simp <;> omega) _))⟩

end Go.Proofs.Ytokdfgodmhekmaa
