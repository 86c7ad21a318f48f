/- What instructions read and write, by the reference and by the program. What an instruction writes, by the reference and by the program; what is wanted behind an instruction. Uniform registers, as the reference finds them: what a range writes, one instruction. No condition. -/
import Derived.BigQuiet
import Derived.Deep.QuietTactic
import Derived.Test.YtokdfgodmhekmaaKac
import Derived.Test.YtokdfgodmhekmaaKad
import Derived.Test.YtokdfgodmhekmaaKae
import Derived.Test.YtokdfgodmhekmaaKaf
import Derived.Test.YtokdfgodmhekmaaKbj

namespace Go.Proofs.Ytokdfgodmhekmaa
open Go.RowKit

set_option maxHeartbeats 2000000 in
theorem screads_any (x : Cd) (w : World) (h : CdOk x) :
    Calls Try.prog 123 #[cdv x] w fun e w' => e = .returned (.int .i64 (rd x : Nat)) ∧ Pure w w' := by
  obtain ⟨o, a, b, c⟩ := x
  have H := Lib.hid h
  obtain ⟨⟨ha1, ha2⟩, hb0, hb3, hc1, hc2, ho1, ho2⟩ := h.regs
  have ho : o = 1 ∨ o = 2 ∨ o = 3 ∨ o = 4 ∨ o = 5 ∨ o = 6 ∨ o = 7 ∨ o = 8 ∨ o = 9 ∨ o = 10 ∨ o = 11 ∨ o = 12 ∨ o = 13 ∨ o = 14 := by omega
  clear h ho1 ho2
  unfold cdv
  simp only
  rcases ho with rfl | rfl | rfl | rfl | rfl | rfl | rfl | rfl | rfl | rfl | rfl | rfl | rfl | rfl
  · clear hb0 hb3
    have e : rd ⟨1, a, b, c⟩ = 0 := rfl
    rw [e]; clear e
    go_enter Try.func123, Try.ntmps123
    go_wp2_with fail
    refine (scv_any ⟨1, a, b, c⟩ _ true (by simp [H.out])).mono ?_
    rintro e w1 ⟨rfl, hp1⟩
    obtain ⟨q0, q1, q2, q3, hp⟩ := boxed hp1
    go_wp2
    go_ret
    exact ⟨rfl, (by repeat (first | assumption | exact Pure.refl _ | refine Pure.drewN ?_ _ | refine Pure.drew ?_ | refine Pure.alloc ?_ _ | refine Pure.setCell ?_ (by simp <;> omega) _))⟩
  · have hb1 := hb0 (by decide); have hb2 := hb3 (by decide) (by decide); clear hb0 hb3
    have e : rd ⟨2, a, b, c⟩ = 0 := rfl
    rw [e]; clear e
    go_enter Try.func123, Try.ntmps123
    go_wp2_with fail
    refine (scv_any ⟨2, a, b, c⟩ _ true (by simp [H.out])).mono ?_
    rintro e w1 ⟨rfl, hp1⟩
    obtain ⟨q0, q1, q2, q3, hp⟩ := boxed hp1
    go_wp2
    go_ret
    exact ⟨rfl, (by repeat (first | assumption | exact Pure.refl _ | refine Pure.drewN ?_ _ | refine Pure.drew ?_ | refine Pure.alloc ?_ _ | refine Pure.setCell ?_ (by simp <;> omega) _))⟩
  · have hb1 := hb0 (by decide); have hb2 := hb3 (by decide) (by decide); clear hb0 hb3
    have e : rd ⟨3, a, b, c⟩ = pw a ||| pw b := rfl
    rw [e]; clear e
    go_enter Try.func123, Try.ntmps123
    go_wp2_with fail
    refine (scv_any ⟨3, a, b, c⟩ _ true (by simp [H.out])).mono ?_
    rintro e w1 ⟨rfl, hp1⟩
    obtain ⟨q0, q1, q2, q3, hp⟩ := boxed hp1
    go_wp2
    go_quiet (fail)
    go_wp2
    go_ret
    exact ⟨by rw [shl_pw ha1 ha2, shl_pw hb1 hb2, or16 (pw_lt ha2) (pw_lt hb2)] <;> rfl, (by repeat (first | assumption | exact Pure.refl _ | refine Pure.drewN ?_ _ | refine Pure.drew ?_ | refine Pure.alloc ?_ _ | refine Pure.setCell ?_ (by simp <;> omega) _))⟩
  · have hb1 := hb0 (by decide); have hb2 := hb3 (by decide) (by decide); clear hb0 hb3
    have e : rd ⟨4, a, b, c⟩ = pw a ||| pw b := rfl
    rw [e]; clear e
    go_enter Try.func123, Try.ntmps123
    go_wp2_with fail
    refine (scv_any ⟨4, a, b, c⟩ _ true (by simp [H.out])).mono ?_
    rintro e w1 ⟨rfl, hp1⟩
    obtain ⟨q0, q1, q2, q3, hp⟩ := boxed hp1
    go_wp2
    go_quiet (fail)
    go_wp2
    go_ret
    exact ⟨by rw [shl_pw ha1 ha2, shl_pw hb1 hb2, or16 (pw_lt ha2) (pw_lt hb2)] <;> rfl, (by repeat (first | assumption | exact Pure.refl _ | refine Pure.drewN ?_ _ | refine Pure.drew ?_ | refine Pure.alloc ?_ _ | refine Pure.setCell ?_ (by simp <;> omega) _))⟩
  · have hb1 := hb0 (by decide); have hb2 := hb3 (by decide) (by decide); clear hb0 hb3
    have e : rd ⟨5, a, b, c⟩ = pw b := rfl
    rw [e]; clear e
    go_enter Try.func123, Try.ntmps123
    go_wp2_with fail
    refine (scv_any ⟨5, a, b, c⟩ _ true (by simp [H.out])).mono ?_
    rintro e w1 ⟨rfl, hp1⟩
    obtain ⟨q0, q1, q2, q3, hp⟩ := boxed hp1
    go_wp2
    go_ret
    exact ⟨by rw [shl_pw hb1 hb2] <;> rfl, (by repeat (first | assumption | exact Pure.refl _ | refine Pure.drewN ?_ _ | refine Pure.drew ?_ | refine Pure.alloc ?_ _ | refine Pure.setCell ?_ (by simp <;> omega) _))⟩
  · have hb1 := hb0 (by decide); have hb2 := hb3 (by decide) (by decide); clear hb0 hb3
    have e : rd ⟨6, a, b, c⟩ = pw b ||| pw c := rfl
    rw [e]; clear e
    go_enter Try.func123, Try.ntmps123
    go_wp2_with fail
    refine (scv_any ⟨6, a, b, c⟩ _ true (by simp [H.out])).mono ?_
    rintro e w1 ⟨rfl, hp1⟩
    obtain ⟨q0, q1, q2, q3, hp⟩ := boxed hp1
    go_wp2
    go_quiet (fail)
    go_wp2
    go_ret
    exact ⟨by rw [shl_pw hb1 hb2, shl_pw hc1 hc2, or16 (pw_lt hb2) (pw_lt hc2)] <;> rfl, (by repeat (first | assumption | exact Pure.refl _ | refine Pure.drewN ?_ _ | refine Pure.drew ?_ | refine Pure.alloc ?_ _ | refine Pure.setCell ?_ (by simp <;> omega) _))⟩
  · have hb1 := hb0 (by decide); have hb2 := hb3 (by decide) (by decide); clear hb0 hb3
    have e : rd ⟨7, a, b, c⟩ = pw a ||| pw b ||| pw c := rfl
    rw [e]; clear e
    go_enter Try.func123, Try.ntmps123
    go_wp2_with fail
    refine (scv_any ⟨7, a, b, c⟩ _ true (by simp [H.out])).mono ?_
    rintro e w1 ⟨rfl, hp1⟩
    obtain ⟨q0, q1, q2, q3, hp⟩ := boxed hp1
    go_wp2
    go_quiet (fail)
    go_wp2
    go_ret
    exact ⟨by rw [shl_pw ha1 ha2, shl_pw hb1 hb2, shl_pw hc1 hc2, or16 (pw_lt ha2) (pw_lt hb2), or16 (or_lt (pw_lt ha2) (pw_lt hb2)) (pw_lt hc2)] <;> rfl, (by repeat (first | assumption | exact Pure.refl _ | refine Pure.drewN ?_ _ | refine Pure.drew ?_ | refine Pure.alloc ?_ _ | refine Pure.setCell ?_ (by simp <;> omega) _))⟩
  · have hb1 := hb0 (by decide); have hb2 := hb3 (by decide) (by decide); clear hb0 hb3
    have e : rd ⟨8, a, b, c⟩ = pw b := rfl
    rw [e]; clear e
    go_enter Try.func123, Try.ntmps123
    go_wp2_with fail
    refine (scv_any ⟨8, a, b, c⟩ _ true (by simp [H.out])).mono ?_
    rintro e w1 ⟨rfl, hp1⟩
    obtain ⟨q0, q1, q2, q3, hp⟩ := boxed hp1
    go_wp2
    go_ret
    exact ⟨by rw [shl_pw hb1 hb2] <;> rfl, (by repeat (first | assumption | exact Pure.refl _ | refine Pure.drewN ?_ _ | refine Pure.drew ?_ | refine Pure.alloc ?_ _ | refine Pure.setCell ?_ (by simp <;> omega) _))⟩
  · have hb1 := hb0 (by decide); have hb2 := hb3 (by decide) (by decide); clear hb0 hb3
    have e : rd ⟨9, a, b, c⟩ = pw a ||| pw b := rfl
    rw [e]; clear e
    go_enter Try.func123, Try.ntmps123
    go_wp2_with fail
    refine (scv_any ⟨9, a, b, c⟩ _ true (by simp [H.out])).mono ?_
    rintro e w1 ⟨rfl, hp1⟩
    obtain ⟨q0, q1, q2, q3, hp⟩ := boxed hp1
    go_wp2
    go_quiet (fail)
    go_wp2
    go_ret
    exact ⟨by rw [shl_pw ha1 ha2, shl_pw hb1 hb2, or16 (pw_lt ha2) (pw_lt hb2)] <;> rfl, (by repeat (first | assumption | exact Pure.refl _ | refine Pure.drewN ?_ _ | refine Pure.drew ?_ | refine Pure.alloc ?_ _ | refine Pure.setCell ?_ (by simp <;> omega) _))⟩
  · have hb1 := hb0 (by decide); have hb2 := hb3 (by decide) (by decide); clear hb0 hb3
    have e : rd ⟨10, a, b, c⟩ = 0 := rfl
    rw [e]; clear e
    go_enter Try.func123, Try.ntmps123
    go_wp2_with fail
    refine (scv_any ⟨10, a, b, c⟩ _ true (by simp [H.out])).mono ?_
    rintro e w1 ⟨rfl, hp1⟩
    obtain ⟨q0, q1, q2, q3, hp⟩ := boxed hp1
    go_wp2
    go_ret
    exact ⟨rfl, (by repeat (first | assumption | exact Pure.refl _ | refine Pure.drewN ?_ _ | refine Pure.drew ?_ | refine Pure.alloc ?_ _ | refine Pure.setCell ?_ (by simp <;> omega) _))⟩
  · have hb1 := hb0 (by decide); have hb2 := hb3 (by decide) (by decide); clear hb0 hb3
    have e : rd ⟨11, a, b, c⟩ = pw a := rfl
    rw [e]; clear e
    go_enter Try.func123, Try.ntmps123
    go_wp2_with fail
    refine (scv_any ⟨11, a, b, c⟩ _ true (by simp [H.out])).mono ?_
    rintro e w1 ⟨rfl, hp1⟩
    obtain ⟨q0, q1, q2, q3, hp⟩ := boxed hp1
    go_wp2
    go_ret
    exact ⟨by rw [shl_pw ha1 ha2] <;> rfl, (by repeat (first | assumption | exact Pure.refl _ | refine Pure.drewN ?_ _ | refine Pure.drew ?_ | refine Pure.alloc ?_ _ | refine Pure.setCell ?_ (by simp <;> omega) _))⟩
  · have hb1 := hb0 (by decide); have hb2 := hb3 (by decide) (by decide); clear hb0 hb3
    have e : rd ⟨12, a, b, c⟩ = 0 := rfl
    rw [e]; clear e
    go_enter Try.func123, Try.ntmps123
    go_wp2_with fail
    refine (scv_any ⟨12, a, b, c⟩ _ true (by simp [H.out])).mono ?_
    rintro e w1 ⟨rfl, hp1⟩
    obtain ⟨q0, q1, q2, q3, hp⟩ := boxed hp1
    go_wp2
    go_ret
    exact ⟨rfl, (by repeat (first | assumption | exact Pure.refl _ | refine Pure.drewN ?_ _ | refine Pure.drew ?_ | refine Pure.alloc ?_ _ | refine Pure.setCell ?_ (by simp <;> omega) _))⟩
  · have hb1 := hb0 (by decide); clear hb0 hb3
    have e : rd ⟨13, a, b, c⟩ = pw a := rfl
    rw [e]; clear e
    go_enter Try.func123, Try.ntmps123
    go_wp2_with fail
    refine (scv_any ⟨13, a, b, c⟩ _ true (by simp [H.out])).mono ?_
    rintro e w1 ⟨rfl, hp1⟩
    obtain ⟨q0, q1, q2, q3, hp⟩ := boxed hp1
    go_wp2
    go_ret
    exact ⟨by rw [shl_pw ha1 ha2] <;> rfl, (by repeat (first | assumption | exact Pure.refl _ | refine Pure.drewN ?_ _ | refine Pure.drew ?_ | refine Pure.alloc ?_ _ | refine Pure.setCell ?_ (by simp <;> omega) _))⟩
  · have hb1 := hb0 (by decide); have hb2 := hb3 (by decide) (by decide); clear hb0 hb3
    have e : rd ⟨14, a, b, c⟩ = 0 := rfl
    rw [e]; clear e
    go_enter Try.func123, Try.ntmps123
    go_wp2_with fail
    refine (scv_any ⟨14, a, b, c⟩ _ true (by simp [H.out])).mono ?_
    rintro e w1 ⟨rfl, hp1⟩
    obtain ⟨q0, q1, q2, q3, hp⟩ := boxed hp1
    go_wp2
    go_ret
    exact ⟨rfl, (by repeat (first | assumption | exact Pure.refl _ | refine Pure.drewN ?_ _ | refine Pure.drew ?_ | refine Pure.alloc ?_ _ | refine Pure.setCell ?_ (by simp <;> omega) _))⟩

set_option maxHeartbeats 2000000 in
theorem icreads_any (x : Cd) (w : World) (h : CdOk x) :
    Calls Try.prog 117 #[cdv x] w fun e w' => e = .returned (.int .i64 (rd x : Nat)) ∧ Pure w w' := by
  obtain ⟨o, a, b, c⟩ := x
  have H := Lib.hid h
  obtain ⟨⟨ha1, ha2⟩, hb0, hb3, hc1, hc2, ho1, ho2⟩ := h.regs
  have ho : o = 1 ∨ o = 2 ∨ o = 3 ∨ o = 4 ∨ o = 5 ∨ o = 6 ∨ o = 7 ∨ o = 8 ∨ o = 9 ∨ o = 10 ∨ o = 11 ∨ o = 12 ∨ o = 13 ∨ o = 14 := by omega
  clear h ho1 ho2
  unfold cdv
  simp only
  rcases ho with rfl | rfl | rfl | rfl | rfl | rfl | rfl | rfl | rfl | rfl | rfl | rfl | rfl | rfl
  · clear hb0 hb3
    have e : rd ⟨1, a, b, c⟩ = 0 := rfl
    rw [e]; clear e
    go_enter Try.func117, Try.ntmps117
    go_wp2_with fail
    refine (icv_any ⟨1, a, b, c⟩ _ true (by simp [H.out])).mono ?_
    rintro e w1 ⟨rfl, hp1⟩
    obtain ⟨q0, q1, q2, q3, hp⟩ := boxed hp1
    go_wp2_with (go_at_call 120; go_must (refine (registers_any 1 _ 1 rfl).mono ?_); rintro e w2 ⟨rfl, rfl⟩)
    go_ret
    exact ⟨rfl, (by repeat (first | assumption | exact Pure.refl _ | refine Pure.drewN ?_ _ | refine Pure.drew ?_ | refine Pure.alloc ?_ _ | refine Pure.setCell ?_ (by simp <;> omega) _))⟩
  · have hb1 := hb0 (by decide); have hb2 := hb3 (by decide) (by decide); clear hb0 hb3
    have e : rd ⟨2, a, b, c⟩ = 0 := rfl
    rw [e]; clear e
    go_enter Try.func117, Try.ntmps117
    go_wp2_with fail
    refine (icv_any ⟨2, a, b, c⟩ _ true (by simp [H.out])).mono ?_
    rintro e w1 ⟨rfl, hp1⟩
    obtain ⟨q0, q1, q2, q3, hp⟩ := boxed hp1
    go_wp2_with (go_at_call 120; go_must (refine (registers_any 2 _ 1 rfl).mono ?_); rintro e w2 ⟨rfl, rfl⟩)
    go_ret
    exact ⟨rfl, (by repeat (first | assumption | exact Pure.refl _ | refine Pure.drewN ?_ _ | refine Pure.drew ?_ | refine Pure.alloc ?_ _ | refine Pure.setCell ?_ (by simp <;> omega) _))⟩
  · have hb1 := hb0 (by decide); have hb2 := hb3 (by decide) (by decide); clear hb0 hb3
    have e : rd ⟨3, a, b, c⟩ = pw a ||| pw b := rfl
    rw [e]; clear e
    go_enter Try.func117, Try.ntmps117
    go_wp2_with fail
    refine (icv_any ⟨3, a, b, c⟩ _ true (by simp [H.out])).mono ?_
    rintro e w1 ⟨rfl, hp1⟩
    obtain ⟨q0, q1, q2, q3, hp⟩ := boxed hp1
    go_wp2_with (go_at_call 120; go_must (refine (registers_any 3 _ 2 rfl).mono ?_); rintro e w2 ⟨rfl, rfl⟩)
    go_ret
    exact ⟨by rw [shl_pw ha1 ha2, shl_pw hb1 hb2, or16 (pw_lt ha2) (pw_lt hb2)] <;> rfl, (by repeat (first | assumption | exact Pure.refl _ | refine Pure.drewN ?_ _ | refine Pure.drew ?_ | refine Pure.alloc ?_ _ | refine Pure.setCell ?_ (by simp <;> omega) _))⟩
  · have hb1 := hb0 (by decide); have hb2 := hb3 (by decide) (by decide); clear hb0 hb3
    have e : rd ⟨4, a, b, c⟩ = pw a ||| pw b := rfl
    rw [e]; clear e
    go_enter Try.func117, Try.ntmps117
    go_wp2_with fail
    refine (icv_any ⟨4, a, b, c⟩ _ true (by simp [H.out])).mono ?_
    rintro e w1 ⟨rfl, hp1⟩
    obtain ⟨q0, q1, q2, q3, hp⟩ := boxed hp1
    go_wp2_with (go_at_call 120; go_must (refine (registers_any 4 _ 2 rfl).mono ?_); rintro e w2 ⟨rfl, rfl⟩)
    go_ret
    exact ⟨by rw [shl_pw ha1 ha2, shl_pw hb1 hb2, or16 (pw_lt ha2) (pw_lt hb2)] <;> rfl, (by repeat (first | assumption | exact Pure.refl _ | refine Pure.drewN ?_ _ | refine Pure.drew ?_ | refine Pure.alloc ?_ _ | refine Pure.setCell ?_ (by simp <;> omega) _))⟩
  · have hb1 := hb0 (by decide); have hb2 := hb3 (by decide) (by decide); clear hb0 hb3
    have e : rd ⟨5, a, b, c⟩ = pw b := rfl
    rw [e]; clear e
    go_enter Try.func117, Try.ntmps117
    go_wp2_with fail
    refine (icv_any ⟨5, a, b, c⟩ _ true (by simp [H.out])).mono ?_
    rintro e w1 ⟨rfl, hp1⟩
    obtain ⟨q0, q1, q2, q3, hp⟩ := boxed hp1
    go_wp2_with (go_at_call 120; go_must (refine (registers_any 5 _ 2 rfl).mono ?_); rintro e w2 ⟨rfl, rfl⟩)
    go_ret
    exact ⟨by rw [shl_pw hb1 hb2] <;> rfl, (by repeat (first | assumption | exact Pure.refl _ | refine Pure.drewN ?_ _ | refine Pure.drew ?_ | refine Pure.alloc ?_ _ | refine Pure.setCell ?_ (by simp <;> omega) _))⟩
  · have hb1 := hb0 (by decide); have hb2 := hb3 (by decide) (by decide); clear hb0 hb3
    have e : rd ⟨6, a, b, c⟩ = pw b ||| pw c := rfl
    rw [e]; clear e
    go_enter Try.func117, Try.ntmps117
    go_wp2_with fail
    refine (icv_any ⟨6, a, b, c⟩ _ true (by simp [H.out])).mono ?_
    rintro e w1 ⟨rfl, hp1⟩
    obtain ⟨q0, q1, q2, q3, hp⟩ := boxed hp1
    go_wp2_with (go_at_call 120; go_must (refine (registers_any 6 _ 3 rfl).mono ?_); rintro e w2 ⟨rfl, rfl⟩)
    go_ret
    exact ⟨by rw [shl_pw hb1 hb2, shl_pw hc1 hc2, or16 (pw_lt hb2) (pw_lt hc2)] <;> rfl, (by repeat (first | assumption | exact Pure.refl _ | refine Pure.drewN ?_ _ | refine Pure.drew ?_ | refine Pure.alloc ?_ _ | refine Pure.setCell ?_ (by simp <;> omega) _))⟩
  · have hb1 := hb0 (by decide); have hb2 := hb3 (by decide) (by decide); clear hb0 hb3
    have e : rd ⟨7, a, b, c⟩ = pw a ||| pw b ||| pw c := rfl
    rw [e]; clear e
    go_enter Try.func117, Try.ntmps117
    go_wp2_with fail
    refine (icv_any ⟨7, a, b, c⟩ _ true (by simp [H.out])).mono ?_
    rintro e w1 ⟨rfl, hp1⟩
    obtain ⟨q0, q1, q2, q3, hp⟩ := boxed hp1
    go_wp2_with (go_at_call 120; go_must (refine (registers_any 7 _ 3 rfl).mono ?_); rintro e w2 ⟨rfl, rfl⟩)
    go_ret
    exact ⟨by rw [shl_pw ha1 ha2, shl_pw hb1 hb2, shl_pw hc1 hc2, or16 (pw_lt ha2) (pw_lt hb2), or16 (or_lt (pw_lt ha2) (pw_lt hb2)) (pw_lt hc2)] <;> rfl, (by repeat (first | assumption | exact Pure.refl _ | refine Pure.drewN ?_ _ | refine Pure.drew ?_ | refine Pure.alloc ?_ _ | refine Pure.setCell ?_ (by simp <;> omega) _))⟩
  · have hb1 := hb0 (by decide); have hb2 := hb3 (by decide) (by decide); clear hb0 hb3
    have e : rd ⟨8, a, b, c⟩ = pw b := rfl
    rw [e]; clear e
    go_enter Try.func117, Try.ntmps117
    go_wp2_with fail
    refine (icv_any ⟨8, a, b, c⟩ _ true (by simp [H.out])).mono ?_
    rintro e w1 ⟨rfl, hp1⟩
    obtain ⟨q0, q1, q2, q3, hp⟩ := boxed hp1
    go_wp2_with (go_at_call 120; go_must (refine (registers_any 8 _ 2 rfl).mono ?_); rintro e w2 ⟨rfl, rfl⟩)
    go_ret
    exact ⟨by rw [shl_pw hb1 hb2] <;> rfl, (by repeat (first | assumption | exact Pure.refl _ | refine Pure.drewN ?_ _ | refine Pure.drew ?_ | refine Pure.alloc ?_ _ | refine Pure.setCell ?_ (by simp <;> omega) _))⟩
  · have hb1 := hb0 (by decide); have hb2 := hb3 (by decide) (by decide); clear hb0 hb3
    have e : rd ⟨9, a, b, c⟩ = pw a ||| pw b := rfl
    rw [e]; clear e
    go_enter Try.func117, Try.ntmps117
    go_wp2_with fail
    refine (icv_any ⟨9, a, b, c⟩ _ true (by simp [H.out])).mono ?_
    rintro e w1 ⟨rfl, hp1⟩
    obtain ⟨q0, q1, q2, q3, hp⟩ := boxed hp1
    go_wp2_with (go_at_call 120; go_must (refine (registers_any 9 _ 2 rfl).mono ?_); rintro e w2 ⟨rfl, rfl⟩)
    go_ret
    exact ⟨by rw [shl_pw ha1 ha2, shl_pw hb1 hb2, or16 (pw_lt ha2) (pw_lt hb2)] <;> rfl, (by repeat (first | assumption | exact Pure.refl _ | refine Pure.drewN ?_ _ | refine Pure.drew ?_ | refine Pure.alloc ?_ _ | refine Pure.setCell ?_ (by simp <;> omega) _))⟩
  · have hb1 := hb0 (by decide); have hb2 := hb3 (by decide) (by decide); clear hb0 hb3
    have e : rd ⟨10, a, b, c⟩ = 0 := rfl
    rw [e]; clear e
    go_enter Try.func117, Try.ntmps117
    go_wp2_with fail
    refine (icv_any ⟨10, a, b, c⟩ _ true (by simp [H.out])).mono ?_
    rintro e w1 ⟨rfl, hp1⟩
    obtain ⟨q0, q1, q2, q3, hp⟩ := boxed hp1
    go_wp2_with (go_at_call 120; go_must (refine (registers_any 10 _ 0 rfl).mono ?_); rintro e w2 ⟨rfl, rfl⟩)
    go_ret
    exact ⟨rfl, (by repeat (first | assumption | exact Pure.refl _ | refine Pure.drewN ?_ _ | refine Pure.drew ?_ | refine Pure.alloc ?_ _ | refine Pure.setCell ?_ (by simp <;> omega) _))⟩
  · have hb1 := hb0 (by decide); have hb2 := hb3 (by decide) (by decide); clear hb0 hb3
    have e : rd ⟨11, a, b, c⟩ = pw a := rfl
    rw [e]; clear e
    go_enter Try.func117, Try.ntmps117
    go_wp2_with fail
    refine (icv_any ⟨11, a, b, c⟩ _ true (by simp [H.out])).mono ?_
    rintro e w1 ⟨rfl, hp1⟩
    obtain ⟨q0, q1, q2, q3, hp⟩ := boxed hp1
    go_wp2_with (go_at_call 120; go_must (refine (registers_any 11 _ 1 rfl).mono ?_); rintro e w2 ⟨rfl, rfl⟩)
    go_ret
    exact ⟨by rw [shl_pw ha1 ha2] <;> rfl, (by repeat (first | assumption | exact Pure.refl _ | refine Pure.drewN ?_ _ | refine Pure.drew ?_ | refine Pure.alloc ?_ _ | refine Pure.setCell ?_ (by simp <;> omega) _))⟩
  · have hb1 := hb0 (by decide); have hb2 := hb3 (by decide) (by decide); clear hb0 hb3
    have e : rd ⟨12, a, b, c⟩ = 0 := rfl
    rw [e]; clear e
    go_enter Try.func117, Try.ntmps117
    go_wp2_with fail
    refine (icv_any ⟨12, a, b, c⟩ _ true (by simp [H.out])).mono ?_
    rintro e w1 ⟨rfl, hp1⟩
    obtain ⟨q0, q1, q2, q3, hp⟩ := boxed hp1
    go_wp2_with (go_at_call 120; go_must (refine (registers_any 12 _ 0 rfl).mono ?_); rintro e w2 ⟨rfl, rfl⟩)
    go_ret
    exact ⟨rfl, (by repeat (first | assumption | exact Pure.refl _ | refine Pure.drewN ?_ _ | refine Pure.drew ?_ | refine Pure.alloc ?_ _ | refine Pure.setCell ?_ (by simp <;> omega) _))⟩
  · have hb1 := hb0 (by decide); clear hb0 hb3
    have e : rd ⟨13, a, b, c⟩ = pw a := rfl
    rw [e]; clear e
    go_enter Try.func117, Try.ntmps117
    go_wp2_with fail
    refine (icv_any ⟨13, a, b, c⟩ _ true (by simp [H.out])).mono ?_
    rintro e w1 ⟨rfl, hp1⟩
    obtain ⟨q0, q1, q2, q3, hp⟩ := boxed hp1
    go_wp2_with (go_at_call 120; go_must (refine (registers_any 13 _ 1 rfl).mono ?_); rintro e w2 ⟨rfl, rfl⟩)
    go_ret
    exact ⟨by rw [shl_pw ha1 ha2] <;> rfl, (by repeat (first | assumption | exact Pure.refl _ | refine Pure.drewN ?_ _ | refine Pure.drew ?_ | refine Pure.alloc ?_ _ | refine Pure.setCell ?_ (by simp <;> omega) _))⟩
  · have hb1 := hb0 (by decide); have hb2 := hb3 (by decide) (by decide); clear hb0 hb3
    have e : rd ⟨14, a, b, c⟩ = 0 := rfl
    rw [e]; clear e
    go_enter Try.func117, Try.ntmps117
    go_wp2_with fail
    refine (icv_any ⟨14, a, b, c⟩ _ true (by simp [H.out])).mono ?_
    rintro e w1 ⟨rfl, hp1⟩
    obtain ⟨q0, q1, q2, q3, hp⟩ := boxed hp1
    go_wp2_with (go_at_call 120; go_must (refine (registers_any 14 _ 0 rfl).mono ?_); rintro e w2 ⟨rfl, rfl⟩)
    go_ret
    exact ⟨rfl, (by repeat (first | assumption | exact Pure.refl _ | refine Pure.drewN ?_ _ | refine Pure.drew ?_ | refine Pure.alloc ?_ _ | refine Pure.setCell ?_ (by simp <;> omega) _))⟩

end Go.Proofs.Ytokdfgodmhekmaa

namespace Go.Proofs.Ytokdfgodmhekmaa
open Go.RowKit
--CUT
set_option maxHeartbeats 1000000 in
theorem swrites_any (x : Cd) (w : World) (h : CdOk x) :
    Calls Try.prog 122 #[cdv x] w fun e w' => e = .returned (.int .i64 (wrg x)) ∧ Pure w w' := by
  obtain ⟨o, a, b, c⟩ := x
  have H := Lib.hid h
  clear h
  unfold cdv
  simp only
  by_cases h8 : 1 ≤ o ∧ o ≤ 8
  · have e8 : wrg ⟨o, a, b, c⟩ = a := if_pos h8
    rw [e8]
    clear e8
    have H8 := Lib.hid h8
    clear h8
    go_enter Try.func122, Try.ntmps122
    go_wp2_with fail
    refine (scv_any ⟨o, a, b, c⟩ _ true (by simp [H.out])).mono ?_
    rintro e w1 ⟨rfl, hp1⟩
    obtain ⟨q0, q1, q2, q3, hp⟩ := boxed hp1
    go_wp2_with fail
    refine (l1In_t _ _ _ _ H8.out).mono ?_
    rintro e w2 ⟨rfl, rfl⟩
    go_wp2
    go_ret
    exact ⟨rfl, hp⟩
  · have e8 : wrg ⟨o, a, b, c⟩ = -1 := if_neg h8
    rw [e8]
    clear e8
    have H8 := Lib.hid h8
    clear h8
    go_enter Try.func122, Try.ntmps122
    go_wp2_with fail
    refine (scv_any ⟨o, a, b, c⟩ _ true (by simp [H.out])).mono ?_
    rintro e w1 ⟨rfl, hp1⟩
    obtain ⟨q0, q1, q2, q3, hp⟩ := boxed hp1
    go_wp2_with fail
    refine (l1In_f _ _ _ _ H8.out).mono ?_
    rintro e w2 ⟨rfl, rfl⟩
    go_wp2
    go_ret
    exact ⟨rfl, hp⟩

set_option maxHeartbeats 1000000 in
theorem iwrites_any (x : Cd) (w : World) (h : CdOk x) :
    Calls Try.prog 126 #[cdv x] w fun e w' => e = .returned (.int .i64 (wrg x)) ∧ Pure w w' := by
  obtain ⟨o, a, b, c⟩ := x
  have H := Lib.hid h
  obtain ⟨_, _, _, _, _, ho1, ho2⟩ := h.regs
  have ho : o = 1 ∨ o = 2 ∨ o = 3 ∨ o = 4 ∨ o = 5 ∨ o = 6 ∨ o = 7 ∨ o = 8 ∨ o = 9 ∨ o = 10 ∨ o = 11 ∨ o = 12 ∨ o = 13 ∨ o = 14 := by omega
  clear h ho1 ho2
  unfold cdv
  simp only
  rcases ho with rfl | rfl | rfl | rfl | rfl | rfl | rfl | rfl | rfl | rfl | rfl | rfl | rfl | rfl
  all_goals
    go_enter Try.func126, Try.ntmps126
    go_wp2_with fail
    refine (icv_any ⟨_, a, b, c⟩ _ true (by simp [H.out])).mono ?_
    rintro e w1 ⟨rfl, hp1⟩
    obtain ⟨q0, q1, q2, q3, hp⟩ := boxed hp1
    go_wp2
    go_ret
    exact ⟨rfl, hp⟩

set_option maxHeartbeats 1000000 in
theorem iwritten_any (x : Cd) (w : World) (h : CdOk x) :
    Calls Try.prog 118 #[cdv x] w fun e w' => e = .returned (.int .i64 (wst x : Nat)) ∧ Pure w w' := by
  have H := Lib.hid h
  have hr : (0 ≤ wrg x ∧ wrg x ≤ 3 ∧ wst x = pw (wrg x)) ∨ (wrg x = -1 ∧ wst x = 0) := by
    obtain ⟨⟨h1, h2⟩, _⟩ := h.regs
    unfold wrg wst
    split
    · exact .inl ⟨h1, h2, rfl⟩
    · exact .inr ⟨rfl, rfl⟩
  obtain ⟨g, Hg⟩ : ∃ g, Hid (wrg x = g) := ⟨_, rfl⟩
  obtain ⟨v, Hv⟩ : ∃ v, Hid (wst x = v) := ⟨_, rfl⟩
  have hi := iwrites_any x
  rw [Hg.out, Hv.out] at hr
  rw [Hv.out]
  have HI := Lib.hid hi
  clear hi h
  obtain ⟨o, a, b, c⟩ := x
  unfold cdv
  simp only
  go_enter Try.func118, Try.ntmps118
  go_wp2_with fail
  refine (HI.out _ H.out).mono ?_
  rintro e w1 ⟨rfl, hp1⟩
  rw [Hg.out]
  have hpw := Lib.hid ((Pure.alloc (Pure.refl w) _).trans hp1)
  rcases hr with ⟨hg0, hg3, rfl⟩ | ⟨rfl, rfl⟩
  · go_wp2
    go_ret
    exact ⟨by rw [shl_pw hg0 hg3] <;> rfl, hpw.out⟩
  · go_wp2
    go_ret
    exact ⟨rfl, hpw.out⟩

/-- A table of sets: n + 1 numbers. -/
def Sets (w : World) (v : Value) (m : Nat) (live : Nat → Nat) : Prop := Cells w v m 1 (fun j => .int .i64 (live j : Nat))

end Go.Proofs.Ytokdfgodmhekmaa

namespace Go.Proofs.Ytokdfgodmhekmaa
open Go.RowKit

theorem wrg_two {x : Cd} (h : CdOk x) : (0 ≤ wrg x ∧ wrg x ≤ 3 ∧ wst x = pw (wrg x)) ∨ (wrg x = -1 ∧ wst x = 0) := by
  obtain ⟨⟨h1, h2⟩, _⟩ := h.regs
  unfold wrg wst
  split
  · exact .inl ⟨h1, h2, rfl⟩
  · exact .inr ⟨rfl, rfl⟩

set_option maxHeartbeats 1000000 in
theorem swritten_any (v : Value) (cs : List Cd) (i n : Nat) (w : World) (fr to : Int) (h : Codes w v cs) (hv : ∀ c ∈ cs, CdOk c) (hn : i + n ≤ cs.length) (hs : cs.length ≤ 64) (hfr : fr = (i : Nat)) (hto : to = ((i + n : Nat) : Int)) :
    Calls Try.prog 108 #[v, .int .i64 fr, .int .i64 to] w fun e w' => e = .returned (.int .i64 (wrTo cs i n : Nat)) ∧ Pure w w' := by
  have H := Lib.hid h
  have HV := Lib.hid hv
  obtain ⟨A, c, rfl, hnc, hcm⟩ := h.form
  subst hfr hto
  clear h hv
  go_enter Try.func108, Try.ntmps108
  go_wp2_with fail
  go_loopg [8, 7] n (fun gk kk s wr => ∃ j : Nat, gk + j = n ∧ kk = .int .i64 ((i + j : Nat) : Int) ∧ s = .int .i64 (wrTo cs i j : Nat) ∧ Pure w wr)
  case atStart => exact ⟨0, rfl, rfl, rfl, Pure.refl _⟩
  case round =>
    obtain ⟨j, hgk, rfl, rfl, hp⟩ := hrel
    have Hgk := Lib.hid hgk
    have hjn : j ≤ n := by omega
    clear hgk
    by_cases hj : j < n
    · obtain ⟨b, o, rfl, hb, hc⟩ := H.out.at_ (k := i + j) (by omega)
      obtain ⟨cd, Hcd⟩ : ∃ cd, Hid (cs.getD (i + j) default = cd) := ⟨_, rfl⟩
      rw [Hcd.out] at hc
      have hok : CdOk cd := by rw [← Hcd.out]; exact HV.out _ (cdOk_mem (by omega))
      have HOK := Lib.hid hok
      obtain ⟨q0, q1, q2, q3⟩ := hc.keep hp hb
      clear hc hok
      obtain ⟨k, Hk⟩ : ∃ k, Hid (i + j = k) := ⟨_, rfl⟩
      rw [Hk.out] at q0 q1 q2 q3 ⊢
      have hk : k < cs.length := by have := Hk.out; omega
      have hkn : k < i + n := by have := Hk.out; omega
      obtain ⟨s, Hs⟩ : ∃ s, Hid (wrTo cs i j = s) := ⟨_, rfl⟩
      rw [Hs.out]
      have hs16 : s < 16 := by rw [← Hs.out]; exact wrTo_lt HV.out i j (by omega)
      have hnext : wrTo cs i (j + 1) = s ||| wst cd := by
        show wrTo cs i j ||| wst (cs.getD (i + j) default) = _
        rw [Hs.out, Hcd.out]
      have Hnext := Lib.hid hnext
      clear hnext
      go_wp2_with fail
      refine (swrites_any cd _ HOK.out).mono ?_
      rintro e w3 ⟨rfl, hp3⟩
      have hpp := hp.trans hp3
      have hgc := wrg_two HOK.out
      rcases hgc with ⟨hg0, hg3, hgp⟩ | ⟨hg1, hgp⟩
      · obtain ⟨g, hg⟩ := Int.eq_ofNat_of_zero_le hg0
        rw [hg] at hg0 hg3 hgp ⊢
        obtain ⟨p, Hp⟩ : ∃ p, Hid (wst cd = p) := ⟨_, rfl⟩
        have Hnext2 : Hid (wrTo cs i (j + 1) = s ||| p) := Lib.hid (by rw [Hnext.out, Hp.out])
        rw [Hp.out] at hgp
        have hp16 : p < 16 := by rw [← Hp.out]; exact wr_lt HOK.out
        have hshl : wrap64 (2 ^ ((g : Int)).toNat) = (p : Int) := by rw [hgp]; exact shl_pw hg0 hg3
        have hor : bits .or .i64 (s : Int) (p : Int) = ((s ||| p : Nat) : Int) := or16 hs16 hp16
        simp only [Int.toNat_natCast] at hshl
        clear hgp hg
        go_wp2
        go_roundg (n - (j + 1))
        case measure => have := Hgk.out; omega
        case rel => exact ⟨j + 1, by have := Hgk.out; omega, by have := Hk.out; go_num, by rw [Hnext2.out, ← hor, ← hshl], hpp⟩
      · rw [hg1]
        have Hnext2 : Hid (wrTo cs i (j + 1) = s) := Lib.hid (by rw [Hnext.out, hgp]; simp)
        clear hg1 hgp
        go_wp2
        go_roundg (n - (j + 1))
        case measure => have := Hgk.out; omega
        case rel => exact ⟨j + 1, by have := Hgk.out; omega, by have := Hk.out; go_num, by rw [Hnext2.out], hpp⟩
    · have hjl : j = n := by omega
      subst hjl
      go_wp2
      go_ret
      exact ⟨rfl, hp⟩

set_option maxHeartbeats 1000000 in
theorem scode_any (x : Cd) (u : Nat) (w : World) (h : CdOk x) (hu : u < 16) :
    Calls Try.prog 107 #[cdv x, .int .i64 (u : Nat)] w fun e w' => e = .returned (.int .i64 (uCode x u : Nat)) ∧ Pure w w' := by
  obtain ⟨o, a, b, c⟩ := x
  have H := Lib.hid h
  obtain ⟨p, Hp⟩ : ∃ p, Hid (wst ⟨o, a, b, c⟩ = p) := ⟨_, rfl⟩
  obtain ⟨r, Hr⟩ : ∃ r, Hid (rd ⟨o, a, b, c⟩ = r) := ⟨_, rfl⟩
  have hp16 : p < 16 := by rw [← Hp.out]; exact wr_lt h
  have hr16 : r < 16 := by rw [← Hr.out]; exact rd_lt h
  have HU : Hid (uCode ⟨o, a, b, c⟩ u = if o = 2 ∨ r &&& u ≠ r then del u p else u ||| p) := Lib.hid (by unfold uCode; rw [Hp.out, Hr.out])
  have hgc := wrg_two h
  rw [Hp.out] at hgc
  obtain ⟨m, Hm⟩ : ∃ m, Hid (r &&& u = m) := ⟨_, rfl⟩
  rw [Hm.out] at HU
  have hand : bits .and .i64 (r : Int) (u : Int) = (m : Int) := by rw [and16 hr16 hu, Hm.out]
  have hor : bits .or .i64 (u : Int) (p : Int) = ((u ||| p : Nat) : Int) := or16 hu hp16
  have hdel : bits .andNot .i64 (u : Int) (p : Int) = ((del u p : Nat) : Int) := not16 hu hp16
  obtain ⟨x1, Hx1⟩ : ∃ x, Hid (u ||| p = x) := ⟨_, rfl⟩
  obtain ⟨x2, Hx2⟩ : ∃ x, Hid (del u p = x) := ⟨_, rfl⟩
  rw [Hx1.out] at hor
  rw [Hx2.out] at hdel
  rw [Hx1.out, Hx2.out] at HU
  clear h
  unfold cdv
  simp only
  rcases hgc with ⟨hg0, hg3, hgp⟩ | ⟨hg1, hg2⟩
  · obtain ⟨g, hg⟩ := Int.eq_ofNat_of_zero_le hg0
    have HG := Lib.hid hg
    rw [hg] at hg0 hg3 hgp
    have hshl : wrap64 (2 ^ ((g : Int)).toNat) = (p : Int) := by rw [hgp]; exact shl_pw hg0 hg3
    simp only [Int.toNat_natCast] at hshl
    clear hgp hg
    have h1 := Lib.hid (boxed (Pure.refl (w.alloc (.cells #[.int .i64 o, .int .i64 a, .int .i64 b, .int .i64 c] 61))))
    obtain ⟨y0, y1, y2, y3, _⟩ := h1.out
    go_enter Try.func107, Try.ntmps107
    go_wp2_with fail
    refine (swrites_any ⟨o, a, b, c⟩ _ H.out).mono ?_
    rintro e w1 ⟨rfl, hp1⟩
    rw [HG.out]
    have hq1 : Pure w w1 := (h1.out.2.2.2.2).trans hp1
    clear y0 y1 y2 y3
    obtain ⟨y0, y1, y2, y3, _⟩ := boxed hp1
    go_wp2_with fail
    refine (screads_any ⟨o, a, b, c⟩ _ H.out).mono ?_
    rintro e w2 ⟨rfl, hp2⟩
    rw [Hr.out]
    clear y0 y1 y2 y3
    obtain ⟨y0, y1, y2, y3, hq2⟩ := boxed (hp1.trans hp2)
    by_cases h2 : o = 2
    · subst h2
      have HU2 : Hid (uCode ⟨2, a, b, c⟩ u = x2) := Lib.hid (by rw [HU.out, if_pos (.inl rfl)])
      go_wp2
      go_ret
      exact ⟨by rw [HU2.out]; rfl, hq2⟩
    · have d2 : (o == 2) = false := by simp [h2]
      by_cases h3 : m = r
      · have d3 : ((m : Int) != (r : Int)) = false := by simp [h3]
        have HU2 : Hid (uCode ⟨o, a, b, c⟩ u = x1) := Lib.hid (by rw [HU.out, if_neg (by rintro (h | h); exact h2 h; exact h h3)])
        clear h2 h3
        go_wp2
        go_ret
        exact ⟨by rw [HU2.out]; rfl, hq2⟩
      · have d3 : ((m : Int) != (r : Int)) = true := by rw [bne_iff_ne]; omega
        have HU2 : Hid (uCode ⟨o, a, b, c⟩ u = x2) := Lib.hid (by rw [HU.out, if_pos (.inr h3)])
        clear h2 h3
        go_wp2
        go_ret
        exact ⟨by rw [HU2.out]; rfl, hq2⟩
  · have HG := Lib.hid hg1
    subst hg2
    have HU2 : Hid (uCode ⟨o, a, b, c⟩ u = u) := Lib.hid (by rw [HU.out, ← Hx1.out, ← Hx2.out, del_zero]; simp)
    clear hg1
    have h1 := Lib.hid (boxed (Pure.refl (w.alloc (.cells #[.int .i64 o, .int .i64 a, .int .i64 b, .int .i64 c] 61))))
    obtain ⟨y0, y1, y2, y3, _⟩ := h1.out
    go_enter Try.func107, Try.ntmps107
    go_wp2_with fail
    refine (swrites_any ⟨o, a, b, c⟩ _ H.out).mono ?_
    rintro e w1 ⟨rfl, hp1⟩
    rw [HG.out]
    have hq1 : Pure w w1 := (h1.out.2.2.2.2).trans hp1
    clear y0 y1 y2 y3
    go_wp2
    go_ret
    exact ⟨by rw [HU2.out]; rfl, hq1⟩

end Go.Proofs.Ytokdfgodmhekmaa
