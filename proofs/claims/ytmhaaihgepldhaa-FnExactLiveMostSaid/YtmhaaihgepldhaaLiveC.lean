/- What instructions read and write, by the reference and by the program. No condition. -/
import Derived.Test.YtmhaaihgepldhaaCodeV
import Derived.Test.YtmhaaihgepldhaaICodeV
import Derived.Test.YtmhaaihgepldhaaLiveP
import Derived.BigQuiet
import Derived.Deep.QuietTactic
namespace Go.Proofs.Ytmhaaihgepldhaa
open Go.RowKit
--CUT
theorem boxed {w w1 : World} {o a b c : Int} {t : TypeId} (hp : Pure (w.alloc (.cells #[.int .i64 o, .int .i64 a, .int .i64 b, .int .i64 c] t)) w1) :
    w1.cell? ⟨w.heap.size, 0, none⟩ = some (.int .i64 o) ∧ w1.cell? ⟨w.heap.size, 1, none⟩ = some (.int .i64 a) ∧ w1.cell? ⟨w.heap.size, 2, none⟩ = some (.int .i64 b) ∧ w1.cell? ⟨w.heap.size, 3, none⟩ = some (.int .i64 c) ∧ Pure w w1 := by
  have c0 := cell_of_row _ _ 0 _ _ _ (heap_alloc_new w (.cells #[.int .i64 o, .int .i64 a, .int .i64 b, .int .i64 c] t))
  have c1 := cell_of_row _ _ 1 _ _ _ (heap_alloc_new w (.cells #[.int .i64 o, .int .i64 a, .int .i64 b, .int .i64 c] t))
  have c2 := cell_of_row _ _ 2 _ _ _ (heap_alloc_new w (.cells #[.int .i64 o, .int .i64 a, .int .i64 b, .int .i64 c] t))
  have c3 := cell_of_row _ _ 3 _ _ _ (heap_alloc_new w (.cells #[.int .i64 o, .int .i64 a, .int .i64 b, .int .i64 c] t))
  have hlt : w.heap.size < (w.alloc (.cells #[.int .i64 o, .int .i64 a, .int .i64 b, .int .i64 c] t)).heap.size := World.block_lt_of_cell? _ _ c0
  exact ⟨(hp.cell _ _ hlt).trans c0, (hp.cell _ _ hlt).trans c1, (hp.cell _ _ hlt).trans c2, (hp.cell _ _ hlt).trans c3, (Pure.alloc (Pure.refl w) _).trans hp⟩

theorem shl_pw {x : Int} (h1 : 0 ≤ x) (h2 : x ≤ 3) : wrap64 (2 ^ x.toNat) = ((pw x : Nat) : Int) := by
  have : x = 0 ∨ x = 1 ∨ x = 2 ∨ x = 3 := by omega
  rcases this with rfl | rfl | rfl | rfl
  all_goals (rw [← IntWalk.i64_left, IntWalk.i64_in _ ⟨by decide, by decide⟩]; rfl)

/-- The sets of the registers that an instruction reads, and that it writes. -/
def rd (c : Cd) : Nat :=
  if c.op = 5 ∨ c.op = 8 then pw c.b else if c.op = 3 ∨ c.op = 4 ∨ c.op = 9 then pw c.a ||| pw c.b else if c.op = 6 then pw c.b ||| pw c.c
  else if c.op = 7 then pw c.a ||| pw c.b ||| pw c.c else if c.op = 11 ∨ c.op = 13 then pw c.a else 0
def wrg (c : Cd) : Int := if 1 ≤ c.op ∧ c.op ≤ 8 then c.a else -1
def wst (c : Cd) : Nat := if 1 ≤ c.op ∧ c.op ≤ 8 then pw c.a else 0
theorem CdOk.regs {o a b c : Int} (h : CdOk ⟨o, a, b, c⟩) : (0 ≤ a ∧ a ≤ 3) ∧ (o ≠ 1 → 0 ≤ b) ∧ (o ≠ 1 → o ≠ 13 → b ≤ 3) ∧ 0 ≤ c ∧ c ≤ 3 ∧ 1 ≤ o ∧ o ≤ 14 := by
  unfold CdOk Reg at h
  simp only at h
  omega
theorem rd_lt {c : Cd} (h : CdOk c) : rd c < 16 := by
  obtain ⟨o, a, b, d⟩ := c
  obtain ⟨h1, h2, h3, h4, h5, _⟩ := h.regs
  unfold rd
  simp only
  repeat' split
  all_goals first | exact pw_lt (by omega) | exact or_lt (pw_lt (by omega)) (pw_lt (by omega)) | exact or_lt (or_lt (pw_lt (by omega)) (pw_lt (by omega))) (pw_lt (by omega)) | decide
theorem wr_lt {c : Cd} (h : CdOk c) : wst c < 16 := by
  obtain ⟨o, a, b, d⟩ := c
  obtain ⟨h1, _⟩ := h.regs
  unfold wst
  simp only
  split
  · exact pw_lt (by omega)
  · decide

set_option maxHeartbeats 2000000 in
theorem screads_any (x : Cd) (w : World) (h : CdOk x) :
    Calls Try.prog 77 #[cdv x] w fun e w' => e = .returned (.int .i64 (rd x : Nat)) ∧ Pure w w' := by
  obtain ⟨o, a, b, c⟩ := x
  have H := Lib.hid h
  obtain ⟨⟨ha1, ha2⟩, hb0, hb3, hc1, hc2, ho1, ho2⟩ := h.regs
  have ho : o = 1 ∨ o = 2 ∨ o = 3 ∨ o = 4 ∨ o = 5 ∨ o = 6 ∨ o = 7 ∨ o = 8 ∨ o = 9 ∨ o = 10 ∨ o = 11 ∨ o = 12 ∨ o = 13 ∨ o = 14 := by omega
  clear h ho1 ho2
  unfold cdv
  simp only
  rcases ho with rfl | rfl | rfl | rfl | rfl | rfl | rfl | rfl | rfl | rfl | rfl | rfl | rfl | rfl
  · clear hb0 hb3
    have e : rd ⟨1, a, b, c⟩ = 0 := rfl
    rw [e]; clear e
    go_enter Try.func77, Try.ntmps77
    go_wp2_with fail
    refine (scv_any ⟨1, a, b, c⟩ _ true (by simp [H.out])).mono ?_
    rintro e w1 ⟨rfl, hp1⟩
    obtain ⟨q0, q1, q2, q3, hp⟩ := boxed hp1
    go_wp2
    go_ret
    exact ⟨rfl, (by repeat (first | assumption | exact Pure.refl _ | refine Pure.drewN ?_ _ | refine Pure.drew ?_ | refine Pure.alloc ?_ _ | refine Pure.setCell ?_ (by simp <;> omega) _))⟩
  · have hb1 := hb0 (by decide); have hb2 := hb3 (by decide) (by decide); clear hb0 hb3
    have e : rd ⟨2, a, b, c⟩ = 0 := rfl
    rw [e]; clear e
    go_enter Try.func77, Try.ntmps77
    go_wp2_with fail
    refine (scv_any ⟨2, a, b, c⟩ _ true (by simp [H.out])).mono ?_
    rintro e w1 ⟨rfl, hp1⟩
    obtain ⟨q0, q1, q2, q3, hp⟩ := boxed hp1
    go_wp2
    go_ret
    exact ⟨rfl, (by repeat (first | assumption | exact Pure.refl _ | refine Pure.drewN ?_ _ | refine Pure.drew ?_ | refine Pure.alloc ?_ _ | refine Pure.setCell ?_ (by simp <;> omega) _))⟩
  · have hb1 := hb0 (by decide); have hb2 := hb3 (by decide) (by decide); clear hb0 hb3
    have e : rd ⟨3, a, b, c⟩ = pw a ||| pw b := rfl
    rw [e]; clear e
    go_enter Try.func77, Try.ntmps77
    go_wp2_with fail
    refine (scv_any ⟨3, a, b, c⟩ _ true (by simp [H.out])).mono ?_
    rintro e w1 ⟨rfl, hp1⟩
    obtain ⟨q0, q1, q2, q3, hp⟩ := boxed hp1
    go_wp2
    go_quiet (fail)
    go_wp2
    go_ret
    exact ⟨by rw [shl_pw ha1 ha2, shl_pw hb1 hb2, or16 (pw_lt ha2) (pw_lt hb2)] <;> rfl, (by repeat (first | assumption | exact Pure.refl _ | refine Pure.drewN ?_ _ | refine Pure.drew ?_ | refine Pure.alloc ?_ _ | refine Pure.setCell ?_ (by simp <;> omega) _))⟩
  · have hb1 := hb0 (by decide); have hb2 := hb3 (by decide) (by decide); clear hb0 hb3
    have e : rd ⟨4, a, b, c⟩ = pw a ||| pw b := rfl
    rw [e]; clear e
    go_enter Try.func77, Try.ntmps77
    go_wp2_with fail
    refine (scv_any ⟨4, a, b, c⟩ _ true (by simp [H.out])).mono ?_
    rintro e w1 ⟨rfl, hp1⟩
    obtain ⟨q0, q1, q2, q3, hp⟩ := boxed hp1
    go_wp2
    go_quiet (fail)
    go_wp2
    go_ret
    exact ⟨by rw [shl_pw ha1 ha2, shl_pw hb1 hb2, or16 (pw_lt ha2) (pw_lt hb2)] <;> rfl, (by repeat (first | assumption | exact Pure.refl _ | refine Pure.drewN ?_ _ | refine Pure.drew ?_ | refine Pure.alloc ?_ _ | refine Pure.setCell ?_ (by simp <;> omega) _))⟩
  · have hb1 := hb0 (by decide); have hb2 := hb3 (by decide) (by decide); clear hb0 hb3
    have e : rd ⟨5, a, b, c⟩ = pw b := rfl
    rw [e]; clear e
    go_enter Try.func77, Try.ntmps77
    go_wp2_with fail
    refine (scv_any ⟨5, a, b, c⟩ _ true (by simp [H.out])).mono ?_
    rintro e w1 ⟨rfl, hp1⟩
    obtain ⟨q0, q1, q2, q3, hp⟩ := boxed hp1
    go_wp2
    go_ret
    exact ⟨by rw [shl_pw hb1 hb2] <;> rfl, (by repeat (first | assumption | exact Pure.refl _ | refine Pure.drewN ?_ _ | refine Pure.drew ?_ | refine Pure.alloc ?_ _ | refine Pure.setCell ?_ (by simp <;> omega) _))⟩
  · have hb1 := hb0 (by decide); have hb2 := hb3 (by decide) (by decide); clear hb0 hb3
    have e : rd ⟨6, a, b, c⟩ = pw b ||| pw c := rfl
    rw [e]; clear e
    go_enter Try.func77, Try.ntmps77
    go_wp2_with fail
    refine (scv_any ⟨6, a, b, c⟩ _ true (by simp [H.out])).mono ?_
    rintro e w1 ⟨rfl, hp1⟩
    obtain ⟨q0, q1, q2, q3, hp⟩ := boxed hp1
    go_wp2
    go_quiet (fail)
    go_wp2
    go_ret
    exact ⟨by rw [shl_pw hb1 hb2, shl_pw hc1 hc2, or16 (pw_lt hb2) (pw_lt hc2)] <;> rfl, (by repeat (first | assumption | exact Pure.refl _ | refine Pure.drewN ?_ _ | refine Pure.drew ?_ | refine Pure.alloc ?_ _ | refine Pure.setCell ?_ (by simp <;> omega) _))⟩
  · have hb1 := hb0 (by decide); have hb2 := hb3 (by decide) (by decide); clear hb0 hb3
    have e : rd ⟨7, a, b, c⟩ = pw a ||| pw b ||| pw c := rfl
    rw [e]; clear e
    go_enter Try.func77, Try.ntmps77
    go_wp2_with fail
    refine (scv_any ⟨7, a, b, c⟩ _ true (by simp [H.out])).mono ?_
    rintro e w1 ⟨rfl, hp1⟩
    obtain ⟨q0, q1, q2, q3, hp⟩ := boxed hp1
    go_wp2
    go_quiet (fail)
    go_wp2
    go_ret
    exact ⟨by rw [shl_pw ha1 ha2, shl_pw hb1 hb2, shl_pw hc1 hc2, or16 (pw_lt ha2) (pw_lt hb2), or16 (or_lt (pw_lt ha2) (pw_lt hb2)) (pw_lt hc2)] <;> rfl, (by repeat (first | assumption | exact Pure.refl _ | refine Pure.drewN ?_ _ | refine Pure.drew ?_ | refine Pure.alloc ?_ _ | refine Pure.setCell ?_ (by simp <;> omega) _))⟩
  · have hb1 := hb0 (by decide); have hb2 := hb3 (by decide) (by decide); clear hb0 hb3
    have e : rd ⟨8, a, b, c⟩ = pw b := rfl
    rw [e]; clear e
    go_enter Try.func77, Try.ntmps77
    go_wp2_with fail
    refine (scv_any ⟨8, a, b, c⟩ _ true (by simp [H.out])).mono ?_
    rintro e w1 ⟨rfl, hp1⟩
    obtain ⟨q0, q1, q2, q3, hp⟩ := boxed hp1
    go_wp2
    go_ret
    exact ⟨by rw [shl_pw hb1 hb2] <;> rfl, (by repeat (first | assumption | exact Pure.refl _ | refine Pure.drewN ?_ _ | refine Pure.drew ?_ | refine Pure.alloc ?_ _ | refine Pure.setCell ?_ (by simp <;> omega) _))⟩
  · have hb1 := hb0 (by decide); have hb2 := hb3 (by decide) (by decide); clear hb0 hb3
    have e : rd ⟨9, a, b, c⟩ = pw a ||| pw b := rfl
    rw [e]; clear e
    go_enter Try.func77, Try.ntmps77
    go_wp2_with fail
    refine (scv_any ⟨9, a, b, c⟩ _ true (by simp [H.out])).mono ?_
    rintro e w1 ⟨rfl, hp1⟩
    obtain ⟨q0, q1, q2, q3, hp⟩ := boxed hp1
    go_wp2
    go_quiet (fail)
    go_wp2
    go_ret
    exact ⟨by rw [shl_pw ha1 ha2, shl_pw hb1 hb2, or16 (pw_lt ha2) (pw_lt hb2)] <;> rfl, (by repeat (first | assumption | exact Pure.refl _ | refine Pure.drewN ?_ _ | refine Pure.drew ?_ | refine Pure.alloc ?_ _ | refine Pure.setCell ?_ (by simp <;> omega) _))⟩
  · have hb1 := hb0 (by decide); have hb2 := hb3 (by decide) (by decide); clear hb0 hb3
    have e : rd ⟨10, a, b, c⟩ = 0 := rfl
    rw [e]; clear e
    go_enter Try.func77, Try.ntmps77
    go_wp2_with fail
    refine (scv_any ⟨10, a, b, c⟩ _ true (by simp [H.out])).mono ?_
    rintro e w1 ⟨rfl, hp1⟩
    obtain ⟨q0, q1, q2, q3, hp⟩ := boxed hp1
    go_wp2
    go_ret
    exact ⟨rfl, (by repeat (first | assumption | exact Pure.refl _ | refine Pure.drewN ?_ _ | refine Pure.drew ?_ | refine Pure.alloc ?_ _ | refine Pure.setCell ?_ (by simp <;> omega) _))⟩
  · have hb1 := hb0 (by decide); have hb2 := hb3 (by decide) (by decide); clear hb0 hb3
    have e : rd ⟨11, a, b, c⟩ = pw a := rfl
    rw [e]; clear e
    go_enter Try.func77, Try.ntmps77
    go_wp2_with fail
    refine (scv_any ⟨11, a, b, c⟩ _ true (by simp [H.out])).mono ?_
    rintro e w1 ⟨rfl, hp1⟩
    obtain ⟨q0, q1, q2, q3, hp⟩ := boxed hp1
    go_wp2
    go_ret
    exact ⟨by rw [shl_pw ha1 ha2] <;> rfl, (by repeat (first | assumption | exact Pure.refl _ | refine Pure.drewN ?_ _ | refine Pure.drew ?_ | refine Pure.alloc ?_ _ | refine Pure.setCell ?_ (by simp <;> omega) _))⟩
  · have hb1 := hb0 (by decide); have hb2 := hb3 (by decide) (by decide); clear hb0 hb3
    have e : rd ⟨12, a, b, c⟩ = 0 := rfl
    rw [e]; clear e
    go_enter Try.func77, Try.ntmps77
    go_wp2_with fail
    refine (scv_any ⟨12, a, b, c⟩ _ true (by simp [H.out])).mono ?_
    rintro e w1 ⟨rfl, hp1⟩
    obtain ⟨q0, q1, q2, q3, hp⟩ := boxed hp1
    go_wp2
    go_ret
    exact ⟨rfl, (by repeat (first | assumption | exact Pure.refl _ | refine Pure.drewN ?_ _ | refine Pure.drew ?_ | refine Pure.alloc ?_ _ | refine Pure.setCell ?_ (by simp <;> omega) _))⟩
  · have hb1 := hb0 (by decide); clear hb0 hb3
    have e : rd ⟨13, a, b, c⟩ = pw a := rfl
    rw [e]; clear e
    go_enter Try.func77, Try.ntmps77
    go_wp2_with fail
    refine (scv_any ⟨13, a, b, c⟩ _ true (by simp [H.out])).mono ?_
    rintro e w1 ⟨rfl, hp1⟩
    obtain ⟨q0, q1, q2, q3, hp⟩ := boxed hp1
    go_wp2
    go_ret
    exact ⟨by rw [shl_pw ha1 ha2] <;> rfl, (by repeat (first | assumption | exact Pure.refl _ | refine Pure.drewN ?_ _ | refine Pure.drew ?_ | refine Pure.alloc ?_ _ | refine Pure.setCell ?_ (by simp <;> omega) _))⟩
  · have hb1 := hb0 (by decide); have hb2 := hb3 (by decide) (by decide); clear hb0 hb3
    have e : rd ⟨14, a, b, c⟩ = 0 := rfl
    rw [e]; clear e
    go_enter Try.func77, Try.ntmps77
    go_wp2_with fail
    refine (scv_any ⟨14, a, b, c⟩ _ true (by simp [H.out])).mono ?_
    rintro e w1 ⟨rfl, hp1⟩
    obtain ⟨q0, q1, q2, q3, hp⟩ := boxed hp1
    go_wp2
    go_ret
    exact ⟨rfl, (by repeat (first | assumption | exact Pure.refl _ | refine Pure.drewN ?_ _ | refine Pure.drew ?_ | refine Pure.alloc ?_ _ | refine Pure.setCell ?_ (by simp <;> omega) _))⟩

set_option maxHeartbeats 2000000 in
theorem icreads_any (x : Cd) (w : World) (h : CdOk x) :
    Calls Try.prog 90 #[cdv x] w fun e w' => e = .returned (.int .i64 (rd x : Nat)) ∧ Pure w w' := by
  obtain ⟨o, a, b, c⟩ := x
  have H := Lib.hid h
  obtain ⟨⟨ha1, ha2⟩, hb0, hb3, hc1, hc2, ho1, ho2⟩ := h.regs
  have ho : o = 1 ∨ o = 2 ∨ o = 3 ∨ o = 4 ∨ o = 5 ∨ o = 6 ∨ o = 7 ∨ o = 8 ∨ o = 9 ∨ o = 10 ∨ o = 11 ∨ o = 12 ∨ o = 13 ∨ o = 14 := by omega
  clear h ho1 ho2
  unfold cdv
  simp only
  rcases ho with rfl | rfl | rfl | rfl | rfl | rfl | rfl | rfl | rfl | rfl | rfl | rfl | rfl | rfl
  · clear hb0 hb3
    have e : rd ⟨1, a, b, c⟩ = 0 := rfl
    rw [e]; clear e
    go_enter Try.func90, Try.ntmps90
    go_wp2_with fail
    refine (icv_any ⟨1, a, b, c⟩ _ true (by simp [H.out])).mono ?_
    rintro e w1 ⟨rfl, hp1⟩
    obtain ⟨q0, q1, q2, q3, hp⟩ := boxed hp1
    go_wp2_with (go_at_call 95; go_must (refine (registers_any 1 _ 1 rfl).mono ?_); rintro e w2 ⟨rfl, rfl⟩)
    go_ret
    exact ⟨rfl, (by repeat (first | assumption | exact Pure.refl _ | refine Pure.drewN ?_ _ | refine Pure.drew ?_ | refine Pure.alloc ?_ _ | refine Pure.setCell ?_ (by simp <;> omega) _))⟩
  · have hb1 := hb0 (by decide); have hb2 := hb3 (by decide) (by decide); clear hb0 hb3
    have e : rd ⟨2, a, b, c⟩ = 0 := rfl
    rw [e]; clear e
    go_enter Try.func90, Try.ntmps90
    go_wp2_with fail
    refine (icv_any ⟨2, a, b, c⟩ _ true (by simp [H.out])).mono ?_
    rintro e w1 ⟨rfl, hp1⟩
    obtain ⟨q0, q1, q2, q3, hp⟩ := boxed hp1
    go_wp2_with (go_at_call 95; go_must (refine (registers_any 2 _ 1 rfl).mono ?_); rintro e w2 ⟨rfl, rfl⟩)
    go_ret
    exact ⟨rfl, (by repeat (first | assumption | exact Pure.refl _ | refine Pure.drewN ?_ _ | refine Pure.drew ?_ | refine Pure.alloc ?_ _ | refine Pure.setCell ?_ (by simp <;> omega) _))⟩
  · have hb1 := hb0 (by decide); have hb2 := hb3 (by decide) (by decide); clear hb0 hb3
    have e : rd ⟨3, a, b, c⟩ = pw a ||| pw b := rfl
    rw [e]; clear e
    go_enter Try.func90, Try.ntmps90
    go_wp2_with fail
    refine (icv_any ⟨3, a, b, c⟩ _ true (by simp [H.out])).mono ?_
    rintro e w1 ⟨rfl, hp1⟩
    obtain ⟨q0, q1, q2, q3, hp⟩ := boxed hp1
    go_wp2_with (go_at_call 95; go_must (refine (registers_any 3 _ 2 rfl).mono ?_); rintro e w2 ⟨rfl, rfl⟩)
    go_ret
    exact ⟨by rw [shl_pw ha1 ha2, shl_pw hb1 hb2, or16 (pw_lt ha2) (pw_lt hb2)] <;> rfl, (by repeat (first | assumption | exact Pure.refl _ | refine Pure.drewN ?_ _ | refine Pure.drew ?_ | refine Pure.alloc ?_ _ | refine Pure.setCell ?_ (by simp <;> omega) _))⟩
  · have hb1 := hb0 (by decide); have hb2 := hb3 (by decide) (by decide); clear hb0 hb3
    have e : rd ⟨4, a, b, c⟩ = pw a ||| pw b := rfl
    rw [e]; clear e
    go_enter Try.func90, Try.ntmps90
    go_wp2_with fail
    refine (icv_any ⟨4, a, b, c⟩ _ true (by simp [H.out])).mono ?_
    rintro e w1 ⟨rfl, hp1⟩
    obtain ⟨q0, q1, q2, q3, hp⟩ := boxed hp1
    go_wp2_with (go_at_call 95; go_must (refine (registers_any 4 _ 2 rfl).mono ?_); rintro e w2 ⟨rfl, rfl⟩)
    go_ret
    exact ⟨by rw [shl_pw ha1 ha2, shl_pw hb1 hb2, or16 (pw_lt ha2) (pw_lt hb2)] <;> rfl, (by repeat (first | assumption | exact Pure.refl _ | refine Pure.drewN ?_ _ | refine Pure.drew ?_ | refine Pure.alloc ?_ _ | refine Pure.setCell ?_ (by simp <;> omega) _))⟩
  · have hb1 := hb0 (by decide); have hb2 := hb3 (by decide) (by decide); clear hb0 hb3
    have e : rd ⟨5, a, b, c⟩ = pw b := rfl
    rw [e]; clear e
    go_enter Try.func90, Try.ntmps90
    go_wp2_with fail
    refine (icv_any ⟨5, a, b, c⟩ _ true (by simp [H.out])).mono ?_
    rintro e w1 ⟨rfl, hp1⟩
    obtain ⟨q0, q1, q2, q3, hp⟩ := boxed hp1
    go_wp2_with (go_at_call 95; go_must (refine (registers_any 5 _ 2 rfl).mono ?_); rintro e w2 ⟨rfl, rfl⟩)
    go_ret
    exact ⟨by rw [shl_pw hb1 hb2] <;> rfl, (by repeat (first | assumption | exact Pure.refl _ | refine Pure.drewN ?_ _ | refine Pure.drew ?_ | refine Pure.alloc ?_ _ | refine Pure.setCell ?_ (by simp <;> omega) _))⟩
  · have hb1 := hb0 (by decide); have hb2 := hb3 (by decide) (by decide); clear hb0 hb3
    have e : rd ⟨6, a, b, c⟩ = pw b ||| pw c := rfl
    rw [e]; clear e
    go_enter Try.func90, Try.ntmps90
    go_wp2_with fail
    refine (icv_any ⟨6, a, b, c⟩ _ true (by simp [H.out])).mono ?_
    rintro e w1 ⟨rfl, hp1⟩
    obtain ⟨q0, q1, q2, q3, hp⟩ := boxed hp1
    go_wp2_with (go_at_call 95; go_must (refine (registers_any 6 _ 3 rfl).mono ?_); rintro e w2 ⟨rfl, rfl⟩)
    go_ret
    exact ⟨by rw [shl_pw hb1 hb2, shl_pw hc1 hc2, or16 (pw_lt hb2) (pw_lt hc2)] <;> rfl, (by repeat (first | assumption | exact Pure.refl _ | refine Pure.drewN ?_ _ | refine Pure.drew ?_ | refine Pure.alloc ?_ _ | refine Pure.setCell ?_ (by simp <;> omega) _))⟩
  · have hb1 := hb0 (by decide); have hb2 := hb3 (by decide) (by decide); clear hb0 hb3
    have e : rd ⟨7, a, b, c⟩ = pw a ||| pw b ||| pw c := rfl
    rw [e]; clear e
    go_enter Try.func90, Try.ntmps90
    go_wp2_with fail
    refine (icv_any ⟨7, a, b, c⟩ _ true (by simp [H.out])).mono ?_
    rintro e w1 ⟨rfl, hp1⟩
    obtain ⟨q0, q1, q2, q3, hp⟩ := boxed hp1
    go_wp2_with (go_at_call 95; go_must (refine (registers_any 7 _ 3 rfl).mono ?_); rintro e w2 ⟨rfl, rfl⟩)
    go_ret
    exact ⟨by rw [shl_pw ha1 ha2, shl_pw hb1 hb2, shl_pw hc1 hc2, or16 (pw_lt ha2) (pw_lt hb2), or16 (or_lt (pw_lt ha2) (pw_lt hb2)) (pw_lt hc2)] <;> rfl, (by repeat (first | assumption | exact Pure.refl _ | refine Pure.drewN ?_ _ | refine Pure.drew ?_ | refine Pure.alloc ?_ _ | refine Pure.setCell ?_ (by simp <;> omega) _))⟩
  · have hb1 := hb0 (by decide); have hb2 := hb3 (by decide) (by decide); clear hb0 hb3
    have e : rd ⟨8, a, b, c⟩ = pw b := rfl
    rw [e]; clear e
    go_enter Try.func90, Try.ntmps90
    go_wp2_with fail
    refine (icv_any ⟨8, a, b, c⟩ _ true (by simp [H.out])).mono ?_
    rintro e w1 ⟨rfl, hp1⟩
    obtain ⟨q0, q1, q2, q3, hp⟩ := boxed hp1
    go_wp2_with (go_at_call 95; go_must (refine (registers_any 8 _ 2 rfl).mono ?_); rintro e w2 ⟨rfl, rfl⟩)
    go_ret
    exact ⟨by rw [shl_pw hb1 hb2] <;> rfl, (by repeat (first | assumption | exact Pure.refl _ | refine Pure.drewN ?_ _ | refine Pure.drew ?_ | refine Pure.alloc ?_ _ | refine Pure.setCell ?_ (by simp <;> omega) _))⟩
  · have hb1 := hb0 (by decide); have hb2 := hb3 (by decide) (by decide); clear hb0 hb3
    have e : rd ⟨9, a, b, c⟩ = pw a ||| pw b := rfl
    rw [e]; clear e
    go_enter Try.func90, Try.ntmps90
    go_wp2_with fail
    refine (icv_any ⟨9, a, b, c⟩ _ true (by simp [H.out])).mono ?_
    rintro e w1 ⟨rfl, hp1⟩
    obtain ⟨q0, q1, q2, q3, hp⟩ := boxed hp1
    go_wp2_with (go_at_call 95; go_must (refine (registers_any 9 _ 2 rfl).mono ?_); rintro e w2 ⟨rfl, rfl⟩)
    go_ret
    exact ⟨by rw [shl_pw ha1 ha2, shl_pw hb1 hb2, or16 (pw_lt ha2) (pw_lt hb2)] <;> rfl, (by repeat (first | assumption | exact Pure.refl _ | refine Pure.drewN ?_ _ | refine Pure.drew ?_ | refine Pure.alloc ?_ _ | refine Pure.setCell ?_ (by simp <;> omega) _))⟩
  · have hb1 := hb0 (by decide); have hb2 := hb3 (by decide) (by decide); clear hb0 hb3
    have e : rd ⟨10, a, b, c⟩ = 0 := rfl
    rw [e]; clear e
    go_enter Try.func90, Try.ntmps90
    go_wp2_with fail
    refine (icv_any ⟨10, a, b, c⟩ _ true (by simp [H.out])).mono ?_
    rintro e w1 ⟨rfl, hp1⟩
    obtain ⟨q0, q1, q2, q3, hp⟩ := boxed hp1
    go_wp2_with (go_at_call 95; go_must (refine (registers_any 10 _ 0 rfl).mono ?_); rintro e w2 ⟨rfl, rfl⟩)
    go_ret
    exact ⟨rfl, (by repeat (first | assumption | exact Pure.refl _ | refine Pure.drewN ?_ _ | refine Pure.drew ?_ | refine Pure.alloc ?_ _ | refine Pure.setCell ?_ (by simp <;> omega) _))⟩
  · have hb1 := hb0 (by decide); have hb2 := hb3 (by decide) (by decide); clear hb0 hb3
    have e : rd ⟨11, a, b, c⟩ = pw a := rfl
    rw [e]; clear e
    go_enter Try.func90, Try.ntmps90
    go_wp2_with fail
    refine (icv_any ⟨11, a, b, c⟩ _ true (by simp [H.out])).mono ?_
    rintro e w1 ⟨rfl, hp1⟩
    obtain ⟨q0, q1, q2, q3, hp⟩ := boxed hp1
    go_wp2_with (go_at_call 95; go_must (refine (registers_any 11 _ 1 rfl).mono ?_); rintro e w2 ⟨rfl, rfl⟩)
    go_ret
    exact ⟨by rw [shl_pw ha1 ha2] <;> rfl, (by repeat (first | assumption | exact Pure.refl _ | refine Pure.drewN ?_ _ | refine Pure.drew ?_ | refine Pure.alloc ?_ _ | refine Pure.setCell ?_ (by simp <;> omega) _))⟩
  · have hb1 := hb0 (by decide); have hb2 := hb3 (by decide) (by decide); clear hb0 hb3
    have e : rd ⟨12, a, b, c⟩ = 0 := rfl
    rw [e]; clear e
    go_enter Try.func90, Try.ntmps90
    go_wp2_with fail
    refine (icv_any ⟨12, a, b, c⟩ _ true (by simp [H.out])).mono ?_
    rintro e w1 ⟨rfl, hp1⟩
    obtain ⟨q0, q1, q2, q3, hp⟩ := boxed hp1
    go_wp2_with (go_at_call 95; go_must (refine (registers_any 12 _ 0 rfl).mono ?_); rintro e w2 ⟨rfl, rfl⟩)
    go_ret
    exact ⟨rfl, (by repeat (first | assumption | exact Pure.refl _ | refine Pure.drewN ?_ _ | refine Pure.drew ?_ | refine Pure.alloc ?_ _ | refine Pure.setCell ?_ (by simp <;> omega) _))⟩
  · have hb1 := hb0 (by decide); clear hb0 hb3
    have e : rd ⟨13, a, b, c⟩ = pw a := rfl
    rw [e]; clear e
    go_enter Try.func90, Try.ntmps90
    go_wp2_with fail
    refine (icv_any ⟨13, a, b, c⟩ _ true (by simp [H.out])).mono ?_
    rintro e w1 ⟨rfl, hp1⟩
    obtain ⟨q0, q1, q2, q3, hp⟩ := boxed hp1
    go_wp2_with (go_at_call 95; go_must (refine (registers_any 13 _ 1 rfl).mono ?_); rintro e w2 ⟨rfl, rfl⟩)
    go_ret
    exact ⟨by rw [shl_pw ha1 ha2] <;> rfl, (by repeat (first | assumption | exact Pure.refl _ | refine Pure.drewN ?_ _ | refine Pure.drew ?_ | refine Pure.alloc ?_ _ | refine Pure.setCell ?_ (by simp <;> omega) _))⟩
  · have hb1 := hb0 (by decide); have hb2 := hb3 (by decide) (by decide); clear hb0 hb3
    have e : rd ⟨14, a, b, c⟩ = 0 := rfl
    rw [e]; clear e
    go_enter Try.func90, Try.ntmps90
    go_wp2_with fail
    refine (icv_any ⟨14, a, b, c⟩ _ true (by simp [H.out])).mono ?_
    rintro e w1 ⟨rfl, hp1⟩
    obtain ⟨q0, q1, q2, q3, hp⟩ := boxed hp1
    go_wp2_with (go_at_call 95; go_must (refine (registers_any 14 _ 0 rfl).mono ?_); rintro e w2 ⟨rfl, rfl⟩)
    go_ret
    exact ⟨rfl, (by repeat (first | assumption | exact Pure.refl _ | refine Pure.drewN ?_ _ | refine Pure.drew ?_ | refine Pure.alloc ?_ _ | refine Pure.setCell ?_ (by simp <;> omega) _))⟩

end Go.Proofs.Ytmhaaihgepldhaa
