/- What an instruction does to one lane that has registers of its own, as the program reckons it. One lane alone, plainly: its next instruction; where it is, told by a tree and what is around it; that its way ends. No program in sight. Lanes that run by themselves on one memory, plainly: steps, barriers, the lanes at the least place. No program in sight. No condition. -/
import Derived.StillTailTactics
import Derived.Test.YtkolnakcgjlcgaaQab
import Derived.Test.YtkolnakcgjlcgaaQad

namespace Go.Proofs.Ytkolnakcgjlcgaa.Lw
open Go.RowKit

set_option maxHeartbeats 1000000 in
set_option maxRecDepth 100000 in
theorem i6_1 (o : RMo) (k : Nat) (an : Nat) (han : an < 4) (b : Int) (w : World) (R : Nat → Nat → Int) (M : Nat → Int) (h : RM o w R M) (hk : o.Is k) (_hR : ∀ r, Word (R k r)) :
    Calls Try.prog 93 #[cdv ⟨1, an, b, 0⟩, .int .i64 k, o.row k, o.vm] w (SimPost o ⟨1, an, b, 0⟩ k R M w) := by
  have H := Lib.hid h
  have hk8 : k < 8 := hk.lt
  have hlt : o.rows k < w.heap.size := h.rowLt hk
  have ha0 : (0 : Int) ≤ (an : Int) := by omega
  have ha4 : (an : Int) < 4 := by omega
  have f1 := h.regFrozen hk an
  have qa := h.regCell hk han
  clear h _hR
  unfold cdv RMo.row RMo.vm
  simp only
  go_enter Try.func93, Try.ntmps93
  go_wp2
  go_end0
  exact SimPost.reg H.out hk han rfl rfl (by repeat (first | assumption | exact Pure.refl _ | refine Pure.drewN ?_ _ | refine Pure.drew ?_ | refine Pure.alloc ?_ _ | refine Pure.setCell ?_ (by simp <;> omega) _))

set_option maxHeartbeats 1000000 in
set_option maxRecDepth 100000 in
theorem i6_2 (o : RMo) (k : Nat) (an : Nat) (han : an < 4) (w : World) (R : Nat → Nat → Int) (M : Nat → Int) (h : RM o w R M) (hk : o.Is k) (_hR : ∀ r, Word (R k r)) :
    Calls Try.prog 93 #[cdv ⟨2, an, 0, 0⟩, .int .i64 k, o.row k, o.vm] w (SimPost o ⟨2, an, 0, 0⟩ k R M w) := by
  have H := Lib.hid h
  have hk8 : k < 8 := hk.lt
  have hlt : o.rows k < w.heap.size := h.rowLt hk
  have ha0 : (0 : Int) ≤ (an : Int) := by omega
  have ha4 : (an : Int) < 4 := by omega
  have f1 := h.regFrozen hk an
  have qa := h.regCell hk han
  clear h _hR
  unfold cdv RMo.row RMo.vm
  simp only
  go_enter Try.func93, Try.ntmps93
  go_wp2
  go_end0
  exact SimPost.reg H.out hk han rfl rfl (by repeat (first | assumption | exact Pure.refl _ | refine Pure.drewN ?_ _ | refine Pure.drew ?_ | refine Pure.alloc ?_ _ | refine Pure.setCell ?_ (by simp <;> omega) _))

set_option maxHeartbeats 1000000 in
set_option maxRecDepth 100000 in
theorem i6_3 (o : RMo) (k : Nat) (an : Nat) (han : an < 4) (bn : Nat) (hbn : bn < 4) (w : World) (R : Nat → Nat → Int) (M : Nat → Int) (h : RM o w R M) (hk : o.Is k) (hR : ∀ r, Word (R k r)) :
    Calls Try.prog 93 #[cdv ⟨3, an, bn, 0⟩, .int .i64 k, o.row k, o.vm] w (SimPost o ⟨3, an, bn, 0⟩ k R M w) := by
  have H := Lib.hid h
  have hk8 : k < 8 := hk.lt
  have hlt : o.rows k < w.heap.size := h.rowLt hk
  have ha0 : (0 : Int) ≤ (an : Int) := by omega
  have ha4 : (an : Int) < 4 := by omega
  have hb0 : (0 : Int) ≤ (bn : Int) := by omega
  have hb4 : (bn : Int) < 4 := by omega
  have f1 := h.regFrozen hk an
  have qa := h.regCell hk han
  obtain ⟨x, Hx⟩ : ∃ x, Hid (R k an = x) := ⟨_, rfl⟩
  have hwx : Word x := by rw [← Hx.out]; exact hR an
  rw [Hx.out] at qa
  have qb := h.regCell hk hbn
  obtain ⟨y, Hy⟩ : ∃ y, Hid (R k bn = y) := ⟨_, rfl⟩
  have hwy : Word y := by rw [← Hy.out]; exact hR bn
  rw [Hy.out] at qb
  have HWx := Lib.hid hwx; clear hwx
  have HWy := Lib.hid hwy; clear hwy
  clear h hR
  unfold cdv RMo.row RMo.vm
  simp only
  go_enter Try.func93, Try.ntmps93
  go_wp2
  refine region_tail 15 (by kernel_rfl) (by kernel_rfl) ?_
  simp only [List.take_succ_cons, List.take_zero, List.drop_succ_cons, List.drop_zero]
  repeat still_step
  still_call ((iWordAdd_any x y _ HWx.out HWy.out).mono fun e w' h => ⟨h.1, h.2.symm⟩)
  repeat still_step
  refine wpStill_nil ?_
  go_wp2
  go_end0
  exact SimPost.reg H.out hk han (show setF (R k) an ((R k an + R k bn) % 256) = _ by rw [Hx.out, Hy.out]) rfl (by repeat (first | assumption | exact Pure.refl _ | refine Pure.drewN ?_ _ | refine Pure.drew ?_ | refine Pure.alloc ?_ _ | refine Pure.setCell ?_ (by simp <;> omega) _))

set_option maxHeartbeats 1000000 in
set_option maxRecDepth 100000 in
theorem i6_4 (o : RMo) (k : Nat) (an : Nat) (han : an < 4) (bn : Nat) (hbn : bn < 4) (w : World) (R : Nat → Nat → Int) (M : Nat → Int) (h : RM o w R M) (hk : o.Is k) (hR : ∀ r, Word (R k r)) :
    Calls Try.prog 93 #[cdv ⟨4, an, bn, 0⟩, .int .i64 k, o.row k, o.vm] w (SimPost o ⟨4, an, bn, 0⟩ k R M w) := by
  have H := Lib.hid h
  have hk8 : k < 8 := hk.lt
  have hlt : o.rows k < w.heap.size := h.rowLt hk
  have ha0 : (0 : Int) ≤ (an : Int) := by omega
  have ha4 : (an : Int) < 4 := by omega
  have hb0 : (0 : Int) ≤ (bn : Int) := by omega
  have hb4 : (bn : Int) < 4 := by omega
  have f1 := h.regFrozen hk an
  have qa := h.regCell hk han
  obtain ⟨x, Hx⟩ : ∃ x, Hid (R k an = x) := ⟨_, rfl⟩
  have hwx : Word x := by rw [← Hx.out]; exact hR an
  rw [Hx.out] at qa
  have qb := h.regCell hk hbn
  obtain ⟨y, Hy⟩ : ∃ y, Hid (R k bn = y) := ⟨_, rfl⟩
  have hwy : Word y := by rw [← Hy.out]; exact hR bn
  rw [Hy.out] at qb
  have HWx := Lib.hid hwx; clear hwx
  have HWy := Lib.hid hwy; clear hwy
  clear h hR
  unfold cdv RMo.row RMo.vm
  simp only
  go_enter Try.func93, Try.ntmps93
  go_wp2
  refine region_tail 15 (by kernel_rfl) (by kernel_rfl) ?_
  simp only [List.take_succ_cons, List.take_zero, List.drop_succ_cons, List.drop_zero]
  repeat still_step
  still_call ((iWordMul_any x y _ HWx.out HWy.out).mono fun e w' h => ⟨h.1, h.2.symm⟩)
  repeat still_step
  refine wpStill_nil ?_
  go_wp2
  go_end0
  exact SimPost.reg H.out hk han (show setF (R k) an (R k an * R k bn % 256) = _ by rw [Hx.out, Hy.out]) rfl (by repeat (first | assumption | exact Pure.refl _ | refine Pure.drewN ?_ _ | refine Pure.drew ?_ | refine Pure.alloc ?_ _ | refine Pure.setCell ?_ (by simp <;> omega) _))

set_option maxHeartbeats 1000000 in
set_option maxRecDepth 100000 in
theorem i6_5 (o : RMo) (k : Nat) (an : Nat) (han : an < 4) (bn : Nat) (hbn : bn < 4) (w : World) (R : Nat → Nat → Int) (M : Nat → Int) (h : RM o w R M) (hk : o.Is k) (hR : ∀ r, Word (R k r)) :
    Calls Try.prog 93 #[cdv ⟨5, an, bn, 0⟩, .int .i64 k, o.row k, o.vm] w (SimPost o ⟨5, an, bn, 0⟩ k R M w) := by
  have H := Lib.hid h
  have hk8 : k < 8 := hk.lt
  have hlt : o.rows k < w.heap.size := h.rowLt hk
  have ha0 : (0 : Int) ≤ (an : Int) := by omega
  have ha4 : (an : Int) < 4 := by omega
  have hb0 : (0 : Int) ≤ (bn : Int) := by omega
  have hb4 : (bn : Int) < 4 := by omega
  have f1 := h.regFrozen hk an
  have qa := h.regCell hk han
  have qb := h.regCell hk hbn
  obtain ⟨y, Hy⟩ : ∃ y, Hid (R k bn = y) := ⟨_, rfl⟩
  have hwy : Word y := by rw [← Hy.out]; exact hR bn
  rw [Hy.out] at qb
  clear h hR
  unfold cdv RMo.row RMo.vm
  simp only
  go_enter Try.func93, Try.ntmps93
  go_wp2
  refine region_tail 9 (by kernel_rfl) (by kernel_rfl) ?_
  simp only [List.take_succ_cons, List.take_zero, List.drop_succ_cons, List.drop_zero]
  repeat still_step
  refine wpStill_nil ?_
  go_wp2
  go_end0
  exact SimPost.reg H.out hk han (show setF (R k) an (R k bn) = _ by rw [Hy.out]) rfl (by repeat (first | assumption | exact Pure.refl _ | refine Pure.drewN ?_ _ | refine Pure.drew ?_ | refine Pure.alloc ?_ _ | refine Pure.setCell ?_ (by simp <;> omega) _))

set_option maxHeartbeats 1000000 in
set_option maxRecDepth 100000 in
theorem i6_6 (o : RMo) (k : Nat) (an : Nat) (han : an < 4) (bn : Nat) (hbn : bn < 4) (cn : Nat) (hcn : cn < 4) (w : World) (R : Nat → Nat → Int) (M : Nat → Int) (h : RM o w R M) (hk : o.Is k) (hR : ∀ r, Word (R k r)) :
    Calls Try.prog 93 #[cdv ⟨6, an, bn, cn⟩, .int .i64 k, o.row k, o.vm] w (SimPost o ⟨6, an, bn, cn⟩ k R M w) := by
  have H := Lib.hid h
  have hk8 : k < 8 := hk.lt
  have hlt : o.rows k < w.heap.size := h.rowLt hk
  have ha0 : (0 : Int) ≤ (an : Int) := by omega
  have ha4 : (an : Int) < 4 := by omega
  have hb0 : (0 : Int) ≤ (bn : Int) := by omega
  have hb4 : (bn : Int) < 4 := by omega
  have hc0 : (0 : Int) ≤ (cn : Int) := by omega
  have hc4 : (cn : Int) < 4 := by omega
  have f1 := h.regFrozen hk an
  have qa := h.regCell hk han
  have qb := h.regCell hk hbn
  obtain ⟨y, Hy⟩ : ∃ y, Hid (R k bn = y) := ⟨_, rfl⟩
  have hwy : Word y := by rw [← Hy.out]; exact hR bn
  rw [Hy.out] at qb
  have qc := h.regCell hk hcn
  obtain ⟨z, Hz⟩ : ∃ z, Hid (R k cn = z) := ⟨_, rfl⟩
  have hwz : Word z := by rw [← Hz.out]; exact hR cn
  rw [Hz.out] at qc
  have HWy := Lib.hid hwy; clear hwy
  have HWz := Lib.hid hwz; clear hwz
  obtain ⟨b, Hb⟩ : ∃ b : Int, Hid ((if y < z then 1 else 0) = b) := ⟨_, rfl⟩
  have hL : ∀ w : World, Calls Try.prog 118 #[.int .i64 y, .int .i64 z] w fun e w' => e = .returned (.int .i64 b) ∧ w' = w := fun w => (iWordLess_any y z w HWy.out HWz.out).mono fun e w' h => ⟨by rw [← Hb.out]; exact h.1, h.2.symm⟩
  have HL := Lib.hid hL; clear hL
  clear h hR
  unfold cdv RMo.row RMo.vm
  simp only
  go_enter Try.func93, Try.ntmps93
  go_wp2
  refine region_tail 15 (by kernel_rfl) (by kernel_rfl) ?_
  simp only [List.take_succ_cons, List.take_zero, List.drop_succ_cons, List.drop_zero]
  repeat still_step
  still_call (HL.out _)
  repeat still_step
  refine wpStill_nil ?_
  go_wp2
  go_end0
  exact SimPost.reg H.out hk han (show setF (R k) an (if R k bn < R k cn then 1 else 0) = _ by rw [Hy.out, Hz.out, Hb.out]) rfl (by repeat (first | assumption | exact Pure.refl _ | refine Pure.drewN ?_ _ | refine Pure.drew ?_ | refine Pure.alloc ?_ _ | refine Pure.setCell ?_ (by simp <;> omega) _))

set_option maxHeartbeats 1000000 in
set_option maxRecDepth 100000 in
theorem i6_7 (o : RMo) (k : Nat) (an : Nat) (han : an < 4) (bn : Nat) (hbn : bn < 4) (cn : Nat) (hcn : cn < 4) (w : World) (R : Nat → Nat → Int) (M : Nat → Int) (h : RM o w R M) (hk : o.Is k) (hR : ∀ r, Word (R k r)) :
    Calls Try.prog 93 #[cdv ⟨7, an, bn, cn⟩, .int .i64 k, o.row k, o.vm] w (SimPost o ⟨7, an, bn, cn⟩ k R M w) := by
  have H := Lib.hid h
  have hk8 : k < 8 := hk.lt
  have hlt : o.rows k < w.heap.size := h.rowLt hk
  have ha0 : (0 : Int) ≤ (an : Int) := by omega
  have ha4 : (an : Int) < 4 := by omega
  have hb0 : (0 : Int) ≤ (bn : Int) := by omega
  have hb4 : (bn : Int) < 4 := by omega
  have hc0 : (0 : Int) ≤ (cn : Int) := by omega
  have hc4 : (cn : Int) < 4 := by omega
  have f1 := h.regFrozen hk an
  have qa := h.regCell hk han
  have qb := h.regCell hk hbn
  obtain ⟨y, Hy⟩ : ∃ y, Hid (R k bn = y) := ⟨_, rfl⟩
  have hwy : Word y := by rw [← Hy.out]; exact hR bn
  rw [Hy.out] at qb
  have qc := h.regCell hk hcn
  obtain ⟨z, Hz⟩ : ∃ z, Hid (R k cn = z) := ⟨_, rfl⟩
  have hwz : Word z := by rw [← Hz.out]; exact hR cn
  rw [Hz.out] at qc
  clear h hR
  unfold cdv RMo.row RMo.vm
  simp only
  by_cases hz0 : z = 0
  · have hzb : (z != 0) = false := by rw [bne_eq_false_iff_eq]; exact hz0
    have HZ := Lib.hid hz0; clear hz0
    go_enter Try.func93, Try.ntmps93
    go_wp2
    go_end0
    exact SimPost.same H.out (show (if R k cn = 0 then R k else setF (R k) an (R k bn)) = _ by rw [Hz.out, if_pos HZ.out]) rfl (by repeat (first | assumption | exact Pure.refl _ | refine Pure.drewN ?_ _ | refine Pure.drew ?_ | refine Pure.alloc ?_ _ | refine Pure.setCell ?_ (by simp <;> omega) _))
  · have hzb : (z != 0) = true := by rw [bne_iff_ne]; exact hz0
    have HZ := Lib.hid hz0; clear hz0
    go_enter Try.func93, Try.ntmps93
    go_wp2
    refine region_tail 9 (by kernel_rfl) (by kernel_rfl) ?_
    simp only [List.take_succ_cons, List.take_zero, List.drop_succ_cons, List.drop_zero]
    repeat still_step
    refine wpStill_nil ?_
    go_wp2
    go_end0
    exact SimPost.reg H.out hk han (show (if R k cn = 0 then R k else setF (R k) an (R k bn)) = _ by rw [Hz.out, if_neg HZ.out, Hy.out]) rfl (by repeat (first | assumption | exact Pure.refl _ | refine Pure.drewN ?_ _ | refine Pure.drew ?_ | refine Pure.alloc ?_ _ | refine Pure.setCell ?_ (by simp <;> omega) _))

set_option maxHeartbeats 1000000 in
set_option maxRecDepth 100000 in
theorem i6_8 (o : RMo) (k : Nat) (an : Nat) (han : an < 4) (bn : Nat) (hbn : bn < 4) (w : World) (R : Nat → Nat → Int) (M : Nat → Int) (h : RM o w R M) (hk : o.Is k) (hR : ∀ r, Word (R k r)) :
    Calls Try.prog 93 #[cdv ⟨8, an, bn, 0⟩, .int .i64 k, o.row k, o.vm] w (SimPost o ⟨8, an, bn, 0⟩ k R M w) := by
  have H := Lib.hid h
  have hk8 : k < 8 := hk.lt
  have hlt : o.rows k < w.heap.size := h.rowLt hk
  have ha0 : (0 : Int) ≤ (an : Int) := by omega
  have ha4 : (an : Int) < 4 := by omega
  have hb0 : (0 : Int) ≤ (bn : Int) := by omega
  have hb4 : (bn : Int) < 4 := by omega
  have f1 := h.regFrozen hk an
  have qa := h.regCell hk han
  have qb := h.regCell hk hbn
  obtain ⟨y, Hy⟩ : ∃ y, Hid (R k bn = y) := ⟨_, rfl⟩
  have hwy : Word y := by rw [← Hy.out]; exact hR bn
  rw [Hy.out] at qb
  obtain ⟨hy0, hy1⟩ := hwy
  obtain ⟨yn, rfl⟩ := Int.eq_ofNat_of_zero_le hy0
  have hm1 := h.m1
  have hm32 := h.m32
  have hmi : ¬ ((o.m : Int) = 0) := by omega
  have hmn : ¬ o.m = 0 := by omega
  have hmb : ((o.m : Int) == 0) = false := by rw [beq_eq_false_iff_ne]; omega
  have hjn : yn % o.m < o.m := Nat.mod_lt _ (by omega)
  have htm : (yn : Int).tmod (o.m : Int) = ((yn % o.m : Nat) : Int) := by rw [Int.tmod_eq_emod_of_nonneg (by omega)]; norm_cast
  have HC : Hid (cellOf ⟨8, an, bn, 0⟩ o.m (R k) = yn % o.m) := Lib.hid (by unfold cellOf; rw [Int.toNat_natCast, Hy.out, Int.toNat_natCast])
  obtain ⟨j, Hj⟩ : ∃ j, Hid (yn % o.m = j) := ⟨_, rfl⟩
  rw [Hj.out] at htm hjn HC
  have hj0 : (0 : Int) ≤ (j : Int) := by omega
  have hj1 : (j : Int) < (o.m : Int) := by omega
  have hgm : o.gm < w.heap.size := h.gmlo.2
  have qm := h.memCell hjn
  clear h hR
  unfold cdv RMo.row RMo.vm
  simp only
  go_enter Try.func93, Try.ntmps93
  go_wp2
  refine region_tail 15 (by kernel_rfl) (by kernel_rfl) ?_
  simp only [List.take_succ_cons, List.take_zero, List.drop_succ_cons, List.drop_zero]
  repeat still_step
  refine wpStill_nil ?_
  go_wp2
  go_end0
  exact SimPost.reg H.out hk han (show setF (R k) an (M (cellOf ⟨8, an, bn, 0⟩ o.m (R k))) = _ by rw [HC.out]) rfl (by repeat (first | assumption | exact Pure.refl _ | refine Pure.drewN ?_ _ | refine Pure.drew ?_ | refine Pure.alloc ?_ _ | refine Pure.setCell ?_ (by simp <;> omega) _))

set_option maxHeartbeats 1000000 in
set_option maxRecDepth 100000 in
theorem i6_9 (o : RMo) (k : Nat) (an : Nat) (han : an < 4) (bn : Nat) (hbn : bn < 4) (w : World) (R : Nat → Nat → Int) (M : Nat → Int) (h : RM o w R M) (hk : o.Is k) (hR : ∀ r, Word (R k r)) :
    Calls Try.prog 93 #[cdv ⟨9, an, bn, 0⟩, .int .i64 k, o.row k, o.vm] w (SimPost o ⟨9, an, bn, 0⟩ k R M w) := by
  have H := Lib.hid h
  have hk8 : k < 8 := hk.lt
  have hlt : o.rows k < w.heap.size := h.rowLt hk
  have ha0 : (0 : Int) ≤ (an : Int) := by omega
  have ha4 : (an : Int) < 4 := by omega
  have hb0 : (0 : Int) ≤ (bn : Int) := by omega
  have hb4 : (bn : Int) < 4 := by omega
  have f1 := h.regFrozen hk an
  have qa := h.regCell hk han
  obtain ⟨x, Hx⟩ : ∃ x, Hid (R k an = x) := ⟨_, rfl⟩
  have hwx : Word x := by rw [← Hx.out]; exact hR an
  rw [Hx.out] at qa
  have qb := h.regCell hk hbn
  obtain ⟨y, Hy⟩ : ∃ y, Hid (R k bn = y) := ⟨_, rfl⟩
  have hwy : Word y := by rw [← Hy.out]; exact hR bn
  rw [Hy.out] at qb
  obtain ⟨hy0, hy1⟩ := hwy
  obtain ⟨yn, rfl⟩ := Int.eq_ofNat_of_zero_le hy0
  have hm1 := h.m1
  have hm32 := h.m32
  have hmi : ¬ ((o.m : Int) = 0) := by omega
  have hmn : ¬ o.m = 0 := by omega
  have hmb : ((o.m : Int) == 0) = false := by rw [beq_eq_false_iff_ne]; omega
  have hjn : yn % o.m < o.m := Nat.mod_lt _ (by omega)
  have htm : (yn : Int).tmod (o.m : Int) = ((yn % o.m : Nat) : Int) := by rw [Int.tmod_eq_emod_of_nonneg (by omega)]; norm_cast
  have HC : Hid (cellOf ⟨9, an, bn, 0⟩ o.m (R k) = yn % o.m) := Lib.hid (by unfold cellOf; rw [Int.toNat_natCast, Hy.out, Int.toNat_natCast])
  obtain ⟨j, Hj⟩ : ∃ j, Hid (yn % o.m = j) := ⟨_, rfl⟩
  rw [Hj.out] at htm hjn HC
  have hj0 : (0 : Int) ≤ (j : Int) := by omega
  have hj1 : (j : Int) < (o.m : Int) := by omega
  have hgm : o.gm < w.heap.size := h.gmlo.2
  have qm := h.memCell hjn
  have f2 := h.memFrozen j
  clear h hR
  unfold cdv RMo.row RMo.vm
  simp only
  go_enter Try.func93, Try.ntmps93
  go_wp2
  refine region_tail 15 (by kernel_rfl) (by kernel_rfl) ?_
  simp only [List.take_succ_cons, List.take_zero, List.drop_succ_cons, List.drop_zero]
  repeat still_step
  refine wpStill_nil ?_
  go_wp2
  go_end0
  exact SimPost.mem H.out rfl (show setF M (cellOf ⟨9, an, bn, 0⟩ o.m (R k)) (R k an) = _ by rw [HC.out, Hx.out]) (by repeat (first | assumption | exact Pure.refl _ | refine Pure.drewN ?_ _ | refine Pure.drew ?_ | refine Pure.alloc ?_ _ | refine Pure.setCell ?_ (by simp <;> omega) _))

set_option maxHeartbeats 1000000 in
set_option maxRecDepth 100000 in
theorem i6_10 (o : RMo) (k : Nat) (w : World) (R : Nat → Nat → Int) (M : Nat → Int) (h : RM o w R M) (_hk : o.Is k) (_hR : ∀ r, Word (R k r)) :
    Calls Try.prog 93 #[cdv ⟨10, 0, 0, 0⟩, .int .i64 k, o.row k, o.vm] w (SimPost o ⟨10, 0, 0, 0⟩ k R M w) := by
  have H := Lib.hid h
  clear h _hR
  unfold cdv RMo.row RMo.vm
  simp only
  go_enter Try.func93, Try.ntmps93
  go_wp2
  go_end0
  exact SimPost.same H.out rfl rfl (by repeat (first | assumption | exact Pure.refl _ | refine Pure.drewN ?_ _ | refine Pure.drew ?_ | refine Pure.alloc ?_ _ | refine Pure.setCell ?_ (by simp <;> omega) _))

theorem i6_any (o : RMo) (x : Cd) (k : Nat) (w : World) (R : Nat → Nat → Int) (M : Nat → Int) (h : RM o w R M) (hk : o.Is k) (hx : Plain x) (hR : ∀ r, Word (R k r)) :
    Calls Try.prog 93 #[cdv x, .int .i64 k, o.row k, o.vm] w (SimPost o x k R M w) := by
  obtain ⟨hok, n11, n12, n13, n14⟩ := hx
  obtain ⟨op, a, b, c⟩ := x
  simp only at n11 n12 n13 n14
  obtain ⟨⟨ha0, ha3⟩, hb0, hb3, hc0, hc3, ho1, ho2⟩ := hok.regs
  unfold CdOk at hok
  simp only at hok
  have ho : op = 1 ∨ op = 2 ∨ op = 3 ∨ op = 4 ∨ op = 5 ∨ op = 6 ∨ op = 7 ∨ op = 8 ∨ op = 9 ∨ op = 10 := by omega
  obtain ⟨an, rfl⟩ := Int.eq_ofNat_of_zero_le ha0
  obtain ⟨cn, rfl⟩ := Int.eq_ofNat_of_zero_le hc0
  have han : an < 4 := by omega
  have hcn : cn < 4 := by omega
  rcases ho with rfl | ho
  · have hc : cn = 0 := by omega
    subst hc
    exact i6_1 o k an han b w R M h hk hR
  obtain ⟨bn, rfl⟩ := Int.eq_ofNat_of_zero_le (hb0 (by omega))
  have hbn : bn < 4 := by have := hb3 (by omega) (by omega); omega
  rcases ho with rfl | rfl | rfl | rfl | rfl | rfl | rfl | rfl | rfl
  · have hb9 : bn = 0 := by omega
    have hc9 : cn = 0 := by omega
    subst hb9
    subst hc9
    exact i6_2 o k an han w R M h hk hR
  · have hc9 : cn = 0 := by omega
    subst hc9
    exact i6_3 o k an han bn hbn w R M h hk hR
  · have hc9 : cn = 0 := by omega
    subst hc9
    exact i6_4 o k an han bn hbn w R M h hk hR
  · have hc9 : cn = 0 := by omega
    subst hc9
    exact i6_5 o k an han bn hbn w R M h hk hR
  · exact i6_6 o k an han bn hbn cn hcn w R M h hk hR
  · exact i6_7 o k an han bn hbn cn hcn w R M h hk hR
  · have hc9 : cn = 0 := by omega
    subst hc9
    exact i6_8 o k an han bn hbn w R M h hk hR
  · have hc9 : cn = 0 := by omega
    subst hc9
    exact i6_9 o k an han bn hbn w R M h hk hR
  · have ha9 : an = 0 := by omega
    have hb9 : bn = 0 := by omega
    have hc9 : cn = 0 := by omega
    subst ha9
    subst hb9
    subst hc9
    exact i6_10 o k w R M h hk hR

end Go.Proofs.Ytkolnakcgjlcgaa.Lw

namespace Go.Proofs.Ytkolnakcgjlcgaa

/-- A lane: its registers, its place, the further turns of the loops around it (the outermost first), whether it waits. -/
structure Ln where
  R : Nat → Int
  at_ : Nat
  T : List Int
  W : Bool
def ln0 : Ln := ⟨fun _ => 0, 0, [], false⟩
def goesL (n : Nat) (l : Ln) : Bool := !l.W && decide (l.at_ < n)
/-- The place behind a block, for those that do not enter it. -/
def outAt (cs : List Cd) (p : Nat) : Nat := if 0 ≤ (endAt cs p).2 then ((endAt cs p).2 + 1).toNat else ((endAt cs p).1 + 1).toNat
/-- The next instruction of a lane that can go on. -/
def lnStep (cs : List Cd) (m id : Nat) (l : Ln) (M : Nat → Int) : Ln :=
  let c := cs.getD l.at_ default
  if c.op = 10 then { l with at_ := l.at_ + 1, W := true }
  else if c.op = 11 then (if l.R c.a.toNat = 0 then { l with at_ := outAt cs l.at_ } else { l with at_ := l.at_ + 1 })
  else if c.op = 12 then { l with at_ := ((endAt cs (aroundAt cs l.at_).toNat).1 + 1).toNat }
  else if c.op = 13 then (if l.R c.a.toNat = 0 then { l with at_ := ((endAt cs l.at_).1 + 1).toNat } else { l with at_ := l.at_ + 1, T := l.T ++ [c.b - 1] })
  else if c.op = 14 then
    (let f := (aroundAt cs l.at_).toNat
     if (cs.getD f default).op = 13 then
       (if 0 < l.T.getD (l.T.length - 1) 0 ∧ l.R (cs.getD f default).a.toNat ≠ 0 then { l with at_ := f + 1, T := l.T.set (l.T.length - 1) (l.T.getD (l.T.length - 1) 0 - 1) }
        else { l with at_ := l.at_ + 1, T := l.T.take (l.T.length - 1) })
     else { l with at_ := l.at_ + 1 })
  else { l with R := simR c id m l.R M, at_ := l.at_ + 1 }
def lnMem (cs : List Cd) (m : Nat) (l : Ln) (M : Nat → Int) : Nat → Int := simM (cs.getD l.at_ default) m l.R M
theorem lnMem_ne {cs : List Cd} {m : Nat} {l : Ln} {M : Nat → Int} (h : (cs.getD l.at_ default).op ≠ 9) : lnMem cs m l M = M := if_neg h
def lnAcc (cs : List Cd) (m id ph : Nat) (l : Ln) : List Ac :=
  let c := cs.getD l.at_ default
  if c.op = 8 ∨ c.op = 9 then [⟨id, cellOf c m l.R, decide (c.op = 9), ph⟩] else []

/-- What is around a part of a program, from the inside: blocks whose opening lies at place p, and what follows behind them. -/
inductive Fr where
  | fi (p : Nat) (k : Tr)
  | fe (p : Nat) (e k : Tr)
  | lo (p : Nat) (a b r : Int) (t k : Tr)
def Ctx (cs : List Cd) : Nat → List Fr → Prop
  | j, [] => j = cs.length
  | j, .fi p k :: F => cs.getD j default = cEnd ∧ j < cs.length ∧ aroundAt cs j = p ∧ (cs.getD p default).op = 11 ∧ Seg cs (j + 1) k ∧ k.Ok ∧ Ctx cs (j + 1 + k.len) F
  | j, .fe p e k :: F => cs.getD j default = cElse ∧ j < cs.length ∧ aroundAt cs j = p ∧ (endAt cs p).1 = ((j + 1 + e.len : Nat) : Int) ∧ Seg cs (j + 1 + e.len + 1) k ∧ k.Ok ∧ Ctx cs (j + 1 + e.len + 1 + k.len) F
  | j, .lo p a b r t k :: F => cs.getD j default = cEnd ∧ j < cs.length ∧ aroundAt cs j = p ∧ cs.getD p default = cLoop a b ∧ 0 ≤ r ∧ r < b ∧ b ≤ 4 ∧ Seg cs (p + 1) t ∧ t.Ok ∧ j = p + 1 + t.len ∧ Seg cs (j + 1) k ∧ k.Ok ∧ Ctx cs (j + 1 + k.len) F
def frT : List Fr → List Int
  | [] => []
  | .fi _ _ :: F => frT F
  | .fe _ _ _ :: F => frT F
  | .lo _ _ _ r _ _ :: F => frT F ++ [r]
/-- A lane is at the beginning of a tree. -/
structure At (cs : List Cd) (l : Ln) (u : Tr) (F : List Fr) : Prop where
  seg : Seg cs l.at_ u
  ok : u.Ok
  ctx : Ctx cs (l.at_ + u.len) F
  t : l.T = frT F

/-- The longest way through a tree. -/
def Tr.way : Tr → Nat
  | .nil => 0
  | .op _ k => k.way + 1
  | .ite _ t k => t.way + 1 + 1 + k.way
  | .itee _ t e k => t.way + 1 + e.way + 1 + k.way
  | .loop _ b t k => b.toNat * (t.way + 1) + 1 + k.way
def wayF : List Fr → Nat
  | [] => 0
  | .fi _ k :: F => 1 + k.way + wayF F
  | .fe _ _ k :: F => 1 + k.way + wayF F
  | .lo _ _ _ r t k :: F => r.toNat * (t.way + 1) + 1 + k.way + wayF F

theorem getLast_frT {F : List Fr} {r : Int} : (frT F ++ [r]).getD ((frT F ++ [r]).length - 1) 0 = r := by
  simp [List.getD_eq_getElem?_getD]
theorem take_frT {F : List Fr} {r : Int} : (frT F ++ [r]).take ((frT F ++ [r]).length - 1) = frT F := by simp
theorem set_frT {F : List Fr} {r s : Int} : (frT F ++ [r]).set ((frT F ++ [r]).length - 1) s = frT F ++ [s] := by simp

section
variable {cs : List Cd} {l : Ln} {F : List Fr} {m id : Nat} {M : Nat → Int}
theorem plain_nop {c : Cd} (h : Plain c) : c.op ≠ 11 ∧ c.op ≠ 12 ∧ c.op ≠ 13 ∧ c.op ≠ 14 := h.2
/-- At the end of everything. -/
theorem At.done (h : At cs l .nil []) : l.at_ = cs.length := by
  have := h.ctx
  simpa [Ctx, Tr.len, Tr.flat] using this
theorem At.step_op {c : Cd} {k : Tr} (h : At cs l (.op c k) F) : lnStep cs m id l M = { l with R := simR c id m l.R M, at_ := l.at_ + 1, W := if c.op = 10 then true else l.W } ∧ At cs (lnStep cs m id l M) k F := by
  obtain ⟨s1, s2, s3⟩ := h.seg.op
  obtain ⟨hp, hk⟩ := h.ok
  obtain ⟨p1, p2, p3, p4⟩ := plain_nop hp
  have hc := h.ctx
  have e : lnStep cs m id l M = { l with R := simR c id m l.R M, at_ := l.at_ + 1, W := if c.op = 10 then true else l.W } := by
    unfold lnStep
    simp only [s1]
    by_cases h10 : c.op = 10
    · rw [if_pos h10, if_pos h10]
      have : simR c id m l.R M = l.R := by unfold simR; simp [h10]
      rw [this]
    · rw [if_neg h10, if_neg p1, if_neg p2, if_neg p3, if_neg p4, if_neg h10]
  refine ⟨e, ?_⟩
  rw [e]
  refine ⟨s3, hk, ?_, h.t⟩
  show Ctx cs (l.at_ + 1 + k.len) F
  rw [Tr.len_op] at hc
  rwa [show l.at_ + 1 + k.len = l.at_ + (k.len + 1) by omega]
theorem At.step_ite {a : Int} {t k : Tr} (h : At cs l (.ite a t k) F) :
    lnStep cs m id l M = (if l.R a.toNat = 0 then { l with at_ := l.at_ + 1 + t.len + 1 } else { l with at_ := l.at_ + 1 }) ∧
    (if l.R a.toNat = 0 then At cs (lnStep cs m id l M) k F else At cs (lnStep cs m id l M) t (.fi l.at_ k :: F)) := by
  obtain ⟨s1, s2, s3, s4, s5⟩ := h.seg.ite
  obtain ⟨e1, e2⟩ := end_ite h.ok h.seg
  obtain ⟨_, o1, o2⟩ := h.ok
  have hc := h.ctx
  rw [Tr.len_ite, show l.at_ + (1 + t.len + 1 + k.len) = l.at_ + 1 + t.len + 1 + k.len by omega] at hc
  have ho : outAt cs l.at_ = l.at_ + 1 + t.len + 1 := by unfold outAt; rw [e1]; simp only; rw [if_neg (by omega)]; omega
  have e : lnStep cs m id l M = (if l.R a.toNat = 0 then { l with at_ := l.at_ + 1 + t.len + 1 } else { l with at_ := l.at_ + 1 }) := by
    unfold lnStep
    simp only [s1, ho]
    rw [if_neg (by simp [cIf]), if_pos (by rfl)]
    rfl
  refine ⟨e, ?_⟩
  rw [e]
  by_cases hz : l.R a.toNat = 0
  · rw [if_pos hz, if_pos hz]
    exact ⟨s5, o2, hc, h.t⟩
  · rw [if_neg hz, if_neg hz]
    exact ⟨s2, o1, ⟨s3, s4, e2, by rw [s1]; rfl, s5, o2, hc⟩, h.t⟩
theorem At.step_itee {a : Int} {t e k : Tr} (h : At cs l (.itee a t e k) F) :
    lnStep cs m id l M = (if l.R a.toNat = 0 then { l with at_ := l.at_ + 1 + t.len + 1 } else { l with at_ := l.at_ + 1 }) ∧
    (if l.R a.toNat = 0 then At cs (lnStep cs m id l M) e (.fi l.at_ k :: F) else At cs (lnStep cs m id l M) t (.fe l.at_ e k :: F)) := by
  obtain ⟨s1, s2, s3, s4, s5, s6, s7⟩ := h.seg.itee
  obtain ⟨e1, e2, e3⟩ := end_itee h.ok h.seg
  obtain ⟨_, o1, o2, o3⟩ := h.ok
  have hc := h.ctx
  rw [Tr.len_itee, show l.at_ + (1 + t.len + 1 + e.len + 1 + k.len) = l.at_ + 1 + t.len + 1 + e.len + 1 + k.len by omega] at hc
  have ho : outAt cs l.at_ = l.at_ + 1 + t.len + 1 := by unfold outAt; rw [e1]; simp only; rw [if_pos (by omega)]; omega
  have e : lnStep cs m id l M = (if l.R a.toNat = 0 then { l with at_ := l.at_ + 1 + t.len + 1 } else { l with at_ := l.at_ + 1 }) := by
    unfold lnStep
    simp only [s1, ho]
    rw [if_neg (by simp [cIf]), if_pos (by rfl)]
    rfl
  refine ⟨e, ?_⟩
  rw [e]
  by_cases hz : l.R a.toNat = 0
  · rw [if_pos hz, if_pos hz]
    exact ⟨s4, o2, ⟨s5, s6, e3, by rw [s1]; rfl, s7, o3, hc⟩, h.t⟩
  · rw [if_neg hz, if_neg hz]
    exact ⟨s2, o1, ⟨s3, by show l.at_ + 1 + t.len < cs.length; omega, e2, by rw [e1], s7, o3, hc⟩, h.t⟩
theorem At.step_loop {a b : Int} {t k : Tr} (h : At cs l (.loop a b t k) F) :
    lnStep cs m id l M = (if l.R a.toNat = 0 then { l with at_ := l.at_ + 1 + t.len + 1 } else { l with at_ := l.at_ + 1, T := frT F ++ [b - 1] }) ∧
    (if l.R a.toNat = 0 then At cs (lnStep cs m id l M) k F else At cs (lnStep cs m id l M) t (.lo l.at_ a b (b - 1) t k :: F)) := by
  obtain ⟨s1, s2, s3, s4, s5⟩ := h.seg.loop
  obtain ⟨e1, e2⟩ := end_loop h.ok h.seg
  obtain ⟨_, ob, o1, o2⟩ := h.ok
  have hc := h.ctx
  rw [Tr.len_loop, show l.at_ + (1 + t.len + 1 + k.len) = l.at_ + 1 + t.len + 1 + k.len by omega] at hc
  have e : lnStep cs m id l M = (if l.R a.toNat = 0 then { l with at_ := l.at_ + 1 + t.len + 1 } else { l with at_ := l.at_ + 1, T := frT F ++ [b - 1] }) := by
    unfold lnStep
    simp only [s1, e1]
    rw [if_neg (by simp [cLoop]), if_neg (by simp [cLoop]), if_neg (by simp [cLoop]), if_pos (by rfl), ← h.t]
    have : (((l.at_ + 1 + t.len : Nat) : Int) + 1).toNat = l.at_ + 1 + t.len + 1 := by omega
    rw [this]
    rfl
  refine ⟨e, ?_⟩
  rw [e]
  by_cases hz : l.R a.toNat = 0
  · rw [if_pos hz, if_pos hz]
    exact ⟨s5, o2, hc, h.t⟩
  · rw [if_neg hz, if_neg hz]
    exact ⟨s2, o1, ⟨s3, s4, e2, s1, by omega, by omega, by omega, s2, o1, rfl, s5, o2, hc⟩, rfl⟩
theorem At.nil_ctx (h : At cs l .nil F) : Ctx cs l.at_ F := by
  have := h.ctx
  simpa [Tr.len, Tr.flat] using this
theorem At.step_fi {p : Nat} {k : Tr} (h : At cs l .nil (.fi p k :: F)) :
    lnStep cs m id l M = { l with at_ := l.at_ + 1 } ∧ At cs (lnStep cs m id l M) k F := by
  obtain ⟨s1, s2, s3, s4, s5, s6, s7⟩ := h.nil_ctx
  have e : lnStep cs m id l M = { l with at_ := l.at_ + 1 } := by
    unfold lnStep
    simp only [s1, s3, Int.toNat_natCast]
    rw [if_neg (by simp [cEnd]), if_neg (by simp [cEnd]), if_neg (by simp [cEnd]), if_neg (by simp [cEnd]), if_pos (by rfl), if_neg (by omega)]
  refine ⟨e, ?_⟩
  rw [e]
  exact ⟨s5, s6, s7, h.t⟩
theorem At.step_fe {p : Nat} {e k : Tr} (h : At cs l .nil (.fe p e k :: F)) :
    lnStep cs m id l M = { l with at_ := l.at_ + 1 + e.len + 1 } ∧ At cs (lnStep cs m id l M) k F := by
  obtain ⟨s1, s2, s3, s4, s5, s6, s7⟩ := h.nil_ctx
  have e : lnStep cs m id l M = { l with at_ := l.at_ + 1 + e.len + 1 } := by
    unfold lnStep
    simp only [s1, s3, s4, Int.toNat_natCast]
    rw [if_neg (by simp [cElse]), if_neg (by simp [cElse]), if_pos (by rfl)]
    congr 1
  refine ⟨e, ?_⟩
  rw [e]
  exact ⟨s5, s6, s7, h.t⟩
theorem At.step_lo {p : Nat} {a b r : Int} {t k : Tr} (h : At cs l .nil (.lo p a b r t k :: F)) :
    lnStep cs m id l M = (if 0 < r ∧ l.R a.toNat ≠ 0 then { l with at_ := p + 1, T := frT F ++ [r - 1] } else { l with at_ := l.at_ + 1, T := frT F }) ∧
    (if 0 < r ∧ l.R a.toNat ≠ 0 then At cs (lnStep cs m id l M) t (.lo p a b (r - 1) t k :: F) else At cs (lnStep cs m id l M) k F) := by
  obtain ⟨s1, s2, s3, s4, q1, q2, q3, s5, s6, s7, s8, s9, s10⟩ := h.nil_ctx
  have ht : l.T = frT F ++ [r] := h.t
  have e : lnStep cs m id l M = (if 0 < r ∧ l.R a.toNat ≠ 0 then { l with at_ := p + 1, T := frT F ++ [r - 1] } else { l with at_ := l.at_ + 1, T := frT F }) := by
    unfold lnStep
    simp only [s1, s3, s4, Int.toNat_natCast, ht]
    rw [if_neg (by simp [cEnd]), if_neg (by simp [cEnd]), if_neg (by simp [cEnd]), if_neg (by simp [cEnd]), if_pos (by rfl), if_pos (by rfl), getLast_frT, take_frT, set_frT]
    rfl
  refine ⟨e, ?_⟩
  rw [e]
  by_cases hz : 0 < r ∧ l.R a.toNat ≠ 0
  · rw [if_pos hz, if_pos hz]
    refine ⟨s5, s6, ⟨?_, ?_, ?_, s4, by omega, by omega, q3, s5, s6, rfl, ?_, s9, ?_⟩, rfl⟩
    all_goals
      try show cs.getD (p + 1 + t.len) default = cEnd
      try show p + 1 + t.len < cs.length
      try show aroundAt cs (p + 1 + t.len) = p
      try show Seg cs (p + 1 + t.len + 1) k
      try show Ctx cs (p + 1 + t.len + 1 + k.len) F
      rw [← s7]
      assumption
  · rw [if_neg hz, if_neg hz]
    exact ⟨s8, s9, s10, rfl⟩

/-- Every step shortens the way. -/
theorem At.goes {u : Tr} (h : At cs l u F) (hl : l.at_ < cs.length) : ∃ u' F', At cs (lnStep cs m id l M) u' F' ∧ u'.way + wayF F' + 1 ≤ u.way + wayF F := by
  cases u with
  | op c k =>
    exact ⟨k, F, (h.step_op (m := m) (id := id) (M := M)).2, by simp only [Tr.way]; omega⟩
  | ite a t k =>
    have := (h.step_ite (m := m) (id := id) (M := M)).2
    split at this
    · exact ⟨_, _, this, by simp only [Tr.way]; omega⟩
    · exact ⟨_, _, this, by simp only [Tr.way, wayF]; omega⟩
  | itee a t e k =>
    have := (h.step_itee (m := m) (id := id) (M := M)).2
    split at this
    · exact ⟨_, _, this, by simp only [Tr.way, wayF]; omega⟩
    · exact ⟨_, _, this, by simp only [Tr.way, wayF]; omega⟩
  | loop a b t k =>
    have hs := (h.step_loop (m := m) (id := id) (M := M)).2
    obtain ⟨_, ob, _, _⟩ := h.ok
    split at hs
    · exact ⟨_, _, hs, by simp only [Tr.way]; omega⟩
    · refine ⟨_, _, hs, ?_⟩
      simp only [Tr.way, wayF]
      obtain ⟨q, rfl⟩ : ∃ q : Nat, b = (q : Int) + 1 := ⟨(b - 1).toNat, by omega⟩
      rw [show ((q : Int) + 1 - 1).toNat = q by omega, show ((q : Int) + 1).toNat = q + 1 by omega, Nat.succ_mul]
      omega
  | nil =>
    cases F with
    | nil => have := h.done; omega
    | cons f F =>
      cases f with
      | fi p k => exact ⟨_, _, (h.step_fi (m := m) (id := id) (M := M)).2, by simp only [Tr.way, wayF]; omega⟩
      | fe p e k => exact ⟨_, _, (h.step_fe (m := m) (id := id) (M := M)).2, by simp only [Tr.way, wayF]; omega⟩
      | lo p a b r t k =>
        have hs := (h.step_lo (m := m) (id := id) (M := M)).2
        split at hs
        · rename_i hz
          refine ⟨_, _, hs, ?_⟩
          simp only [Tr.way, wayF]
          obtain ⟨q, rfl⟩ : ∃ q : Nat, r = (q : Int) + 1 := ⟨(r - 1).toNat, by omega⟩
          rw [show ((q : Int) + 1 - 1).toNat = q by omega, show ((q : Int) + 1).toNat = q + 1 by omega, Nat.succ_mul]
          omega
        · exact ⟨_, _, hs, by simp only [Tr.way, wayF]; omega⟩
end

/-- A lane somewhere on its way through a program, which is at most w steps long. -/
def OnWay (cs : List Cd) (l : Ln) (w : Nat) : Prop := ∃ u F, At cs l u F ∧ u.way + wayF F ≤ w
theorem OnWay.step {cs : List Cd} {l : Ln} {w m id : Nat} {M : Nat → Int} (h : OnWay cs l w) (hl : l.at_ < cs.length) : 1 ≤ w ∧ OnWay cs (lnStep cs m id l M) (w - 1) := by
  obtain ⟨u, F, h1, h2⟩ := h
  obtain ⟨u', F', g1, g2⟩ := h1.goes (m := m) (id := id) (M := M) hl
  exact ⟨by omega, u', F', g1, by omega⟩
theorem Ctx.le {cs : List Cd} : ∀ {F : List Fr} {j : Nat}, Ctx cs j F → j ≤ cs.length
  | [], _, h => by rw [show _ = _ from h]; exact Nat.le_refl _
  | .fi _ _ :: _, _, h => Nat.le_of_lt h.2.1
  | .fe _ _ _ :: _, _, h => Nat.le_of_lt h.2.1
  | .lo _ _ _ _ _ _ :: _, _, h => Nat.le_of_lt h.2.1
theorem OnWay.le {cs : List Cd} {l : Ln} {w : Nat} (h : OnWay cs l w) : l.at_ ≤ cs.length := by
  obtain ⟨u, F, h1, _⟩ := h
  have := h1.ctx.le
  omega
theorem OnWay.pass {cs : List Cd} {l : Ln} {w : Nat} (h : OnWay cs l w) (b : Bool) : OnWay cs { l with W := b } w := by
  obtain ⟨u, F, h1, h2⟩ := h
  exact ⟨u, F, ⟨h1.seg, h1.ok, h1.ctx, h1.t⟩, h2⟩
theorem OnWay.start {cs : List Cd} {t : Tr} (h1 : cs = t.flat) (h2 : t.Ok) : OnWay cs ln0 t.way :=
  ⟨t, [], ⟨Seg.whole h1, h2, by show (0 : Nat) + t.len = cs.length; rw [h1, Nat.zero_add]; rfl, rfl⟩, Nat.le_refl _⟩
theorem frT_len {cs : List Cd} : ∀ {F : List Fr} {j : Nat}, Ctx cs j F → ∀ x ∈ frT F, (0 : Int) ≤ x ∧ x ≤ 3
  | [], _, _ => by simp [frT]
  | .fi _ _ :: F, _, h => frT_len (F := F) h.2.2.2.2.2.2
  | .fe _ _ _ :: F, _, h => frT_len (F := F) h.2.2.2.2.2.2
  | .lo _ _ _ _ _ _ :: F, _, h => by
    obtain ⟨_, _, _, _, q1, q2, q3, _, _, _, _, _, hc⟩ := h
    intro x hx
    simp only [frT, List.mem_append, List.mem_singleton] at hx
    rcases hx with hx | rfl
    · exact frT_len hc x hx
    · omega

end Go.Proofs.Ytkolnakcgjlcgaa

namespace Go.Proofs.Ytkolnakcgjlcgaa

/-- Lanes under way: the lanes, the memory, the steps so far (place, mask), the accesses so far, the phase. -/
structure CS where
  L : Nat → Ln
  M : Nat → Int
  H : List (Nat × Nat)
  A : List Ac
  P : Nat
def laneS (cs : List Cd) (m k : Nat) (s : CS) : CS :=
  { s with L := fun l => if l = k then lnStep cs m k (s.L k) s.M else s.L l, M := lnMem cs m (s.L k) s.M, A := s.A ++ lnAcc cs m k s.P (s.L k) }
/-- The lanes below j of a mask make a step. -/
def stepTo (cs : List Cd) (m mask : Nat) : Nat → CS → CS
  | 0, s => s
  | j + 1, s => if mask.testBit j then laneS cs m j (stepTo cs m mask j s) else stepTo cs m mask j s
def anyGo (cs : List Cd) (L : Nat → Ln) : Nat → Bool
  | 0 => false
  | j + 1 => goesL cs.length (L j) || anyGo cs L j
def anyWait (L : Nat → Ln) : Nat → Bool
  | 0 => false
  | j + 1 => (L j).W || anyWait L j
def freeL (n : Nat) (L : Nat → Ln) : Nat → Ln := fun l => if l < n then { L l with W := false } else L l
/-- A barrier is passed, if no lane can go on and some lane waits. -/
def passS (cs : List Cd) (n : Nat) (s : CS) : CS := if (anyGo cs s.L n || !anyWait s.L n) = true then s else { s with L := freeL n s.L, P := s.P + 1 }
/-- The lanes at the least place, and this place. -/
def leastTo (cs : List Cd) (L : Nat → Ln) : Nat → Nat × Nat
  | 0 => (0, cs.length)
  | j + 1 =>
    let r := leastTo cs L j
    if goesL cs.length (L j) = true then (if (L j).at_ < r.2 then (2 ^ j, (L j).at_) else if (L j).at_ = r.2 then (r.1 ||| 2 ^ j, r.2) else r) else r
def DoneL (cs : List Cd) (n : Nat) (L : Nat → Ln) : Prop := ∀ l, l < n → (L l).W = false ∧ cs.length ≤ (L l).at_
instance (cs : List Cd) (n : Nat) (L : Nat → Ln) : Decidable (DoneL cs n L) := inferInstanceAs (Decidable (∀ l, l < n → _))
def quietOp (c : Cd) : Bool := decide (c.op = 12 ∨ c.op = 14)
def noteC (cs : List Cd) (p mask : Nat) (s : CS) : CS := { s with H := if quietOp (cs.getD p default) = true then s.H else s.H ++ [(p, mask)] }
def leastStep (cs : List Cd) (n m : Nat) (s : CS) : CS :=
  if DoneL cs n s.L then s else passS cs n (stepTo cs m (leastTo cs s.L n).1 n (noteC cs (leastTo cs s.L n).2 (leastTo cs s.L n).1 s))
def lIter (cs : List Cd) (n m : Nat) : Nat → CS → CS
  | 0, s => s
  | j + 1, s => leastStep cs n m (lIter cs n m j s)

theorem anyGo_iff {cs : List Cd} {L : Nat → Ln} : ∀ {n : Nat}, anyGo cs L n = true ↔ ∃ l, l < n ∧ goesL cs.length (L l) = true
  | 0 => by simp [anyGo]
  | j + 1 => by
    unfold anyGo
    rw [Bool.or_eq_true, anyGo_iff (n := j)]
    constructor
    · rintro (h | ⟨l, h1, h2⟩)
      · exact ⟨j, by omega, h⟩
      · exact ⟨l, by omega, h2⟩
    · rintro ⟨l, h1, h2⟩
      by_cases e : l = j
      · subst e; exact .inl h2
      · exact .inr ⟨l, by omega, h2⟩
theorem anyWait_iff {L : Nat → Ln} : ∀ {n : Nat}, anyWait L n = true ↔ ∃ l, l < n ∧ (L l).W = true
  | 0 => by simp [anyWait]
  | j + 1 => by
    unfold anyWait
    rw [Bool.or_eq_true, anyWait_iff (n := j)]
    constructor
    · rintro (h | ⟨l, h1, h2⟩)
      · exact ⟨j, by omega, h⟩
      · exact ⟨l, by omega, h2⟩
    · rintro ⟨l, h1, h2⟩
      by_cases e : l = j
      · subst e; exact .inl h2
      · exact .inr ⟨l, by omega, h2⟩
theorem goes_iff {n : Nat} {l : Ln} : goesL n l = true ↔ l.W = false ∧ l.at_ < n := by
  unfold goesL; simp
/-- Whether the lanes are told free of the barrier. -/
theorem pass_L {cs : List Cd} {n : Nat} {s : CS} : (passS cs n s).L = if anyGo cs s.L n = true then s.L else freeL n s.L := by
  unfold passS
  by_cases h : anyGo cs s.L n = true
  · simp [h]
  · by_cases hw : anyWait s.L n = true
    · simp [h, hw]
    · have hf : freeL n s.L = s.L := funext fun l => by
        unfold freeL
        split
        · rename_i hl
          have : (s.L l).W = false := by
            cases hq : (s.L l).W
            · rfl
            · exact absurd (anyWait_iff.2 ⟨l, hl, hq⟩) hw
          rw [← this]
        · rfl
      simp [h, hw, hf]
theorem pass_M {cs : List Cd} {n : Nat} {s : CS} : (passS cs n s).M = s.M := by unfold passS; split <;> rfl
theorem pass_same {cs : List Cd} {n : Nat} {s : CS} (h : ∀ l, l < n → (s.L l).W = false) : passS cs n s = s := by
  unfold passS
  have : anyWait s.L n = false := by
    cases hq : anyWait s.L n
    · rfl
    · obtain ⟨l, h1, h2⟩ := anyWait_iff.1 hq
      rw [h l h1] at h2; cases h2
  simp [this]
theorem step_H {cs : List Cd} {m mask : Nat} {s : CS} : ∀ j, (stepTo cs m mask j s).H = s.H
  | 0 => rfl
  | j + 1 => by
    unfold stepTo; split
    · exact step_H j
    · exact step_H j
theorem step_P {cs : List Cd} {m mask : Nat} {s : CS} : ∀ j, (stepTo cs m mask j s).P = s.P
  | 0 => rfl
  | j + 1 => by
    unfold stepTo; split
    · exact step_P j
    · exact step_P j
theorem least_spec {cs : List Cd} {L : Nat → Ln} : ∀ j, (leastTo cs L j).2 ≤ cs.length ∧ (∀ l, l < j → goesL cs.length (L l) = true → (leastTo cs L j).2 ≤ (L l).at_) ∧
    (∀ l, (leastTo cs L j).1.testBit l = (decide (l < j) && (goesL cs.length (L l) && decide ((L l).at_ = (leastTo cs L j).2)))) ∧ ((leastTo cs L j).1 = 0 ↔ (leastTo cs L j).2 = cs.length) ∧ (leastTo cs L j).1 < 2 ^ j
  | 0 => by simp [leastTo]
  | j + 1 => by
    obtain ⟨h1, h2, h3, h4, h5⟩ := least_spec (cs := cs) (L := L) j
    have hp : 2 ^ j < 2 ^ (j + 1) := Nat.pow_lt_pow_right (by decide) (by omega)
    have hpp : 0 < 2 ^ j := Nat.pow_pos (by decide)
    unfold leastTo
    simp only
    by_cases hg : goesL cs.length (L j) = true
    · rw [if_pos hg]
      have hlt : (L j).at_ < cs.length := (goes_iff.1 hg).2
      by_cases ha : (L j).at_ < (leastTo cs L j).2
      · rw [if_pos ha]
        refine ⟨by simp only; omega, fun l hl hgl => ?_, fun l => ?_, ?_, hp⟩
        · simp only
          by_cases e : l = j
          · subst e; exact Nat.le_refl _
          · exact Nat.le_trans (Nat.le_of_lt ha) (h2 l (by omega) hgl)
        · simp only [Nat.testBit_two_pow]
          by_cases e : j = l
          · subst e; simp [hg]
          · have e1 : decide (j = l) = false := by simp [e]
            rw [e1]
            by_cases hl : l < j + 1
            · by_cases hgl : goesL cs.length (L l) = true
              · have := h2 l (by omega) hgl
                have : decide ((L l).at_ = (L j).at_) = false := by simp; omega
                simp [this]
              · simp [hgl]
            · simp [hl]
        · simp only
          constructor
          · intro h; omega
          · intro h; omega
      · rw [if_neg ha]
        by_cases he : (L j).at_ = (leastTo cs L j).2
        · rw [if_pos he]
          refine ⟨h1, fun l hl hgl => ?_, fun l => ?_, ?_, Nat.or_lt_two_pow (Nat.lt_trans h5 hp) hp⟩
          · simp only
            by_cases e : l = j
            · subst e; omega
            · exact h2 l (by omega) hgl
          · simp only [Nat.testBit_or, Nat.testBit_two_pow, h3 l]
            by_cases e : j = l
            · subst e; simp [hg, he]
            · have e1 : decide (j = l) = false := by simp [e]
              have e2 : decide (l < j + 1) = decide (l < j) := by rw [decide_eq_decide]; omega
              rw [e1, e2, Bool.or_false]
          · simp only
            constructor
            · intro h
              have := Nat.right_le_or (n := (leastTo cs L j).1) (m := 2 ^ j)
              omega
            · intro h; omega
        · rw [if_neg he]
          refine ⟨h1, fun l hl hgl => ?_, fun l => ?_, h4, Nat.lt_trans h5 hp⟩
          · by_cases e : l = j
            · subst e; omega
            · exact h2 l (by omega) hgl
          · rw [h3 l]
            by_cases e : l = j
            · subst e; simp [he]
            · have e2 : decide (l < j + 1) = decide (l < j) := by rw [decide_eq_decide]; omega
              rw [e2]
    · rw [if_neg hg]
      refine ⟨h1, fun l hl hgl => ?_, fun l => ?_, h4, Nat.lt_trans h5 hp⟩
      · by_cases e : l = j
        · subst e; exact absurd hgl hg
        · exact h2 l (by omega) hgl
      · rw [h3 l]
        by_cases e : l = j
        · subst e; simp [hg]
        · have e2 : decide (l < j + 1) = decide (l < j) := by rw [decide_eq_decide]; omega
          rw [e2]

theorem lIter_add (cs : List Cd) (n m i : Nat) (s : CS) : ∀ j, lIter cs n m (i + j) s = lIter cs n m j (lIter cs n m i s)
  | 0 => rfl
  | j + 1 => by show leastStep cs n m (lIter cs n m (i + j) s) = _; rw [lIter_add cs n m i s j]; rfl
theorem leastStep_done {cs : List Cd} {n m : Nat} {s : CS} (h : DoneL cs n s.L) : leastStep cs n m s = s := if_pos h
theorem lIter_done {cs : List Cd} {n m : Nat} {s : CS} (h : DoneL cs n s.L) : ∀ j, lIter cs n m j s = s
  | 0 => rfl
  | j + 1 => by show leastStep cs n m (lIter cs n m j s) = s; rw [lIter_done h j, leastStep_done h]
/-- The run by the least places comes from one state to another one. -/
def Gets (cs : List Cd) (n m : Nat) (s s' : CS) : Prop := ∃ j, lIter cs n m j s = s'
theorem Gets.refl (cs : List Cd) (n m : Nat) (s : CS) : Gets cs n m s s := ⟨0, rfl⟩
theorem Gets.trans {cs : List Cd} {n m : Nat} {a b c : CS} (h : Gets cs n m a b) (k : Gets cs n m b c) : Gets cs n m a c := by
  obtain ⟨i, rfl⟩ := h
  obtain ⟨j, rfl⟩ := k
  exact ⟨i + j, lIter_add cs n m i a j⟩
theorem Gets.one {cs : List Cd} {n m : Nat} {s : CS} : Gets cs n m s (leastStep cs n m s) := ⟨1, rfl⟩

theorem some_bit' {mk n : Nat} (h0 : mk ≠ 0) (hn : mk < 2 ^ n) : ∃ k, k < n ∧ mk.testBit k = true := by
  refine Classical.byContradiction fun h => h0 ?_
  apply Nat.eq_of_testBit_eq
  intro i
  rw [Nat.zero_testBit]
  by_cases hi : i < n
  · cases hb : mk.testBit i
    · rfl
    · exact absurd ⟨i, hi, hb⟩ h
  · exact testBit_hi hn (by omega)
/-- The lanes of a mask are at one place, all others behind it: they go on. -/
theorem least_is {cs : List Cd} {n mask p : Nat} {L : Nat → Ln} (h0 : mask ≠ 0) (hm : mask < 2 ^ n) (hp : p < cs.length)
    (ha : ∀ l, l < n → mask.testBit l = true → (L l).at_ = p ∧ (L l).W = false) (ho : ∀ l, l < n → mask.testBit l = false → p < (L l).at_) : leastTo cs L n = (mask, p) := by
  obtain ⟨h1, h2, h3, h4, h5⟩ := least_spec (cs := cs) (L := L) n
  obtain ⟨k, hk, hkb⟩ := some_bit' h0 hm
  obtain ⟨a1, a2⟩ := ha k hk hkb
  have hle := h2 k hk (goes_iff.2 ⟨a2, by omega⟩)
  have hp2 : (leastTo cs L n).2 = p := by
    have hne : (leastTo cs L n).1 ≠ 0 := fun e => by have := h4.1 e; omega
    obtain ⟨q, hq, hqb⟩ := some_bit' hne h5
    have := h3 q
    rw [hqb] at this
    simp only [Bool.true_eq, Bool.and_eq_true, decide_eq_true_eq] at this
    by_cases hb : mask.testBit q = true
    · have := (ha q hq hb).1; omega
    · have := ho q hq (by simpa using hb); omega
  have hm1 : (leastTo cs L n).1 = mask := by
    apply Nat.eq_of_testBit_eq
    intro l
    rw [h3 l, hp2]
    by_cases hl : l < n
    · by_cases hb : mask.testBit l = true
      · obtain ⟨b1, b2⟩ := ha l hl hb
        rw [hb, b1]
        have : goesL cs.length (L l) = true := goes_iff.2 ⟨b2, by omega⟩
        simp [hl, this]
      · have hb' : mask.testBit l = false := by simpa using hb
        have := ho l hl hb'
        rw [hb']
        have : decide ((L l).at_ = p) = false := by simp; omega
        simp [this]
    · rw [testBit_hi hm (by omega)]
      simp [hl]
  rw [← hm1, ← hp2]
theorem least_step {cs : List Cd} {n m mask p : Nat} {s : CS} (h0 : mask ≠ 0) (hm : mask < 2 ^ n) (hp : p < cs.length)
    (ha : ∀ l, l < n → mask.testBit l = true → (s.L l).at_ = p ∧ (s.L l).W = false) (ho : ∀ l, l < n → mask.testBit l = false → p < (s.L l).at_) :
    leastStep cs n m s = passS cs n (stepTo cs m mask n (noteC cs p mask s)) := by
  have hl := least_is h0 hm hp ha ho
  unfold leastStep
  rw [hl, if_neg]
  intro hd
  obtain ⟨k, hk, hkb⟩ := some_bit' h0 hm
  have := (hd k hk).2
  have := (ha k hk hkb).1
  omega
/-- Lanes of a mask at an instruction of a block. -/
theorem step_ctl {cs : List Cd} {m mask p : Nat} {s : CS} (f : Nat → Ln) (hop : (cs.getD p default).op ≠ 8 ∧ (cs.getD p default).op ≠ 9) : ∀ j, (∀ l, l < j → mask.testBit l = true → (s.L l).at_ = p ∧ lnStep cs m l (s.L l) s.M = f l) →
    stepTo cs m mask j s = { s with L := fun l => if l < j ∧ mask.testBit l = true then f l else s.L l }
  | 0, _ => by simp [stepTo]
  | j + 1, h => by
    have ih := step_ctl (s := s) (mask := mask) f hop j (fun l hl => h l (by omega))
    unfold stepTo
    rw [ih]
    by_cases hb : mask.testBit j = true
    · rw [if_pos hb]
      obtain ⟨h1, h2⟩ := h j (by omega) hb
      have hL : (if j < j ∧ mask.testBit j = true then f j else s.L j) = s.L j := if_neg (by omega)
      unfold laneS
      simp only [hL]
      have e1 : lnMem cs m (s.L j) s.M = s.M := lnMem_ne (by rw [h1]; exact hop.2)
      have e2 : lnAcc cs m j s.P (s.L j) = [] := by unfold lnAcc; rw [h1]; exact if_neg (by omega)
      rw [e1, e2, h2, List.append_nil]
      congr 1
      funext l
      by_cases e : l = j
      · subst e; simp [hb]
      · rw [if_neg e]
        by_cases hl : l < j
        · simp [hl, show l < j + 1 by omega]
        · simp [hl, show ¬ l < j + 1 by omega]
    · rw [if_neg hb]
      congr 1
      funext l
      by_cases e : l = j
      · subst e; simp [hb]
      · by_cases hl : l < j
        · simp [hl, show l < j + 1 by omega]
        · simp [hl, show ¬ l < j + 1 by omega]
theorem ctl_go {cs : List Cd} {n m mask p : Nat} {s : CS} (f : Nat → Ln) (hm : mask < 2 ^ n) (hp : p < cs.length) (hop : (cs.getD p default).op ≠ 8 ∧ (cs.getD p default).op ≠ 9)
    (ha : ∀ l, l < n → mask.testBit l = true → (s.L l).at_ = p ∧ lnStep cs m l (s.L l) s.M = f l ∧ (f l).W = false) (hw : ∀ l, l < n → (s.L l).W = false) (ho : ∀ l, l < n → mask.testBit l = false → p < (s.L l).at_) :
    Gets cs n m s { s with L := fun l => if l < n ∧ mask.testBit l = true then f l else s.L l, H := if mask = 0 ∨ quietOp (cs.getD p default) = true then s.H else s.H ++ [(p, mask)] } := by
  by_cases h0 : mask = 0
  · subst h0
    have : ({ s with L := fun l => if l < n ∧ (0 : Nat).testBit l = true then f l else s.L l, H := if (0 : Nat) = 0 ∨ quietOp (cs.getD p default) = true then s.H else s.H ++ [(p, 0)] } : CS) = s := by
      simp
    rw [this]
    exact Gets.refl _ _ _ _
  · refine ⟨1, ?_⟩
    show leastStep cs n m s = _
    rw [least_step h0 hm hp (fun l hl hb => ⟨(ha l hl hb).1, hw l hl⟩) ho]
    rw [step_ctl (s := noteC cs p mask s) f hop n (fun l hl hb => ⟨(ha l hl hb).1, (ha l hl hb).2.1⟩), pass_same]
    · unfold noteC
      simp [h0]
    · intro l hl
      show (if l < n ∧ mask.testBit l = true then f l else s.L l).W = false
      split
      · rename_i hb
        exact (ha l hl hb.2).2.2
      · exact hw l hl

end Go.Proofs.Ytkolnakcgjlcgaa
