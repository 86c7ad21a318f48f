/- What an instruction does to one lane, as the program reckons it. A region that draws its order, and ends in operations that make memory or write, in a forced order: what only reads may be taken first. The state of the program's search for blocks, and how each step of it turns the state. How each step of the program's search for blocks turns its state. No condition. -/
import Derived.StillTailTactics
import Derived.OrdersHeld
import Derived.Test.YtajaonejpggcbaaKaa
import Derived.Test.YtajaonejpggcbaaKab
import Derived.Test.YtajaonejpggcbaaKad

namespace Go.Proofs.Ytajaonejpggcbaa
open Go.RowKit

set_option maxHeartbeats 1000000 in
set_option maxRecDepth 100000 in
theorem i6_1 (o : RMo) (k : Nat) (an : Nat) (han : an < 4) (b : Int) (w : World) (R : Nat → Nat → Int) (M : Nat → Int) (h : RM o w R M) (hk : k < o.n) (_hR : ∀ r, Word (R k r)) :
    Calls Try.prog 157 #[cdv ⟨1, an, b, 0⟩, .int .i64 k, o.row k, o.vm] w (SimPost o ⟨1, an, b, 0⟩ k R M w) := by
  have H := Lib.hid h
  have hk8 : k < 8 := Nat.lt_of_lt_of_le hk h.n8
  have hlt : o.rows k < w.heap.size := (Array.getElem?_eq_some_iff.1 (h.row k hk)).1
  have ha0 : (0 : Int) ≤ (an : Int) := by omega
  have ha4 : (an : Int) < 4 := by omega
  have f1 := h.regFrozen hk an
  have qa := h.regCell hk han
  clear h _hR
  unfold cdv RMo.row RMo.vm
  simp only
  go_enter Try.func157, Try.ntmps157
  go_wp2
  go_end0
  exact SimPost.reg H.out hk han rfl rfl (by repeat (first | assumption | exact Pure.refl _ | refine Pure.drewN ?_ _ | refine Pure.drew ?_ | refine Pure.alloc ?_ _ | refine Pure.setCell ?_ (by simp <;> omega) _))

set_option maxHeartbeats 1000000 in
set_option maxRecDepth 100000 in
theorem i6_2 (o : RMo) (k : Nat) (an : Nat) (han : an < 4) (w : World) (R : Nat → Nat → Int) (M : Nat → Int) (h : RM o w R M) (hk : k < o.n) (_hR : ∀ r, Word (R k r)) :
    Calls Try.prog 157 #[cdv ⟨2, an, 0, 0⟩, .int .i64 k, o.row k, o.vm] w (SimPost o ⟨2, an, 0, 0⟩ k R M w) := by
  have H := Lib.hid h
  have hk8 : k < 8 := Nat.lt_of_lt_of_le hk h.n8
  have hlt : o.rows k < w.heap.size := (Array.getElem?_eq_some_iff.1 (h.row k hk)).1
  have ha0 : (0 : Int) ≤ (an : Int) := by omega
  have ha4 : (an : Int) < 4 := by omega
  have f1 := h.regFrozen hk an
  have qa := h.regCell hk han
  clear h _hR
  unfold cdv RMo.row RMo.vm
  simp only
  go_enter Try.func157, Try.ntmps157
  go_wp2
  go_end0
  exact SimPost.reg H.out hk han rfl rfl (by repeat (first | assumption | exact Pure.refl _ | refine Pure.drewN ?_ _ | refine Pure.drew ?_ | refine Pure.alloc ?_ _ | refine Pure.setCell ?_ (by simp <;> omega) _))

set_option maxHeartbeats 1000000 in
set_option maxRecDepth 100000 in
theorem i6_3 (o : RMo) (k : Nat) (an : Nat) (han : an < 4) (bn : Nat) (hbn : bn < 4) (w : World) (R : Nat → Nat → Int) (M : Nat → Int) (h : RM o w R M) (hk : k < o.n) (hR : ∀ r, Word (R k r)) :
    Calls Try.prog 157 #[cdv ⟨3, an, bn, 0⟩, .int .i64 k, o.row k, o.vm] w (SimPost o ⟨3, an, bn, 0⟩ k R M w) := by
  have H := Lib.hid h
  have hk8 : k < 8 := Nat.lt_of_lt_of_le hk h.n8
  have hlt : o.rows k < w.heap.size := (Array.getElem?_eq_some_iff.1 (h.row k hk)).1
  have ha0 : (0 : Int) ≤ (an : Int) := by omega
  have ha4 : (an : Int) < 4 := by omega
  have hb0 : (0 : Int) ≤ (bn : Int) := by omega
  have hb4 : (bn : Int) < 4 := by omega
  have f1 := h.regFrozen hk an
  have qa := h.regCell hk han
  obtain ⟨x, Hx⟩ : ∃ x, Hid (R k an = x) := ⟨_, rfl⟩
  have hwx : Word x := by rw [← Hx.out]; exact hR an
  rw [Hx.out] at qa
  have qb := h.regCell hk hbn
  obtain ⟨y, Hy⟩ : ∃ y, Hid (R k bn = y) := ⟨_, rfl⟩
  have hwy : Word y := by rw [← Hy.out]; exact hR bn
  rw [Hy.out] at qb
  have HWx := Lib.hid hwx; clear hwx
  have HWy := Lib.hid hwy; clear hwy
  clear h hR
  unfold cdv RMo.row RMo.vm
  simp only
  go_enter Try.func157, Try.ntmps157
  go_wp2
  refine region_tail 15 (by kernel_rfl) (by kernel_rfl) ?_
  simp only [List.take_succ_cons, List.take_zero, List.drop_succ_cons, List.drop_zero]
  repeat still_step
  still_call ((iWordAdd_any x y _ HWx.out HWy.out).mono fun e w' h => ⟨h.1, h.2.symm⟩)
  repeat still_step
  refine wpStill_nil ?_
  go_wp2
  go_end0
  exact SimPost.reg H.out hk han (show setF (R k) an ((R k an + R k bn) % 256) = _ by rw [Hx.out, Hy.out]) rfl (by repeat (first | assumption | exact Pure.refl _ | refine Pure.drewN ?_ _ | refine Pure.drew ?_ | refine Pure.alloc ?_ _ | refine Pure.setCell ?_ (by simp <;> omega) _))

set_option maxHeartbeats 1000000 in
set_option maxRecDepth 100000 in
theorem i6_4 (o : RMo) (k : Nat) (an : Nat) (han : an < 4) (bn : Nat) (hbn : bn < 4) (w : World) (R : Nat → Nat → Int) (M : Nat → Int) (h : RM o w R M) (hk : k < o.n) (hR : ∀ r, Word (R k r)) :
    Calls Try.prog 157 #[cdv ⟨4, an, bn, 0⟩, .int .i64 k, o.row k, o.vm] w (SimPost o ⟨4, an, bn, 0⟩ k R M w) := by
  have H := Lib.hid h
  have hk8 : k < 8 := Nat.lt_of_lt_of_le hk h.n8
  have hlt : o.rows k < w.heap.size := (Array.getElem?_eq_some_iff.1 (h.row k hk)).1
  have ha0 : (0 : Int) ≤ (an : Int) := by omega
  have ha4 : (an : Int) < 4 := by omega
  have hb0 : (0 : Int) ≤ (bn : Int) := by omega
  have hb4 : (bn : Int) < 4 := by omega
  have f1 := h.regFrozen hk an
  have qa := h.regCell hk han
  obtain ⟨x, Hx⟩ : ∃ x, Hid (R k an = x) := ⟨_, rfl⟩
  have hwx : Word x := by rw [← Hx.out]; exact hR an
  rw [Hx.out] at qa
  have qb := h.regCell hk hbn
  obtain ⟨y, Hy⟩ : ∃ y, Hid (R k bn = y) := ⟨_, rfl⟩
  have hwy : Word y := by rw [← Hy.out]; exact hR bn
  rw [Hy.out] at qb
  have HWx := Lib.hid hwx; clear hwx
  have HWy := Lib.hid hwy; clear hwy
  clear h hR
  unfold cdv RMo.row RMo.vm
  simp only
  go_enter Try.func157, Try.ntmps157
  go_wp2
  refine region_tail 15 (by kernel_rfl) (by kernel_rfl) ?_
  simp only [List.take_succ_cons, List.take_zero, List.drop_succ_cons, List.drop_zero]
  repeat still_step
  still_call ((iWordMul_any x y _ HWx.out HWy.out).mono fun e w' h => ⟨h.1, h.2.symm⟩)
  repeat still_step
  refine wpStill_nil ?_
  go_wp2
  go_end0
  exact SimPost.reg H.out hk han (show setF (R k) an (R k an * R k bn % 256) = _ by rw [Hx.out, Hy.out]) rfl (by repeat (first | assumption | exact Pure.refl _ | refine Pure.drewN ?_ _ | refine Pure.drew ?_ | refine Pure.alloc ?_ _ | refine Pure.setCell ?_ (by simp <;> omega) _))

set_option maxHeartbeats 1000000 in
set_option maxRecDepth 100000 in
theorem i6_5 (o : RMo) (k : Nat) (an : Nat) (han : an < 4) (bn : Nat) (hbn : bn < 4) (w : World) (R : Nat → Nat → Int) (M : Nat → Int) (h : RM o w R M) (hk : k < o.n) (hR : ∀ r, Word (R k r)) :
    Calls Try.prog 157 #[cdv ⟨5, an, bn, 0⟩, .int .i64 k, o.row k, o.vm] w (SimPost o ⟨5, an, bn, 0⟩ k R M w) := by
  have H := Lib.hid h
  have hk8 : k < 8 := Nat.lt_of_lt_of_le hk h.n8
  have hlt : o.rows k < w.heap.size := (Array.getElem?_eq_some_iff.1 (h.row k hk)).1
  have ha0 : (0 : Int) ≤ (an : Int) := by omega
  have ha4 : (an : Int) < 4 := by omega
  have hb0 : (0 : Int) ≤ (bn : Int) := by omega
  have hb4 : (bn : Int) < 4 := by omega
  have f1 := h.regFrozen hk an
  have qa := h.regCell hk han
  have qb := h.regCell hk hbn
  obtain ⟨y, Hy⟩ : ∃ y, Hid (R k bn = y) := ⟨_, rfl⟩
  have hwy : Word y := by rw [← Hy.out]; exact hR bn
  rw [Hy.out] at qb
  clear h hR
  unfold cdv RMo.row RMo.vm
  simp only
  go_enter Try.func157, Try.ntmps157
  go_wp2
  refine region_tail 9 (by kernel_rfl) (by kernel_rfl) ?_
  simp only [List.take_succ_cons, List.take_zero, List.drop_succ_cons, List.drop_zero]
  repeat still_step
  refine wpStill_nil ?_
  go_wp2
  go_end0
  exact SimPost.reg H.out hk han (show setF (R k) an (R k bn) = _ by rw [Hy.out]) rfl (by repeat (first | assumption | exact Pure.refl _ | refine Pure.drewN ?_ _ | refine Pure.drew ?_ | refine Pure.alloc ?_ _ | refine Pure.setCell ?_ (by simp <;> omega) _))

set_option maxHeartbeats 1000000 in
set_option maxRecDepth 100000 in
theorem i6_6 (o : RMo) (k : Nat) (an : Nat) (han : an < 4) (bn : Nat) (hbn : bn < 4) (cn : Nat) (hcn : cn < 4) (w : World) (R : Nat → Nat → Int) (M : Nat → Int) (h : RM o w R M) (hk : k < o.n) (hR : ∀ r, Word (R k r)) :
    Calls Try.prog 157 #[cdv ⟨6, an, bn, cn⟩, .int .i64 k, o.row k, o.vm] w (SimPost o ⟨6, an, bn, cn⟩ k R M w) := by
  have H := Lib.hid h
  have hk8 : k < 8 := Nat.lt_of_lt_of_le hk h.n8
  have hlt : o.rows k < w.heap.size := (Array.getElem?_eq_some_iff.1 (h.row k hk)).1
  have ha0 : (0 : Int) ≤ (an : Int) := by omega
  have ha4 : (an : Int) < 4 := by omega
  have hb0 : (0 : Int) ≤ (bn : Int) := by omega
  have hb4 : (bn : Int) < 4 := by omega
  have hc0 : (0 : Int) ≤ (cn : Int) := by omega
  have hc4 : (cn : Int) < 4 := by omega
  have f1 := h.regFrozen hk an
  have qa := h.regCell hk han
  have qb := h.regCell hk hbn
  obtain ⟨y, Hy⟩ : ∃ y, Hid (R k bn = y) := ⟨_, rfl⟩
  have hwy : Word y := by rw [← Hy.out]; exact hR bn
  rw [Hy.out] at qb
  have qc := h.regCell hk hcn
  obtain ⟨z, Hz⟩ : ∃ z, Hid (R k cn = z) := ⟨_, rfl⟩
  have hwz : Word z := by rw [← Hz.out]; exact hR cn
  rw [Hz.out] at qc
  have HWy := Lib.hid hwy; clear hwy
  have HWz := Lib.hid hwz; clear hwz
  obtain ⟨b, Hb⟩ : ∃ b : Int, Hid ((if y < z then 1 else 0) = b) := ⟨_, rfl⟩
  have hL : ∀ w : World, Calls Try.prog 161 #[.int .i64 y, .int .i64 z] w fun e w' => e = .returned (.int .i64 b) ∧ w' = w := fun w => (iWordLess_any y z w HWy.out HWz.out).mono fun e w' h => ⟨by rw [← Hb.out]; exact h.1, h.2.symm⟩
  have HL := Lib.hid hL; clear hL
  clear h hR
  unfold cdv RMo.row RMo.vm
  simp only
  go_enter Try.func157, Try.ntmps157
  go_wp2
  refine region_tail 15 (by kernel_rfl) (by kernel_rfl) ?_
  simp only [List.take_succ_cons, List.take_zero, List.drop_succ_cons, List.drop_zero]
  repeat still_step
  still_call (HL.out _)
  repeat still_step
  refine wpStill_nil ?_
  go_wp2
  go_end0
  exact SimPost.reg H.out hk han (show setF (R k) an (if R k bn < R k cn then 1 else 0) = _ by rw [Hy.out, Hz.out, Hb.out]) rfl (by repeat (first | assumption | exact Pure.refl _ | refine Pure.drewN ?_ _ | refine Pure.drew ?_ | refine Pure.alloc ?_ _ | refine Pure.setCell ?_ (by simp <;> omega) _))

set_option maxHeartbeats 1000000 in
set_option maxRecDepth 100000 in
theorem i6_7 (o : RMo) (k : Nat) (an : Nat) (han : an < 4) (bn : Nat) (hbn : bn < 4) (cn : Nat) (hcn : cn < 4) (w : World) (R : Nat → Nat → Int) (M : Nat → Int) (h : RM o w R M) (hk : k < o.n) (hR : ∀ r, Word (R k r)) :
    Calls Try.prog 157 #[cdv ⟨7, an, bn, cn⟩, .int .i64 k, o.row k, o.vm] w (SimPost o ⟨7, an, bn, cn⟩ k R M w) := by
  have H := Lib.hid h
  have hk8 : k < 8 := Nat.lt_of_lt_of_le hk h.n8
  have hlt : o.rows k < w.heap.size := (Array.getElem?_eq_some_iff.1 (h.row k hk)).1
  have ha0 : (0 : Int) ≤ (an : Int) := by omega
  have ha4 : (an : Int) < 4 := by omega
  have hb0 : (0 : Int) ≤ (bn : Int) := by omega
  have hb4 : (bn : Int) < 4 := by omega
  have hc0 : (0 : Int) ≤ (cn : Int) := by omega
  have hc4 : (cn : Int) < 4 := by omega
  have f1 := h.regFrozen hk an
  have qa := h.regCell hk han
  have qb := h.regCell hk hbn
  obtain ⟨y, Hy⟩ : ∃ y, Hid (R k bn = y) := ⟨_, rfl⟩
  have hwy : Word y := by rw [← Hy.out]; exact hR bn
  rw [Hy.out] at qb
  have qc := h.regCell hk hcn
  obtain ⟨z, Hz⟩ : ∃ z, Hid (R k cn = z) := ⟨_, rfl⟩
  have hwz : Word z := by rw [← Hz.out]; exact hR cn
  rw [Hz.out] at qc
  clear h hR
  unfold cdv RMo.row RMo.vm
  simp only
  by_cases hz0 : z = 0
  · have hzb : (z != 0) = false := by rw [bne_eq_false_iff_eq]; exact hz0
    have HZ := Lib.hid hz0; clear hz0
    go_enter Try.func157, Try.ntmps157
    go_wp2
    go_end0
    exact SimPost.same H.out (show (if R k cn = 0 then R k else setF (R k) an (R k bn)) = _ by rw [Hz.out, if_pos HZ.out]) rfl (by repeat (first | assumption | exact Pure.refl _ | refine Pure.drewN ?_ _ | refine Pure.drew ?_ | refine Pure.alloc ?_ _ | refine Pure.setCell ?_ (by simp <;> omega) _))
  · have hzb : (z != 0) = true := by rw [bne_iff_ne]; exact hz0
    have HZ := Lib.hid hz0; clear hz0
    go_enter Try.func157, Try.ntmps157
    go_wp2
    refine region_tail 9 (by kernel_rfl) (by kernel_rfl) ?_
    simp only [List.take_succ_cons, List.take_zero, List.drop_succ_cons, List.drop_zero]
    repeat still_step
    refine wpStill_nil ?_
    go_wp2
    go_end0
    exact SimPost.reg H.out hk han (show (if R k cn = 0 then R k else setF (R k) an (R k bn)) = _ by rw [Hz.out, if_neg HZ.out, Hy.out]) rfl (by repeat (first | assumption | exact Pure.refl _ | refine Pure.drewN ?_ _ | refine Pure.drew ?_ | refine Pure.alloc ?_ _ | refine Pure.setCell ?_ (by simp <;> omega) _))

set_option maxHeartbeats 1000000 in
set_option maxRecDepth 100000 in
theorem i6_8 (o : RMo) (k : Nat) (an : Nat) (han : an < 4) (bn : Nat) (hbn : bn < 4) (w : World) (R : Nat → Nat → Int) (M : Nat → Int) (h : RM o w R M) (hk : k < o.n) (hR : ∀ r, Word (R k r)) :
    Calls Try.prog 157 #[cdv ⟨8, an, bn, 0⟩, .int .i64 k, o.row k, o.vm] w (SimPost o ⟨8, an, bn, 0⟩ k R M w) := by
  have H := Lib.hid h
  have hk8 : k < 8 := Nat.lt_of_lt_of_le hk h.n8
  have hlt : o.rows k < w.heap.size := (Array.getElem?_eq_some_iff.1 (h.row k hk)).1
  have ha0 : (0 : Int) ≤ (an : Int) := by omega
  have ha4 : (an : Int) < 4 := by omega
  have hb0 : (0 : Int) ≤ (bn : Int) := by omega
  have hb4 : (bn : Int) < 4 := by omega
  have f1 := h.regFrozen hk an
  have qa := h.regCell hk han
  have qb := h.regCell hk hbn
  obtain ⟨y, Hy⟩ : ∃ y, Hid (R k bn = y) := ⟨_, rfl⟩
  have hwy : Word y := by rw [← Hy.out]; exact hR bn
  rw [Hy.out] at qb
  obtain ⟨hy0, hy1⟩ := hwy
  obtain ⟨yn, rfl⟩ := Int.eq_ofNat_of_zero_le hy0
  have hm1 := h.m1
  have hm32 := h.m32
  have hmi : ¬ ((o.m : Int) = 0) := by omega
  have hmn : ¬ o.m = 0 := by omega
  have hmb : ((o.m : Int) == 0) = false := by rw [beq_eq_false_iff_ne]; omega
  have hjn : yn % o.m < o.m := Nat.mod_lt _ (by omega)
  have htm : (yn : Int).tmod (o.m : Int) = ((yn % o.m : Nat) : Int) := by rw [Int.tmod_eq_emod_of_nonneg (by omega)]; norm_cast
  have HC : Hid (cellOf ⟨8, an, bn, 0⟩ o.m (R k) = yn % o.m) := Lib.hid (by unfold cellOf; rw [Int.toNat_natCast, Hy.out, Int.toNat_natCast])
  obtain ⟨j, Hj⟩ : ∃ j, Hid (yn % o.m = j) := ⟨_, rfl⟩
  rw [Hj.out] at htm hjn HC
  have hj0 : (0 : Int) ≤ (j : Int) := by omega
  have hj1 : (j : Int) < (o.m : Int) := by omega
  have hgm : o.gm < w.heap.size := h.gmlo.2
  have qm := h.memCell hjn
  clear h hR
  unfold cdv RMo.row RMo.vm
  simp only
  go_enter Try.func157, Try.ntmps157
  go_wp2
  refine region_tail 15 (by kernel_rfl) (by kernel_rfl) ?_
  simp only [List.take_succ_cons, List.take_zero, List.drop_succ_cons, List.drop_zero]
  repeat still_step
  refine wpStill_nil ?_
  go_wp2
  go_end0
  exact SimPost.reg H.out hk han (show setF (R k) an (M (cellOf ⟨8, an, bn, 0⟩ o.m (R k))) = _ by rw [HC.out]) rfl (by repeat (first | assumption | exact Pure.refl _ | refine Pure.drewN ?_ _ | refine Pure.drew ?_ | refine Pure.alloc ?_ _ | refine Pure.setCell ?_ (by simp <;> omega) _))

set_option maxHeartbeats 1000000 in
set_option maxRecDepth 100000 in
theorem i6_9 (o : RMo) (k : Nat) (an : Nat) (han : an < 4) (bn : Nat) (hbn : bn < 4) (w : World) (R : Nat → Nat → Int) (M : Nat → Int) (h : RM o w R M) (hk : k < o.n) (hR : ∀ r, Word (R k r)) :
    Calls Try.prog 157 #[cdv ⟨9, an, bn, 0⟩, .int .i64 k, o.row k, o.vm] w (SimPost o ⟨9, an, bn, 0⟩ k R M w) := by
  have H := Lib.hid h
  have hk8 : k < 8 := Nat.lt_of_lt_of_le hk h.n8
  have hlt : o.rows k < w.heap.size := (Array.getElem?_eq_some_iff.1 (h.row k hk)).1
  have ha0 : (0 : Int) ≤ (an : Int) := by omega
  have ha4 : (an : Int) < 4 := by omega
  have hb0 : (0 : Int) ≤ (bn : Int) := by omega
  have hb4 : (bn : Int) < 4 := by omega
  have f1 := h.regFrozen hk an
  have qa := h.regCell hk han
  obtain ⟨x, Hx⟩ : ∃ x, Hid (R k an = x) := ⟨_, rfl⟩
  have hwx : Word x := by rw [← Hx.out]; exact hR an
  rw [Hx.out] at qa
  have qb := h.regCell hk hbn
  obtain ⟨y, Hy⟩ : ∃ y, Hid (R k bn = y) := ⟨_, rfl⟩
  have hwy : Word y := by rw [← Hy.out]; exact hR bn
  rw [Hy.out] at qb
  obtain ⟨hy0, hy1⟩ := hwy
  obtain ⟨yn, rfl⟩ := Int.eq_ofNat_of_zero_le hy0
  have hm1 := h.m1
  have hm32 := h.m32
  have hmi : ¬ ((o.m : Int) = 0) := by omega
  have hmn : ¬ o.m = 0 := by omega
  have hmb : ((o.m : Int) == 0) = false := by rw [beq_eq_false_iff_ne]; omega
  have hjn : yn % o.m < o.m := Nat.mod_lt _ (by omega)
  have htm : (yn : Int).tmod (o.m : Int) = ((yn % o.m : Nat) : Int) := by rw [Int.tmod_eq_emod_of_nonneg (by omega)]; norm_cast
  have HC : Hid (cellOf ⟨9, an, bn, 0⟩ o.m (R k) = yn % o.m) := Lib.hid (by unfold cellOf; rw [Int.toNat_natCast, Hy.out, Int.toNat_natCast])
  obtain ⟨j, Hj⟩ : ∃ j, Hid (yn % o.m = j) := ⟨_, rfl⟩
  rw [Hj.out] at htm hjn HC
  have hj0 : (0 : Int) ≤ (j : Int) := by omega
  have hj1 : (j : Int) < (o.m : Int) := by omega
  have hgm : o.gm < w.heap.size := h.gmlo.2
  have qm := h.memCell hjn
  have f2 := h.memFrozen j
  clear h hR
  unfold cdv RMo.row RMo.vm
  simp only
  go_enter Try.func157, Try.ntmps157
  go_wp2
  refine region_tail 15 (by kernel_rfl) (by kernel_rfl) ?_
  simp only [List.take_succ_cons, List.take_zero, List.drop_succ_cons, List.drop_zero]
  repeat still_step
  refine wpStill_nil ?_
  go_wp2
  go_end0
  exact SimPost.mem H.out rfl (show setF M (cellOf ⟨9, an, bn, 0⟩ o.m (R k)) (R k an) = _ by rw [HC.out, Hx.out]) (by repeat (first | assumption | exact Pure.refl _ | refine Pure.drewN ?_ _ | refine Pure.drew ?_ | refine Pure.alloc ?_ _ | refine Pure.setCell ?_ (by simp <;> omega) _))

set_option maxHeartbeats 1000000 in
set_option maxRecDepth 100000 in
theorem i6_10 (o : RMo) (k : Nat) (w : World) (R : Nat → Nat → Int) (M : Nat → Int) (h : RM o w R M) (_hk : k < o.n) (_hR : ∀ r, Word (R k r)) :
    Calls Try.prog 157 #[cdv ⟨10, 0, 0, 0⟩, .int .i64 k, o.row k, o.vm] w (SimPost o ⟨10, 0, 0, 0⟩ k R M w) := by
  have H := Lib.hid h
  clear h _hR
  unfold cdv RMo.row RMo.vm
  simp only
  go_enter Try.func157, Try.ntmps157
  go_wp2
  go_end0
  exact SimPost.same H.out rfl rfl (by repeat (first | assumption | exact Pure.refl _ | refine Pure.drewN ?_ _ | refine Pure.drew ?_ | refine Pure.alloc ?_ _ | refine Pure.setCell ?_ (by simp <;> omega) _))

theorem i6_any (o : RMo) (x : Cd) (k : Nat) (w : World) (R : Nat → Nat → Int) (M : Nat → Int) (h : RM o w R M) (hk : k < o.n) (hx : Plain x) (hR : ∀ r, Word (R k r)) :
    Calls Try.prog 157 #[cdv x, .int .i64 k, o.row k, o.vm] w (SimPost o x k R M w) := by
  obtain ⟨hok, n11, n12, n13, n14⟩ := hx
  obtain ⟨op, a, b, c⟩ := x
  simp only at n11 n12 n13 n14
  obtain ⟨⟨ha0, ha3⟩, hb0, hb3, hc0, hc3, ho1, ho2⟩ := hok.regs
  unfold CdOk at hok
  simp only at hok
  have ho : op = 1 ∨ op = 2 ∨ op = 3 ∨ op = 4 ∨ op = 5 ∨ op = 6 ∨ op = 7 ∨ op = 8 ∨ op = 9 ∨ op = 10 := by omega
  obtain ⟨an, rfl⟩ := Int.eq_ofNat_of_zero_le ha0
  obtain ⟨cn, rfl⟩ := Int.eq_ofNat_of_zero_le hc0
  have han : an < 4 := by omega
  have hcn : cn < 4 := by omega
  rcases ho with rfl | ho
  · have hc : cn = 0 := by omega
    subst hc
    exact i6_1 o k an han b w R M h hk hR
  obtain ⟨bn, rfl⟩ := Int.eq_ofNat_of_zero_le (hb0 (by omega))
  have hbn : bn < 4 := by have := hb3 (by omega) (by omega); omega
  rcases ho with rfl | rfl | rfl | rfl | rfl | rfl | rfl | rfl | rfl
  · have hb9 : bn = 0 := by omega
    have hc9 : cn = 0 := by omega
    subst hb9
    subst hc9
    exact i6_2 o k an han w R M h hk hR
  · have hc9 : cn = 0 := by omega
    subst hc9
    exact i6_3 o k an han bn hbn w R M h hk hR
  · have hc9 : cn = 0 := by omega
    subst hc9
    exact i6_4 o k an han bn hbn w R M h hk hR
  · have hc9 : cn = 0 := by omega
    subst hc9
    exact i6_5 o k an han bn hbn w R M h hk hR
  · exact i6_6 o k an han bn hbn cn hcn w R M h hk hR
  · exact i6_7 o k an han bn hbn cn hcn w R M h hk hR
  · have hc9 : cn = 0 := by omega
    subst hc9
    exact i6_8 o k an han bn hbn w R M h hk hR
  · have hc9 : cn = 0 := by omega
    subst hc9
    exact i6_9 o k an han bn hbn w R M h hk hR
  · have ha9 : an = 0 := by omega
    have hb9 : bn = 0 := by omega
    have hc9 : cn = 0 := by omega
    subst ha9
    subst hb9
    subst hc9
    exact i6_10 o k w R M h hk hR

end Go.Proofs.Ytajaonejpggcbaa

namespace Go.Proofs.Ytajaonejpggcbaa
open Go.RowKit

section
variable {P : Program} {ops : Array Oper} {Q : Exit → Act → World → Prop} {md : Region.Mode} {S : World → Prop}

/-- Whatever order is picked: behind every operation but number z the world meets S. -/
def AnyK (P : Program) (md : Region.Mode) (ops : Array Oper) (Q : Exit → Act → World → Prop) (S : World → Prop) (z : Nat) : Nat → Array Bool → Act → World → Prop
  | 0, l, a, w => Region.ready md ops l = [] ∧ Q .normal a w
  | f + 1, l, a, w => (Region.ready md ops l = [] → Q .normal a w) ∧ ∀ i ∈ Region.ready md ops l, wpOp P ops Q i (fun b u => (i ≠ z → S u) ∧ AnyK P md ops Q S z f (l.setIfInBounds i true) b u) a w
theorem AnyK.any {z : Nat} : ∀ (f : Nat) (l : Array Bool) (a : Act) (w : World), AnyK P md ops Q S z f l a w → wpAny P md ops Q f l a w
  | 0, _, _, _, h => h
  | f + 1, _, _, _, h => ⟨h.1, fun i hi => wpOp_mono (fun b u k => AnyK.any f _ b u k.2) (h.2 i hi)⟩

/-- What yields its value wherever S holds may come first, if the last operation waits for everything. -/
theorem AnyK.first {i z : Nat} {o : Oper} {v : Value} (ho : ops[i]? = some o) (hns : Region.noSelect ops = true) (hQ : ∀ c a w, Q (.panic c) (a.put o.dst v) w → Q (.panic c) a w)
    (hk : Region.sinkB md ops z = true) (hc : Region.chainB md ops z = true) (hz : z + 1 = ops.size) (hiz : i < z) :
    ∀ (f : Nat) (l : Array Bool) (a : Act) (w : World), HeadInv md ops z l →
      (∀ j p, ops[j]? = some p → j ≠ i → l.getD j true = false → (∀ e ∈ p.after, Region.binds md e = true → e.on ≠ i) → o.apart ops p = true) →
      i ∈ Region.ready md ops l → YieldsIf P ops S o v a → S w → AnyK P md ops Q S z f (l.setIfInBounds i true) (a.put o.dst v) w → AnyK P md ops Q S z (f + 1) l a w := by
  intro f
  induction f with
  | zero =>
    intro l a w inv hf hr hy hS H
    refine ⟨fun h0 => absurd hr (by rw [h0]; simp), fun j hj => ?_⟩
    by_cases e : j = i
    · rw [e]; exact hy.wpOp ho hS ⟨fun _ => hS, H⟩
    · exact absurd (ready_mono hj e) (by rw [H.1]; simp)
  | succ f ih =>
    intro l a w inv hf hr hy hS H
    refine ⟨fun h0 => absurd hr (by rw [h0]; simp), fun j hj => ?_⟩
    by_cases e : j = i
    · rw [e]; exact hy.wpOp ho hS ⟨fun _ => hS, H⟩
    have hun := (mem_ready.1 hr).1
    obtain ⟨hju, p, hp, hall⟩ := mem_ready.1 hj
    have hjs : j < ops.size := (Array.getElem?_eq_some_iff.1 hp).1
    have hjz : j ≠ z := fun e2 => tail_waits hk hc (by omega) inv _ i rfl hiz hun j (by omega) hj
    have hno : ∀ x ∈ p.after, Region.binds md x = true → x.on ≠ i := fun x hx hb e2 => by
      have h1 := hall x hx hb
      rw [e2] at h1
      have h2 := getD_both hun
      rw [h1] at h2; cases h2
    have hput := wpOp_putIf hp (hf j p hp e hju hno) (fun cs b => Region.noSelect_spec hns i o cs b ho) (fun cs b => Region.noSelect_spec hns j p cs b hp) hQ hy (H.2 j (ready_mono hj e))
    have hf' : ∀ k q, ops[k]? = some q → k ≠ i → (l.setIfInBounds j true).getD k true = false → (∀ x ∈ q.after, Region.binds md x = true → x.on ≠ i) → o.apart ops q = true := fun k q hq hki hku hn => by
      refine hf k q hq hki ?_ hn
      by_cases e3 : j = k
      · rw [← e3]; exact hju
      · rwa [getD_set_ne true e3] at hku
    refine wpOp_mono (fun b u h => ⟨fun _ => h.2.1 hjz, ih (l.setIfInBounds j true) b u (inv.set hj (by omega)) hf' (ready_mono hr (fun e4 => e e4.symm)) h.1 (h.2.1 hjz) ?_⟩) hput
    rw [Array.setIfInBounds_comm _ _ e]
    exact h.2.2

def thenK (Q : Exit → Act → World → Prop) (K : Act → World → Prop) : Exit → Act → World → Prop
  | .normal, a, w => K a w
  | e, a, w => Q e a w
theorem upon_thenK {K K' : Act → World → Prop} {o : Oper} {a : Act} (r : Result Next) (h : o.upon P a K (thenK Q K') r) : o.upon P a K Q r := by
  have hl : LetsOut (thenK Q K') → LetsOut Q := fun ⟨b, u, k⟩ => ⟨b, u, k⟩
  cases r with
  | ok n u =>
    cases n with
    | enter g xs =>
      refine Calls.mono h fun e u' k => ?_
      cases e with
      | returned v => exact k
      | panicked c => exact k
      | outgrown => exact hl k
    | value v => exact h
    | skip => exact h
    | defer d => exact h
    | row r xs => exact h
    | _ => exact h
  | halt x u => cases x <;> exact h
theorem wpOp_of_one {K : Act → World → Prop} {i : Nat} {o : Oper} {a : Act} {w : World} (ho : ops[i]? = some o) (h : wpList P ops (thenK Q K) [o] a w) : wpOp P ops Q i K a w := by
  unfold wpOp
  simp only [ho]
  unfold wpList at h
  split
  · rename_i hw
    rw [if_pos hw] at h
    rcases h with h | ⟨h1, b, u, h2⟩
    · exact .inl (upon_thenK _ h)
    · exact .inr ⟨h1, b, u, h2⟩
  · rename_i hw
    rw [if_neg hw] at h
    exact h

/-- The operations that only read, one after another. -/
def Held (P : Program) (ops : Array Oper) (S : World → Prop) (E : Act → Prop) : List Oper → Act → Prop
  | [], a => E a
  | o :: r, a => ∃ v, YieldsIf P ops S o v a ∧ Held P ops S E r (a.put o.dst v)
/-- The operations that come last, one after another. -/
def Tail (P : Program) (ops : Array Oper) (Q : Exit → Act → World → Prop) (S : World → Prop) : List Oper → Act → World → Prop
  | [], a, w => Q .normal a w
  | [o], a, w => wpList P ops Q [o] a w
  | o :: o2 :: r, a, w => wpList P ops (thenK Q fun b u => S u ∧ Tail P ops Q S (o2 :: r) b u) [o] a w
def hdsB (md : Region.Mode) (ops : Array Oper) (T : Array Bool → Bool) : List Nat → Array Bool → Bool
  | [], l => T l
  | i :: r, l => (Region.ready md ops l).contains i && Region.free md ops l i && decide (i + 1 < ops.size) && hdsB md ops T r (l.setIfInBounds i true)
def tlsB (md : Region.Mode) (ops : Array Oper) : List Nat → Array Bool → Bool
  | [], l => (Region.ready md ops l).isEmpty
  | t :: r, l => decide (Region.ready md ops l = [t]) && (decide (t + 1 = ops.size) == r.isEmpty) && tlsB md ops r (l.setIfInBounds t true)

theorem tail_any {z : Nat} (hz : z + 1 = ops.size) : ∀ (ts : List Nat) (os : List Oper) (f : Nat) (l : Array Bool) (a : Act) (w : World), ts.map (ops[·]?) = os.map some → tlsB md ops ts l = true → ts.length ≤ f → Tail P ops Q S os a w → AnyK P md ops Q S z f l a w
  | [], os, f, l, a, w, hm, hB, _, h => by
    obtain rfl : os = [] := by cases os with
      | nil => rfl
      | cons => simp at hm
    have hr : Region.ready md ops l = [] := by simpa [tlsB] using hB
    cases f with
    | zero => exact ⟨hr, h⟩
    | succ f => exact ⟨fun _ => h, by rw [hr]; simp⟩
  | t :: ts, [], _, _, _, _, hm, _, _, _ => by simp at hm
  | t :: ts, o :: os, 0, _, _, _, _, _, hf, _ => by simp at hf
  | t :: ts, o :: os, f + 1, l, a, w, hm, hB, hf, h => by
    simp only [List.map_cons, List.cons.injEq] at hm
    simp only [tlsB, Bool.and_eq_true, decide_eq_true_eq, beq_iff_eq] at hB
    obtain ⟨⟨hr, hlast⟩, hB⟩ := hB
    refine ⟨fun h0 => absurd hr (by rw [h0]; simp), fun i hi => ?_⟩
    rw [hr] at hi
    obtain rfl : i = t := by simpa using hi
    cases os with
    | nil =>
      have hts : ts = [] := by cases ts with
        | nil => rfl
        | cons => simp at hm
      subst hts
      have hzi : i = z := by simp at hlast; omega
      have h1 : wpOp P ops Q i (fun b u => Q .normal b u) a w := wpOp_of_one hm.1 (by
        have e : thenK Q (fun b u => Q .normal b u) = Q := by funext e b u; cases e <;> rfl
        rw [e]; exact h)
      exact wpOp_mono (fun b u k => ⟨fun hne => absurd hzi hne, tail_any hz [] [] f _ b u rfl hB (by simp) k⟩) h1
    | cons o2 os => exact wpOp_mono (fun b u k => ⟨fun _ => k.1, tail_any hz ts (o2 :: os) f _ b u hm.2 hB (by simpa using hf) k.2⟩) (wpOp_of_one hm.1 h)

theorem heads_any {z : Nat} {ts : List Nat} {tl : List Oper} (hz : z + 1 = ops.size) (hns : Region.noSelect ops = true) (hk : Region.sinkB md ops z = true) (hc : Region.chainB md ops z = true)
    (hQ : ∀ (c : _) (a : Act) (d : Option Tmp) (v : Value) (w : World), Q (.panic c) (a.put d v) w → Q (.panic c) a w) (ht : ts.map (ops[·]?) = tl.map some) :
    ∀ (hs : List Nat) (hl : List Oper) (f : Nat) (l : Array Bool) (a : Act) (w : World), hs.map (ops[·]?) = hl.map some → hdsB md ops (tlsB md ops ts) hs l = true → hs.length + ts.length ≤ f → HeadInv md ops z l → S w →
      Held P ops S (fun b => Tail P ops Q S tl b w) hl a → AnyK P md ops Q S z f l a w
  | [], hl, f, l, a, w, hm, hB, hf, inv, hS, h => by
    obtain rfl : hl = [] := by cases hl with
      | nil => rfl
      | cons => simp at hm
    exact tail_any hz ts tl f l a w ht hB (by simpa using hf) h
  | i :: hs, [], _, _, _, _, hm, _, _, _, _, _ => by simp at hm
  | i :: hs, o :: hl, 0, _, _, _, _, _, hf, _, _, _ => by simp at hf
  | i :: hs, o :: hl, f + 1, l, a, w, hm, hB, hf, inv, hS, h => by
    simp only [List.map_cons, List.cons.injEq] at hm
    simp only [hdsB, Bool.and_eq_true, decide_eq_true_eq] at hB
    obtain ⟨⟨⟨hr, hfr⟩, hlt⟩, hB⟩ := hB
    obtain ⟨v, hy, h⟩ := h
    have hr' : i ∈ Region.ready md ops l := by simpa using hr
    exact AnyK.first hm.1 hns (fun c b u => hQ c b o.dst v u) hk hc hz (by omega) f l a w inv (Region.free_spec hm.1 hfr) hr' hy hS
      (heads_any hz hns hk hc hQ ht hs hl f _ _ w hm.2 hB (by simp at hf; omega) (inv.set hr' (by omega)) hS h)
end

/-- A region: the operations hl (number by number: hs) only read where S holds; tl (ts) come last. -/
theorem region_held {P : Program} {id : Nat} {Q : Exit → Act → World → Prop} {a : Act} {w : World} {l : List Oper} (S : World → Prop) (hs ts : List Nat) (hl tl : List Oper) (hm : P.follows .mixedOrders = true)
    (hB : (Region.noSelect l.toArray && Region.sinkB .any l.toArray (l.toArray.size - 1) && Region.chainB .any l.toArray (l.toArray.size - 1) && decide (0 < l.toArray.size) && decide (hs.length + ts.length = l.toArray.size) && hdsB .any l.toArray (tlsB .any l.toArray ts) hs (Array.replicate l.toArray.size false)) = true)
    (hh : hs.map (l.toArray[·]?) = hl.map some) (ht : ts.map (l.toArray[·]?) = tl.map some)
    (hQ : ∀ (c : _) (a : Act) (d : Option Tmp) (v : Value) (w : World), Q (.panic c) (a.put d v) w → Q (.panic c) a w) (hS : S w.drew)
    (h : Held P l.toArray S (fun b => Tail P l.toArray Q S tl b w.drew) hl a) : (Code.region id l.toArray true).wp P Q a w := by
  simp only [Bool.and_eq_true, decide_eq_true_eq] at hB
  obtain ⟨⟨⟨⟨⟨hns, hk⟩, hc⟩, h0⟩, hlen⟩, hB⟩ := hB
  have inv0 : HeadInv .any l.toArray (l.toArray.size - 1) (Array.replicate l.toArray.size false) :=
    ⟨by simp, fun j p _ hx => (by rw [getD_replicate_false] at hx; cases hx), fun t _ hx => getD_in (by simpa using hx) (getD_replicate_false _ _)⟩
  exact wp_region_any hm (AnyK.any _ _ _ _ (heads_any (by omega) hns hk hc hQ ht hs hl _ _ a w.drew hh hB (by omega) inv0 hS h))

theorem held_of {P : Program} {ops : Array Oper} {S : World → Prop} {E : Act → Prop} {o : Oper} {r : List Oper} {a : Act} {v : Value} (hw : Region.wanted o (yielded ops a.tmps) = true) (hv : ∀ w, S w → (execOp a.eval o).run P w = .ok (.value v) w)
    (h : Held P ops S E r (a.put o.dst v)) : Held P ops S E (o :: r) a := ⟨v, .inl ⟨hw, hv⟩, h⟩
theorem held_nil {P : Program} {ops : Array Oper} {S : World → Prop} {E : Act → Prop} {a : Act} (h : E a) : Held P ops S E [] a := h

theorem region_heldF {P : Program} {id : Nat} {Q : Exit → Act → World → Prop} {a : Act} {w : World} {l : List Oper} (S : World → Prop) (hs ts : List Nat) (fH fT : List Oper → List Oper) (hm : P.follows .mixedOrders = true)
    (hB : (Region.noSelect l.toArray && Region.sinkB .any l.toArray (l.toArray.size - 1) && Region.chainB .any l.toArray (l.toArray.size - 1) && decide (0 < l.toArray.size) && decide (hs.length + ts.length = l.toArray.size) && hdsB .any l.toArray (tlsB .any l.toArray ts) hs (Array.replicate l.toArray.size false)) = true)
    (hh : hs.map (l.toArray[·]?) = (fH l).map some) (ht : ts.map (l.toArray[·]?) = (fT l).map some)
    (hQ : ∀ (c : _) (a : Act) (d : Option Tmp) (v : Value) (w : World), Q (.panic c) (a.put d v) w → Q (.panic c) a w) (hS : S w.drew)
    (h : Held P l.toArray S (fun b => Tail P l.toArray Q S (fT l) b w.drew) (fH l) a) : (Code.region id l.toArray true).wp P Q a w :=
  region_held S hs ts (fH l) (fT l) hm hB hh ht hQ hS h

end Go.Proofs.Ytajaonejpggcbaa

namespace Go.Proofs.Ytajaonejpggcbaa
open Go.RowKit

theorem elPtr : ElT Try.prog 116 145 1 [.pointer none] 8 := ⟨by kernel_rfl, ⟨.pointer none, by kernel_rfl, by kernel_rfl, rfl⟩, by decide⟩
theorem elPtrs : ElT Try.prog 115 116 1 [.slice none 0 0] 24 := ⟨by kernel_rfl, ⟨.slice none 0 0, by kernel_rfl, by kernel_rfl, rfl⟩, by decide⟩

def upd {α : Type} (f : Nat → α) (k : Nat) (v : α) : Nat → α := fun x => if x = k then v else f x
theorem upd_same {α : Type} (f : Nat → α) (k : Nat) (v : α) : upd f k v k = v := if_pos rfl
theorem upd_ne {α : Type} (f : Nat → α) {k x : Nat} (v : α) (h : x ≠ k) : upd f k v x = f x := if_neg h
def ptr (pb : Nat → Nat) (p : Nat) : Value := .pointer (some ⟨pb p, 0, none⟩)
def ownOf (cs : List Cd) (k : Nat) : Option Nat :=
  if Opens (cs.getD k default) then some k else if (cs.getD k default).op = 12 ∨ (cs.getD k default).op = 14 then some (aroundAt cs k).toNat else none
def ownV (pb : Nat → Nat) : Option Nat → Value
  | some p => ptr pb p
  | none => .pointer none
/-- The places of the blocks that are open at place j, the outermost one first. -/
def stkPos (cs : List Cd) (j : Nat) : List Nat := (((sscan (cs.take j) 0 []).getD []).map (·.1)).reverse
def Blk (w : World) (g : Nat) (p : Nat) (x : Int × Int) : Prop := w.heap[g]? = some (.cells #[.int .i64 (p : Int), .int .i64 x.1, .int .i64 x.2] 147 (0, 0))
def RowOk (w : World) (B go : Nat) (q : Value) (pb : Nat → Nat) (r : Value) (ps : List Nat) : Prop :=
  OwnO w B 145 1 r ps.length (ps.map (ptr pb)) ∧ ∀ g, r.ownBlock = some g → g ≠ go ∧ some g ≠ q.ownBlock

structure BInv (cs : List Cd) (B : Nat) (w wr : World) (ga go : Nat) (q : Value) (k ka : Nat) (st : List (Nat × Int)) (pb : Nat → Nat) (bv : Nat → Int × Int) : Prop where
  pure : Pure w wr
  hB : B = w.heap.size
  sc : sscan (cs.take k) 0 [] = some st
  stk : Stk cs k st
  own : ∃ ys, OwnO wr B 145 1 (.slice (some ⟨go, 0, none⟩) cs.length cs.length) cs.length ys ∧ (∀ j, j < k → ys[j]? = some (ownV pb (ownOf cs j))) ∧ ∀ j, k ≤ j → j < cs.length → ys[j]? = some (.pointer none)
  aro : ∃ zs, OwnO wr B 116 1 (.slice (some ⟨ga, 0, none⟩) cs.length cs.length) cs.length zs ∧ ∀ j, j < ka → ∃ r, zs[j]? = some r ∧ RowOk wr B go q pb r (stkPos cs j)
  que : OwnO wr B 145 1 q st.length ((st.map fun x => ptr pb x.1).reverse)
  qne : ∀ g, q.ownBlock = some g → g ≠ go
  blk : ∀ p, p < k → Opens (cs.getD p default) → B ≤ pb p ∧ Blk wr (pb p) p (bv p)
  inj : ∀ p p', p < k → p' < k → Opens (cs.getD p default) → Opens (cs.getD p' default) → pb p = pb p' → p = p'
  opn : ∀ i (h : i < st.length), Opens (cs.getD st[i].1 default) ∧ (bv st[i].1).2 = -1 ∧ endAt cs st[i].1 = eScan (cs.drop k) k i (bv st[i].1).1 ∧ ((0 ≤ (bv st[i].1).1) ↔ st[i].2 = 12) ∧ (st[i].2 = 13 ↔ (cs.getD st[i].1 default).op = 13)
  cls : ∀ p, p < k → Opens (cs.getD p default) → (∀ i (h : i < st.length), st[i].1 ≠ p) → endAt cs p = ((bv p).2, (bv p).1)

theorem Blk.keep {w w' : World} {g p : Nat} {x : Int × Int} {row : Option Nat} (h : Blk w g p x) (hg : w.grownBy w' row) (hne : some g ≠ row) : Blk w' g p x := by
  unfold Blk at h ⊢
  rw [hg.block g (Array.getElem?_eq_some_iff.1 h).1 hne]; exact h
theorem RowOk.keep {w w' : World} {B go : Nat} {q : Value} {pb : Nat → Nat} {r : Value} {ps : List Nat} {row : Option Nat} (h : RowOk w B go q pb r ps) (hg : w.grownBy w' row) (hne : ∀ g, r.ownBlock = some g → some g ≠ row) : RowOk w' B go q pb r ps :=
  ⟨h.1.kept hg hne, h.2⟩
theorem OwnO.heap {w : World} {B e s n : Nat} {v : Value} {xs : List Value} (h : OwnO w B e s v n xs) {g : Nat} (hg : v.ownBlock = some g) : ∃ cur, w.heap[g]? = some (.cells cur e (0, 0)) := by
  rcases h.2 with ⟨rfl, _⟩ | ⟨g', off, cap, cur, rfl, h1, h2, _⟩
  · simp [Value.ownBlock] at hg
  · simp [Value.ownBlock] at hg; subst hg; exact ⟨cur, h2⟩
theorem Blk.ne_own {w : World} {g p : Nat} {x : Int × Int} (h : Blk w g p x) {B e s n : Nat} {v : Value} {xs : List Value} (h' : OwnO w B e s v n xs) (hne : e ≠ 147) {g' : Nat} (hg : v.ownBlock = some g') : g ≠ g' := by
  rintro rfl
  obtain ⟨cur, hc⟩ := h'.heap hg
  unfold Blk at h
  rw [h] at hc
  injection hc with hc
  injection hc with _ hc
  exact hne hc.symm

section
variable {cs : List Cd} {B : Nat} {w wr : World} {ga go : Nat} {q : Value} {k ka : Nat} {st : List (Nat × Int)} {pb : Nat → Nat} {bv : Nat → Int × Int}

theorem BInv.keepPure {w' : World} (h : BInv cs B w wr ga go q k ka st pb bv) (hp : Pure wr w') : BInv cs B w w' ga go q k ka st pb bv := by
  obtain ⟨h1, h2, h3, h4, ⟨ys, h5, h6⟩, ⟨zs, h7, h8⟩, h9, h10, h11, h12, h13, h14⟩ := h
  refine ⟨h1.trans hp, h2, h3, h4, ⟨ys, h5.pure hp, h6⟩, ⟨zs, h7.pure hp, fun j hj => ?_⟩, h9.pure hp, h10, fun p hp1 hp2 => ⟨(h11 p hp1 hp2).1, (h11 p hp1 hp2).2.keep (hp.grownBy none) (by simp)⟩, h12, h13, h14⟩
  obtain ⟨r, a, b⟩ := h8 j hj
  exact ⟨r, a, b.keep (hp.grownBy none) (by simp)⟩

/-- around[k] is stored. -/
theorem BInv.storeRow {w2 : World} {r : Value} (h : BInv cs B w wr ga go q k k st pb bv) (hk : k < cs.length) (hp : Pure wr w2) (hr : OwnO w2 wr.heap.size 145 1 r st.length ((st.map fun x => ptr pb x.1).reverse)) :
    BInv cs B w (w2.setCell ⟨ga, k, none⟩ r) ga go q k (k + 1) st pb bv := by
  have h' := h.keepPure hp
  have hsz := h.pure.size
  have hlt1 := h.que.lt
  obtain ⟨ys0, ho0, _⟩ := h.own
  have hgo := (ho0.lt go rfl).2
  obtain ⟨h1, h2, h3, h4, ⟨ys, h5, h6⟩, ⟨zs, h7, h8⟩, h9, h10, h11, h12, h13, h14⟩ := h'
  have hg := grown_setCell w2 ⟨ga, k, none⟩ r
  have hga := h7.lt ga rfl
  have hs := h7.stored k r
  rw [Nat.zero_add] at hs
  have hrB : OwnO w2 B 145 1 r st.length ((st.map fun x => ptr pb x.1).reverse) := by
    refine ⟨hr.1, ?_⟩
    rcases hr.2 with h | ⟨g, off, cap, cur, e1, e2, e3⟩
    · exact .inl h
    · exact .inr ⟨g, off, cap, cur, e1, by omega, e3⟩
  have hra : ∀ g, r.ownBlock = some g → some g ≠ some ga := fun g hg => hrB.ne h7 (by decide) g hg
  have hpos : stkPos cs k = (st.map (·.1)).reverse := by unfold stkPos; rw [h3]; rfl
  refine ⟨h1.setCell (show w.heap.size ≤ ga by omega) _, h2, h3, h4, ⟨ys, h5.kept hg (fun g hg => h5.ne h7 (by decide) g hg), h6⟩, ⟨_, hs, fun j hj => ?_⟩, h9.kept hg (fun g hg => h9.ne h7 (by decide) g hg), h10, fun p hp1 hp2 => ⟨(h11 p hp1 hp2).1, (h11 p hp1 hp2).2.keep hg (fun e => (h11 p hp1 hp2).2.ne_own h7 (by decide) rfl (by injection e))⟩, h12, h13, h14⟩
  have hzl : zs.length = cs.length := by have := h7.1; omega
  by_cases e : j = k
  · subst e
    refine ⟨r, by rw [List.getElem?_set_self (by omega)], ?_⟩
    rw [hpos]
    refine ⟨?_, fun g hg2 => ?_⟩
    · have hr' := hrB.kept hg (fun g hg => hra g hg)
      rw [List.length_reverse, List.length_map, List.map_reverse, List.map_map]
      exact hr'
    · have := hr.lt g hg2
      refine ⟨by omega, fun e => ?_⟩
      have := hlt1 g e.symm
      omega
  · obtain ⟨r', a, b⟩ := h8 j (by omega)
    refine ⟨r', by rw [List.getElem?_set_ne (by omega)]; exact a, b.keep hg (fun g hg => b.1.ne h7 (by decide) g hg)⟩

/-- own[k] is stored; nothing else has turned yet. -/
theorem own_store {u : Value} (h : BInv cs B w wr ga go q k ka st pb bv) :
    (∃ zs, OwnO (wr.setCell ⟨go, k, none⟩ u) B 116 1 (.slice (some ⟨ga, 0, none⟩) cs.length cs.length) cs.length zs ∧ ∀ j, j < ka → ∃ r, zs[j]? = some r ∧ RowOk (wr.setCell ⟨go, k, none⟩ u) B go q pb r (stkPos cs j)) ∧
    OwnO (wr.setCell ⟨go, k, none⟩ u) B 145 1 q st.length ((st.map fun x => ptr pb x.1).reverse) ∧
    (∀ p, p < k → Opens (cs.getD p default) → B ≤ pb p ∧ Blk (wr.setCell ⟨go, k, none⟩ u) (pb p) p (bv p)) ∧ Pure w (wr.setCell ⟨go, k, none⟩ u) := by
  obtain ⟨h1, h2, h3, h4, ⟨ys, h5, h6⟩, ⟨zs, h7, h8⟩, h9, h10, h11, h12, h13, h14⟩ := h
  have hg := grown_setCell wr ⟨go, k, none⟩ u
  have hgo := h5.lt go rfl
  refine ⟨⟨zs, h7.kept hg (fun g hg => h7.ne h5 (by decide) g hg), fun j hj => ?_⟩, h9.kept hg (fun g hg e => h10 g hg (by injection e)), fun p hp1 hp2 => ⟨(h11 p hp1 hp2).1, (h11 p hp1 hp2).2.keep hg (fun e => (h11 p hp1 hp2).2.ne_own h5 (by decide) rfl (by injection e))⟩, h1.setCell (show w.heap.size ≤ go by omega) _⟩
  obtain ⟨r, a, b⟩ := h8 j hj
  exact ⟨r, a, b.keep hg (fun g hg e => (b.2 g hg).1 (by injection e))⟩
end

theorem bScan_lt (cs : List Cd) : ∀ (k d : Nat), bScan cs k d < k
  | 0, _ => by simp [bScan]
  | k + 1, d => by
    unfold bScan
    split
    · have := bScan_lt cs k (d + 1); omega
    · split
      · split
        · omega
        · have := bScan_lt cs k (d - 1); omega
      · have := bScan_lt cs k d; omega
theorem ownOf_le {cs : List Cd} {j p : Nat} (h : ownOf cs j = some p) : p ≤ j := by
  unfold ownOf at h
  split at h
  · injection h with h; omega
  · split at h
    · injection h with h
      have : aroundAt cs j < j := bScan_lt cs j 0
      omega
    · cases h

end Go.Proofs.Ytajaonejpggcbaa

namespace Go.Proofs.Ytajaonejpggcbaa
open Go.RowKit

section
variable {cs : List Cd} {B : Nat} {w wr : World} {ga go : Nat} {q : Value} {k : Nat} {st : List (Nat × Int)} {pb : Nat → Nat} {bv : Nat → Int × Int}

theorem sc_step (h : BInv cs B w wr ga go q k (k + 1) st pb bv) (hk : k < cs.length) {st' : List (Nat × Int)} (hs : sstep st k (cs.getD k default) = some st') : sscan (cs.take (k + 1)) 0 [] = some st' ∧ Stk cs (k + 1) st' :=
  ⟨by rw [sscan_take hk h.sc]; exact hs, h.stk.step hk hs⟩

/-- An instruction that is no part of the structure. -/
theorem BInv.other (h : BInv cs B w wr ga go q k (k + 1) st pb bv) (hk : k < cs.length) (h1 : ¬ Opens (cs.getD k default)) (h2 : (cs.getD k default).op ≠ 12) (h3 : (cs.getD k default).op ≠ 14) :
    BInv cs B w wr ga go q (k + 1) (k + 1) st pb bv := by
  have hs : sstep st k (cs.getD k default) = some st := sstep_other h1 h2 h3
  obtain ⟨s1, s2⟩ := sc_step h hk hs
  have hdr := drop_cons hk
  obtain ⟨a1, a2, a3, a4, ⟨ys, a5, a6, a7⟩, a8, a9, a10, a11, a12, a13, a14⟩ := h
  have hlt : ∀ p, p < k + 1 → Opens (cs.getD p default) → p < k := fun p hp ho => by
    by_cases e : p = k
    · subst e; exact absurd ho h1
    · omega
  refine ⟨a1, a2, s1, s2, ⟨ys, a5, fun j hj => ?_, fun j hj hj2 => a7 j (by omega) hj2⟩, a8, a9, a10, fun p hp ho => a11 p (hlt p hp ho) ho, fun p p' hp hp' ho ho' => a12 p p' (hlt p hp ho) (hlt p' hp' ho') ho ho', fun i hi => ?_, fun p hp ho hn => a14 p (hlt p hp ho) ho hn⟩
  · by_cases e : j = k
    · subst e
      rw [a7 j (Nat.le_refl _) hk]
      unfold ownOf
      rw [if_neg h1, if_neg (by omega)]; rfl
    · exact a6 j (by omega)
  · obtain ⟨b1, b2, b3, b4, b5⟩ := a13 i hi
    refine ⟨b1, b2, ?_, b4, b5⟩
    rw [b3, hdr, eScan_cons, if_neg h1, if_neg (fun h => h2 h.1), if_neg (fun h => h3 h.1), if_neg h3]

/-- An else. -/
theorem BInv.els {p : Nat} {r : List (Nat × Int)} (h : BInv cs B w wr ga go q k (k + 1) ((p, 11) :: r) pb bv) (hk : k < cs.length) (h1 : (cs.getD k default).op = 12) :
    BInv cs B w ((wr.setCell ⟨go, k, none⟩ (ptr pb p)).setCell ⟨pb p, 1, none⟩ (.int .i64 (k : Int))) ga go q (k + 1) (k + 1) ((p, 12) :: r) pb (upd bv p ((k : Int), (bv p).2)) := by
  have hno : ¬ Opens (cs.getD k default) := by unfold Opens; omega
  have hs : sstep ((p, 11) :: r) k (cs.getD k default) = some ((p, 12) :: r) := by rw [sstep_else h1]; simp
  obtain ⟨s1, s2⟩ := sc_step h hk hs
  have hdr := drop_cons hk
  obtain ⟨⟨zs, t1, t2⟩, t3, t4, t5⟩ := own_store (u := ptr pb p) h
  have haro := h.stk.around 0
  obtain ⟨a1, a2, a3, a4, ⟨ys, a5, a6, a7⟩, a8, a9, a10, a11, a12, a13, a14⟩ := h
  have hst := a5.stored k (ptr pb p)
  rw [Nat.zero_add] at hst
  have hpk : p < k := a4.lt 0 (by simp)
  have hpo := (a13 0 (by simp)).1
  simp only [List.getElem_cons_zero] at hpo
  obtain ⟨hpB, hpblk⟩ := t4 p hpk hpo
  have hg := grown_setCell (wr.setCell ⟨go, k, none⟩ (ptr pb p)) ⟨pb p, 1, none⟩ (.int .i64 (k : Int))
  have hnb : ∀ {e s n : Nat} {v : Value} {xs : List Value}, OwnO (wr.setCell ⟨go, k, none⟩ (ptr pb p)) B e s v n xs → e ≠ 147 → OwnO ((wr.setCell ⟨go, k, none⟩ (ptr pb p)).setCell ⟨pb p, 1, none⟩ (.int .i64 (k : Int))) B e s v n xs := fun ho hne => ho.kept hg (fun g hg2 e => hpblk.ne_own ho hne hg2 (by injection e with e; exact e.symm))
  have hyl : ys.length = cs.length := by have := a5.1; omega
  have hlt : ∀ x, x < k + 1 → Opens (cs.getD x default) → x < k := fun x hx ho => by
    by_cases e : x = k
    · subst e; exact absurd ho hno
    · omega
  have hmono := List.pairwise_cons.1 a4.mono
  refine ⟨t5.setCell (show w.heap.size ≤ pb p by omega) _, a2, s1, s2, ⟨_, hnb hst (by decide), fun j hj => ?_, fun j hj hj2 => ?_⟩, ⟨zs, hnb t1 (by decide), fun j hj => ?_⟩, hnb t3 (by decide), a10, fun x hx ho => ?_, fun x x' hx hx' ho ho' => a12 x x' (hlt x hx ho) (hlt x' hx' ho') ho ho', fun i hi => ?_, fun x hx ho hn => ?_⟩
  · by_cases e : j = k
    · subst e
      rw [List.getElem?_set_self (by omega)]
      have : ownOf cs j = some p := by
        unfold ownOf aroundAt
        rw [if_neg hno, if_pos (.inl h1), haro]; simp
      rw [this]; rfl
    · rw [List.getElem?_set_ne (by omega)]; exact a6 j (by omega)
  · rw [List.getElem?_set_ne (by omega)]; exact a7 j (by omega) hj2
  · obtain ⟨r', c1, c2⟩ := t2 j hj
    exact ⟨r', c1, c2.keep hg (fun g hg2 e => hpblk.ne_own c2.1 (by decide) hg2 (by injection e with e; exact e.symm))⟩
  · obtain ⟨c1, c2⟩ := t4 x (hlt x hx ho) ho
    refine ⟨c1, ?_⟩
    by_cases e : x = p
    · subst e
      rw [upd_same]
      exact heap_setCell_same _ _ 1 _ _ _ c2
    · rw [upd_ne _ _ e]
      exact c2.keep hg (fun e2 => e (a12 x p (hlt x hx ho) hpk ho hpo (by injection e2)))
  · cases i with
    | zero =>
      obtain ⟨b1, b2, b3, b4, b5⟩ := a13 0 (by simp)
      simp only [List.getElem_cons_zero] at b1 b2 b3 b4 b5 ⊢
      rw [upd_same]
      refine ⟨b1, b2, ?_, ⟨fun _ => by trivial, fun _ => by simp⟩, ⟨fun h => by omega, fun h => ?_⟩⟩
      · rw [b3, hdr]; rw [eScan_cons, if_neg hno, if_pos ⟨h1, rfl⟩]
      · have := b5.2 h; omega
    | succ i =>
      obtain ⟨b1, b2, b3, b4, b5⟩ := a13 (i + 1) (by simpa using hi)
      have hne : (r[i]'(by simpa using hi)).1 ≠ p := by
        have := hmono.1 _ (List.getElem_mem (by simpa using hi : i < r.length))
        simp only at this; omega
      simp only [List.getElem_cons_succ] at b1 b2 b3 b4 b5 ⊢
      rw [upd_ne _ _ hne]
      refine ⟨b1, b2, ?_, b4, b5⟩
      rw [b3, hdr]; rw [eScan_cons, if_neg hno, if_neg (fun h => by cases h.2), if_neg (fun h => by cases h.2), if_neg (by omega)]
  · have hn' : ∀ i (h : i < ((p, (11 : Int)) :: r).length), (((p, (11 : Int)) :: r)[i]).1 ≠ x := fun i hi => by
      cases i with
      | zero => exact hn 0 (by simp)
      | succ i => exact hn (i + 1) (by simpa using hi)
    have hxp : x ≠ p := fun e => hn' 0 (by simp) e.symm
    rw [upd_ne _ _ hxp]
    exact a14 x (hlt x hx ho) ho hn'

/-- An end. -/
theorem BInv.fin {p : Nat} {m : Int} {r : List (Nat × Int)} {q' : Value} (h : BInv cs B w wr ga go q k (k + 1) ((p, m) :: r) pb bv) (hk : k < cs.length) (h1 : (cs.getD k default).op = 14)
    (hq : OwnO wr B 145 1 q' r.length ((r.map fun x => ptr pb x.1).reverse)) (hqb : q'.ownBlock = q.ownBlock) :
    BInv cs B w ((wr.setCell ⟨go, k, none⟩ (ptr pb p)).setCell ⟨pb p, 2, none⟩ (.int .i64 (k : Int))) ga go q' (k + 1) (k + 1) r pb (upd bv p ((bv p).1, (k : Int))) := by
  have hno : ¬ Opens (cs.getD k default) := by unfold Opens; omega
  have hs : sstep ((p, m) :: r) k (cs.getD k default) = some r := by rw [sstep_end h1]
  obtain ⟨s1, s2⟩ := sc_step h hk hs
  have hdr := drop_cons hk
  obtain ⟨⟨zs, t1, t2⟩, t3, t4, t5⟩ := own_store (u := ptr pb p) h
  have haro := h.stk.around 0
  obtain ⟨a1, a2, a3, a4, ⟨ys, a5, a6, a7⟩, a8, a9, a10, a11, a12, a13, a14⟩ := h
  have hst := a5.stored k (ptr pb p)
  rw [Nat.zero_add] at hst
  have hpk : p < k := a4.lt 0 (by simp)
  have hpo := (a13 0 (by simp)).1
  simp only [List.getElem_cons_zero] at hpo
  obtain ⟨hpB, hpblk⟩ := t4 p hpk hpo
  have hg0 := grown_setCell wr ⟨go, k, none⟩ (ptr pb p)
  have hq2 : OwnO (wr.setCell ⟨go, k, none⟩ (ptr pb p)) B 145 1 q' r.length ((r.map fun x => ptr pb x.1).reverse) := hq.kept hg0 (fun g hg e => a10 g (by rw [← hqb]; exact hg) (by injection e))
  have hg := grown_setCell (wr.setCell ⟨go, k, none⟩ (ptr pb p)) ⟨pb p, 2, none⟩ (.int .i64 (k : Int))
  have hnb : ∀ {e s n : Nat} {v : Value} {xs : List Value}, OwnO (wr.setCell ⟨go, k, none⟩ (ptr pb p)) B e s v n xs → e ≠ 147 → OwnO ((wr.setCell ⟨go, k, none⟩ (ptr pb p)).setCell ⟨pb p, 2, none⟩ (.int .i64 (k : Int))) B e s v n xs := fun ho hne => ho.kept hg (fun g hg2 e => hpblk.ne_own ho hne hg2 (by injection e with e; exact e.symm))
  have hyl : ys.length = cs.length := by have := a5.1; omega
  have hlt : ∀ x, x < k + 1 → Opens (cs.getD x default) → x < k := fun x hx ho => by
    by_cases e : x = k
    · subst e; exact absurd ho hno
    · omega
  have hmono := List.pairwise_cons.1 a4.mono
  refine ⟨t5.setCell (show w.heap.size ≤ pb p by omega) _, a2, s1, s2, ⟨_, hnb hst (by decide), fun j hj => ?_, fun j hj hj2 => ?_⟩, ⟨zs, hnb t1 (by decide), fun j hj => ?_⟩, hnb hq2 (by decide), fun g hg => a10 g (by rw [← hqb]; exact hg), fun x hx ho => ?_, fun x x' hx hx' ho ho' => a12 x x' (hlt x hx ho) (hlt x' hx' ho') ho ho', fun i hi => ?_, fun x hx ho hn => ?_⟩
  · by_cases e : j = k
    · subst e
      rw [List.getElem?_set_self (by omega)]
      have : ownOf cs j = some p := by
        unfold ownOf aroundAt
        rw [if_neg hno, if_pos (.inr h1), haro]; simp
      rw [this]; rfl
    · rw [List.getElem?_set_ne (by omega)]; exact a6 j (by omega)
  · rw [List.getElem?_set_ne (by omega)]; exact a7 j (by omega) hj2
  · obtain ⟨r', c1, c2⟩ := t2 j hj
    have c3 := c2.keep hg (fun g hg2 e => hpblk.ne_own c2.1 (by decide) hg2 (by injection e with e; exact e.symm))
    exact ⟨r', c1, c3.1, fun g hg => by rw [hqb]; exact c3.2 g hg⟩
  · obtain ⟨c1, c2⟩ := t4 x (hlt x hx ho) ho
    refine ⟨c1, ?_⟩
    by_cases e : x = p
    · subst e
      rw [upd_same]
      exact heap_setCell_same _ _ 2 _ _ _ c2
    · rw [upd_ne _ _ e]
      exact c2.keep hg (fun e2 => e (a12 x p (hlt x hx ho) hpk ho hpo (by injection e2)))
  · obtain ⟨b1, b2, b3, b4, b5⟩ := a13 (i + 1) (by simpa using hi)
    have hne : (r[i]'hi).1 ≠ p := by
      have := hmono.1 _ (List.getElem_mem hi)
      simp only at this; omega
    simp only [List.getElem_cons_succ] at b1 b2 b3 b4 b5 ⊢
    rw [upd_ne _ _ hne]
    refine ⟨b1, b2, ?_, b4, b5⟩
    rw [b3, hdr]; rw [eScan_cons, if_neg hno, if_neg (fun h => by omega), if_neg (fun h => by cases h.2), if_pos h1]
    simp only [Nat.add_sub_cancel]
  · by_cases hxp : x = p
    · subst hxp
      obtain ⟨b1, b2, b3, b4, b5⟩ := a13 0 (by simp)
      simp only [List.getElem_cons_zero] at b3
      rw [upd_same, b3, hdr]; rw [eScan_cons, if_neg hno, if_neg (fun h => by omega), if_pos ⟨h1, rfl⟩]
    · rw [upd_ne _ _ hxp]
      refine a14 x (hlt x hx ho) ho fun i hi => ?_
      cases i with
      | zero => exact fun e => hxp e.symm
      | succ i => exact hn i (by simpa using hi)

/-- A block opens. -/
theorem BInv.open_ {gb : Nat} {q' : Value} {wE : World} (h : BInv cs B w wr ga go q k (k + 1) st pb bv) (hk : k < cs.length) (h1 : Opens (cs.getD k default)) (h3 : st.length < 3) (hgb : gb = wr.heap.size)
    (hq : OwnO wE B 145 1 q' (st.length + 1) ((st.map fun x => ptr pb x.1).reverse ++ [.pointer (some ⟨gb, 0, none⟩)]))
    (hg : ((wr.alloc (.cells #[.int .i64 (k : Int), .int .i64 (-1), .int .i64 (-1)] 147)).setCell ⟨go, k, none⟩ (.pointer (some ⟨gb, 0, none⟩))).grownBy wE q.ownBlock)
    (hl : Lies ((wr.alloc (.cells #[.int .i64 (k : Int), .int .i64 (-1), .int .i64 (-1)] 147)).setCell ⟨go, k, none⟩ (.pointer (some ⟨gb, 0, none⟩))) q q') :
    BInv cs B w wE ga go q' (k + 1) (k + 1) ((k, (cs.getD k default).op) :: st) (upd pb k gb) (upd bv k (-1, -1)) := by
  have hs : sstep st k (cs.getD k default) = some ((k, (cs.getD k default).op) :: st) := by rw [sstep_open h1, if_pos h3]
  obtain ⟨s1, s2⟩ := sc_step h hk hs
  have hdr := drop_cons hk
  have h14 : (cs.getD k default).op ≠ 14 := by unfold Opens at h1; omega
  have hpA : Pure wr (wr.alloc (.cells #[.int .i64 (k : Int), .int .i64 (-1), .int .i64 (-1)] 147)) := Pure.alloc (Pure.refl _) _
  have hA := h.keepPure hpA
  have hnew : Blk (wr.alloc (.cells #[.int .i64 (k : Int), .int .i64 (-1), .int .i64 (-1)] 147)) gb k (-1, -1) := by rw [hgb]; exact heap_alloc_new wr _
  generalize hwA : wr.alloc (.cells #[.int .i64 (k : Int), .int .i64 (-1), .int .i64 (-1)] 147) = wA at *
  obtain ⟨⟨zs, t1, t2⟩, t3, t4, t5⟩ := own_store (u := .pointer (some ⟨gb, 0, none⟩)) hA
  have hwrsz := h.pure.size
  have hgoN : go < wr.heap.size := by obtain ⟨ys, o, _⟩ := h.own; exact (o.lt go rfl).2
  have hqlt := h.que.lt
  have hblt : ∀ p, p < k → Opens (cs.getD p default) → pb p < wr.heap.size := fun p hp ho => by
    have := (h.blk p hp ho).2
    exact (Array.getElem?_eq_some_iff.1 this).1
  have hrows : ∀ j r, j < k + 1 → RowOk wA B go q pb r (stkPos cs j) → True := fun _ _ _ _ => trivial
  have hstkpos : ∀ j, j < k + 1 → ∀ p, p ∈ stkPos cs j → p ≠ k := fun j hj p hp => by
    have hpre : ∃ st', sscan (cs.take j) 0 [] = some st' := by
      cases hsj : sscan (cs.take j) 0 [] with
      | some x => exact ⟨x, rfl⟩
      | none =>
        have h2 : (cs.take k).take j = cs.take j := by rw [List.take_take]; congr 1; omega
        have := sscan_none (cs := cs.take k) (k := j) (by rw [h2]; exact hsj)
        rw [h.sc] at this; cases this
    obtain ⟨st', hst'⟩ := hpre
    unfold stkPos at hp
    rw [hst'] at hp
    simp only [Option.getD_some, List.mem_reverse, List.mem_map] at hp
    obtain ⟨x, hx, rfl⟩ := hp
    have := sscan_lt hst' x hx
    have hjl : (cs.take j).length ≤ j := by simp; omega
    omega
  have hrowV : ∀ j, j < k + 1 → (stkPos cs j).map (ptr pb) = (stkPos cs j).map (ptr (upd pb k gb)) := fun j hj => by
    refine List.map_congr_left fun p hp => ?_
    unfold ptr
    rw [upd_ne _ _ (hstkpos j hj p hp)]
  obtain ⟨a1, a2, a3, a4, ⟨ys, a5, a6, a7⟩, ⟨zs0, a8, a8'⟩, a9, a10, a11, a12, a13, a14⟩ := hA
  have hst := a5.stored k (.pointer (some ⟨gb, 0, none⟩))
  rw [Nat.zero_add] at hst
  have hyl : ys.length = cs.length := by have := a5.1; omega
  have hgbA : gb ≠ go := by omega
  have hnew2 : Blk (wA.setCell ⟨go, k, none⟩ (.pointer (some ⟨gb, 0, none⟩))) gb k (-1, -1) := hnew.keep (grown_setCell _ _ _) (fun e => hgbA (by injection e))
  have hstlt : ∀ x ∈ st, x.1 ≠ k := fun x hx => by
    obtain ⟨i, hi, e⟩ := List.mem_iff_getElem.1 hx
    have := a4.lt i hi
    rw [e] at this
    omega
  refine ⟨t5.grown hg (fun g hg => by have := t3.lt g hg; omega), a2, s1, s2, ⟨_, hst.kept hg (fun g hg2 e => ?_), fun j hj => ?_, fun j hj hj2 => ?_⟩, ⟨zs, t1.kept hg (fun g hg2 => t1.ne t3 (by decide) g hg2), fun j hj => ?_⟩, ?_, fun g hg2 => ?_, fun x hx ho => ?_, fun x x' hx hx' ho ho' he => ?_, fun i hi => ?_, fun x hx ho hn => ?_⟩
  · simp [Value.ownBlock] at hg2
    subst hg2
    exact a10 _ e.symm rfl
  · by_cases e : j = k
    · subst e
      rw [List.getElem?_set_self (by omega)]
      have : ownOf cs j = some j := by unfold ownOf; rw [if_pos h1]
      rw [this]; show _ = some (ptr (upd pb j gb) j); unfold ptr; rw [upd_same]
    · rw [List.getElem?_set_ne (by omega), a6 j (by omega)]
      cases ho : ownOf cs j with
      | none => rfl
      | some p =>
        have := ownOf_le ho
        show some (ptr pb p) = some (ptr (upd pb k gb) p)
        unfold ptr; rw [upd_ne _ _ (by omega)]
  · rw [List.getElem?_set_ne (by omega)]; exact a7 j (by omega) hj2
  · obtain ⟨r', c1, c2⟩ := t2 j hj
    refine ⟨r', c1, ?_, fun g hg2 => ⟨(c2.2 g hg2).1, fun e => ?_⟩⟩
    · rw [← hrowV j hj]
      exact c2.1.kept hg (fun g hg2 => (c2.2 g hg2).2)
    · rcases hl g e.symm with h | h
      · exact (c2.2 g hg2).2 h.symm
      · have := (c2.1.lt g hg2).2; omega
  · have : (((k, (cs.getD k default).op) :: st).map fun x => ptr (upd pb k gb) x.1).reverse = (st.map fun x => ptr pb x.1).reverse ++ [.pointer (some ⟨gb, 0, none⟩)] := by
      rw [List.map_cons, List.reverse_cons]
      congr 1
      · congr 1
        refine List.map_congr_left fun x hx => ?_
        unfold ptr; rw [upd_ne _ _ (hstlt x hx)]
      · unfold ptr; rw [upd_same]
    rw [this]
    exact hq
  · rcases hl g hg2 with h | h
    · exact a10 g h
    · have : (wA.setCell ⟨go, k, none⟩ (.pointer (some ⟨gb, 0, none⟩))).heap.size = wA.heap.size := by simp [World.setCell]
      have := hpA.size
      omega
  · by_cases e : x = k
    · subst e
      rw [upd_same, upd_same]
      exact ⟨by omega, hnew2.keep hg (fun e2 => by have := hqlt gb e2.symm; omega)⟩
    · rw [upd_ne _ _ e, upd_ne _ _ e]
      obtain ⟨c1, c2⟩ := t4 x (by omega) ho
      exact ⟨c1, c2.keep hg (fun e2 => c2.ne_own t3 (by decide) e2.symm rfl)⟩
  · by_cases e : x = k
    · by_cases e' : x' = k
      · omega
      · rw [e, upd_same, upd_ne _ _ e'] at he
        have := hblt x' (by omega) ho'
        omega
    · by_cases e' : x' = k
      · rw [upd_ne _ _ e, e', upd_same] at he
        have := hblt x (by omega) ho
        omega
      · rw [upd_ne _ _ e, upd_ne _ _ e'] at he
        exact a12 x x' (by omega) (by omega) ho ho' he
  · cases i with
    | zero =>
      simp only [List.getElem_cons_zero]
      rw [upd_same]
      refine ⟨h1, by trivial, rfl, ⟨fun h => by omega, fun h => ?_⟩, by trivial⟩
      unfold Opens at h1; omega
    | succ i =>
      have hi' : i < st.length := by simpa using hi
      obtain ⟨b1, b2, b3, b4, b5⟩ := a13 i hi'
      have hne : (st[i]'hi').1 ≠ k := hstlt _ (List.getElem_mem hi')
      simp only [List.getElem_cons_succ] at b1 b2 b3 b4 b5 ⊢
      rw [upd_ne _ _ hne]
      refine ⟨b1, b2, ?_, b4, b5⟩
      rw [b3, hdr, eScan_cons, if_pos h1]
  · have hxk : x ≠ k := fun e => hn 0 (by simp) (by simp [e])
    rw [upd_ne _ _ hxk]
    exact a14 x (by omega) ho (fun i hi => hn (i + 1) (by simpa using hi))

end
end Go.Proofs.Ytajaonejpggcbaa
