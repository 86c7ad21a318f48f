/- What an instruction does to one lane that has registers of its own, as the reference reckons it. Lanes that run by themselves, those at the least place first, make the steps of lockstep, if no barrier is split. No program in sight. Lanes that do not race: what they leave does not depend on the order of their steps. No program in sight. No condition. -/
import Derived.StillTailTactics
import Derived.Test.YtajaonejpggcbaaQae
import Derived.Test.YtajaonejpggcbaaQai

namespace Go.Proofs.Ytajaonejpggcbaa.Lw
open Go.RowKit

def SimPost (o : RMo) (x : Cd) (k : Nat) (R : Nat → Nat → Int) (M : Nat → Int) (w : World) (e : Ending) (w' : World) : Prop :=
  e = .returned (.tuple #[]) ∧ RM o w' (upR R k (simR x k o.m (R k) M)) (simM x o.m (R k) M) ∧ Chg (o.lane k) w w'
theorem SimPost.reg {o : RMo} {x : Cd} {k r : Nat} {v : Int} {R : Nat → Nat → Int} {M : Nat → Int} {w w' : World} (h : RM o w R M) (hk : o.Is k) (hr : r < 4) (hR : simR x k o.m (R k) M = setF (R k) r v) (hM : simM x o.m (R k) M = M)
    (hp : Pure (w.setCell ⟨o.rows k, r, none⟩ (.int .i64 v)) w') : SimPost o x k R M w (.returned (.tuple #[])) w' := by
  refine ⟨rfl, ?_, (Chg.of_set w _ _ _ (.inl rfl)).trans (Chg.of_pure hp)⟩
  rw [hR, hM]
  exact (h.setReg hk hr v).pure hp
theorem SimPost.same {o : RMo} {x : Cd} {k : Nat} {R : Nat → Nat → Int} {M : Nat → Int} {w w' : World} (h : RM o w R M) (hR : simR x k o.m (R k) M = R k) (hM : simM x o.m (R k) M = M) (hp : Pure w w') : SimPost o x k R M w (.returned (.tuple #[])) w' := by
  refine ⟨rfl, ?_, Chg.of_pure hp⟩
  rw [hR, hM, upR_same]
  exact h.pure hp
theorem SimPost.mem {o : RMo} {x : Cd} {k j : Nat} {v : Int} {R : Nat → Nat → Int} {M : Nat → Int} {w w' : World} (h : RM o w R M) (hR : simR x k o.m (R k) M = R k) (hM : simM x o.m (R k) M = setF M j v)
    (hp : Pure (w.setCell ⟨o.gm, j, none⟩ (.int .i64 v)) w') : SimPost o x k R M w (.returned (.tuple #[])) w' := by
  refine ⟨rfl, ?_, (Chg.of_set w _ _ _ (.inr rfl)).trans (Chg.of_pure hp)⟩
  rw [hR, hM, upR_same]
  exact (h.setMem j v).pure hp

set_option maxHeartbeats 1000000 in
set_option maxRecDepth 100000 in
theorem s6_1 (o : RMo) (k : Nat) (an : Nat) (han : an < 4) (b : Int) (w : World) (R : Nat → Nat → Int) (M : Nat → Int) (h : RM o w R M) (hk : o.Is k) (_hR : ∀ r, Word (R k r)) :
    Calls Try.prog 130 #[o.row k, o.vm, cdv ⟨1, an, b, 0⟩, .int .i64 k] w (SimPost o ⟨1, an, b, 0⟩ k R M w) := by
  have H := Lib.hid h
  have hk8 : k < 8 := hk.lt
  have hlt : o.rows k < w.heap.size := h.rowLt hk
  have ha0 : (0 : Int) ≤ (an : Int) := by omega
  have ha4 : (an : Int) < 4 := by omega
  have f1 := h.regFrozen hk an
  have qa := h.regCell hk han
  clear h _hR
  unfold cdv RMo.row RMo.vm
  simp only
  go_enter Try.func130, Try.ntmps130
  go_wp2
  go_end0
  exact SimPost.reg H.out hk han rfl rfl (by repeat (first | assumption | exact Pure.refl _ | refine Pure.drewN ?_ _ | refine Pure.drew ?_ | refine Pure.alloc ?_ _ | refine Pure.setCell ?_ (by simp <;> omega) _))

set_option maxHeartbeats 1000000 in
set_option maxRecDepth 100000 in
theorem s6_2 (o : RMo) (k : Nat) (an : Nat) (han : an < 4) (w : World) (R : Nat → Nat → Int) (M : Nat → Int) (h : RM o w R M) (hk : o.Is k) (_hR : ∀ r, Word (R k r)) :
    Calls Try.prog 130 #[o.row k, o.vm, cdv ⟨2, an, 0, 0⟩, .int .i64 k] w (SimPost o ⟨2, an, 0, 0⟩ k R M w) := by
  have H := Lib.hid h
  have hk8 : k < 8 := hk.lt
  have hlt : o.rows k < w.heap.size := h.rowLt hk
  have ha0 : (0 : Int) ≤ (an : Int) := by omega
  have ha4 : (an : Int) < 4 := by omega
  have f1 := h.regFrozen hk an
  have qa := h.regCell hk han
  clear h _hR
  unfold cdv RMo.row RMo.vm
  simp only
  go_enter Try.func130, Try.ntmps130
  go_wp2
  go_end0
  exact SimPost.reg H.out hk han rfl rfl (by repeat (first | assumption | exact Pure.refl _ | refine Pure.drewN ?_ _ | refine Pure.drew ?_ | refine Pure.alloc ?_ _ | refine Pure.setCell ?_ (by simp <;> omega) _))

set_option maxHeartbeats 1000000 in
set_option maxRecDepth 100000 in
theorem s6_3 (o : RMo) (k : Nat) (an : Nat) (han : an < 4) (bn : Nat) (hbn : bn < 4) (w : World) (R : Nat → Nat → Int) (M : Nat → Int) (h : RM o w R M) (hk : o.Is k) (hR : ∀ r, Word (R k r)) :
    Calls Try.prog 130 #[o.row k, o.vm, cdv ⟨3, an, bn, 0⟩, .int .i64 k] w (SimPost o ⟨3, an, bn, 0⟩ k R M w) := by
  have H := Lib.hid h
  have hk8 : k < 8 := hk.lt
  have hlt : o.rows k < w.heap.size := h.rowLt hk
  have ha0 : (0 : Int) ≤ (an : Int) := by omega
  have ha4 : (an : Int) < 4 := by omega
  have hb0 : (0 : Int) ≤ (bn : Int) := by omega
  have hb4 : (bn : Int) < 4 := by omega
  have f1 := h.regFrozen hk an
  have qa := h.regCell hk han
  obtain ⟨x, Hx⟩ : ∃ x, Hid (R k an = x) := ⟨_, rfl⟩
  have hwx : Word x := by rw [← Hx.out]; exact hR an
  rw [Hx.out] at qa
  have qb := h.regCell hk hbn
  obtain ⟨y, Hy⟩ : ∃ y, Hid (R k bn = y) := ⟨_, rfl⟩
  have hwy : Word y := by rw [← Hy.out]; exact hR bn
  rw [Hy.out] at qb
  have HWx := Lib.hid hwx; clear hwx
  have HWy := Lib.hid hwy; clear hwy
  clear h hR
  unfold cdv RMo.row RMo.vm
  simp only
  go_enter Try.func130, Try.ntmps130
  go_wp2
  refine region_tail 15 (by kernel_rfl) (by kernel_rfl) ?_
  simp only [List.take_succ_cons, List.take_zero, List.drop_succ_cons, List.drop_zero]
  repeat still_step
  still_call ((sWordAdd_any x y _ HWx.out HWy.out).mono fun e w' h => ⟨h.1, h.2.symm⟩)
  repeat still_step
  refine wpStill_nil ?_
  go_wp2
  go_end0
  exact SimPost.reg H.out hk han (show setF (R k) an ((R k an + R k bn) % 256) = _ by rw [Hx.out, Hy.out]) rfl (by repeat (first | assumption | exact Pure.refl _ | refine Pure.drewN ?_ _ | refine Pure.drew ?_ | refine Pure.alloc ?_ _ | refine Pure.setCell ?_ (by simp <;> omega) _))

set_option maxHeartbeats 1000000 in
set_option maxRecDepth 100000 in
theorem s6_4 (o : RMo) (k : Nat) (an : Nat) (han : an < 4) (bn : Nat) (hbn : bn < 4) (w : World) (R : Nat → Nat → Int) (M : Nat → Int) (h : RM o w R M) (hk : o.Is k) (hR : ∀ r, Word (R k r)) :
    Calls Try.prog 130 #[o.row k, o.vm, cdv ⟨4, an, bn, 0⟩, .int .i64 k] w (SimPost o ⟨4, an, bn, 0⟩ k R M w) := by
  have H := Lib.hid h
  have hk8 : k < 8 := hk.lt
  have hlt : o.rows k < w.heap.size := h.rowLt hk
  have ha0 : (0 : Int) ≤ (an : Int) := by omega
  have ha4 : (an : Int) < 4 := by omega
  have hb0 : (0 : Int) ≤ (bn : Int) := by omega
  have hb4 : (bn : Int) < 4 := by omega
  have f1 := h.regFrozen hk an
  have qa := h.regCell hk han
  obtain ⟨x, Hx⟩ : ∃ x, Hid (R k an = x) := ⟨_, rfl⟩
  have hwx : Word x := by rw [← Hx.out]; exact hR an
  rw [Hx.out] at qa
  have qb := h.regCell hk hbn
  obtain ⟨y, Hy⟩ : ∃ y, Hid (R k bn = y) := ⟨_, rfl⟩
  have hwy : Word y := by rw [← Hy.out]; exact hR bn
  rw [Hy.out] at qb
  have HWx := Lib.hid hwx; clear hwx
  have HWy := Lib.hid hwy; clear hwy
  clear h hR
  unfold cdv RMo.row RMo.vm
  simp only
  go_enter Try.func130, Try.ntmps130
  go_wp2
  refine region_tail 15 (by kernel_rfl) (by kernel_rfl) ?_
  simp only [List.take_succ_cons, List.take_zero, List.drop_succ_cons, List.drop_zero]
  repeat still_step
  still_call ((sWordMul_any x y _ HWx.out HWy.out).mono fun e w' h => ⟨h.1, h.2.symm⟩)
  repeat still_step
  refine wpStill_nil ?_
  go_wp2
  go_end0
  exact SimPost.reg H.out hk han (show setF (R k) an (R k an * R k bn % 256) = _ by rw [Hx.out, Hy.out]) rfl (by repeat (first | assumption | exact Pure.refl _ | refine Pure.drewN ?_ _ | refine Pure.drew ?_ | refine Pure.alloc ?_ _ | refine Pure.setCell ?_ (by simp <;> omega) _))

set_option maxHeartbeats 1000000 in
set_option maxRecDepth 100000 in
theorem s6_5 (o : RMo) (k : Nat) (an : Nat) (han : an < 4) (bn : Nat) (hbn : bn < 4) (w : World) (R : Nat → Nat → Int) (M : Nat → Int) (h : RM o w R M) (hk : o.Is k) (hR : ∀ r, Word (R k r)) :
    Calls Try.prog 130 #[o.row k, o.vm, cdv ⟨5, an, bn, 0⟩, .int .i64 k] w (SimPost o ⟨5, an, bn, 0⟩ k R M w) := by
  have H := Lib.hid h
  have hk8 : k < 8 := hk.lt
  have hlt : o.rows k < w.heap.size := h.rowLt hk
  have ha0 : (0 : Int) ≤ (an : Int) := by omega
  have ha4 : (an : Int) < 4 := by omega
  have hb0 : (0 : Int) ≤ (bn : Int) := by omega
  have hb4 : (bn : Int) < 4 := by omega
  have f1 := h.regFrozen hk an
  have qa := h.regCell hk han
  have qb := h.regCell hk hbn
  obtain ⟨y, Hy⟩ : ∃ y, Hid (R k bn = y) := ⟨_, rfl⟩
  have hwy : Word y := by rw [← Hy.out]; exact hR bn
  rw [Hy.out] at qb
  clear h hR
  unfold cdv RMo.row RMo.vm
  simp only
  go_enter Try.func130, Try.ntmps130
  go_wp2
  refine region_tail 9 (by kernel_rfl) (by kernel_rfl) ?_
  simp only [List.take_succ_cons, List.take_zero, List.drop_succ_cons, List.drop_zero]
  repeat still_step
  refine wpStill_nil ?_
  go_wp2
  go_end0
  exact SimPost.reg H.out hk han (show setF (R k) an (R k bn) = _ by rw [Hy.out]) rfl (by repeat (first | assumption | exact Pure.refl _ | refine Pure.drewN ?_ _ | refine Pure.drew ?_ | refine Pure.alloc ?_ _ | refine Pure.setCell ?_ (by simp <;> omega) _))

set_option maxHeartbeats 1000000 in
set_option maxRecDepth 100000 in
theorem s6_6 (o : RMo) (k : Nat) (an : Nat) (han : an < 4) (bn : Nat) (hbn : bn < 4) (cn : Nat) (hcn : cn < 4) (w : World) (R : Nat → Nat → Int) (M : Nat → Int) (h : RM o w R M) (hk : o.Is k) (hR : ∀ r, Word (R k r)) :
    Calls Try.prog 130 #[o.row k, o.vm, cdv ⟨6, an, bn, cn⟩, .int .i64 k] w (SimPost o ⟨6, an, bn, cn⟩ k R M w) := by
  have H := Lib.hid h
  have hk8 : k < 8 := hk.lt
  have hlt : o.rows k < w.heap.size := h.rowLt hk
  have ha0 : (0 : Int) ≤ (an : Int) := by omega
  have ha4 : (an : Int) < 4 := by omega
  have hb0 : (0 : Int) ≤ (bn : Int) := by omega
  have hb4 : (bn : Int) < 4 := by omega
  have hc0 : (0 : Int) ≤ (cn : Int) := by omega
  have hc4 : (cn : Int) < 4 := by omega
  have f1 := h.regFrozen hk an
  have qa := h.regCell hk han
  have qb := h.regCell hk hbn
  obtain ⟨y, Hy⟩ : ∃ y, Hid (R k bn = y) := ⟨_, rfl⟩
  have hwy : Word y := by rw [← Hy.out]; exact hR bn
  rw [Hy.out] at qb
  have qc := h.regCell hk hcn
  obtain ⟨z, Hz⟩ : ∃ z, Hid (R k cn = z) := ⟨_, rfl⟩
  have hwz : Word z := by rw [← Hz.out]; exact hR cn
  rw [Hz.out] at qc
  have HWy := Lib.hid hwy; clear hwy
  have HWz := Lib.hid hwz; clear hwz
  obtain ⟨b, Hb⟩ : ∃ b : Int, Hid ((if y < z then 1 else 0) = b) := ⟨_, rfl⟩
  have hL : ∀ w : World, Calls Try.prog 154 #[.int .i64 y, .int .i64 z] w fun e w' => e = .returned (.int .i64 b) ∧ w' = w := fun w => (sWordLess_any y z w HWy.out HWz.out).mono fun e w' h => ⟨by rw [← Hb.out]; exact h.1, h.2.symm⟩
  have HL := Lib.hid hL; clear hL
  clear h hR
  unfold cdv RMo.row RMo.vm
  simp only
  go_enter Try.func130, Try.ntmps130
  go_wp2
  refine region_tail 15 (by kernel_rfl) (by kernel_rfl) ?_
  simp only [List.take_succ_cons, List.take_zero, List.drop_succ_cons, List.drop_zero]
  repeat still_step
  still_call (HL.out _)
  repeat still_step
  refine wpStill_nil ?_
  go_wp2
  go_end0
  exact SimPost.reg H.out hk han (show setF (R k) an (if R k bn < R k cn then 1 else 0) = _ by rw [Hy.out, Hz.out, Hb.out]) rfl (by repeat (first | assumption | exact Pure.refl _ | refine Pure.drewN ?_ _ | refine Pure.drew ?_ | refine Pure.alloc ?_ _ | refine Pure.setCell ?_ (by simp <;> omega) _))

set_option maxHeartbeats 1000000 in
set_option maxRecDepth 100000 in
theorem s6_7 (o : RMo) (k : Nat) (an : Nat) (han : an < 4) (bn : Nat) (hbn : bn < 4) (cn : Nat) (hcn : cn < 4) (w : World) (R : Nat → Nat → Int) (M : Nat → Int) (h : RM o w R M) (hk : o.Is k) (hR : ∀ r, Word (R k r)) :
    Calls Try.prog 130 #[o.row k, o.vm, cdv ⟨7, an, bn, cn⟩, .int .i64 k] w (SimPost o ⟨7, an, bn, cn⟩ k R M w) := by
  have H := Lib.hid h
  have hk8 : k < 8 := hk.lt
  have hlt : o.rows k < w.heap.size := h.rowLt hk
  have ha0 : (0 : Int) ≤ (an : Int) := by omega
  have ha4 : (an : Int) < 4 := by omega
  have hb0 : (0 : Int) ≤ (bn : Int) := by omega
  have hb4 : (bn : Int) < 4 := by omega
  have hc0 : (0 : Int) ≤ (cn : Int) := by omega
  have hc4 : (cn : Int) < 4 := by omega
  have f1 := h.regFrozen hk an
  have qa := h.regCell hk han
  have qb := h.regCell hk hbn
  obtain ⟨y, Hy⟩ : ∃ y, Hid (R k bn = y) := ⟨_, rfl⟩
  have hwy : Word y := by rw [← Hy.out]; exact hR bn
  rw [Hy.out] at qb
  have qc := h.regCell hk hcn
  obtain ⟨z, Hz⟩ : ∃ z, Hid (R k cn = z) := ⟨_, rfl⟩
  have hwz : Word z := by rw [← Hz.out]; exact hR cn
  rw [Hz.out] at qc
  clear h hR
  unfold cdv RMo.row RMo.vm
  simp only
  by_cases hz0 : z = 0
  · have hzb : (z != 0) = false := by rw [bne_eq_false_iff_eq]; exact hz0
    have HZ := Lib.hid hz0; clear hz0
    go_enter Try.func130, Try.ntmps130
    go_wp2
    go_end0
    exact SimPost.same H.out (show (if R k cn = 0 then R k else setF (R k) an (R k bn)) = _ by rw [Hz.out, if_pos HZ.out]) rfl (by repeat (first | assumption | exact Pure.refl _ | refine Pure.drewN ?_ _ | refine Pure.drew ?_ | refine Pure.alloc ?_ _ | refine Pure.setCell ?_ (by simp <;> omega) _))
  · have hzb : (z != 0) = true := by rw [bne_iff_ne]; exact hz0
    have HZ := Lib.hid hz0; clear hz0
    go_enter Try.func130, Try.ntmps130
    go_wp2
    refine region_tail 9 (by kernel_rfl) (by kernel_rfl) ?_
    simp only [List.take_succ_cons, List.take_zero, List.drop_succ_cons, List.drop_zero]
    repeat still_step
    refine wpStill_nil ?_
    go_wp2
    go_end0
    exact SimPost.reg H.out hk han (show (if R k cn = 0 then R k else setF (R k) an (R k bn)) = _ by rw [Hz.out, if_neg HZ.out, Hy.out]) rfl (by repeat (first | assumption | exact Pure.refl _ | refine Pure.drewN ?_ _ | refine Pure.drew ?_ | refine Pure.alloc ?_ _ | refine Pure.setCell ?_ (by simp <;> omega) _))

set_option maxHeartbeats 1000000 in
set_option maxRecDepth 100000 in
theorem s6_8 (o : RMo) (k : Nat) (an : Nat) (han : an < 4) (bn : Nat) (hbn : bn < 4) (w : World) (R : Nat → Nat → Int) (M : Nat → Int) (h : RM o w R M) (hk : o.Is k) (hR : ∀ r, Word (R k r)) :
    Calls Try.prog 130 #[o.row k, o.vm, cdv ⟨8, an, bn, 0⟩, .int .i64 k] w (SimPost o ⟨8, an, bn, 0⟩ k R M w) := by
  have H := Lib.hid h
  have hk8 : k < 8 := hk.lt
  have hlt : o.rows k < w.heap.size := h.rowLt hk
  have ha0 : (0 : Int) ≤ (an : Int) := by omega
  have ha4 : (an : Int) < 4 := by omega
  have hb0 : (0 : Int) ≤ (bn : Int) := by omega
  have hb4 : (bn : Int) < 4 := by omega
  have f1 := h.regFrozen hk an
  have qa := h.regCell hk han
  have qb := h.regCell hk hbn
  obtain ⟨y, Hy⟩ : ∃ y, Hid (R k bn = y) := ⟨_, rfl⟩
  have hwy : Word y := by rw [← Hy.out]; exact hR bn
  rw [Hy.out] at qb
  obtain ⟨hy0, hy1⟩ := hwy
  obtain ⟨yn, rfl⟩ := Int.eq_ofNat_of_zero_le hy0
  have hm1 := h.m1
  have hm32 := h.m32
  have hmi : ¬ ((o.m : Int) = 0) := by omega
  have hmn : ¬ o.m = 0 := by omega
  have hmb : ((o.m : Int) == 0) = false := by rw [beq_eq_false_iff_ne]; omega
  have hjn : yn % o.m < o.m := Nat.mod_lt _ (by omega)
  have htm : (yn : Int).tmod (o.m : Int) = ((yn % o.m : Nat) : Int) := by rw [Int.tmod_eq_emod_of_nonneg (by omega)]; norm_cast
  have HC : Hid (cellOf ⟨8, an, bn, 0⟩ o.m (R k) = yn % o.m) := Lib.hid (by unfold cellOf; rw [Int.toNat_natCast, Hy.out, Int.toNat_natCast])
  obtain ⟨j, Hj⟩ : ∃ j, Hid (yn % o.m = j) := ⟨_, rfl⟩
  rw [Hj.out] at htm hjn HC
  have hj0 : (0 : Int) ≤ (j : Int) := by omega
  have hj1 : (j : Int) < (o.m : Int) := by omega
  have hgm : o.gm < w.heap.size := h.gmlo.2
  have qm := h.memCell hjn
  clear h hR
  unfold cdv RMo.row RMo.vm
  simp only
  go_enter Try.func130, Try.ntmps130
  go_wp2
  refine region_tail 15 (by kernel_rfl) (by kernel_rfl) ?_
  simp only [List.take_succ_cons, List.take_zero, List.drop_succ_cons, List.drop_zero]
  repeat still_step
  refine wpStill_nil ?_
  go_wp2
  go_end0
  exact SimPost.reg H.out hk han (show setF (R k) an (M (cellOf ⟨8, an, bn, 0⟩ o.m (R k))) = _ by rw [HC.out]) rfl (by repeat (first | assumption | exact Pure.refl _ | refine Pure.drewN ?_ _ | refine Pure.drew ?_ | refine Pure.alloc ?_ _ | refine Pure.setCell ?_ (by simp <;> omega) _))

set_option maxHeartbeats 1000000 in
set_option maxRecDepth 100000 in
theorem s6_9 (o : RMo) (k : Nat) (an : Nat) (han : an < 4) (bn : Nat) (hbn : bn < 4) (w : World) (R : Nat → Nat → Int) (M : Nat → Int) (h : RM o w R M) (hk : o.Is k) (hR : ∀ r, Word (R k r)) :
    Calls Try.prog 130 #[o.row k, o.vm, cdv ⟨9, an, bn, 0⟩, .int .i64 k] w (SimPost o ⟨9, an, bn, 0⟩ k R M w) := by
  have H := Lib.hid h
  have hk8 : k < 8 := hk.lt
  have hlt : o.rows k < w.heap.size := h.rowLt hk
  have ha0 : (0 : Int) ≤ (an : Int) := by omega
  have ha4 : (an : Int) < 4 := by omega
  have hb0 : (0 : Int) ≤ (bn : Int) := by omega
  have hb4 : (bn : Int) < 4 := by omega
  have f1 := h.regFrozen hk an
  have qa := h.regCell hk han
  obtain ⟨x, Hx⟩ : ∃ x, Hid (R k an = x) := ⟨_, rfl⟩
  have hwx : Word x := by rw [← Hx.out]; exact hR an
  rw [Hx.out] at qa
  have qb := h.regCell hk hbn
  obtain ⟨y, Hy⟩ : ∃ y, Hid (R k bn = y) := ⟨_, rfl⟩
  have hwy : Word y := by rw [← Hy.out]; exact hR bn
  rw [Hy.out] at qb
  obtain ⟨hy0, hy1⟩ := hwy
  obtain ⟨yn, rfl⟩ := Int.eq_ofNat_of_zero_le hy0
  have hm1 := h.m1
  have hm32 := h.m32
  have hmi : ¬ ((o.m : Int) = 0) := by omega
  have hmn : ¬ o.m = 0 := by omega
  have hmb : ((o.m : Int) == 0) = false := by rw [beq_eq_false_iff_ne]; omega
  have hjn : yn % o.m < o.m := Nat.mod_lt _ (by omega)
  have htm : (yn : Int).tmod (o.m : Int) = ((yn % o.m : Nat) : Int) := by rw [Int.tmod_eq_emod_of_nonneg (by omega)]; norm_cast
  have HC : Hid (cellOf ⟨9, an, bn, 0⟩ o.m (R k) = yn % o.m) := Lib.hid (by unfold cellOf; rw [Int.toNat_natCast, Hy.out, Int.toNat_natCast])
  obtain ⟨j, Hj⟩ : ∃ j, Hid (yn % o.m = j) := ⟨_, rfl⟩
  rw [Hj.out] at htm hjn HC
  have hj0 : (0 : Int) ≤ (j : Int) := by omega
  have hj1 : (j : Int) < (o.m : Int) := by omega
  have hgm : o.gm < w.heap.size := h.gmlo.2
  have qm := h.memCell hjn
  have f2 := h.memFrozen j
  clear h hR
  unfold cdv RMo.row RMo.vm
  simp only
  go_enter Try.func130, Try.ntmps130
  go_wp2
  refine region_tail 15 (by kernel_rfl) (by kernel_rfl) ?_
  simp only [List.take_succ_cons, List.take_zero, List.drop_succ_cons, List.drop_zero]
  repeat still_step
  refine wpStill_nil ?_
  go_wp2
  go_end0
  exact SimPost.mem H.out rfl (show setF M (cellOf ⟨9, an, bn, 0⟩ o.m (R k)) (R k an) = _ by rw [HC.out, Hx.out]) (by repeat (first | assumption | exact Pure.refl _ | refine Pure.drewN ?_ _ | refine Pure.drew ?_ | refine Pure.alloc ?_ _ | refine Pure.setCell ?_ (by simp <;> omega) _))

set_option maxHeartbeats 1000000 in
set_option maxRecDepth 100000 in
theorem s6_10 (o : RMo) (k : Nat) (w : World) (R : Nat → Nat → Int) (M : Nat → Int) (h : RM o w R M) (_hk : o.Is k) (_hR : ∀ r, Word (R k r)) :
    Calls Try.prog 130 #[o.row k, o.vm, cdv ⟨10, 0, 0, 0⟩, .int .i64 k] w (SimPost o ⟨10, 0, 0, 0⟩ k R M w) := by
  have H := Lib.hid h
  clear h _hR
  unfold cdv RMo.row RMo.vm
  simp only
  go_enter Try.func130, Try.ntmps130
  go_wp2
  go_end0
  exact SimPost.same H.out rfl rfl (by repeat (first | assumption | exact Pure.refl _ | refine Pure.drewN ?_ _ | refine Pure.drew ?_ | refine Pure.alloc ?_ _ | refine Pure.setCell ?_ (by simp <;> omega) _))

theorem s6_any (o : RMo) (x : Cd) (k : Nat) (w : World) (R : Nat → Nat → Int) (M : Nat → Int) (h : RM o w R M) (hk : o.Is k) (hx : Plain x) (hR : ∀ r, Word (R k r)) :
    Calls Try.prog 130 #[o.row k, o.vm, cdv x, .int .i64 k] w (SimPost o x k R M w) := by
  obtain ⟨hok, n11, n12, n13, n14⟩ := hx
  obtain ⟨op, a, b, c⟩ := x
  simp only at n11 n12 n13 n14
  obtain ⟨⟨ha0, ha3⟩, hb0, hb3, hc0, hc3, ho1, ho2⟩ := hok.regs
  unfold CdOk at hok
  simp only at hok
  have ho : op = 1 ∨ op = 2 ∨ op = 3 ∨ op = 4 ∨ op = 5 ∨ op = 6 ∨ op = 7 ∨ op = 8 ∨ op = 9 ∨ op = 10 := by omega
  obtain ⟨an, rfl⟩ := Int.eq_ofNat_of_zero_le ha0
  obtain ⟨cn, rfl⟩ := Int.eq_ofNat_of_zero_le hc0
  have han : an < 4 := by omega
  have hcn : cn < 4 := by omega
  rcases ho with rfl | ho
  · have hc : cn = 0 := by omega
    subst hc
    exact s6_1 o k an han b w R M h hk hR
  obtain ⟨bn, rfl⟩ := Int.eq_ofNat_of_zero_le (hb0 (by omega))
  have hbn : bn < 4 := by have := hb3 (by omega) (by omega); omega
  rcases ho with rfl | rfl | rfl | rfl | rfl | rfl | rfl | rfl | rfl
  · have hb9 : bn = 0 := by omega
    have hc9 : cn = 0 := by omega
    subst hb9
    subst hc9
    exact s6_2 o k an han w R M h hk hR
  · have hc9 : cn = 0 := by omega
    subst hc9
    exact s6_3 o k an han bn hbn w R M h hk hR
  · have hc9 : cn = 0 := by omega
    subst hc9
    exact s6_4 o k an han bn hbn w R M h hk hR
  · have hc9 : cn = 0 := by omega
    subst hc9
    exact s6_5 o k an han bn hbn w R M h hk hR
  · exact s6_6 o k an han bn hbn cn hcn w R M h hk hR
  · exact s6_7 o k an han bn hbn cn hcn w R M h hk hR
  · have hc9 : cn = 0 := by omega
    subst hc9
    exact s6_8 o k an han bn hbn w R M h hk hR
  · have hc9 : cn = 0 := by omega
    subst hc9
    exact s6_9 o k an han bn hbn w R M h hk hR
  · have ha9 : an = 0 := by omega
    have hb9 : bn = 0 := by omega
    have hc9 : cn = 0 := by omega
    subst ha9
    subst hb9
    subst hc9
    exact s6_10 o k w R M h hk hR

end Go.Proofs.Ytajaonejpggcbaa.Lw

namespace Go.Proofs.Ytajaonejpggcbaa

/-- No barrier is executed by some lanes only. -/
def NoSp (cs : List Cd) (n : Nat) (H : List (Nat × Nat × (Nat → Nat → Int))) : Prop := ∀ x ∈ H, (cs.getD x.1 default).op = 10 → x.2.1 = 2 ^ n - 1
/-- The lanes by themselves hold what the lanes in lockstep hold. -/
structure Syn (n : Nat) (s : LS) (c : CS) : Prop where
  all : ∀ l, l < n → (c.L l).R = s.R l ∧ (c.L l).W = false
  mem : c.M = s.M
  ac : c.A = s.A
  ph : c.P = s.P
  hi : c.H = s.H.map fun x => (x.1, x.2.1)
/-- The lanes of a mask are at one place. -/
def Plc (n mask i : Nat) (F : List Fr) (c : CS) : Prop := ∀ l, l < n → mask.testBit l = true → (c.L l).at_ = i ∧ (c.L l).T = frT F
def Far (n mask b : Nat) (c : CS) : Prop := ∀ l, l < n → mask.testBit l = false → b ≤ (c.L l).at_
def Same (n mask : Nat) (c c' : CS) : Prop := ∀ l, l < n → mask.testBit l = false → c'.L l = c.L l
theorem Same.refl (n mask : Nat) (c : CS) : Same n mask c c := fun _ _ _ => rfl
theorem Same.trans {n mask : Nat} {a b c : CS} (h : Same n mask a b) (k : Same n mask b c) : Same n mask a c := fun l hl hb => (k l hl hb).trans (h l hl hb)
theorem Far.same {n mask b : Nat} {c c' : CS} (h : Far n mask b c) (k : Same n mask c c') : Far n mask b c' := fun l hl hb => by rw [k l hl hb]; exact h l hl hb
theorem Far.le {n mask b b' : Nat} {c : CS} (h : Far n mask b c) (hb : b' ≤ b) : Far n mask b' c := fun l hl hx => Nat.le_trans hb (h l hl hx)

theorem lnStep_plain {cs : List Cd} {m id : Nat} {l : Ln} {M : Nat → Int} {c : Cd} (hc : cs.getD l.at_ default = c) (hp : Plain c) : lnStep cs m id l M = { l with R := simR c id m l.R M, at_ := l.at_ + 1, W := if c.op = 10 then true else l.W } := by
  obtain ⟨p1, p2, p3, p4⟩ := hp.2
  unfold lnStep
  simp only [hc]
  by_cases h10 : c.op = 10
  · rw [if_pos h10, if_pos h10]
    have : simR c id m l.R M = l.R := by unfold simR; simp [h10]
    rw [this]
  · rw [if_neg h10, if_neg p1, if_neg p2, if_neg p3, if_neg p4, if_neg h10]
section
variable {cs : List Cd} {n m : Nat}
def RunS (cs : List Cd) (n m : Nat) (t : Tr) (i : Nat) (F : List Fr) : Prop := ∀ (mask : Nat) (s : LS) (x : CS), mask < 2 ^ n → Syn n s x → Plc n mask i F x → Far n mask (i + t.len) x → NoSp cs n (run n m t i mask s).H →
  ∃ x', Gets cs n m x x' ∧ Syn n (run n m t i mask s) x' ∧ Plc n mask (i + t.len) F x' ∧ Same n mask x x'

theorem RunS.zero {t : Tr} {i : Nat} {F : List Fr} {s : LS} {x : CS} (hs : Syn n s x) : ∃ x', Gets cs n m x x' ∧ Syn n (run n m t i 0 s) x' ∧ Plc n 0 (i + t.len) F x' ∧ Same n 0 x x' :=
  ⟨x, Gets.refl _ _ _ _, by rw [run_zero]; exact hs, fun l _ hb => by simp at hb, Same.refl _ _ _⟩

end

end Go.Proofs.Ytajaonejpggcbaa

namespace Go.Proofs.Ytajaonejpggcbaa

theorem lnStep_M {cs : List Cd} {m id : Nat} {l : Ln} {M M' : Nat → Int} (h : (cs.getD l.at_ default).op = 8 → M (cellOf (cs.getD l.at_ default) m l.R) = M' (cellOf (cs.getD l.at_ default) m l.R)) : lnStep cs m id l M = lnStep cs m id l M' := by
  have hs : simR (cs.getD l.at_ default) id m l.R M = simR (cs.getD l.at_ default) id m l.R M' := by
    unfold simR
    by_cases h8 : (cs.getD l.at_ default).op = 8
    · rw [h h8]
    · simp only [h8, if_false]
  unfold lnStep
  simp only [hs]

/-- A lane alone, from a state on. -/
def al (cs : List Cd) (m : Nat) (L0 : Nat → Ln) (M0 : Nat → Int) (k : Nat) : Nat → Ln × (Nat → Int)
  | 0 => (L0 k, M0)
  | j + 1 => let r := al cs m L0 M0 k j
    if goesL cs.length r.1 = true then (lnStep cs m k r.1 r.2, lnMem cs m r.1 r.2) else r
def alA (cs : List Cd) (m : Nat) (L0 : Nat → Ln) (M0 : Nat → Int) (ph k : Nat) : Nat → List Ac
  | 0 => []
  | j + 1 => let r := al cs m L0 M0 k j
    if goesL cs.length r.1 = true then alA cs m L0 M0 ph k j ++ lnAcc cs m k ph r.1 else alA cs m L0 M0 ph k j
def Wrote (cs : List Cd) (m : Nat) (L0 : Nat → Ln) (M0 : Nat → Int) (k j x : Nat) : Prop := ∃ a ∈ alA cs m L0 M0 0 k j, a.cell = x ∧ a.wr = true

section
variable {cs : List Cd} {n m : Nat} {L0 : Nat → Ln} {M0 : Nat → Int}
theorem lnAcc_ph (k ph ph' : Nat) (l : Ln) : lnAcc cs m k ph l = (lnAcc cs m k ph' l).map fun a => { a with ph := ph } := by
  unfold lnAcc; simp only; split <;> rfl
theorem alA_ph (ph ph' k : Nat) : ∀ j, alA cs m L0 M0 ph k j = (alA cs m L0 M0 ph' k j).map fun a => { a with ph := ph }
  | 0 => rfl
  | j + 1 => by
    unfold alA
    simp only
    split
    · rw [List.map_append, alA_ph ph ph' k j, lnAcc_ph k ph ph']
    · exact alA_ph ph ph' k j
theorem alA_who (ph k : Nat) : ∀ j, ∀ a ∈ alA cs m L0 M0 ph k j, a.who = k ∧ a.ph = ph
  | 0 => by simp [alA]
  | j + 1 => by
    intro a ha
    unfold alA at ha
    simp only at ha
    split at ha
    · rcases List.mem_append.1 ha with ha | ha
      · exact alA_who ph k j a ha
      · unfold lnAcc at ha
        simp only at ha
        split at ha
        · simp at ha; rw [ha]; exact ⟨rfl, rfl⟩
        · simp at ha
    · exact alA_who ph k j a ha
theorem al_succ (k j : Nat) : al cs m L0 M0 k (j + 1) = if goesL cs.length (al cs m L0 M0 k j).1 = true then (lnStep cs m k (al cs m L0 M0 k j).1 (al cs m L0 M0 k j).2, lnMem cs m (al cs m L0 M0 k j).1 (al cs m L0 M0 k j).2) else al cs m L0 M0 k j := rfl
theorem alA_succ (ph k j : Nat) : alA cs m L0 M0 ph k (j + 1) = if goesL cs.length (al cs m L0 M0 k j).1 = true then alA cs m L0 M0 ph k j ++ lnAcc cs m k ph (al cs m L0 M0 k j).1 else alA cs m L0 M0 ph k j := rfl
theorem lnAcc_store {k ph : Nat} {l : Ln} (h9 : (cs.getD l.at_ default).op = 9) : lnAcc cs m k ph l = [⟨k, cellOf (cs.getD l.at_ default) m l.R, true, ph⟩] := by
  unfold lnAcc; simp only; rw [if_pos (.inr h9), decide_eq_true h9]
theorem al_stop {k j : Nat} (h : goesL cs.length (al cs m L0 M0 k j).1 = false) : ∀ d, al cs m L0 M0 k (j + d) = al cs m L0 M0 k j
  | 0 => rfl
  | d + 1 => by
    rw [show j + (d + 1) = (j + d) + 1 from rfl, al_succ, al_stop h d, if_neg (by rw [h]; simp)]
theorem alA_stop {ph k j : Nat} (h : goesL cs.length (al cs m L0 M0 k j).1 = false) : ∀ d, alA cs m L0 M0 ph k (j + d) = alA cs m L0 M0 ph k j
  | 0 => rfl
  | d + 1 => by
    rw [show j + (d + 1) = (j + d) + 1 from rfl, alA_succ, al_stop h d, if_neg (by rw [h]; simp)]
    exact alA_stop h d
theorem alA_mono {ph k : Nat} (j : Nat) : ∀ d, ∀ a ∈ alA cs m L0 M0 ph k j, a ∈ alA cs m L0 M0 ph k (j + d)
  | 0, _, h => h
  | d + 1, a, h => by
    show a ∈ (if _ then _ else _ : List Ac)
    split
    · exact List.mem_append_left _ (alA_mono j d a h)
    · exact alA_mono j d a h
theorem alA_most {ph k j : Nat} (h : goesL cs.length (al cs m L0 M0 k j).1 = false) (i : Nat) : ∀ a ∈ alA cs m L0 M0 ph k i, a ∈ alA cs m L0 M0 ph k j := by
  intro a ha
  by_cases hij : i ≤ j
  · obtain ⟨d, rfl⟩ : ∃ d, j = i + d := ⟨j - i, by omega⟩
    exact alA_mono i d a ha
  · obtain ⟨d, rfl⟩ : ∃ d, i = j + d := ⟨i - j, by omega⟩
    rwa [alA_stop h d] at ha
theorem al_mem {k x : Nat} : ∀ j, ¬ Wrote cs m L0 M0 k j x → (al cs m L0 M0 k j).2 x = M0 x
  | 0, _ => rfl
  | j + 1, h => by
    have h' : ¬ Wrote cs m L0 M0 k j x := fun ⟨a, h1, h2⟩ => h ⟨a, alA_mono j 1 a h1, h2⟩
    have ih := al_mem j h'
    show (if _ then _ else _ : Ln × (Nat → Int)).2 x = _
    split
    · rename_i hg
      show simM _ m _ _ x = _
      unfold simM
      split
      · rename_i h9
        unfold setF
        split
        · rename_i hx
          refine absurd ⟨⟨k, x, true, 0⟩, ?_, rfl, rfl⟩ h
          show _ ∈ (if goesL cs.length (al cs m L0 M0 k j).1 = true then _ else _ : List Ac)
          rw [if_pos hg]
          refine List.mem_append_right _ ?_
          rw [lnAcc_store h9, hx]
          exact List.mem_singleton.2 rfl
        · exact ih
      · exact ih
    · exact ih

/-- In the middle of a phase: every lane is where it would be alone; every cell holds what the lane that wrote it would have left there alone. -/
structure Mid (cs : List Cd) (n m : Nat) (L0 : Nat → Ln) (M0 : Nat → Int) (J : Nat → Nat) (L : Nat → Ln) (M : Nat → Int) : Prop where
  ln : ∀ k, k < n → L k = (al cs m L0 M0 k (J k)).1
  out : ∀ k, n ≤ k → L k = L0 k
  wr : ∀ k, k < n → ∀ x, Wrote cs m L0 M0 k (J k) x → M x = (al cs m L0 M0 k (J k)).2 x
  un : ∀ x, (∀ k, k < n → ¬ Wrote cs m L0 M0 k (J k) x) → M x = M0 x
/-- The lanes' accesses do not clash. -/
def NoC (cs : List Cd) (n m : Nat) (L0 : Nat → Ln) (M0 : Nat → Int) (J : Nat → Nat) : Prop :=
  ∀ k l, k < n → l < n → k ≠ l → ∀ a ∈ alA cs m L0 M0 0 k (J k), ∀ b ∈ alA cs m L0 M0 0 l (J l), a.cell = b.cell → a.wr = false ∧ b.wr = false
theorem Mid.start : Mid cs n m L0 M0 (fun _ => 0) L0 M0 :=
  ⟨fun _ _ => rfl, fun _ _ => rfl, fun _ _ _ h => by obtain ⟨a, h1, _⟩ := h; simp [alA] at h1, fun _ _ => rfl⟩
def upJ (J : Nat → Nat) (k : Nat) : Nat → Nat := fun l => if l = k then J k + 1 else J l
theorem upJ_same (J : Nat → Nat) (k : Nat) : upJ J k k = J k + 1 := if_pos rfl
theorem upJ_ne (J : Nat → Nat) {k l : Nat} (h : l ≠ k) : upJ J k l = J l := if_neg h

theorem Mid.step {J : Nat → Nat} {L : Nat → Ln} {M : Nat → Int} {k : Nat} (h : Mid cs n m L0 M0 J L M) (hk : k < n) (hg : goesL cs.length (L k) = true) (hn : NoC cs n m L0 M0 (upJ J k)) :
    Mid cs n m L0 M0 (upJ J k) (fun l => if l = k then lnStep cs m k (L k) M else L l) (lnMem cs m (L k) M) := by
  have hL := h.ln k hk
  have hg' : goesL cs.length (al cs m L0 M0 k (J k)).1 = true := by rw [← hL]; exact hg
  have hal : al cs m L0 M0 k (J k + 1) = (lnStep cs m k (al cs m L0 M0 k (J k)).1 (al cs m L0 M0 k (J k)).2, lnMem cs m (al cs m L0 M0 k (J k)).1 (al cs m L0 M0 k (J k)).2) := by
    show (if _ then _ else _) = _
    rw [if_pos hg']
  have hac : alA cs m L0 M0 0 k (J k + 1) = alA cs m L0 M0 0 k (J k) ++ lnAcc cs m k 0 (L k) := by
    show (if _ then _ else _) = _
    rw [if_pos hg', ← hL]
  -- the cell that is used holds what it holds for the lane alone
  have hcell : ((cs.getD (L k).at_ default).op = 8 ∨ (cs.getD (L k).at_ default).op = 9) → ∀ l, l < n → l ≠ k → ¬ Wrote cs m L0 M0 l (J l) (cellOf (cs.getD (L k).at_ default) m (L k).R) := by
    rintro ho l hl hlk ⟨a, h1, h2, h3⟩
    have := hn k l hk hl (fun e => hlk e.symm) ⟨k, cellOf (cs.getD (L k).at_ default) m (L k).R, decide ((cs.getD (L k).at_ default).op = 9), 0⟩
      (by rw [upJ_same, hac]; refine List.mem_append_right _ ?_; unfold lnAcc; simp only; rw [if_pos ho]; simp) a (by rw [upJ_ne J hlk]; exact h1) h2.symm
    rw [h3] at this
    cases this.2
  have hload : (cs.getD (L k).at_ default).op = 8 → M (cellOf (cs.getD (L k).at_ default) m (L k).R) = (al cs m L0 M0 k (J k)).2 (cellOf (cs.getD (L k).at_ default) m (L k).R) := fun h8 => by
    by_cases hw : Wrote cs m L0 M0 k (J k) (cellOf (cs.getD (L k).at_ default) m (L k).R)
    · exact h.wr k hk _ hw
    · rw [al_mem _ hw]
      refine h.un _ fun l hl => ?_
      by_cases e : l = k
      · subst e; exact hw
      · exact hcell (.inl h8) l hl e
  have hst : lnStep cs m k (L k) M = (al cs m L0 M0 k (J k + 1)).1 := by
    rw [hal, ← hL]
    exact lnStep_M hload
  have hm9 : ∀ x, lnMem cs m (L k) M x = if (cs.getD (L k).at_ default).op = 9 ∧ x = cellOf (cs.getD (L k).at_ default) m (L k).R then (L k).R (cs.getD (L k).at_ default).a.toNat else M x := fun x => by
    unfold lnMem simM
    by_cases h9 : (cs.getD (L k).at_ default).op = 9
    · rw [if_pos h9]
      unfold setF
      by_cases hx : x = cellOf (cs.getD (L k).at_ default) m (L k).R
      · rw [if_pos hx, if_pos ⟨h9, hx⟩]
      · rw [if_neg hx, if_neg (fun e => hx e.2)]
    · rw [if_neg h9, if_neg (fun e => h9 e.1)]
  have hm9' : ∀ x, (al cs m L0 M0 k (J k + 1)).2 x = if (cs.getD (L k).at_ default).op = 9 ∧ x = cellOf (cs.getD (L k).at_ default) m (L k).R then (L k).R (cs.getD (L k).at_ default).a.toNat else (al cs m L0 M0 k (J k)).2 x := fun x => by
    rw [hal, ← hL]
    unfold lnMem simM
    by_cases h9 : (cs.getD (L k).at_ default).op = 9
    · rw [if_pos h9]
      unfold setF
      by_cases hx : x = cellOf (cs.getD (L k).at_ default) m (L k).R
      · simp only [hx, if_true]; rw [if_pos ⟨h9, trivial⟩]
      · simp only [hx, if_false]; rw [if_neg (fun e => e.2)]
    · rw [if_neg h9, if_neg (fun e => h9 e.1)]
  have hwk : ∀ x, Wrote cs m L0 M0 k (J k + 1) x ↔ Wrote cs m L0 M0 k (J k) x ∨ ((cs.getD (L k).at_ default).op = 9 ∧ x = cellOf (cs.getD (L k).at_ default) m (L k).R) := fun x => by
    unfold Wrote
    rw [hac]
    constructor
    · rintro ⟨a, h1, h2, h3⟩
      rcases List.mem_append.1 h1 with h1 | h1
      · exact .inl ⟨a, h1, h2, h3⟩
      · unfold lnAcc at h1
        simp only at h1
        split at h1
        · simp only [List.mem_singleton] at h1
          subst h1
          simp only [decide_eq_true_eq] at h3
          exact .inr ⟨h3, h2.symm⟩
        · simp at h1
    · rintro (⟨a, h1, h2⟩ | ⟨h9, rfl⟩)
      · exact ⟨a, List.mem_append_left _ h1, h2⟩
      · exact ⟨_, List.mem_append_right _ (by rw [lnAcc_store h9]; exact List.mem_singleton.2 rfl), rfl, rfl⟩
  refine ⟨fun l hl => ?_, fun l hl => ?_, fun l hl x hw => ?_, fun x hx => ?_⟩
  · by_cases e : l = k
    · subst e; simp only [if_true]; rw [upJ_same, hst]
    · simp only [e, if_false]; rw [upJ_ne J e]; exact h.ln l hl
  · simp only [show ¬ l = k by omega, if_false]; exact h.out l hl
  · by_cases e : l = k
    · subst e
      rw [upJ_same] at hw ⊢
      rw [hm9, hm9']
      split
      · rfl
      · rename_i hne
        rcases (hwk x).1 hw with hw | hw
        · exact h.wr l hl x hw
        · exact absurd hw hne
    · rw [upJ_ne J e] at hw ⊢
      rw [hm9, if_neg]
      · exact h.wr l hl x hw
      · rintro ⟨h9, rfl⟩
        exact hcell (.inr h9) l hl e hw
  · rw [hm9, if_neg]
    · refine h.un x fun l hl hw => hx l hl ?_
      by_cases e : l = k
      · subst e; rw [upJ_same]; exact (hwk x).2 (.inl hw)
      · rw [upJ_ne J e]; exact hw
    · intro hq
      refine hx k hk ?_
      rw [upJ_same]
      exact (hwk x).2 (.inr hq)

/-- The end of a phase is the same on all ways. -/
theorem Mid.end_unique {J J' : Nat → Nat} {L L' : Nat → Ln} {M M' : Nat → Int} (h : Mid cs n m L0 M0 J L M) (h' : Mid cs n m L0 M0 J' L' M') (hg : anyGo cs L n = false) (hg' : anyGo cs L' n = false) : L = L' ∧ M = M' := by
  have g1 : ∀ k, k < n → goesL cs.length (al cs m L0 M0 k (J k)).1 = false := fun k hk => by
    rw [← h.ln k hk]
    cases hq : goesL cs.length (L k)
    · rfl
    · rw [anyGo_iff.2 ⟨k, hk, hq⟩] at hg; cases hg
  have g2 : ∀ k, k < n → goesL cs.length (al cs m L0 M0 k (J' k)).1 = false := fun k hk => by
    rw [← h'.ln k hk]
    cases hq : goesL cs.length (L' k)
    · rfl
    · rw [anyGo_iff.2 ⟨k, hk, hq⟩] at hg'; cases hg'
  have e1 : ∀ k, k < n → al cs m L0 M0 k (J k) = al cs m L0 M0 k (J' k) := fun k hk => by
    by_cases hij : J k ≤ J' k
    · obtain ⟨d, hd⟩ : ∃ d, J' k = J k + d := ⟨J' k - J k, by omega⟩
      rw [hd, al_stop (g1 k hk) d]
    · obtain ⟨d, hd⟩ : ∃ d, J k = J' k + d := ⟨J k - J' k, by omega⟩
      rw [hd, al_stop (g2 k hk) d]
  have e2 : ∀ k x, k < n → (Wrote cs m L0 M0 k (J k) x ↔ Wrote cs m L0 M0 k (J' k) x) := fun k x hk =>
    ⟨fun ⟨a, q1, q2⟩ => ⟨a, alA_most (g2 k hk) _ a q1, q2⟩, fun ⟨a, q1, q2⟩ => ⟨a, alA_most (g1 k hk) _ a q1, q2⟩⟩
  constructor
  · funext k
    by_cases hk : k < n
    · rw [h.ln k hk, h'.ln k hk, e1 k hk]
    · rw [h.out k (by omega), h'.out k (by omega)]
  · funext x
    by_cases hw : ∃ k, k < n ∧ Wrote cs m L0 M0 k (J k) x
    · obtain ⟨k, hk, hw⟩ := hw
      rw [h.wr k hk x hw, h'.wr k hk x ((e2 k x hk).1 hw), e1 k hk]
    · have hw1 : ∀ k, k < n → ¬ Wrote cs m L0 M0 k (J k) x := fun k hk hh => hw ⟨k, hk, hh⟩
      rw [h.un x hw1, h'.un x fun k hk hh => hw1 k hk ((e2 k x hk).2 hh)]
end

/-- From one state, phase by phase, without clashes, to the end, where the memory is Mf. -/
inductive Safe (cs : List Cd) (n m : Nat) (Mf : Nat → Int) : (Nat → Ln) → (Nat → Int) → Prop
  | fin (L0 : Nat → Ln) (M0 : Nat → Int) (J : Nat → Nat) (L : Nat → Ln) (hm : Mid cs n m L0 M0 J L Mf) (hg : anyGo cs L n = false) (hn : ∀ J', NoC cs n m L0 M0 J') (hw : ∀ k, k < n → (L k).W = false) : Safe cs n m Mf L0 M0
  | bar (L0 : Nat → Ln) (M0 : Nat → Int) (J : Nat → Nat) (L : Nat → Ln) (M : Nat → Int) (hm : Mid cs n m L0 M0 J L M) (hg : anyGo cs L n = false) (hn : ∀ J', NoC cs n m L0 M0 J') (hs : Safe cs n m Mf (freeL n L) M) : Safe cs n m Mf L0 M0
theorem Safe.noC {cs : List Cd} {n m : Nat} {Mf : Nat → Int} {L0 : Nat → Ln} {M0 : Nat → Int} (h : Safe cs n m Mf L0 M0) : ∀ J, NoC cs n m L0 M0 J := by
  cases h with
  | fin _ _ J L hm hg hn hw => exact hn
  | bar _ _ J L M hm hg hn hs => exact hn

/-- Steps of lanes that can go on, in any order, and barriers that are passed. -/
inductive Exec (cs : List Cd) (n m : Nat) : CS → CS → Prop
  | refl (s : CS) : Exec cs n m s s
  | step (s : CS) (k : Nat) (s' : CS) (hk : k < n) (hg : goesL cs.length (s.L k) = true) (h : Exec cs n m (laneS cs m k s) s') : Exec cs n m s s'
  | pass (s s' : CS) (hg : anyGo cs s.L n = false) (h : Exec cs n m { s with L := freeL n s.L, P := s.P + 1 } s') : Exec cs n m s s'
  | note (s : CS) (H : List (Nat × Nat)) (s' : CS) (h : Exec cs n m { s with H := H } s') : Exec cs n m s s'
theorem Exec.trans {cs : List Cd} {n m : Nat} {a b c : CS} (h : Exec cs n m a b) (k : Exec cs n m b c) : Exec cs n m a c := by
  induction h with
  | refl s => exact k
  | step s j s' hk hg _ ih => exact .step _ j _ hk hg (ih k)
  | pass s s' hg _ ih => exact .pass _ _ hg (ih k)
  | note s H s' _ ih => exact .note _ H _ (ih k)
theorem Exec.mono {cs : List Cd} {n m : Nat} {a b : CS} (h : Exec cs n m a b) : ∀ x ∈ a.A, x ∈ b.A := by
  induction h with
  | refl s => exact fun _ h => h
  | step s j s' hk hg _ ih => exact fun x hx => ih x (List.mem_append_left _ hx)
  | pass s s' hg _ ih => exact ih
  | note s H s' _ ih => exact ih
/-- No two accesses of a list clash. -/
def Free (A : List Ac) : Prop := ∀ x ∈ A, ∀ y ∈ A, x.ph = y.ph → x.who ≠ y.who → x.cell = y.cell → x.wr = false ∧ y.wr = false
theorem Free.noC {cs : List Cd} {n m ph : Nat} {L0 : Nat → Ln} {M0 : Nat → Int} {J : Nat → Nat} {A : List Ac} (hA : Free A) (hs : ∀ k, k < n → ∀ a ∈ alA cs m L0 M0 ph k (J k), a ∈ A) : NoC cs n m L0 M0 J := by
  intro k l hk hl hkl a ha b hb hc
  rw [alA_ph 0 ph] at ha hb
  obtain ⟨a', ha', rfl⟩ := List.mem_map.1 ha
  obtain ⟨b', hb', rfl⟩ := List.mem_map.1 hb
  obtain ⟨w1, p1⟩ := alA_who ph k _ a' ha'
  obtain ⟨w2, p2⟩ := alA_who ph l _ b' hb'
  exact hA a' (hs k hk a' ha') b' (hs l hl b' hb') (by rw [p1, p2]) (by rw [w1, w2]; exact hkl) hc
/-- A step of the lane that is its turn, if it can go on; then the barrier, if no lane can. -/
def ordStep (cs : List Cd) (n m k : Nat) (s : (Nat → Ln) × (Nat → Int)) : (Nat → Ln) × (Nat → Int) :=
  let r : (Nat → Ln) × (Nat → Int) := if goesL cs.length (s.1 k) = true then (fun l => if l = k then lnStep cs m k (s.1 k) s.2 else s.1 l, lnMem cs m (s.1 k) s.2) else s
  (if anyGo cs r.1 n = true then r.1 else freeL n r.1, r.2)
section
variable {cs : List Cd} {n m : Nat} {Mf : Nat → Int}
theorem freeL_same {L : Nat → Ln} (h : ∀ k, k < n → (L k).W = false) : freeL n L = L := funext fun l => by
  unfold freeL
  split
  · rename_i hl; rw [← h l hl]
  · rfl
def OrdI (cs : List Cd) (n m : Nat) (Mf : Nat → Int) (s : (Nat → Ln) × (Nat → Int)) : Prop := ∃ L0 M0 J, Safe cs n m Mf L0 M0 ∧ Mid cs n m L0 M0 J s.1 s.2
theorem OrdI.step {s : (Nat → Ln) × (Nat → Int)} {k : Nat} (h : OrdI cs n m Mf s) (hk : k < n) : OrdI cs n m Mf (ordStep cs n m k s) := by
  obtain ⟨L0, M0, J, hs, hm⟩ := h
  have hr : ∃ J', Mid cs n m L0 M0 J' (if goesL cs.length (s.1 k) = true then (fun l => if l = k then lnStep cs m k (s.1 k) s.2 else s.1 l, lnMem cs m (s.1 k) s.2) else s : (Nat → Ln) × (Nat → Int)).1 (if goesL cs.length (s.1 k) = true then (fun l => if l = k then lnStep cs m k (s.1 k) s.2 else s.1 l, lnMem cs m (s.1 k) s.2) else s : (Nat → Ln) × (Nat → Int)).2 := by
    split
    · rename_i hg
      exact ⟨upJ J k, hm.step hk hg (hs.noC _)⟩
    · exact ⟨J, hm⟩
  obtain ⟨J', hm'⟩ := hr
  unfold ordStep
  simp only
  generalize (if goesL cs.length (s.1 k) = true then (fun l => if l = k then lnStep cs m k (s.1 k) s.2 else s.1 l, lnMem cs m (s.1 k) s.2) else s : (Nat → Ln) × (Nat → Int)) = r at hm'
  by_cases hg : anyGo cs r.1 n = true
  · rw [if_pos hg]
    exact ⟨L0, M0, J', hs, hm'⟩
  · have hg' : anyGo cs r.1 n = false := by simpa using hg
    rw [if_neg hg]
    cases hs with
    | fin _ _ J1 L hm1 hg1 hn hw =>
      obtain ⟨e1, e2⟩ := hm'.end_unique hm1 hg' hg1
      rw [freeL_same (by rw [e1]; exact hw)]
      exact ⟨L0, M0, J', .fin L0 M0 J1 L hm1 hg1 hn hw, hm'⟩
    | bar _ _ J1 L M hm1 hg1 hn hs1 =>
      obtain ⟨e1, e2⟩ := hm'.end_unique hm1 hg' hg1
      refine ⟨freeL n r.1, r.2, fun _ => 0, ?_, Mid.start⟩
      rw [e1, e2]; exact hs1
theorem OrdI.done {s : (Nat → Ln) × (Nat → Int)} (h : OrdI cs n m Mf s) (hd : DoneL cs n s.1) : s.2 = Mf := by
  obtain ⟨L0, M0, J, hs, hm⟩ := h
  have hg : anyGo cs s.1 n = false := by
    cases hq : anyGo cs s.1 n
    · rfl
    · obtain ⟨l, hl, h2⟩ := anyGo_iff.1 hq
      have := (goes_iff.1 h2).2
      have := (hd l hl).2
      omega
  induction hs generalizing J with
  | fin L0 M0 J1 L hm1 hg1 hn hw => exact (hm.end_unique hm1 hg hg1).2
  | bar L0 M0 J1 L M hm1 hg1 hn hs1 ih =>
    obtain ⟨e1, e2⟩ := hm.end_unique hm1 hg hg1
    have hf : freeL n L = s.1 := by rw [← e1]; exact freeL_same fun k hk => (hd k hk).1
    refine ih (fun _ => 0) ?_
    rw [hf, ← e2]
    exact Mid.start
end

end Go.Proofs.Ytajaonejpggcbaa
