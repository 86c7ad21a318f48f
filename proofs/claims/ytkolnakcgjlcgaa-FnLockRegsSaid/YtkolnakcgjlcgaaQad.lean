/- What an instruction does to one lane, as the reference reckons it. What an instruction does to one lane that has registers of its own, as the reference reckons it. No condition. -/
import Derived.StillTailTactics
import Derived.Test.YtkolnakcgjlcgaaQab
import Derived.Test.YtkolnakcgjlcgaaQac

namespace Go.Proofs.Ytkolnakcgjlcgaa
open Go.RowKit

theorem region_tail {P : Program} {id : Nat} {Q : Exit → Act → World → Prop} {a : Act} {w : World} {l : List Oper} (n : Nat) (hm : P.follows .mixedOrders = true) (hB : Region.lexTailB .any l.toArray n = true)
    (h : wpStill P l.toArray w.drew (fun a' => wpList P l.toArray Q (l.drop n) a' w.drew) (l.take n) a) : (Code.region id l.toArray true).wp P Q a w :=
  wp_region_still_tail n hm hB h

def SimPost (o : RMo) (x : Cd) (k : Nat) (R : Nat → Nat → Int) (M : Nat → Int) (w : World) (e : Ending) (w' : World) : Prop :=
  e = .returned (.tuple #[]) ∧ RM o w' (upR R k (simR x k o.m (R k) M)) (simM x o.m (R k) M) ∧ Chg (o.lane k) w w'
theorem SimPost.reg {o : RMo} {x : Cd} {k r : Nat} {v : Int} {R : Nat → Nat → Int} {M : Nat → Int} {w w' : World} (h : RM o w R M) (hk : k < o.n) (hr : r < 4) (hR : simR x k o.m (R k) M = setF (R k) r v) (hM : simM x o.m (R k) M = M)
    (hp : Pure (w.setCell ⟨o.rows k, r, none⟩ (.int .i64 v)) w') : SimPost o x k R M w (.returned (.tuple #[])) w' := by
  refine ⟨rfl, ?_, (Chg.of_set w _ _ _ (.inl rfl)).trans (Chg.of_pure hp)⟩
  rw [hR, hM]
  exact (h.setReg hk hr v).pure hp
theorem SimPost.same {o : RMo} {x : Cd} {k : Nat} {R : Nat → Nat → Int} {M : Nat → Int} {w w' : World} (h : RM o w R M) (hR : simR x k o.m (R k) M = R k) (hM : simM x o.m (R k) M = M) (hp : Pure w w') : SimPost o x k R M w (.returned (.tuple #[])) w' := by
  refine ⟨rfl, ?_, Chg.of_pure hp⟩
  rw [hR, hM, upR_same]
  exact h.pure hp
theorem SimPost.mem {o : RMo} {x : Cd} {k j : Nat} {v : Int} {R : Nat → Nat → Int} {M : Nat → Int} {w w' : World} (h : RM o w R M) (hR : simR x k o.m (R k) M = R k) (hM : simM x o.m (R k) M = setF M j v)
    (hp : Pure (w.setCell ⟨o.gm, j, none⟩ (.int .i64 v)) w') : SimPost o x k R M w (.returned (.tuple #[])) w' := by
  refine ⟨rfl, ?_, (Chg.of_set w _ _ _ (.inr rfl)).trans (Chg.of_pure hp)⟩
  rw [hR, hM, upR_same]
  exact (h.setMem j v).pure hp

set_option maxHeartbeats 1000000 in
set_option maxRecDepth 100000 in
theorem s6_1 (o : RMo) (k : Nat) (an : Nat) (han : an < 4) (b : Int) (w : World) (R : Nat → Nat → Int) (M : Nat → Int) (h : RM o w R M) (hk : k < o.n) (_hR : ∀ r, Word (R k r)) :
    Calls Try.prog 112 #[o.row k, o.vm, cdv ⟨1, an, b, 0⟩, .int .i64 k] w (SimPost o ⟨1, an, b, 0⟩ k R M w) := by
  have H := Lib.hid h
  have hk8 : k < 8 := Nat.lt_of_lt_of_le hk h.n8
  have hlt : o.rows k < w.heap.size := (Array.getElem?_eq_some_iff.1 (h.row k hk)).1
  have ha0 : (0 : Int) ≤ (an : Int) := by omega
  have ha4 : (an : Int) < 4 := by omega
  have f1 := h.regFrozen hk an
  have qa := h.regCell hk han
  clear h _hR
  unfold cdv RMo.row RMo.vm
  simp only
  go_enter Try.func112, Try.ntmps112
  go_wp2
  go_end0
  exact SimPost.reg H.out hk han rfl rfl (by repeat (first | assumption | exact Pure.refl _ | refine Pure.drewN ?_ _ | refine Pure.drew ?_ | refine Pure.alloc ?_ _ | refine Pure.setCell ?_ (by simp <;> omega) _))

set_option maxHeartbeats 1000000 in
set_option maxRecDepth 100000 in
theorem s6_2 (o : RMo) (k : Nat) (an : Nat) (han : an < 4) (w : World) (R : Nat → Nat → Int) (M : Nat → Int) (h : RM o w R M) (hk : k < o.n) (_hR : ∀ r, Word (R k r)) :
    Calls Try.prog 112 #[o.row k, o.vm, cdv ⟨2, an, 0, 0⟩, .int .i64 k] w (SimPost o ⟨2, an, 0, 0⟩ k R M w) := by
  have H := Lib.hid h
  have hk8 : k < 8 := Nat.lt_of_lt_of_le hk h.n8
  have hlt : o.rows k < w.heap.size := (Array.getElem?_eq_some_iff.1 (h.row k hk)).1
  have ha0 : (0 : Int) ≤ (an : Int) := by omega
  have ha4 : (an : Int) < 4 := by omega
  have f1 := h.regFrozen hk an
  have qa := h.regCell hk han
  clear h _hR
  unfold cdv RMo.row RMo.vm
  simp only
  go_enter Try.func112, Try.ntmps112
  go_wp2
  go_end0
  exact SimPost.reg H.out hk han rfl rfl (by repeat (first | assumption | exact Pure.refl _ | refine Pure.drewN ?_ _ | refine Pure.drew ?_ | refine Pure.alloc ?_ _ | refine Pure.setCell ?_ (by simp <;> omega) _))

set_option maxHeartbeats 1000000 in
set_option maxRecDepth 100000 in
theorem s6_3 (o : RMo) (k : Nat) (an : Nat) (han : an < 4) (bn : Nat) (hbn : bn < 4) (w : World) (R : Nat → Nat → Int) (M : Nat → Int) (h : RM o w R M) (hk : k < o.n) (hR : ∀ r, Word (R k r)) :
    Calls Try.prog 112 #[o.row k, o.vm, cdv ⟨3, an, bn, 0⟩, .int .i64 k] w (SimPost o ⟨3, an, bn, 0⟩ k R M w) := by
  have H := Lib.hid h
  have hk8 : k < 8 := Nat.lt_of_lt_of_le hk h.n8
  have hlt : o.rows k < w.heap.size := (Array.getElem?_eq_some_iff.1 (h.row k hk)).1
  have ha0 : (0 : Int) ≤ (an : Int) := by omega
  have ha4 : (an : Int) < 4 := by omega
  have hb0 : (0 : Int) ≤ (bn : Int) := by omega
  have hb4 : (bn : Int) < 4 := by omega
  have f1 := h.regFrozen hk an
  have qa := h.regCell hk han
  obtain ⟨x, Hx⟩ : ∃ x, Hid (R k an = x) := ⟨_, rfl⟩
  have hwx : Word x := by rw [← Hx.out]; exact hR an
  rw [Hx.out] at qa
  have qb := h.regCell hk hbn
  obtain ⟨y, Hy⟩ : ∃ y, Hid (R k bn = y) := ⟨_, rfl⟩
  have hwy : Word y := by rw [← Hy.out]; exact hR bn
  rw [Hy.out] at qb
  have HWx := Lib.hid hwx; clear hwx
  have HWy := Lib.hid hwy; clear hwy
  clear h hR
  unfold cdv RMo.row RMo.vm
  simp only
  go_enter Try.func112, Try.ntmps112
  go_wp2
  refine region_tail 15 (by kernel_rfl) (by kernel_rfl) ?_
  simp only [List.take_succ_cons, List.take_zero, List.drop_succ_cons, List.drop_zero]
  repeat still_step
  still_call ((sWordAdd_any x y _ HWx.out HWy.out).mono fun e w' h => ⟨h.1, h.2.symm⟩)
  repeat still_step
  refine wpStill_nil ?_
  go_wp2
  go_end0
  exact SimPost.reg H.out hk han (show setF (R k) an ((R k an + R k bn) % 256) = _ by rw [Hx.out, Hy.out]) rfl (by repeat (first | assumption | exact Pure.refl _ | refine Pure.drewN ?_ _ | refine Pure.drew ?_ | refine Pure.alloc ?_ _ | refine Pure.setCell ?_ (by simp <;> omega) _))

set_option maxHeartbeats 1000000 in
set_option maxRecDepth 100000 in
theorem s6_4 (o : RMo) (k : Nat) (an : Nat) (han : an < 4) (bn : Nat) (hbn : bn < 4) (w : World) (R : Nat → Nat → Int) (M : Nat → Int) (h : RM o w R M) (hk : k < o.n) (hR : ∀ r, Word (R k r)) :
    Calls Try.prog 112 #[o.row k, o.vm, cdv ⟨4, an, bn, 0⟩, .int .i64 k] w (SimPost o ⟨4, an, bn, 0⟩ k R M w) := by
  have H := Lib.hid h
  have hk8 : k < 8 := Nat.lt_of_lt_of_le hk h.n8
  have hlt : o.rows k < w.heap.size := (Array.getElem?_eq_some_iff.1 (h.row k hk)).1
  have ha0 : (0 : Int) ≤ (an : Int) := by omega
  have ha4 : (an : Int) < 4 := by omega
  have hb0 : (0 : Int) ≤ (bn : Int) := by omega
  have hb4 : (bn : Int) < 4 := by omega
  have f1 := h.regFrozen hk an
  have qa := h.regCell hk han
  obtain ⟨x, Hx⟩ : ∃ x, Hid (R k an = x) := ⟨_, rfl⟩
  have hwx : Word x := by rw [← Hx.out]; exact hR an
  rw [Hx.out] at qa
  have qb := h.regCell hk hbn
  obtain ⟨y, Hy⟩ : ∃ y, Hid (R k bn = y) := ⟨_, rfl⟩
  have hwy : Word y := by rw [← Hy.out]; exact hR bn
  rw [Hy.out] at qb
  have HWx := Lib.hid hwx; clear hwx
  have HWy := Lib.hid hwy; clear hwy
  clear h hR
  unfold cdv RMo.row RMo.vm
  simp only
  go_enter Try.func112, Try.ntmps112
  go_wp2
  refine region_tail 15 (by kernel_rfl) (by kernel_rfl) ?_
  simp only [List.take_succ_cons, List.take_zero, List.drop_succ_cons, List.drop_zero]
  repeat still_step
  still_call ((sWordMul_any x y _ HWx.out HWy.out).mono fun e w' h => ⟨h.1, h.2.symm⟩)
  repeat still_step
  refine wpStill_nil ?_
  go_wp2
  go_end0
  exact SimPost.reg H.out hk han (show setF (R k) an (R k an * R k bn % 256) = _ by rw [Hx.out, Hy.out]) rfl (by repeat (first | assumption | exact Pure.refl _ | refine Pure.drewN ?_ _ | refine Pure.drew ?_ | refine Pure.alloc ?_ _ | refine Pure.setCell ?_ (by simp <;> omega) _))

set_option maxHeartbeats 1000000 in
set_option maxRecDepth 100000 in
theorem s6_5 (o : RMo) (k : Nat) (an : Nat) (han : an < 4) (bn : Nat) (hbn : bn < 4) (w : World) (R : Nat → Nat → Int) (M : Nat → Int) (h : RM o w R M) (hk : k < o.n) (hR : ∀ r, Word (R k r)) :
    Calls Try.prog 112 #[o.row k, o.vm, cdv ⟨5, an, bn, 0⟩, .int .i64 k] w (SimPost o ⟨5, an, bn, 0⟩ k R M w) := by
  have H := Lib.hid h
  have hk8 : k < 8 := Nat.lt_of_lt_of_le hk h.n8
  have hlt : o.rows k < w.heap.size := (Array.getElem?_eq_some_iff.1 (h.row k hk)).1
  have ha0 : (0 : Int) ≤ (an : Int) := by omega
  have ha4 : (an : Int) < 4 := by omega
  have hb0 : (0 : Int) ≤ (bn : Int) := by omega
  have hb4 : (bn : Int) < 4 := by omega
  have f1 := h.regFrozen hk an
  have qa := h.regCell hk han
  have qb := h.regCell hk hbn
  obtain ⟨y, Hy⟩ : ∃ y, Hid (R k bn = y) := ⟨_, rfl⟩
  have hwy : Word y := by rw [← Hy.out]; exact hR bn
  rw [Hy.out] at qb
  clear h hR
  unfold cdv RMo.row RMo.vm
  simp only
  go_enter Try.func112, Try.ntmps112
  go_wp2
  refine region_tail 9 (by kernel_rfl) (by kernel_rfl) ?_
  simp only [List.take_succ_cons, List.take_zero, List.drop_succ_cons, List.drop_zero]
  repeat still_step
  refine wpStill_nil ?_
  go_wp2
  go_end0
  exact SimPost.reg H.out hk han (show setF (R k) an (R k bn) = _ by rw [Hy.out]) rfl (by repeat (first | assumption | exact Pure.refl _ | refine Pure.drewN ?_ _ | refine Pure.drew ?_ | refine Pure.alloc ?_ _ | refine Pure.setCell ?_ (by simp <;> omega) _))

set_option maxHeartbeats 1000000 in
set_option maxRecDepth 100000 in
theorem s6_6 (o : RMo) (k : Nat) (an : Nat) (han : an < 4) (bn : Nat) (hbn : bn < 4) (cn : Nat) (hcn : cn < 4) (w : World) (R : Nat → Nat → Int) (M : Nat → Int) (h : RM o w R M) (hk : k < o.n) (hR : ∀ r, Word (R k r)) :
    Calls Try.prog 112 #[o.row k, o.vm, cdv ⟨6, an, bn, cn⟩, .int .i64 k] w (SimPost o ⟨6, an, bn, cn⟩ k R M w) := by
  have H := Lib.hid h
  have hk8 : k < 8 := Nat.lt_of_lt_of_le hk h.n8
  have hlt : o.rows k < w.heap.size := (Array.getElem?_eq_some_iff.1 (h.row k hk)).1
  have ha0 : (0 : Int) ≤ (an : Int) := by omega
  have ha4 : (an : Int) < 4 := by omega
  have hb0 : (0 : Int) ≤ (bn : Int) := by omega
  have hb4 : (bn : Int) < 4 := by omega
  have hc0 : (0 : Int) ≤ (cn : Int) := by omega
  have hc4 : (cn : Int) < 4 := by omega
  have f1 := h.regFrozen hk an
  have qa := h.regCell hk han
  have qb := h.regCell hk hbn
  obtain ⟨y, Hy⟩ : ∃ y, Hid (R k bn = y) := ⟨_, rfl⟩
  have hwy : Word y := by rw [← Hy.out]; exact hR bn
  rw [Hy.out] at qb
  have qc := h.regCell hk hcn
  obtain ⟨z, Hz⟩ : ∃ z, Hid (R k cn = z) := ⟨_, rfl⟩
  have hwz : Word z := by rw [← Hz.out]; exact hR cn
  rw [Hz.out] at qc
  have HWy := Lib.hid hwy; clear hwy
  have HWz := Lib.hid hwz; clear hwz
  obtain ⟨b, Hb⟩ : ∃ b : Int, Hid ((if y < z then 1 else 0) = b) := ⟨_, rfl⟩
  have hL : ∀ w : World, Calls Try.prog 124 #[.int .i64 y, .int .i64 z] w fun e w' => e = .returned (.int .i64 b) ∧ w' = w := fun w => (sWordLess_any y z w HWy.out HWz.out).mono fun e w' h => ⟨by rw [← Hb.out]; exact h.1, h.2.symm⟩
  have HL := Lib.hid hL; clear hL
  clear h hR
  unfold cdv RMo.row RMo.vm
  simp only
  go_enter Try.func112, Try.ntmps112
  go_wp2
  refine region_tail 15 (by kernel_rfl) (by kernel_rfl) ?_
  simp only [List.take_succ_cons, List.take_zero, List.drop_succ_cons, List.drop_zero]
  repeat still_step
  still_call (HL.out _)
  repeat still_step
  refine wpStill_nil ?_
  go_wp2
  go_end0
  exact SimPost.reg H.out hk han (show setF (R k) an (if R k bn < R k cn then 1 else 0) = _ by rw [Hy.out, Hz.out, Hb.out]) rfl (by repeat (first | assumption | exact Pure.refl _ | refine Pure.drewN ?_ _ | refine Pure.drew ?_ | refine Pure.alloc ?_ _ | refine Pure.setCell ?_ (by simp <;> omega) _))

set_option maxHeartbeats 1000000 in
set_option maxRecDepth 100000 in
theorem s6_7 (o : RMo) (k : Nat) (an : Nat) (han : an < 4) (bn : Nat) (hbn : bn < 4) (cn : Nat) (hcn : cn < 4) (w : World) (R : Nat → Nat → Int) (M : Nat → Int) (h : RM o w R M) (hk : k < o.n) (hR : ∀ r, Word (R k r)) :
    Calls Try.prog 112 #[o.row k, o.vm, cdv ⟨7, an, bn, cn⟩, .int .i64 k] w (SimPost o ⟨7, an, bn, cn⟩ k R M w) := by
  have H := Lib.hid h
  have hk8 : k < 8 := Nat.lt_of_lt_of_le hk h.n8
  have hlt : o.rows k < w.heap.size := (Array.getElem?_eq_some_iff.1 (h.row k hk)).1
  have ha0 : (0 : Int) ≤ (an : Int) := by omega
  have ha4 : (an : Int) < 4 := by omega
  have hb0 : (0 : Int) ≤ (bn : Int) := by omega
  have hb4 : (bn : Int) < 4 := by omega
  have hc0 : (0 : Int) ≤ (cn : Int) := by omega
  have hc4 : (cn : Int) < 4 := by omega
  have f1 := h.regFrozen hk an
  have qa := h.regCell hk han
  have qb := h.regCell hk hbn
  obtain ⟨y, Hy⟩ : ∃ y, Hid (R k bn = y) := ⟨_, rfl⟩
  have hwy : Word y := by rw [← Hy.out]; exact hR bn
  rw [Hy.out] at qb
  have qc := h.regCell hk hcn
  obtain ⟨z, Hz⟩ : ∃ z, Hid (R k cn = z) := ⟨_, rfl⟩
  have hwz : Word z := by rw [← Hz.out]; exact hR cn
  rw [Hz.out] at qc
  clear h hR
  unfold cdv RMo.row RMo.vm
  simp only
  by_cases hz0 : z = 0
  · have hzb : (z != 0) = false := by rw [bne_eq_false_iff_eq]; exact hz0
    have HZ := Lib.hid hz0; clear hz0
    go_enter Try.func112, Try.ntmps112
    go_wp2
    go_end0
    exact SimPost.same H.out (show (if R k cn = 0 then R k else setF (R k) an (R k bn)) = _ by rw [Hz.out, if_pos HZ.out]) rfl (by repeat (first | assumption | exact Pure.refl _ | refine Pure.drewN ?_ _ | refine Pure.drew ?_ | refine Pure.alloc ?_ _ | refine Pure.setCell ?_ (by simp <;> omega) _))
  · have hzb : (z != 0) = true := by rw [bne_iff_ne]; exact hz0
    have HZ := Lib.hid hz0; clear hz0
    go_enter Try.func112, Try.ntmps112
    go_wp2
    refine region_tail 9 (by kernel_rfl) (by kernel_rfl) ?_
    simp only [List.take_succ_cons, List.take_zero, List.drop_succ_cons, List.drop_zero]
    repeat still_step
    refine wpStill_nil ?_
    go_wp2
    go_end0
    exact SimPost.reg H.out hk han (show (if R k cn = 0 then R k else setF (R k) an (R k bn)) = _ by rw [Hz.out, if_neg HZ.out, Hy.out]) rfl (by repeat (first | assumption | exact Pure.refl _ | refine Pure.drewN ?_ _ | refine Pure.drew ?_ | refine Pure.alloc ?_ _ | refine Pure.setCell ?_ (by simp <;> omega) _))

set_option maxHeartbeats 1000000 in
set_option maxRecDepth 100000 in
theorem s6_8 (o : RMo) (k : Nat) (an : Nat) (han : an < 4) (bn : Nat) (hbn : bn < 4) (w : World) (R : Nat → Nat → Int) (M : Nat → Int) (h : RM o w R M) (hk : k < o.n) (hR : ∀ r, Word (R k r)) :
    Calls Try.prog 112 #[o.row k, o.vm, cdv ⟨8, an, bn, 0⟩, .int .i64 k] w (SimPost o ⟨8, an, bn, 0⟩ k R M w) := by
  have H := Lib.hid h
  have hk8 : k < 8 := Nat.lt_of_lt_of_le hk h.n8
  have hlt : o.rows k < w.heap.size := (Array.getElem?_eq_some_iff.1 (h.row k hk)).1
  have ha0 : (0 : Int) ≤ (an : Int) := by omega
  have ha4 : (an : Int) < 4 := by omega
  have hb0 : (0 : Int) ≤ (bn : Int) := by omega
  have hb4 : (bn : Int) < 4 := by omega
  have f1 := h.regFrozen hk an
  have qa := h.regCell hk han
  have qb := h.regCell hk hbn
  obtain ⟨y, Hy⟩ : ∃ y, Hid (R k bn = y) := ⟨_, rfl⟩
  have hwy : Word y := by rw [← Hy.out]; exact hR bn
  rw [Hy.out] at qb
  obtain ⟨hy0, hy1⟩ := hwy
  obtain ⟨yn, rfl⟩ := Int.eq_ofNat_of_zero_le hy0
  have hm1 := h.m1
  have hm32 := h.m32
  have hmi : ¬ ((o.m : Int) = 0) := by omega
  have hmn : ¬ o.m = 0 := by omega
  have hmb : ((o.m : Int) == 0) = false := by rw [beq_eq_false_iff_ne]; omega
  have hjn : yn % o.m < o.m := Nat.mod_lt _ (by omega)
  have htm : (yn : Int).tmod (o.m : Int) = ((yn % o.m : Nat) : Int) := by rw [Int.tmod_eq_emod_of_nonneg (by omega)]; norm_cast
  have HC : Hid (cellOf ⟨8, an, bn, 0⟩ o.m (R k) = yn % o.m) := Lib.hid (by unfold cellOf; rw [Int.toNat_natCast, Hy.out, Int.toNat_natCast])
  obtain ⟨j, Hj⟩ : ∃ j, Hid (yn % o.m = j) := ⟨_, rfl⟩
  rw [Hj.out] at htm hjn HC
  have hj0 : (0 : Int) ≤ (j : Int) := by omega
  have hj1 : (j : Int) < (o.m : Int) := by omega
  have hgm : o.gm < w.heap.size := h.gmlo.2
  have qm := h.memCell hjn
  clear h hR
  unfold cdv RMo.row RMo.vm
  simp only
  go_enter Try.func112, Try.ntmps112
  go_wp2
  refine region_tail 15 (by kernel_rfl) (by kernel_rfl) ?_
  simp only [List.take_succ_cons, List.take_zero, List.drop_succ_cons, List.drop_zero]
  repeat still_step
  refine wpStill_nil ?_
  go_wp2
  go_end0
  exact SimPost.reg H.out hk han (show setF (R k) an (M (cellOf ⟨8, an, bn, 0⟩ o.m (R k))) = _ by rw [HC.out]) rfl (by repeat (first | assumption | exact Pure.refl _ | refine Pure.drewN ?_ _ | refine Pure.drew ?_ | refine Pure.alloc ?_ _ | refine Pure.setCell ?_ (by simp <;> omega) _))

set_option maxHeartbeats 1000000 in
set_option maxRecDepth 100000 in
theorem s6_9 (o : RMo) (k : Nat) (an : Nat) (han : an < 4) (bn : Nat) (hbn : bn < 4) (w : World) (R : Nat → Nat → Int) (M : Nat → Int) (h : RM o w R M) (hk : k < o.n) (hR : ∀ r, Word (R k r)) :
    Calls Try.prog 112 #[o.row k, o.vm, cdv ⟨9, an, bn, 0⟩, .int .i64 k] w (SimPost o ⟨9, an, bn, 0⟩ k R M w) := by
  have H := Lib.hid h
  have hk8 : k < 8 := Nat.lt_of_lt_of_le hk h.n8
  have hlt : o.rows k < w.heap.size := (Array.getElem?_eq_some_iff.1 (h.row k hk)).1
  have ha0 : (0 : Int) ≤ (an : Int) := by omega
  have ha4 : (an : Int) < 4 := by omega
  have hb0 : (0 : Int) ≤ (bn : Int) := by omega
  have hb4 : (bn : Int) < 4 := by omega
  have f1 := h.regFrozen hk an
  have qa := h.regCell hk han
  obtain ⟨x, Hx⟩ : ∃ x, Hid (R k an = x) := ⟨_, rfl⟩
  have hwx : Word x := by rw [← Hx.out]; exact hR an
  rw [Hx.out] at qa
  have qb := h.regCell hk hbn
  obtain ⟨y, Hy⟩ : ∃ y, Hid (R k bn = y) := ⟨_, rfl⟩
  have hwy : Word y := by rw [← Hy.out]; exact hR bn
  rw [Hy.out] at qb
  obtain ⟨hy0, hy1⟩ := hwy
  obtain ⟨yn, rfl⟩ := Int.eq_ofNat_of_zero_le hy0
  have hm1 := h.m1
  have hm32 := h.m32
  have hmi : ¬ ((o.m : Int) = 0) := by omega
  have hmn : ¬ o.m = 0 := by omega
  have hmb : ((o.m : Int) == 0) = false := by rw [beq_eq_false_iff_ne]; omega
  have hjn : yn % o.m < o.m := Nat.mod_lt _ (by omega)
  have htm : (yn : Int).tmod (o.m : Int) = ((yn % o.m : Nat) : Int) := by rw [Int.tmod_eq_emod_of_nonneg (by omega)]; norm_cast
  have HC : Hid (cellOf ⟨9, an, bn, 0⟩ o.m (R k) = yn % o.m) := Lib.hid (by unfold cellOf; rw [Int.toNat_natCast, Hy.out, Int.toNat_natCast])
  obtain ⟨j, Hj⟩ : ∃ j, Hid (yn % o.m = j) := ⟨_, rfl⟩
  rw [Hj.out] at htm hjn HC
  have hj0 : (0 : Int) ≤ (j : Int) := by omega
  have hj1 : (j : Int) < (o.m : Int) := by omega
  have hgm : o.gm < w.heap.size := h.gmlo.2
  have qm := h.memCell hjn
  have f2 := h.memFrozen j
  clear h hR
  unfold cdv RMo.row RMo.vm
  simp only
  go_enter Try.func112, Try.ntmps112
  go_wp2
  refine region_tail 15 (by kernel_rfl) (by kernel_rfl) ?_
  simp only [List.take_succ_cons, List.take_zero, List.drop_succ_cons, List.drop_zero]
  repeat still_step
  refine wpStill_nil ?_
  go_wp2
  go_end0
  exact SimPost.mem H.out rfl (show setF M (cellOf ⟨9, an, bn, 0⟩ o.m (R k)) (R k an) = _ by rw [HC.out, Hx.out]) (by repeat (first | assumption | exact Pure.refl _ | refine Pure.drewN ?_ _ | refine Pure.drew ?_ | refine Pure.alloc ?_ _ | refine Pure.setCell ?_ (by simp <;> omega) _))

set_option maxHeartbeats 1000000 in
set_option maxRecDepth 100000 in
theorem s6_10 (o : RMo) (k : Nat) (w : World) (R : Nat → Nat → Int) (M : Nat → Int) (h : RM o w R M) (_hk : k < o.n) (_hR : ∀ r, Word (R k r)) :
    Calls Try.prog 112 #[o.row k, o.vm, cdv ⟨10, 0, 0, 0⟩, .int .i64 k] w (SimPost o ⟨10, 0, 0, 0⟩ k R M w) := by
  have H := Lib.hid h
  clear h _hR
  unfold cdv RMo.row RMo.vm
  simp only
  go_enter Try.func112, Try.ntmps112
  go_wp2
  go_end0
  exact SimPost.same H.out rfl rfl (by repeat (first | assumption | exact Pure.refl _ | refine Pure.drewN ?_ _ | refine Pure.drew ?_ | refine Pure.alloc ?_ _ | refine Pure.setCell ?_ (by simp <;> omega) _))

theorem s6_any (o : RMo) (x : Cd) (k : Nat) (w : World) (R : Nat → Nat → Int) (M : Nat → Int) (h : RM o w R M) (hk : k < o.n) (hx : Plain x) (hR : ∀ r, Word (R k r)) :
    Calls Try.prog 112 #[o.row k, o.vm, cdv x, .int .i64 k] w (SimPost o x k R M w) := by
  obtain ⟨hok, n11, n12, n13, n14⟩ := hx
  obtain ⟨op, a, b, c⟩ := x
  simp only at n11 n12 n13 n14
  obtain ⟨⟨ha0, ha3⟩, hb0, hb3, hc0, hc3, ho1, ho2⟩ := hok.regs
  unfold CdOk at hok
  simp only at hok
  have ho : op = 1 ∨ op = 2 ∨ op = 3 ∨ op = 4 ∨ op = 5 ∨ op = 6 ∨ op = 7 ∨ op = 8 ∨ op = 9 ∨ op = 10 := by omega
  obtain ⟨an, rfl⟩ := Int.eq_ofNat_of_zero_le ha0
  obtain ⟨cn, rfl⟩ := Int.eq_ofNat_of_zero_le hc0
  have han : an < 4 := by omega
  have hcn : cn < 4 := by omega
  rcases ho with rfl | ho
  · have hc : cn = 0 := by omega
    subst hc
    exact s6_1 o k an han b w R M h hk hR
  obtain ⟨bn, rfl⟩ := Int.eq_ofNat_of_zero_le (hb0 (by omega))
  have hbn : bn < 4 := by have := hb3 (by omega) (by omega); omega
  rcases ho with rfl | rfl | rfl | rfl | rfl | rfl | rfl | rfl | rfl
  · have hb9 : bn = 0 := by omega
    have hc9 : cn = 0 := by omega
    subst hb9
    subst hc9
    exact s6_2 o k an han w R M h hk hR
  · have hc9 : cn = 0 := by omega
    subst hc9
    exact s6_3 o k an han bn hbn w R M h hk hR
  · have hc9 : cn = 0 := by omega
    subst hc9
    exact s6_4 o k an han bn hbn w R M h hk hR
  · have hc9 : cn = 0 := by omega
    subst hc9
    exact s6_5 o k an han bn hbn w R M h hk hR
  · exact s6_6 o k an han bn hbn cn hcn w R M h hk hR
  · exact s6_7 o k an han bn hbn cn hcn w R M h hk hR
  · have hc9 : cn = 0 := by omega
    subst hc9
    exact s6_8 o k an han bn hbn w R M h hk hR
  · have hc9 : cn = 0 := by omega
    subst hc9
    exact s6_9 o k an han bn hbn w R M h hk hR
  · have ha9 : an = 0 := by omega
    have hb9 : bn = 0 := by omega
    have hc9 : cn = 0 := by omega
    subst ha9
    subst hb9
    subst hc9
    exact s6_10 o k w R M h hk hR

end Go.Proofs.Ytkolnakcgjlcgaa

namespace Go.Proofs.Ytkolnakcgjlcgaa.Lw
open Go.RowKit

def SimPost (o : RMo) (x : Cd) (k : Nat) (R : Nat → Nat → Int) (M : Nat → Int) (w : World) (e : Ending) (w' : World) : Prop :=
  e = .returned (.tuple #[]) ∧ RM o w' (upR R k (simR x k o.m (R k) M)) (simM x o.m (R k) M) ∧ Chg (o.lane k) w w'
theorem SimPost.reg {o : RMo} {x : Cd} {k r : Nat} {v : Int} {R : Nat → Nat → Int} {M : Nat → Int} {w w' : World} (h : RM o w R M) (hk : o.Is k) (hr : r < 4) (hR : simR x k o.m (R k) M = setF (R k) r v) (hM : simM x o.m (R k) M = M)
    (hp : Pure (w.setCell ⟨o.rows k, r, none⟩ (.int .i64 v)) w') : SimPost o x k R M w (.returned (.tuple #[])) w' := by
  refine ⟨rfl, ?_, (Chg.of_set w _ _ _ (.inl rfl)).trans (Chg.of_pure hp)⟩
  rw [hR, hM]
  exact (h.setReg hk hr v).pure hp
theorem SimPost.same {o : RMo} {x : Cd} {k : Nat} {R : Nat → Nat → Int} {M : Nat → Int} {w w' : World} (h : RM o w R M) (hR : simR x k o.m (R k) M = R k) (hM : simM x o.m (R k) M = M) (hp : Pure w w') : SimPost o x k R M w (.returned (.tuple #[])) w' := by
  refine ⟨rfl, ?_, Chg.of_pure hp⟩
  rw [hR, hM, upR_same]
  exact h.pure hp
theorem SimPost.mem {o : RMo} {x : Cd} {k j : Nat} {v : Int} {R : Nat → Nat → Int} {M : Nat → Int} {w w' : World} (h : RM o w R M) (hR : simR x k o.m (R k) M = R k) (hM : simM x o.m (R k) M = setF M j v)
    (hp : Pure (w.setCell ⟨o.gm, j, none⟩ (.int .i64 v)) w') : SimPost o x k R M w (.returned (.tuple #[])) w' := by
  refine ⟨rfl, ?_, (Chg.of_set w _ _ _ (.inr rfl)).trans (Chg.of_pure hp)⟩
  rw [hR, hM, upR_same]
  exact (h.setMem j v).pure hp

set_option maxHeartbeats 1000000 in
set_option maxRecDepth 100000 in
theorem s6_1 (o : RMo) (k : Nat) (an : Nat) (han : an < 4) (b : Int) (w : World) (R : Nat → Nat → Int) (M : Nat → Int) (h : RM o w R M) (hk : o.Is k) (_hR : ∀ r, Word (R k r)) :
    Calls Try.prog 112 #[o.row k, o.vm, cdv ⟨1, an, b, 0⟩, .int .i64 k] w (SimPost o ⟨1, an, b, 0⟩ k R M w) := by
  have H := Lib.hid h
  have hk8 : k < 8 := hk.lt
  have hlt : o.rows k < w.heap.size := h.rowLt hk
  have ha0 : (0 : Int) ≤ (an : Int) := by omega
  have ha4 : (an : Int) < 4 := by omega
  have f1 := h.regFrozen hk an
  have qa := h.regCell hk han
  clear h _hR
  unfold cdv RMo.row RMo.vm
  simp only
  go_enter Try.func112, Try.ntmps112
  go_wp2
  go_end0
  exact SimPost.reg H.out hk han rfl rfl (by repeat (first | assumption | exact Pure.refl _ | refine Pure.drewN ?_ _ | refine Pure.drew ?_ | refine Pure.alloc ?_ _ | refine Pure.setCell ?_ (by simp <;> omega) _))

set_option maxHeartbeats 1000000 in
set_option maxRecDepth 100000 in
theorem s6_2 (o : RMo) (k : Nat) (an : Nat) (han : an < 4) (w : World) (R : Nat → Nat → Int) (M : Nat → Int) (h : RM o w R M) (hk : o.Is k) (_hR : ∀ r, Word (R k r)) :
    Calls Try.prog 112 #[o.row k, o.vm, cdv ⟨2, an, 0, 0⟩, .int .i64 k] w (SimPost o ⟨2, an, 0, 0⟩ k R M w) := by
  have H := Lib.hid h
  have hk8 : k < 8 := hk.lt
  have hlt : o.rows k < w.heap.size := h.rowLt hk
  have ha0 : (0 : Int) ≤ (an : Int) := by omega
  have ha4 : (an : Int) < 4 := by omega
  have f1 := h.regFrozen hk an
  have qa := h.regCell hk han
  clear h _hR
  unfold cdv RMo.row RMo.vm
  simp only
  go_enter Try.func112, Try.ntmps112
  go_wp2
  go_end0
  exact SimPost.reg H.out hk han rfl rfl (by repeat (first | assumption | exact Pure.refl _ | refine Pure.drewN ?_ _ | refine Pure.drew ?_ | refine Pure.alloc ?_ _ | refine Pure.setCell ?_ (by simp <;> omega) _))

set_option maxHeartbeats 1000000 in
set_option maxRecDepth 100000 in
theorem s6_3 (o : RMo) (k : Nat) (an : Nat) (han : an < 4) (bn : Nat) (hbn : bn < 4) (w : World) (R : Nat → Nat → Int) (M : Nat → Int) (h : RM o w R M) (hk : o.Is k) (hR : ∀ r, Word (R k r)) :
    Calls Try.prog 112 #[o.row k, o.vm, cdv ⟨3, an, bn, 0⟩, .int .i64 k] w (SimPost o ⟨3, an, bn, 0⟩ k R M w) := by
  have H := Lib.hid h
  have hk8 : k < 8 := hk.lt
  have hlt : o.rows k < w.heap.size := h.rowLt hk
  have ha0 : (0 : Int) ≤ (an : Int) := by omega
  have ha4 : (an : Int) < 4 := by omega
  have hb0 : (0 : Int) ≤ (bn : Int) := by omega
  have hb4 : (bn : Int) < 4 := by omega
  have f1 := h.regFrozen hk an
  have qa := h.regCell hk han
  obtain ⟨x, Hx⟩ : ∃ x, Hid (R k an = x) := ⟨_, rfl⟩
  have hwx : Word x := by rw [← Hx.out]; exact hR an
  rw [Hx.out] at qa
  have qb := h.regCell hk hbn
  obtain ⟨y, Hy⟩ : ∃ y, Hid (R k bn = y) := ⟨_, rfl⟩
  have hwy : Word y := by rw [← Hy.out]; exact hR bn
  rw [Hy.out] at qb
  have HWx := Lib.hid hwx; clear hwx
  have HWy := Lib.hid hwy; clear hwy
  clear h hR
  unfold cdv RMo.row RMo.vm
  simp only
  go_enter Try.func112, Try.ntmps112
  go_wp2
  refine region_tail 15 (by kernel_rfl) (by kernel_rfl) ?_
  simp only [List.take_succ_cons, List.take_zero, List.drop_succ_cons, List.drop_zero]
  repeat still_step
  still_call ((sWordAdd_any x y _ HWx.out HWy.out).mono fun e w' h => ⟨h.1, h.2.symm⟩)
  repeat still_step
  refine wpStill_nil ?_
  go_wp2
  go_end0
  exact SimPost.reg H.out hk han (show setF (R k) an ((R k an + R k bn) % 256) = _ by rw [Hx.out, Hy.out]) rfl (by repeat (first | assumption | exact Pure.refl _ | refine Pure.drewN ?_ _ | refine Pure.drew ?_ | refine Pure.alloc ?_ _ | refine Pure.setCell ?_ (by simp <;> omega) _))

set_option maxHeartbeats 1000000 in
set_option maxRecDepth 100000 in
theorem s6_4 (o : RMo) (k : Nat) (an : Nat) (han : an < 4) (bn : Nat) (hbn : bn < 4) (w : World) (R : Nat → Nat → Int) (M : Nat → Int) (h : RM o w R M) (hk : o.Is k) (hR : ∀ r, Word (R k r)) :
    Calls Try.prog 112 #[o.row k, o.vm, cdv ⟨4, an, bn, 0⟩, .int .i64 k] w (SimPost o ⟨4, an, bn, 0⟩ k R M w) := by
  have H := Lib.hid h
  have hk8 : k < 8 := hk.lt
  have hlt : o.rows k < w.heap.size := h.rowLt hk
  have ha0 : (0 : Int) ≤ (an : Int) := by omega
  have ha4 : (an : Int) < 4 := by omega
  have hb0 : (0 : Int) ≤ (bn : Int) := by omega
  have hb4 : (bn : Int) < 4 := by omega
  have f1 := h.regFrozen hk an
  have qa := h.regCell hk han
  obtain ⟨x, Hx⟩ : ∃ x, Hid (R k an = x) := ⟨_, rfl⟩
  have hwx : Word x := by rw [← Hx.out]; exact hR an
  rw [Hx.out] at qa
  have qb := h.regCell hk hbn
  obtain ⟨y, Hy⟩ : ∃ y, Hid (R k bn = y) := ⟨_, rfl⟩
  have hwy : Word y := by rw [← Hy.out]; exact hR bn
  rw [Hy.out] at qb
  have HWx := Lib.hid hwx; clear hwx
  have HWy := Lib.hid hwy; clear hwy
  clear h hR
  unfold cdv RMo.row RMo.vm
  simp only
  go_enter Try.func112, Try.ntmps112
  go_wp2
  refine region_tail 15 (by kernel_rfl) (by kernel_rfl) ?_
  simp only [List.take_succ_cons, List.take_zero, List.drop_succ_cons, List.drop_zero]
  repeat still_step
  still_call ((sWordMul_any x y _ HWx.out HWy.out).mono fun e w' h => ⟨h.1, h.2.symm⟩)
  repeat still_step
  refine wpStill_nil ?_
  go_wp2
  go_end0
  exact SimPost.reg H.out hk han (show setF (R k) an (R k an * R k bn % 256) = _ by rw [Hx.out, Hy.out]) rfl (by repeat (first | assumption | exact Pure.refl _ | refine Pure.drewN ?_ _ | refine Pure.drew ?_ | refine Pure.alloc ?_ _ | refine Pure.setCell ?_ (by simp <;> omega) _))

set_option maxHeartbeats 1000000 in
set_option maxRecDepth 100000 in
theorem s6_5 (o : RMo) (k : Nat) (an : Nat) (han : an < 4) (bn : Nat) (hbn : bn < 4) (w : World) (R : Nat → Nat → Int) (M : Nat → Int) (h : RM o w R M) (hk : o.Is k) (hR : ∀ r, Word (R k r)) :
    Calls Try.prog 112 #[o.row k, o.vm, cdv ⟨5, an, bn, 0⟩, .int .i64 k] w (SimPost o ⟨5, an, bn, 0⟩ k R M w) := by
  have H := Lib.hid h
  have hk8 : k < 8 := hk.lt
  have hlt : o.rows k < w.heap.size := h.rowLt hk
  have ha0 : (0 : Int) ≤ (an : Int) := by omega
  have ha4 : (an : Int) < 4 := by omega
  have hb0 : (0 : Int) ≤ (bn : Int) := by omega
  have hb4 : (bn : Int) < 4 := by omega
  have f1 := h.regFrozen hk an
  have qa := h.regCell hk han
  have qb := h.regCell hk hbn
  obtain ⟨y, Hy⟩ : ∃ y, Hid (R k bn = y) := ⟨_, rfl⟩
  have hwy : Word y := by rw [← Hy.out]; exact hR bn
  rw [Hy.out] at qb
  clear h hR
  unfold cdv RMo.row RMo.vm
  simp only
  go_enter Try.func112, Try.ntmps112
  go_wp2
  refine region_tail 9 (by kernel_rfl) (by kernel_rfl) ?_
  simp only [List.take_succ_cons, List.take_zero, List.drop_succ_cons, List.drop_zero]
  repeat still_step
  refine wpStill_nil ?_
  go_wp2
  go_end0
  exact SimPost.reg H.out hk han (show setF (R k) an (R k bn) = _ by rw [Hy.out]) rfl (by repeat (first | assumption | exact Pure.refl _ | refine Pure.drewN ?_ _ | refine Pure.drew ?_ | refine Pure.alloc ?_ _ | refine Pure.setCell ?_ (by simp <;> omega) _))

set_option maxHeartbeats 1000000 in
set_option maxRecDepth 100000 in
theorem s6_6 (o : RMo) (k : Nat) (an : Nat) (han : an < 4) (bn : Nat) (hbn : bn < 4) (cn : Nat) (hcn : cn < 4) (w : World) (R : Nat → Nat → Int) (M : Nat → Int) (h : RM o w R M) (hk : o.Is k) (hR : ∀ r, Word (R k r)) :
    Calls Try.prog 112 #[o.row k, o.vm, cdv ⟨6, an, bn, cn⟩, .int .i64 k] w (SimPost o ⟨6, an, bn, cn⟩ k R M w) := by
  have H := Lib.hid h
  have hk8 : k < 8 := hk.lt
  have hlt : o.rows k < w.heap.size := h.rowLt hk
  have ha0 : (0 : Int) ≤ (an : Int) := by omega
  have ha4 : (an : Int) < 4 := by omega
  have hb0 : (0 : Int) ≤ (bn : Int) := by omega
  have hb4 : (bn : Int) < 4 := by omega
  have hc0 : (0 : Int) ≤ (cn : Int) := by omega
  have hc4 : (cn : Int) < 4 := by omega
  have f1 := h.regFrozen hk an
  have qa := h.regCell hk han
  have qb := h.regCell hk hbn
  obtain ⟨y, Hy⟩ : ∃ y, Hid (R k bn = y) := ⟨_, rfl⟩
  have hwy : Word y := by rw [← Hy.out]; exact hR bn
  rw [Hy.out] at qb
  have qc := h.regCell hk hcn
  obtain ⟨z, Hz⟩ : ∃ z, Hid (R k cn = z) := ⟨_, rfl⟩
  have hwz : Word z := by rw [← Hz.out]; exact hR cn
  rw [Hz.out] at qc
  have HWy := Lib.hid hwy; clear hwy
  have HWz := Lib.hid hwz; clear hwz
  obtain ⟨b, Hb⟩ : ∃ b : Int, Hid ((if y < z then 1 else 0) = b) := ⟨_, rfl⟩
  have hL : ∀ w : World, Calls Try.prog 124 #[.int .i64 y, .int .i64 z] w fun e w' => e = .returned (.int .i64 b) ∧ w' = w := fun w => (sWordLess_any y z w HWy.out HWz.out).mono fun e w' h => ⟨by rw [← Hb.out]; exact h.1, h.2.symm⟩
  have HL := Lib.hid hL; clear hL
  clear h hR
  unfold cdv RMo.row RMo.vm
  simp only
  go_enter Try.func112, Try.ntmps112
  go_wp2
  refine region_tail 15 (by kernel_rfl) (by kernel_rfl) ?_
  simp only [List.take_succ_cons, List.take_zero, List.drop_succ_cons, List.drop_zero]
  repeat still_step
  still_call (HL.out _)
  repeat still_step
  refine wpStill_nil ?_
  go_wp2
  go_end0
  exact SimPost.reg H.out hk han (show setF (R k) an (if R k bn < R k cn then 1 else 0) = _ by rw [Hy.out, Hz.out, Hb.out]) rfl (by repeat (first | assumption | exact Pure.refl _ | refine Pure.drewN ?_ _ | refine Pure.drew ?_ | refine Pure.alloc ?_ _ | refine Pure.setCell ?_ (by simp <;> omega) _))

set_option maxHeartbeats 1000000 in
set_option maxRecDepth 100000 in
theorem s6_7 (o : RMo) (k : Nat) (an : Nat) (han : an < 4) (bn : Nat) (hbn : bn < 4) (cn : Nat) (hcn : cn < 4) (w : World) (R : Nat → Nat → Int) (M : Nat → Int) (h : RM o w R M) (hk : o.Is k) (hR : ∀ r, Word (R k r)) :
    Calls Try.prog 112 #[o.row k, o.vm, cdv ⟨7, an, bn, cn⟩, .int .i64 k] w (SimPost o ⟨7, an, bn, cn⟩ k R M w) := by
  have H := Lib.hid h
  have hk8 : k < 8 := hk.lt
  have hlt : o.rows k < w.heap.size := h.rowLt hk
  have ha0 : (0 : Int) ≤ (an : Int) := by omega
  have ha4 : (an : Int) < 4 := by omega
  have hb0 : (0 : Int) ≤ (bn : Int) := by omega
  have hb4 : (bn : Int) < 4 := by omega
  have hc0 : (0 : Int) ≤ (cn : Int) := by omega
  have hc4 : (cn : Int) < 4 := by omega
  have f1 := h.regFrozen hk an
  have qa := h.regCell hk han
  have qb := h.regCell hk hbn
  obtain ⟨y, Hy⟩ : ∃ y, Hid (R k bn = y) := ⟨_, rfl⟩
  have hwy : Word y := by rw [← Hy.out]; exact hR bn
  rw [Hy.out] at qb
  have qc := h.regCell hk hcn
  obtain ⟨z, Hz⟩ : ∃ z, Hid (R k cn = z) := ⟨_, rfl⟩
  have hwz : Word z := by rw [← Hz.out]; exact hR cn
  rw [Hz.out] at qc
  clear h hR
  unfold cdv RMo.row RMo.vm
  simp only
  by_cases hz0 : z = 0
  · have hzb : (z != 0) = false := by rw [bne_eq_false_iff_eq]; exact hz0
    have HZ := Lib.hid hz0; clear hz0
    go_enter Try.func112, Try.ntmps112
    go_wp2
    go_end0
    exact SimPost.same H.out (show (if R k cn = 0 then R k else setF (R k) an (R k bn)) = _ by rw [Hz.out, if_pos HZ.out]) rfl (by repeat (first | assumption | exact Pure.refl _ | refine Pure.drewN ?_ _ | refine Pure.drew ?_ | refine Pure.alloc ?_ _ | refine Pure.setCell ?_ (by simp <;> omega) _))
  · have hzb : (z != 0) = true := by rw [bne_iff_ne]; exact hz0
    have HZ := Lib.hid hz0; clear hz0
    go_enter Try.func112, Try.ntmps112
    go_wp2
    refine region_tail 9 (by kernel_rfl) (by kernel_rfl) ?_
    simp only [List.take_succ_cons, List.take_zero, List.drop_succ_cons, List.drop_zero]
    repeat still_step
    refine wpStill_nil ?_
    go_wp2
    go_end0
    exact SimPost.reg H.out hk han (show (if R k cn = 0 then R k else setF (R k) an (R k bn)) = _ by rw [Hz.out, if_neg HZ.out, Hy.out]) rfl (by repeat (first | assumption | exact Pure.refl _ | refine Pure.drewN ?_ _ | refine Pure.drew ?_ | refine Pure.alloc ?_ _ | refine Pure.setCell ?_ (by simp <;> omega) _))

set_option maxHeartbeats 1000000 in
set_option maxRecDepth 100000 in
theorem s6_8 (o : RMo) (k : Nat) (an : Nat) (han : an < 4) (bn : Nat) (hbn : bn < 4) (w : World) (R : Nat → Nat → Int) (M : Nat → Int) (h : RM o w R M) (hk : o.Is k) (hR : ∀ r, Word (R k r)) :
    Calls Try.prog 112 #[o.row k, o.vm, cdv ⟨8, an, bn, 0⟩, .int .i64 k] w (SimPost o ⟨8, an, bn, 0⟩ k R M w) := by
  have H := Lib.hid h
  have hk8 : k < 8 := hk.lt
  have hlt : o.rows k < w.heap.size := h.rowLt hk
  have ha0 : (0 : Int) ≤ (an : Int) := by omega
  have ha4 : (an : Int) < 4 := by omega
  have hb0 : (0 : Int) ≤ (bn : Int) := by omega
  have hb4 : (bn : Int) < 4 := by omega
  have f1 := h.regFrozen hk an
  have qa := h.regCell hk han
  have qb := h.regCell hk hbn
  obtain ⟨y, Hy⟩ : ∃ y, Hid (R k bn = y) := ⟨_, rfl⟩
  have hwy : Word y := by rw [← Hy.out]; exact hR bn
  rw [Hy.out] at qb
  obtain ⟨hy0, hy1⟩ := hwy
  obtain ⟨yn, rfl⟩ := Int.eq_ofNat_of_zero_le hy0
  have hm1 := h.m1
  have hm32 := h.m32
  have hmi : ¬ ((o.m : Int) = 0) := by omega
  have hmn : ¬ o.m = 0 := by omega
  have hmb : ((o.m : Int) == 0) = false := by rw [beq_eq_false_iff_ne]; omega
  have hjn : yn % o.m < o.m := Nat.mod_lt _ (by omega)
  have htm : (yn : Int).tmod (o.m : Int) = ((yn % o.m : Nat) : Int) := by rw [Int.tmod_eq_emod_of_nonneg (by omega)]; norm_cast
  have HC : Hid (cellOf ⟨8, an, bn, 0⟩ o.m (R k) = yn % o.m) := Lib.hid (by unfold cellOf; rw [Int.toNat_natCast, Hy.out, Int.toNat_natCast])
  obtain ⟨j, Hj⟩ : ∃ j, Hid (yn % o.m = j) := ⟨_, rfl⟩
  rw [Hj.out] at htm hjn HC
  have hj0 : (0 : Int) ≤ (j : Int) := by omega
  have hj1 : (j : Int) < (o.m : Int) := by omega
  have hgm : o.gm < w.heap.size := h.gmlo.2
  have qm := h.memCell hjn
  clear h hR
  unfold cdv RMo.row RMo.vm
  simp only
  go_enter Try.func112, Try.ntmps112
  go_wp2
  refine region_tail 15 (by kernel_rfl) (by kernel_rfl) ?_
  simp only [List.take_succ_cons, List.take_zero, List.drop_succ_cons, List.drop_zero]
  repeat still_step
  refine wpStill_nil ?_
  go_wp2
  go_end0
  exact SimPost.reg H.out hk han (show setF (R k) an (M (cellOf ⟨8, an, bn, 0⟩ o.m (R k))) = _ by rw [HC.out]) rfl (by repeat (first | assumption | exact Pure.refl _ | refine Pure.drewN ?_ _ | refine Pure.drew ?_ | refine Pure.alloc ?_ _ | refine Pure.setCell ?_ (by simp <;> omega) _))

set_option maxHeartbeats 1000000 in
set_option maxRecDepth 100000 in
theorem s6_9 (o : RMo) (k : Nat) (an : Nat) (han : an < 4) (bn : Nat) (hbn : bn < 4) (w : World) (R : Nat → Nat → Int) (M : Nat → Int) (h : RM o w R M) (hk : o.Is k) (hR : ∀ r, Word (R k r)) :
    Calls Try.prog 112 #[o.row k, o.vm, cdv ⟨9, an, bn, 0⟩, .int .i64 k] w (SimPost o ⟨9, an, bn, 0⟩ k R M w) := by
  have H := Lib.hid h
  have hk8 : k < 8 := hk.lt
  have hlt : o.rows k < w.heap.size := h.rowLt hk
  have ha0 : (0 : Int) ≤ (an : Int) := by omega
  have ha4 : (an : Int) < 4 := by omega
  have hb0 : (0 : Int) ≤ (bn : Int) := by omega
  have hb4 : (bn : Int) < 4 := by omega
  have f1 := h.regFrozen hk an
  have qa := h.regCell hk han
  obtain ⟨x, Hx⟩ : ∃ x, Hid (R k an = x) := ⟨_, rfl⟩
  have hwx : Word x := by rw [← Hx.out]; exact hR an
  rw [Hx.out] at qa
  have qb := h.regCell hk hbn
  obtain ⟨y, Hy⟩ : ∃ y, Hid (R k bn = y) := ⟨_, rfl⟩
  have hwy : Word y := by rw [← Hy.out]; exact hR bn
  rw [Hy.out] at qb
  obtain ⟨hy0, hy1⟩ := hwy
  obtain ⟨yn, rfl⟩ := Int.eq_ofNat_of_zero_le hy0
  have hm1 := h.m1
  have hm32 := h.m32
  have hmi : ¬ ((o.m : Int) = 0) := by omega
  have hmn : ¬ o.m = 0 := by omega
  have hmb : ((o.m : Int) == 0) = false := by rw [beq_eq_false_iff_ne]; omega
  have hjn : yn % o.m < o.m := Nat.mod_lt _ (by omega)
  have htm : (yn : Int).tmod (o.m : Int) = ((yn % o.m : Nat) : Int) := by rw [Int.tmod_eq_emod_of_nonneg (by omega)]; norm_cast
  have HC : Hid (cellOf ⟨9, an, bn, 0⟩ o.m (R k) = yn % o.m) := Lib.hid (by unfold cellOf; rw [Int.toNat_natCast, Hy.out, Int.toNat_natCast])
  obtain ⟨j, Hj⟩ : ∃ j, Hid (yn % o.m = j) := ⟨_, rfl⟩
  rw [Hj.out] at htm hjn HC
  have hj0 : (0 : Int) ≤ (j : Int) := by omega
  have hj1 : (j : Int) < (o.m : Int) := by omega
  have hgm : o.gm < w.heap.size := h.gmlo.2
  have qm := h.memCell hjn
  have f2 := h.memFrozen j
  clear h hR
  unfold cdv RMo.row RMo.vm
  simp only
  go_enter Try.func112, Try.ntmps112
  go_wp2
  refine region_tail 15 (by kernel_rfl) (by kernel_rfl) ?_
  simp only [List.take_succ_cons, List.take_zero, List.drop_succ_cons, List.drop_zero]
  repeat still_step
  refine wpStill_nil ?_
  go_wp2
  go_end0
  exact SimPost.mem H.out rfl (show setF M (cellOf ⟨9, an, bn, 0⟩ o.m (R k)) (R k an) = _ by rw [HC.out, Hx.out]) (by repeat (first | assumption | exact Pure.refl _ | refine Pure.drewN ?_ _ | refine Pure.drew ?_ | refine Pure.alloc ?_ _ | refine Pure.setCell ?_ (by simp <;> omega) _))

set_option maxHeartbeats 1000000 in
set_option maxRecDepth 100000 in
theorem s6_10 (o : RMo) (k : Nat) (w : World) (R : Nat → Nat → Int) (M : Nat → Int) (h : RM o w R M) (_hk : o.Is k) (_hR : ∀ r, Word (R k r)) :
    Calls Try.prog 112 #[o.row k, o.vm, cdv ⟨10, 0, 0, 0⟩, .int .i64 k] w (SimPost o ⟨10, 0, 0, 0⟩ k R M w) := by
  have H := Lib.hid h
  clear h _hR
  unfold cdv RMo.row RMo.vm
  simp only
  go_enter Try.func112, Try.ntmps112
  go_wp2
  go_end0
  exact SimPost.same H.out rfl rfl (by repeat (first | assumption | exact Pure.refl _ | refine Pure.drewN ?_ _ | refine Pure.drew ?_ | refine Pure.alloc ?_ _ | refine Pure.setCell ?_ (by simp <;> omega) _))

theorem s6_any (o : RMo) (x : Cd) (k : Nat) (w : World) (R : Nat → Nat → Int) (M : Nat → Int) (h : RM o w R M) (hk : o.Is k) (hx : Plain x) (hR : ∀ r, Word (R k r)) :
    Calls Try.prog 112 #[o.row k, o.vm, cdv x, .int .i64 k] w (SimPost o x k R M w) := by
  obtain ⟨hok, n11, n12, n13, n14⟩ := hx
  obtain ⟨op, a, b, c⟩ := x
  simp only at n11 n12 n13 n14
  obtain ⟨⟨ha0, ha3⟩, hb0, hb3, hc0, hc3, ho1, ho2⟩ := hok.regs
  unfold CdOk at hok
  simp only at hok
  have ho : op = 1 ∨ op = 2 ∨ op = 3 ∨ op = 4 ∨ op = 5 ∨ op = 6 ∨ op = 7 ∨ op = 8 ∨ op = 9 ∨ op = 10 := by omega
  obtain ⟨an, rfl⟩ := Int.eq_ofNat_of_zero_le ha0
  obtain ⟨cn, rfl⟩ := Int.eq_ofNat_of_zero_le hc0
  have han : an < 4 := by omega
  have hcn : cn < 4 := by omega
  rcases ho with rfl | ho
  · have hc : cn = 0 := by omega
    subst hc
    exact s6_1 o k an han b w R M h hk hR
  obtain ⟨bn, rfl⟩ := Int.eq_ofNat_of_zero_le (hb0 (by omega))
  have hbn : bn < 4 := by have := hb3 (by omega) (by omega); omega
  rcases ho with rfl | rfl | rfl | rfl | rfl | rfl | rfl | rfl | rfl
  · have hb9 : bn = 0 := by omega
    have hc9 : cn = 0 := by omega
    subst hb9
    subst hc9
    exact s6_2 o k an han w R M h hk hR
  · have hc9 : cn = 0 := by omega
    subst hc9
    exact s6_3 o k an han bn hbn w R M h hk hR
  · have hc9 : cn = 0 := by omega
    subst hc9
    exact s6_4 o k an han bn hbn w R M h hk hR
  · have hc9 : cn = 0 := by omega
    subst hc9
    exact s6_5 o k an han bn hbn w R M h hk hR
  · exact s6_6 o k an han bn hbn cn hcn w R M h hk hR
  · exact s6_7 o k an han bn hbn cn hcn w R M h hk hR
  · have hc9 : cn = 0 := by omega
    subst hc9
    exact s6_8 o k an han bn hbn w R M h hk hR
  · have hc9 : cn = 0 := by omega
    subst hc9
    exact s6_9 o k an han bn hbn w R M h hk hR
  · have ha9 : an = 0 := by omega
    have hb9 : bn = 0 := by omega
    have hc9 : cn = 0 := by omega
    subst ha9
    subst hb9
    subst hc9
    exact s6_10 o k w R M h hk hR

end Go.Proofs.Ytkolnakcgjlcgaa.Lw
