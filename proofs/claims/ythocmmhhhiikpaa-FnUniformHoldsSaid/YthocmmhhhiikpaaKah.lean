/- What an instruction does to one lane, as the reference reckons it. append to a slice that is still the empty one it began as, or the call's own. Sets as numbers that are not negative: Go's operations on their digits. No program in sight. A run in lockstep, as the reference keeps it in memory: its object; the lanes whose register is not 0; the mask of all lanes. How many steps a tree of blocks can take; the turns of a loop, told from behind the first test. No program in sight. No condition. -/
import Derived.StillTailTactics
import Derived.ArgAppend
import Derived.Laws.BitsAllLaws
import Derived.Lib.QuoteBits
import Derived.Test.YthocmmhhhiikpaaKac
import Derived.Test.YthocmmhhhiikpaaKae
import Derived.Test.YthocmmhhhiikpaaKag

namespace Go.Proofs.Ythocmmhhhiikpaa
open Go.RowKit

theorem region_tail {P : Program} {id : Nat} {Q : Exit → Act → World → Prop} {a : Act} {w : World} {l : List Oper} (n : Nat) (hm : P.follows .mixedOrders = true) (hB : Region.lexTailB .any l.toArray n = true)
    (h : wpStill P l.toArray w.drew (fun a' => wpList P l.toArray Q (l.drop n) a' w.drew) (l.take n) a) : (Code.region id l.toArray true).wp P Q a w :=
  wp_region_still_tail n hm hB h

def SimPost (o : RMo) (x : Cd) (k : Nat) (R : Nat → Nat → Int) (M : Nat → Int) (w : World) (e : Ending) (w' : World) : Prop :=
  e = .returned (.tuple #[]) ∧ RM o w' (upR R k (simR x k o.m (R k) M)) (simM x o.m (R k) M) ∧ Chg (o.lane k) w w'
theorem SimPost.reg {o : RMo} {x : Cd} {k r : Nat} {v : Int} {R : Nat → Nat → Int} {M : Nat → Int} {w w' : World} (h : RM o w R M) (hk : k < o.n) (hr : r < 4) (hR : simR x k o.m (R k) M = setF (R k) r v) (hM : simM x o.m (R k) M = M)
    (hp : Pure (w.setCell ⟨o.rows k, r, none⟩ (.int .i64 v)) w') : SimPost o x k R M w (.returned (.tuple #[])) w' := by
  refine ⟨rfl, ?_, (Chg.of_set w _ _ _ (.inl rfl)).trans (Chg.of_pure hp)⟩
  rw [hR, hM]
  exact (h.setReg hk hr v).pure hp
theorem SimPost.same {o : RMo} {x : Cd} {k : Nat} {R : Nat → Nat → Int} {M : Nat → Int} {w w' : World} (h : RM o w R M) (hR : simR x k o.m (R k) M = R k) (hM : simM x o.m (R k) M = M) (hp : Pure w w') : SimPost o x k R M w (.returned (.tuple #[])) w' := by
  refine ⟨rfl, ?_, Chg.of_pure hp⟩
  rw [hR, hM, upR_same]
  exact h.pure hp
theorem SimPost.mem {o : RMo} {x : Cd} {k j : Nat} {v : Int} {R : Nat → Nat → Int} {M : Nat → Int} {w w' : World} (h : RM o w R M) (hR : simR x k o.m (R k) M = R k) (hM : simM x o.m (R k) M = setF M j v)
    (hp : Pure (w.setCell ⟨o.gm, j, none⟩ (.int .i64 v)) w') : SimPost o x k R M w (.returned (.tuple #[])) w' := by
  refine ⟨rfl, ?_, (Chg.of_set w _ _ _ (.inr rfl)).trans (Chg.of_pure hp)⟩
  rw [hR, hM, upR_same]
  exact (h.setMem j v).pure hp

set_option maxHeartbeats 1000000 in
set_option maxRecDepth 100000 in
theorem s6_1 (o : RMo) (k : Nat) (an : Nat) (han : an < 4) (b : Int) (w : World) (R : Nat → Nat → Int) (M : Nat → Int) (h : RM o w R M) (hk : k < o.n) (_hR : ∀ r, Word (R k r)) :
    Calls Try.prog 75 #[o.row k, o.vm, cdv ⟨1, an, b, 0⟩, .int .i64 k] w (SimPost o ⟨1, an, b, 0⟩ k R M w) := by
  have H := Lib.hid h
  have hk8 : k < 8 := Nat.lt_of_lt_of_le hk h.n8
  have hlt : o.rows k < w.heap.size := (Array.getElem?_eq_some_iff.1 (h.row k hk)).1
  have ha0 : (0 : Int) ≤ (an : Int) := by omega
  have ha4 : (an : Int) < 4 := by omega
  have f1 := h.regFrozen hk an
  have qa := h.regCell hk han
  clear h _hR
  unfold cdv RMo.row RMo.vm
  simp only
  go_enter Try.func75, Try.ntmps75
  go_wp2
  go_end0
  exact SimPost.reg H.out hk han rfl rfl (by repeat (first | assumption | exact Pure.refl _ | refine Pure.drewN ?_ _ | refine Pure.drew ?_ | refine Pure.alloc ?_ _ | refine Pure.setCell ?_ (by simp <;> omega) _))

set_option maxHeartbeats 1000000 in
set_option maxRecDepth 100000 in
theorem s6_2 (o : RMo) (k : Nat) (an : Nat) (han : an < 4) (w : World) (R : Nat → Nat → Int) (M : Nat → Int) (h : RM o w R M) (hk : k < o.n) (_hR : ∀ r, Word (R k r)) :
    Calls Try.prog 75 #[o.row k, o.vm, cdv ⟨2, an, 0, 0⟩, .int .i64 k] w (SimPost o ⟨2, an, 0, 0⟩ k R M w) := by
  have H := Lib.hid h
  have hk8 : k < 8 := Nat.lt_of_lt_of_le hk h.n8
  have hlt : o.rows k < w.heap.size := (Array.getElem?_eq_some_iff.1 (h.row k hk)).1
  have ha0 : (0 : Int) ≤ (an : Int) := by omega
  have ha4 : (an : Int) < 4 := by omega
  have f1 := h.regFrozen hk an
  have qa := h.regCell hk han
  clear h _hR
  unfold cdv RMo.row RMo.vm
  simp only
  go_enter Try.func75, Try.ntmps75
  go_wp2
  go_end0
  exact SimPost.reg H.out hk han rfl rfl (by repeat (first | assumption | exact Pure.refl _ | refine Pure.drewN ?_ _ | refine Pure.drew ?_ | refine Pure.alloc ?_ _ | refine Pure.setCell ?_ (by simp <;> omega) _))

set_option maxHeartbeats 1000000 in
set_option maxRecDepth 100000 in
theorem s6_3 (o : RMo) (k : Nat) (an : Nat) (han : an < 4) (bn : Nat) (hbn : bn < 4) (w : World) (R : Nat → Nat → Int) (M : Nat → Int) (h : RM o w R M) (hk : k < o.n) (hR : ∀ r, Word (R k r)) :
    Calls Try.prog 75 #[o.row k, o.vm, cdv ⟨3, an, bn, 0⟩, .int .i64 k] w (SimPost o ⟨3, an, bn, 0⟩ k R M w) := by
  have H := Lib.hid h
  have hk8 : k < 8 := Nat.lt_of_lt_of_le hk h.n8
  have hlt : o.rows k < w.heap.size := (Array.getElem?_eq_some_iff.1 (h.row k hk)).1
  have ha0 : (0 : Int) ≤ (an : Int) := by omega
  have ha4 : (an : Int) < 4 := by omega
  have hb0 : (0 : Int) ≤ (bn : Int) := by omega
  have hb4 : (bn : Int) < 4 := by omega
  have f1 := h.regFrozen hk an
  have qa := h.regCell hk han
  obtain ⟨x, Hx⟩ : ∃ x, Hid (R k an = x) := ⟨_, rfl⟩
  have hwx : Word x := by rw [← Hx.out]; exact hR an
  rw [Hx.out] at qa
  have qb := h.regCell hk hbn
  obtain ⟨y, Hy⟩ : ∃ y, Hid (R k bn = y) := ⟨_, rfl⟩
  have hwy : Word y := by rw [← Hy.out]; exact hR bn
  rw [Hy.out] at qb
  have HWx := Lib.hid hwx; clear hwx
  have HWy := Lib.hid hwy; clear hwy
  clear h hR
  unfold cdv RMo.row RMo.vm
  simp only
  go_enter Try.func75, Try.ntmps75
  go_wp2
  refine region_tail 15 (by kernel_rfl) (by kernel_rfl) ?_
  simp only [List.take_succ_cons, List.take_zero, List.drop_succ_cons, List.drop_zero]
  repeat still_step
  still_call ((sWordAdd_any x y _ HWx.out HWy.out).mono fun e w' h => ⟨h.1, h.2.symm⟩)
  repeat still_step
  refine wpStill_nil ?_
  go_wp2
  go_end0
  exact SimPost.reg H.out hk han (show setF (R k) an ((R k an + R k bn) % 256) = _ by rw [Hx.out, Hy.out]) rfl (by repeat (first | assumption | exact Pure.refl _ | refine Pure.drewN ?_ _ | refine Pure.drew ?_ | refine Pure.alloc ?_ _ | refine Pure.setCell ?_ (by simp <;> omega) _))

set_option maxHeartbeats 1000000 in
set_option maxRecDepth 100000 in
theorem s6_4 (o : RMo) (k : Nat) (an : Nat) (han : an < 4) (bn : Nat) (hbn : bn < 4) (w : World) (R : Nat → Nat → Int) (M : Nat → Int) (h : RM o w R M) (hk : k < o.n) (hR : ∀ r, Word (R k r)) :
    Calls Try.prog 75 #[o.row k, o.vm, cdv ⟨4, an, bn, 0⟩, .int .i64 k] w (SimPost o ⟨4, an, bn, 0⟩ k R M w) := by
  have H := Lib.hid h
  have hk8 : k < 8 := Nat.lt_of_lt_of_le hk h.n8
  have hlt : o.rows k < w.heap.size := (Array.getElem?_eq_some_iff.1 (h.row k hk)).1
  have ha0 : (0 : Int) ≤ (an : Int) := by omega
  have ha4 : (an : Int) < 4 := by omega
  have hb0 : (0 : Int) ≤ (bn : Int) := by omega
  have hb4 : (bn : Int) < 4 := by omega
  have f1 := h.regFrozen hk an
  have qa := h.regCell hk han
  obtain ⟨x, Hx⟩ : ∃ x, Hid (R k an = x) := ⟨_, rfl⟩
  have hwx : Word x := by rw [← Hx.out]; exact hR an
  rw [Hx.out] at qa
  have qb := h.regCell hk hbn
  obtain ⟨y, Hy⟩ : ∃ y, Hid (R k bn = y) := ⟨_, rfl⟩
  have hwy : Word y := by rw [← Hy.out]; exact hR bn
  rw [Hy.out] at qb
  have HWx := Lib.hid hwx; clear hwx
  have HWy := Lib.hid hwy; clear hwy
  clear h hR
  unfold cdv RMo.row RMo.vm
  simp only
  go_enter Try.func75, Try.ntmps75
  go_wp2
  refine region_tail 15 (by kernel_rfl) (by kernel_rfl) ?_
  simp only [List.take_succ_cons, List.take_zero, List.drop_succ_cons, List.drop_zero]
  repeat still_step
  still_call ((sWordMul_any x y _ HWx.out HWy.out).mono fun e w' h => ⟨h.1, h.2.symm⟩)
  repeat still_step
  refine wpStill_nil ?_
  go_wp2
  go_end0
  exact SimPost.reg H.out hk han (show setF (R k) an (R k an * R k bn % 256) = _ by rw [Hx.out, Hy.out]) rfl (by repeat (first | assumption | exact Pure.refl _ | refine Pure.drewN ?_ _ | refine Pure.drew ?_ | refine Pure.alloc ?_ _ | refine Pure.setCell ?_ (by simp <;> omega) _))

set_option maxHeartbeats 1000000 in
set_option maxRecDepth 100000 in
theorem s6_5 (o : RMo) (k : Nat) (an : Nat) (han : an < 4) (bn : Nat) (hbn : bn < 4) (w : World) (R : Nat → Nat → Int) (M : Nat → Int) (h : RM o w R M) (hk : k < o.n) (hR : ∀ r, Word (R k r)) :
    Calls Try.prog 75 #[o.row k, o.vm, cdv ⟨5, an, bn, 0⟩, .int .i64 k] w (SimPost o ⟨5, an, bn, 0⟩ k R M w) := by
  have H := Lib.hid h
  have hk8 : k < 8 := Nat.lt_of_lt_of_le hk h.n8
  have hlt : o.rows k < w.heap.size := (Array.getElem?_eq_some_iff.1 (h.row k hk)).1
  have ha0 : (0 : Int) ≤ (an : Int) := by omega
  have ha4 : (an : Int) < 4 := by omega
  have hb0 : (0 : Int) ≤ (bn : Int) := by omega
  have hb4 : (bn : Int) < 4 := by omega
  have f1 := h.regFrozen hk an
  have qa := h.regCell hk han
  have qb := h.regCell hk hbn
  obtain ⟨y, Hy⟩ : ∃ y, Hid (R k bn = y) := ⟨_, rfl⟩
  have hwy : Word y := by rw [← Hy.out]; exact hR bn
  rw [Hy.out] at qb
  clear h hR
  unfold cdv RMo.row RMo.vm
  simp only
  go_enter Try.func75, Try.ntmps75
  go_wp2
  refine region_tail 9 (by kernel_rfl) (by kernel_rfl) ?_
  simp only [List.take_succ_cons, List.take_zero, List.drop_succ_cons, List.drop_zero]
  repeat still_step
  refine wpStill_nil ?_
  go_wp2
  go_end0
  exact SimPost.reg H.out hk han (show setF (R k) an (R k bn) = _ by rw [Hy.out]) rfl (by repeat (first | assumption | exact Pure.refl _ | refine Pure.drewN ?_ _ | refine Pure.drew ?_ | refine Pure.alloc ?_ _ | refine Pure.setCell ?_ (by simp <;> omega) _))

set_option maxHeartbeats 1000000 in
set_option maxRecDepth 100000 in
theorem s6_6 (o : RMo) (k : Nat) (an : Nat) (han : an < 4) (bn : Nat) (hbn : bn < 4) (cn : Nat) (hcn : cn < 4) (w : World) (R : Nat → Nat → Int) (M : Nat → Int) (h : RM o w R M) (hk : k < o.n) (hR : ∀ r, Word (R k r)) :
    Calls Try.prog 75 #[o.row k, o.vm, cdv ⟨6, an, bn, cn⟩, .int .i64 k] w (SimPost o ⟨6, an, bn, cn⟩ k R M w) := by
  have H := Lib.hid h
  have hk8 : k < 8 := Nat.lt_of_lt_of_le hk h.n8
  have hlt : o.rows k < w.heap.size := (Array.getElem?_eq_some_iff.1 (h.row k hk)).1
  have ha0 : (0 : Int) ≤ (an : Int) := by omega
  have ha4 : (an : Int) < 4 := by omega
  have hb0 : (0 : Int) ≤ (bn : Int) := by omega
  have hb4 : (bn : Int) < 4 := by omega
  have hc0 : (0 : Int) ≤ (cn : Int) := by omega
  have hc4 : (cn : Int) < 4 := by omega
  have f1 := h.regFrozen hk an
  have qa := h.regCell hk han
  have qb := h.regCell hk hbn
  obtain ⟨y, Hy⟩ : ∃ y, Hid (R k bn = y) := ⟨_, rfl⟩
  have hwy : Word y := by rw [← Hy.out]; exact hR bn
  rw [Hy.out] at qb
  have qc := h.regCell hk hcn
  obtain ⟨z, Hz⟩ : ∃ z, Hid (R k cn = z) := ⟨_, rfl⟩
  have hwz : Word z := by rw [← Hz.out]; exact hR cn
  rw [Hz.out] at qc
  have HWy := Lib.hid hwy; clear hwy
  have HWz := Lib.hid hwz; clear hwz
  obtain ⟨b, Hb⟩ : ∃ b : Int, Hid ((if y < z then 1 else 0) = b) := ⟨_, rfl⟩
  have hL : ∀ w : World, Calls Try.prog 92 #[.int .i64 y, .int .i64 z] w fun e w' => e = .returned (.int .i64 b) ∧ w' = w := fun w => (sWordLess_any y z w HWy.out HWz.out).mono fun e w' h => ⟨by rw [← Hb.out]; exact h.1, h.2.symm⟩
  have HL := Lib.hid hL; clear hL
  clear h hR
  unfold cdv RMo.row RMo.vm
  simp only
  go_enter Try.func75, Try.ntmps75
  go_wp2
  refine region_tail 15 (by kernel_rfl) (by kernel_rfl) ?_
  simp only [List.take_succ_cons, List.take_zero, List.drop_succ_cons, List.drop_zero]
  repeat still_step
  still_call (HL.out _)
  repeat still_step
  refine wpStill_nil ?_
  go_wp2
  go_end0
  exact SimPost.reg H.out hk han (show setF (R k) an (if R k bn < R k cn then 1 else 0) = _ by rw [Hy.out, Hz.out, Hb.out]) rfl (by repeat (first | assumption | exact Pure.refl _ | refine Pure.drewN ?_ _ | refine Pure.drew ?_ | refine Pure.alloc ?_ _ | refine Pure.setCell ?_ (by simp <;> omega) _))

set_option maxHeartbeats 1000000 in
set_option maxRecDepth 100000 in
theorem s6_7 (o : RMo) (k : Nat) (an : Nat) (han : an < 4) (bn : Nat) (hbn : bn < 4) (cn : Nat) (hcn : cn < 4) (w : World) (R : Nat → Nat → Int) (M : Nat → Int) (h : RM o w R M) (hk : k < o.n) (hR : ∀ r, Word (R k r)) :
    Calls Try.prog 75 #[o.row k, o.vm, cdv ⟨7, an, bn, cn⟩, .int .i64 k] w (SimPost o ⟨7, an, bn, cn⟩ k R M w) := by
  have H := Lib.hid h
  have hk8 : k < 8 := Nat.lt_of_lt_of_le hk h.n8
  have hlt : o.rows k < w.heap.size := (Array.getElem?_eq_some_iff.1 (h.row k hk)).1
  have ha0 : (0 : Int) ≤ (an : Int) := by omega
  have ha4 : (an : Int) < 4 := by omega
  have hb0 : (0 : Int) ≤ (bn : Int) := by omega
  have hb4 : (bn : Int) < 4 := by omega
  have hc0 : (0 : Int) ≤ (cn : Int) := by omega
  have hc4 : (cn : Int) < 4 := by omega
  have f1 := h.regFrozen hk an
  have qa := h.regCell hk han
  have qb := h.regCell hk hbn
  obtain ⟨y, Hy⟩ : ∃ y, Hid (R k bn = y) := ⟨_, rfl⟩
  have hwy : Word y := by rw [← Hy.out]; exact hR bn
  rw [Hy.out] at qb
  have qc := h.regCell hk hcn
  obtain ⟨z, Hz⟩ : ∃ z, Hid (R k cn = z) := ⟨_, rfl⟩
  have hwz : Word z := by rw [← Hz.out]; exact hR cn
  rw [Hz.out] at qc
  clear h hR
  unfold cdv RMo.row RMo.vm
  simp only
  by_cases hz0 : z = 0
  · have hzb : (z != 0) = false := by rw [bne_eq_false_iff_eq]; exact hz0
    have HZ := Lib.hid hz0; clear hz0
    go_enter Try.func75, Try.ntmps75
    go_wp2
    go_end0
    exact SimPost.same H.out (show (if R k cn = 0 then R k else setF (R k) an (R k bn)) = _ by rw [Hz.out, if_pos HZ.out]) rfl (by repeat (first | assumption | exact Pure.refl _ | refine Pure.drewN ?_ _ | refine Pure.drew ?_ | refine Pure.alloc ?_ _ | refine Pure.setCell ?_ (by simp <;> omega) _))
  · have hzb : (z != 0) = true := by rw [bne_iff_ne]; exact hz0
    have HZ := Lib.hid hz0; clear hz0
    go_enter Try.func75, Try.ntmps75
    go_wp2
    refine region_tail 9 (by kernel_rfl) (by kernel_rfl) ?_
    simp only [List.take_succ_cons, List.take_zero, List.drop_succ_cons, List.drop_zero]
    repeat still_step
    refine wpStill_nil ?_
    go_wp2
    go_end0
    exact SimPost.reg H.out hk han (show (if R k cn = 0 then R k else setF (R k) an (R k bn)) = _ by rw [Hz.out, if_neg HZ.out, Hy.out]) rfl (by repeat (first | assumption | exact Pure.refl _ | refine Pure.drewN ?_ _ | refine Pure.drew ?_ | refine Pure.alloc ?_ _ | refine Pure.setCell ?_ (by simp <;> omega) _))

set_option maxHeartbeats 1000000 in
set_option maxRecDepth 100000 in
theorem s6_8 (o : RMo) (k : Nat) (an : Nat) (han : an < 4) (bn : Nat) (hbn : bn < 4) (w : World) (R : Nat → Nat → Int) (M : Nat → Int) (h : RM o w R M) (hk : k < o.n) (hR : ∀ r, Word (R k r)) :
    Calls Try.prog 75 #[o.row k, o.vm, cdv ⟨8, an, bn, 0⟩, .int .i64 k] w (SimPost o ⟨8, an, bn, 0⟩ k R M w) := by
  have H := Lib.hid h
  have hk8 : k < 8 := Nat.lt_of_lt_of_le hk h.n8
  have hlt : o.rows k < w.heap.size := (Array.getElem?_eq_some_iff.1 (h.row k hk)).1
  have ha0 : (0 : Int) ≤ (an : Int) := by omega
  have ha4 : (an : Int) < 4 := by omega
  have hb0 : (0 : Int) ≤ (bn : Int) := by omega
  have hb4 : (bn : Int) < 4 := by omega
  have f1 := h.regFrozen hk an
  have qa := h.regCell hk han
  have qb := h.regCell hk hbn
  obtain ⟨y, Hy⟩ : ∃ y, Hid (R k bn = y) := ⟨_, rfl⟩
  have hwy : Word y := by rw [← Hy.out]; exact hR bn
  rw [Hy.out] at qb
  obtain ⟨hy0, hy1⟩ := hwy
  obtain ⟨yn, rfl⟩ := Int.eq_ofNat_of_zero_le hy0
  have hm1 := h.m1
  have hm32 := h.m32
  have hmi : ¬ ((o.m : Int) = 0) := by omega
  have hmn : ¬ o.m = 0 := by omega
  have hmb : ((o.m : Int) == 0) = false := by rw [beq_eq_false_iff_ne]; omega
  have hjn : yn % o.m < o.m := Nat.mod_lt _ (by omega)
  have htm : (yn : Int).tmod (o.m : Int) = ((yn % o.m : Nat) : Int) := by rw [Int.tmod_eq_emod_of_nonneg (by omega)]; norm_cast
  have HC : Hid (cellOf ⟨8, an, bn, 0⟩ o.m (R k) = yn % o.m) := Lib.hid (by unfold cellOf; rw [Int.toNat_natCast, Hy.out, Int.toNat_natCast])
  obtain ⟨j, Hj⟩ : ∃ j, Hid (yn % o.m = j) := ⟨_, rfl⟩
  rw [Hj.out] at htm hjn HC
  have hj0 : (0 : Int) ≤ (j : Int) := by omega
  have hj1 : (j : Int) < (o.m : Int) := by omega
  have hgm : o.gm < w.heap.size := h.gmlo.2
  have qm := h.memCell hjn
  clear h hR
  unfold cdv RMo.row RMo.vm
  simp only
  go_enter Try.func75, Try.ntmps75
  go_wp2
  refine region_tail 15 (by kernel_rfl) (by kernel_rfl) ?_
  simp only [List.take_succ_cons, List.take_zero, List.drop_succ_cons, List.drop_zero]
  repeat still_step
  refine wpStill_nil ?_
  go_wp2
  go_end0
  exact SimPost.reg H.out hk han (show setF (R k) an (M (cellOf ⟨8, an, bn, 0⟩ o.m (R k))) = _ by rw [HC.out]) rfl (by repeat (first | assumption | exact Pure.refl _ | refine Pure.drewN ?_ _ | refine Pure.drew ?_ | refine Pure.alloc ?_ _ | refine Pure.setCell ?_ (by simp <;> omega) _))

set_option maxHeartbeats 1000000 in
set_option maxRecDepth 100000 in
theorem s6_9 (o : RMo) (k : Nat) (an : Nat) (han : an < 4) (bn : Nat) (hbn : bn < 4) (w : World) (R : Nat → Nat → Int) (M : Nat → Int) (h : RM o w R M) (hk : k < o.n) (hR : ∀ r, Word (R k r)) :
    Calls Try.prog 75 #[o.row k, o.vm, cdv ⟨9, an, bn, 0⟩, .int .i64 k] w (SimPost o ⟨9, an, bn, 0⟩ k R M w) := by
  have H := Lib.hid h
  have hk8 : k < 8 := Nat.lt_of_lt_of_le hk h.n8
  have hlt : o.rows k < w.heap.size := (Array.getElem?_eq_some_iff.1 (h.row k hk)).1
  have ha0 : (0 : Int) ≤ (an : Int) := by omega
  have ha4 : (an : Int) < 4 := by omega
  have hb0 : (0 : Int) ≤ (bn : Int) := by omega
  have hb4 : (bn : Int) < 4 := by omega
  have f1 := h.regFrozen hk an
  have qa := h.regCell hk han
  obtain ⟨x, Hx⟩ : ∃ x, Hid (R k an = x) := ⟨_, rfl⟩
  have hwx : Word x := by rw [← Hx.out]; exact hR an
  rw [Hx.out] at qa
  have qb := h.regCell hk hbn
  obtain ⟨y, Hy⟩ : ∃ y, Hid (R k bn = y) := ⟨_, rfl⟩
  have hwy : Word y := by rw [← Hy.out]; exact hR bn
  rw [Hy.out] at qb
  obtain ⟨hy0, hy1⟩ := hwy
  obtain ⟨yn, rfl⟩ := Int.eq_ofNat_of_zero_le hy0
  have hm1 := h.m1
  have hm32 := h.m32
  have hmi : ¬ ((o.m : Int) = 0) := by omega
  have hmn : ¬ o.m = 0 := by omega
  have hmb : ((o.m : Int) == 0) = false := by rw [beq_eq_false_iff_ne]; omega
  have hjn : yn % o.m < o.m := Nat.mod_lt _ (by omega)
  have htm : (yn : Int).tmod (o.m : Int) = ((yn % o.m : Nat) : Int) := by rw [Int.tmod_eq_emod_of_nonneg (by omega)]; norm_cast
  have HC : Hid (cellOf ⟨9, an, bn, 0⟩ o.m (R k) = yn % o.m) := Lib.hid (by unfold cellOf; rw [Int.toNat_natCast, Hy.out, Int.toNat_natCast])
  obtain ⟨j, Hj⟩ : ∃ j, Hid (yn % o.m = j) := ⟨_, rfl⟩
  rw [Hj.out] at htm hjn HC
  have hj0 : (0 : Int) ≤ (j : Int) := by omega
  have hj1 : (j : Int) < (o.m : Int) := by omega
  have hgm : o.gm < w.heap.size := h.gmlo.2
  have qm := h.memCell hjn
  have f2 := h.memFrozen j
  clear h hR
  unfold cdv RMo.row RMo.vm
  simp only
  go_enter Try.func75, Try.ntmps75
  go_wp2
  refine region_tail 15 (by kernel_rfl) (by kernel_rfl) ?_
  simp only [List.take_succ_cons, List.take_zero, List.drop_succ_cons, List.drop_zero]
  repeat still_step
  refine wpStill_nil ?_
  go_wp2
  go_end0
  exact SimPost.mem H.out rfl (show setF M (cellOf ⟨9, an, bn, 0⟩ o.m (R k)) (R k an) = _ by rw [HC.out, Hx.out]) (by repeat (first | assumption | exact Pure.refl _ | refine Pure.drewN ?_ _ | refine Pure.drew ?_ | refine Pure.alloc ?_ _ | refine Pure.setCell ?_ (by simp <;> omega) _))

set_option maxHeartbeats 1000000 in
set_option maxRecDepth 100000 in
theorem s6_10 (o : RMo) (k : Nat) (w : World) (R : Nat → Nat → Int) (M : Nat → Int) (h : RM o w R M) (_hk : k < o.n) (_hR : ∀ r, Word (R k r)) :
    Calls Try.prog 75 #[o.row k, o.vm, cdv ⟨10, 0, 0, 0⟩, .int .i64 k] w (SimPost o ⟨10, 0, 0, 0⟩ k R M w) := by
  have H := Lib.hid h
  clear h _hR
  unfold cdv RMo.row RMo.vm
  simp only
  go_enter Try.func75, Try.ntmps75
  go_wp2
  go_end0
  exact SimPost.same H.out rfl rfl (by repeat (first | assumption | exact Pure.refl _ | refine Pure.drewN ?_ _ | refine Pure.drew ?_ | refine Pure.alloc ?_ _ | refine Pure.setCell ?_ (by simp <;> omega) _))

theorem s6_any (o : RMo) (x : Cd) (k : Nat) (w : World) (R : Nat → Nat → Int) (M : Nat → Int) (h : RM o w R M) (hk : k < o.n) (hx : Plain x) (hR : ∀ r, Word (R k r)) :
    Calls Try.prog 75 #[o.row k, o.vm, cdv x, .int .i64 k] w (SimPost o x k R M w) := by
  obtain ⟨hok, n11, n12, n13, n14⟩ := hx
  obtain ⟨op, a, b, c⟩ := x
  simp only at n11 n12 n13 n14
  obtain ⟨⟨ha0, ha3⟩, hb0, hb3, hc0, hc3, ho1, ho2⟩ := hok.regs
  unfold CdOk at hok
  simp only at hok
  have ho : op = 1 ∨ op = 2 ∨ op = 3 ∨ op = 4 ∨ op = 5 ∨ op = 6 ∨ op = 7 ∨ op = 8 ∨ op = 9 ∨ op = 10 := by omega
  obtain ⟨an, rfl⟩ := Int.eq_ofNat_of_zero_le ha0
  obtain ⟨cn, rfl⟩ := Int.eq_ofNat_of_zero_le hc0
  have han : an < 4 := by omega
  have hcn : cn < 4 := by omega
  rcases ho with rfl | ho
  · have hc : cn = 0 := by omega
    subst hc
    exact s6_1 o k an han b w R M h hk hR
  obtain ⟨bn, rfl⟩ := Int.eq_ofNat_of_zero_le (hb0 (by omega))
  have hbn : bn < 4 := by have := hb3 (by omega) (by omega); omega
  rcases ho with rfl | rfl | rfl | rfl | rfl | rfl | rfl | rfl | rfl
  · have hb9 : bn = 0 := by omega
    have hc9 : cn = 0 := by omega
    subst hb9
    subst hc9
    exact s6_2 o k an han w R M h hk hR
  · have hc9 : cn = 0 := by omega
    subst hc9
    exact s6_3 o k an han bn hbn w R M h hk hR
  · have hc9 : cn = 0 := by omega
    subst hc9
    exact s6_4 o k an han bn hbn w R M h hk hR
  · have hc9 : cn = 0 := by omega
    subst hc9
    exact s6_5 o k an han bn hbn w R M h hk hR
  · exact s6_6 o k an han bn hbn cn hcn w R M h hk hR
  · exact s6_7 o k an han bn hbn cn hcn w R M h hk hR
  · have hc9 : cn = 0 := by omega
    subst hc9
    exact s6_8 o k an han bn hbn w R M h hk hR
  · have hc9 : cn = 0 := by omega
    subst hc9
    exact s6_9 o k an han bn hbn w R M h hk hR
  · have ha9 : an = 0 := by omega
    have hb9 : bn = 0 := by omega
    have hc9 : cn = 0 := by omega
    subst ha9
    subst hb9
    subst hc9
    exact s6_10 o k w R M h hk hR

end Go.Proofs.Ythocmmhhhiikpaa

namespace Go.Proofs.Ythocmmhhhiikpaa
open Go.RowKit

/-- A slice of the call's own, or still the empty one (v0) that was there first. -/
def OwnE (v0 : Value) (w : World) (B e s : Nat) (v : Value) (n : Nat) (xs : List Value) : Prop := OwnO w B e s v n xs ∨ (n = 0 ∧ xs = [] ∧ v = v0)
theorem OwnE.pure {v0 : Value} {w w' : World} {B e s n : Nat} {v : Value} {xs : List Value} (h : OwnE v0 w B e s v n xs) (hp : Pure w w') : OwnE v0 w' B e s v n xs := h.imp (fun h => h.pure hp) id
theorem OwnE.start (v0 : Value) (w : World) (B e s : Nat) : OwnE v0 w B e s v0 0 [] := .inr ⟨rfl, rfl, rfl⟩
theorem OwnO.base' {w : World} {B B' e s n : Nat} {v : Value} {xs : List Value} (h : OwnO w B e s v n xs) (hB : B' ≤ B) : OwnO w B' e s v n xs := by
  refine ⟨h.1, ?_⟩
  rcases h.2 with h | ⟨g, off, cap, cur, e1, e2, e3⟩
  · exact .inl h
  · exact .inr ⟨g, off, cap, cur, e1, by omega, e3⟩
theorem OwnE.own {v0 : Value} {w : World} {B B0 e s n : Nat} {v : Value} {xs : List Value} (h : OwnE v0 w B e s v n xs) (h0 : OwnO w B0 e s v0 0 []) (hB : B0 ≤ B) : OwnO w B0 e s v n xs := by
  rcases h with h | ⟨rfl, rfl, rfl⟩
  · exact h.base' hB
  · exact h0
theorem OwnE.form {b : Nat} {w : World} {B e s n : Nat} {v : Value} {xs : List Value} (h : OwnE (.slice (some ⟨b, 0, none⟩) 0 0) w B e s v n xs) : ∃ A c, v = .slice A n c := by
  rcases h with h | ⟨rfl, rfl, rfl⟩
  · exact h.form
  · exact ⟨_, _, rfl⟩

section
variable {P : Program} {t e : TypeId} {s : Nat} {z : List Value} {bytes : Nat}
theorem wl_append1E (E : ElT P t e s z bytes) {w : World} {ops : Array Oper} {rest : List Oper} {o : Oper} {a : Act} {Q : Exit → Act → World → Prop} {et : TypeId}
    (hgd : o.guard = none) (sl x : Operand) (ho : o.op = .call { callee := .builtin .append, args := #[sl, x], argTypes := #[t, t] })
    (g0 B : Nat) (v : Value) (n : Nat) (xs : List Value) (hs : a.eval sl = v) (hown : OwnE (.slice (some ⟨g0, 0, none⟩) 0 0) w B e s v n xs)
    (b c : Nat) (news : List Value) (hx : a.eval x = .slice (some ⟨b, 0, none⟩) 1 c) (hb : b = w.heap.size) (hl : news.length = s) (h1 : news.all (·.oneCell') = true)
    (hby : bytes ≤ 128) (hn : n + 1 ≤ 1099511627776) (hB : B ≤ w.heap.size)
    (h : ∀ v' w', OwnO w' B e s v' (n + 1) (xs ++ news) → (∀ w0 : World, w0.heap.size ≤ B → Pure w0 w → Pure w0 w') → wpList P ops Q rest (a.put o.dst v') w') : wpList P ops Q (o :: rest) a (w.alloc (.cells news.toArray et)) := by
  rcases hown with hown | ⟨rfl, rfl, rfl⟩
  · refine wl_append1F E hgd sl x ho B v n xs hs hown b c news hx hb hl h1 hby hn hB fun v' w' r1 r2 _ => h v' w' r1 fun w0 h0 hp => ?_
    exact Pure.grown hp r2 (fun k hk => Nat.le_trans h0 (hown.lt k hk).1)
  · subst hb
    obtain ⟨i, zv, h2, h3, h4, h5, h6, h7⟩ := E.parts
    have hcell : ∀ j u, news[j]? = some u → (w.alloc (.cells news.toArray et)).cell? ((⟨w.heap.size, 0, none⟩ : Addr).add j) = some u := fun j u hu => by
      rw [add_mid, Nat.zero_add, cell_of_row (w.alloc (.cells news.toArray et)) w.heap.size j news.toArray et (0, 0) (heap_alloc_new w _)]
      simpa using hu
    refine wpList_append_grows (w.alloc (.cells news.toArray et)) hgd sl x t ho e i zv s bytes E.ht h2 h3 h4 h5 (by rw [h6]; simpa using h7) E.hs (some ⟨g0, 0, none⟩) 0 0 [] hs (fun hh => by cases hh) (by simp) (fun _ _ j u hu => by simp at hu)
      ⟨w.heap.size, 0, none⟩ 1 c news hx (by omega) hcell (fun u hu => (List.all_eq_true.1 h1) u hu) (by omega) (by unfold maxLen; omega) (by omega) fun v' w' r1 r2 => ?_
    have hsz : w.heap.size ≤ (w.alloc (.cells news.toArray et)).heap.size := (Pure.alloc (Pure.refl w) _).size
    refine h v' w' (by simpa using (OwnO.of_own r1).base' (Nat.le_trans hB hsz)) fun w0 _ hp => ?_
    exact (hp.alloc _).grown r2 (fun k hk => by cases hk)
end

end Go.Proofs.Ythocmmhhhiikpaa

namespace Go.Proofs.Ythocmmhhhiikpaa
open Go.RowKit

theorem ofInt64 (i : Nat) (h : i < 9223372036854775808) : (BitVec.ofInt 64 (i : Int)).toNat = i := ofInt_u64 i (by omega)
theorem bits_or {a b : Nat} (ha : a < 4611686018427387904) (hb : b < 4611686018427387904) : bits .or .i64 (a : Int) (b : Int) = ((a ||| b : Nat) : Int) := by
  show IntKind.i64.wrap ((BitVec.ofInt 64 (a : Int) ||| BitVec.ofInt 64 (b : Int)).toNat : Int) = _
  rw [BitVec.toNat_or, ofInt64 a (by omega), ofInt64 b (by omega)]
  have := Nat.or_lt_two_pow (n := 62) (by omega : a < 2 ^ 62) (by omega : b < 2 ^ 62)
  exact Lib.wrap_i64_small _ (by omega)
theorem bits_and {a b : Nat} (ha : a < 4611686018427387904) (hb : b < 4611686018427387904) : bits .and .i64 (a : Int) (b : Int) = ((a &&& b : Nat) : Int) := by
  show IntKind.i64.wrap ((BitVec.ofInt 64 (a : Int) &&& BitVec.ofInt 64 (b : Int)).toNat : Int) = _
  rw [BitVec.toNat_and, ofInt64 a (by omega), ofInt64 b (by omega)]
  have := Nat.and_lt_two_pow (n := 62) a (by omega : b < 2 ^ 62)
  exact Lib.wrap_i64_small _ (by omega)
theorem bits_xor {a b : Nat} (ha : a < 4611686018427387904) (hb : b < 4611686018427387904) : bits .xor .i64 (a : Int) (b : Int) = ((a ^^^ b : Nat) : Int) := by
  show IntKind.i64.wrap ((BitVec.ofInt 64 (a : Int) ^^^ BitVec.ofInt 64 (b : Int)).toNat : Int) = _
  rw [BitVec.toNat_xor, ofInt64 a (by omega), ofInt64 b (by omega)]
  have := Nat.xor_lt_two_pow (n := 62) (by omega : a < 2 ^ 62) (by omega : b < 2 ^ 62)
  exact Lib.wrap_i64_small _ (by omega)
theorem and_not_nat {a b : Nat} (ha : a < 2 ^ 64) (hb : b < 2 ^ 64) : a &&& (2 ^ 64 - 1 - b) = a ^^^ (a &&& b) := by
  apply Nat.eq_of_testBit_eq
  intro i
  rw [show 2 ^ 64 - 1 - b = 2 ^ 64 - (b + 1) by omega, Nat.testBit_and, Nat.testBit_xor, Nat.testBit_and, Nat.testBit_two_pow_sub_succ hb]
  by_cases hi : i < 64
  · simp [hi]; cases a.testBit i <;> cases b.testBit i <;> rfl
  · have : a.testBit i = false := Nat.testBit_lt_two_pow (Nat.lt_of_lt_of_le ha (Nat.pow_le_pow_right (by decide) (by omega)))
    simp [this]
theorem bits_andNot {a b : Nat} (ha : a < 4611686018427387904) (hb : b < 4611686018427387904) : bits .andNot .i64 (a : Int) (b : Int) = ((a ^^^ (a &&& b) : Nat) : Int) := by
  show IntKind.i64.wrap ((BitVec.ofInt 64 (a : Int) &&& ~~~BitVec.ofInt 64 (b : Int)).toNat : Int) = _
  rw [BitVec.toNat_and, BitVec.toNat_not, ofInt64 a (by omega), ofInt64 b (by omega), and_not_nat (by omega) (by omega)]
  have := Nat.xor_lt_two_pow (n := 62) (by omega : a < 2 ^ 62) (Nat.and_lt_two_pow (n := 62) a (by omega : b < 2 ^ 62))
  exact Lib.wrap_i64_small _ (by omega)

/-- Digit i of a number. -/
theorem digit_cast (u i : Nat) : ((u : Int) / 2 ^ i) % 2 = ((u / 2 ^ i % 2 : Nat) : Int) := by
  have : ((2 ^ i : Nat) : Int) = (2 : Int) ^ i := by simp
  rw [← this]; norm_cast
theorem digit_nonneg (u i : Nat) : (0 : Int) ≤ (u : Int) / 2 ^ i := Int.ediv_nonneg (by omega) (Int.pow_nonneg (by decide))
theorem digit_testBit (u i : Nat) : u / 2 ^ i % 2 = if u.testBit i then 1 else 0 := by
  rw [Nat.testBit_eq_decide_div_mod_eq]
  have := Nat.mod_two_eq_zero_or_one (u / 2 ^ i)
  rcases this with h | h <;> simp [h]

theorem digit_eq1 (u i : Nat) : (((u : Int) / 2 ^ i) % 2 == 1) = u.testBit i := by
  rw [digit_cast, digit_testBit]
  cases u.testBit i <;> simp
theorem digit_eq0 (u i : Nat) : (((u : Int) / 2 ^ i) % 2 == 0) = !u.testBit i := by
  rw [digit_cast, digit_testBit]
  cases u.testBit i <;> simp

/-- How many digits below i are 1. -/
def cnt (u : Nat) : Nat → Nat
  | 0 => 0
  | i + 1 => cnt u i + u / 2 ^ i % 2
theorem cnt_le (u : Nat) : ∀ i, cnt u i ≤ i
  | 0 => Nat.le_refl _
  | i + 1 => by
    have := cnt_le u i
    have h := Nat.mod_lt (u / 2 ^ i) (by decide : 0 < 2)
    show cnt u i + u / 2 ^ i % 2 ≤ i + 1
    omega

end Go.Proofs.Ythocmmhhhiikpaa

namespace Go.Proofs.Ythocmmhhhiikpaa
open Go.RowKit

theorem elBeat : ElT Try.prog 41 44 2 [.int .i64 0, .int .i64 0] 16 := ⟨by kernel_rfl, ⟨.agg #[.int .i64 0, .int .i64 0], by kernel_rfl, by kernel_rfl, rfl⟩, by decide⟩

theorem shl8 {j : Nat} (h : j < 9) : wrap64 (2 ^ j) = ((2 ^ j : Nat) : Int) := by
  have : j = 0 ∨ j = 1 ∨ j = 2 ∨ j = 3 ∨ j = 4 ∨ j = 5 ∨ j = 6 ∨ j = 7 ∨ j = 8 := by omega
  rcases this with rfl | rfl | rfl | rfl | rfl | rfl | rfl | rfl | rfl
  all_goals (rw [← IntWalk.i64_left, IntWalk.i64_in _ ⟨by decide, by decide⟩]; rfl)
theorem pow8 {j : Nat} (h : j ≤ 8) : 2 ^ j ≤ 256 := by
  calc 2 ^ j ≤ 2 ^ 8 := Nat.pow_le_pow_right (by decide) h
    _ = 256 := rfl

set_option maxHeartbeats 400000 in
theorem smaskall_any (n : Nat) (w : World) (h1 : 1 ≤ n) (h8 : n ≤ 8) :
    Calls Try.prog 53 #[.int .i64 n] w fun e w' => e = .returned (.int .i64 ((2 ^ n - 1 : Nat) : Int)) ∧ w = w' := by
  have hs := shl8 (j := n) (by omega)
  have hp := pow8 h8
  have hp1 : 1 ≤ 2 ^ n := Nat.one_le_two_pow
  have HC : Hid (((2 ^ n - 1 : Nat) : Int) = ((2 ^ n : Nat) : Int) - 1) := Lib.hid (by omega)
  rw [HC.out]
  obtain ⟨q, Hq⟩ : ∃ q, Hid (2 ^ n = q) := ⟨2 ^ n, Lib.hid rfl⟩
  rw [Hq.out] at hs hp hp1 ⊢
  have HS := Lib.hid hs
  go_enter Try.func53, Try.ntmps53
  go_wp2_with fail
  refine (l1In_t _ _ _ _ ⟨by omega, by omega⟩).mono ?_
  rintro e w' ⟨rfl, rfl⟩
  go_wp2
  go_ret
  exact ⟨rfl, rfl⟩

/-- Where a run of the reference lies, and what it does not change. -/
structure SO where
  rm : RMo
  w0 : World
  cs : List Cd
  vl : Value
  p : Nat
  vc : Value
  chk : Bool
  sets : Nat → Nat

def beatsL (H : List (Nat × Nat × (Nat → Nat → Int))) : List Value := H.flatMap fun x => [.int .i64 (x.1 : Nat), .int .i64 (x.2.1 : Nat)]
theorem beatsL_append (H : List (Nat × Nat × (Nat → Nat → Int))) (x : Nat × Nat × (Nat → Nat → Int)) : beatsL (H ++ [x]) = beatsL H ++ [.int .i64 (x.1 : Nat), .int .i64 (x.2.1 : Nat)] := by
  simp [beatsL]
/-- Whether a barrier was split. -/
def splitH (cs : List Cd) (n : Nat) (H : List (Nat × Nat × (Nat → Nat → Int))) : Bool := H.any fun x => decide ((cs.getD x.1 default).op = 10) && !decide (x.2.1 = 2 ^ n - 1)
/-- Whether a register of a set differs between the lanes of a mask (first: the lane that is compared with). -/
def unevTo (set mask : Nat) (R : Nat → Nat → Int) : Nat → Option Nat × Bool
  | 0 => (none, false)
  | j + 1 =>
    let (f, b) := unevTo set mask R j
    if mask.testBit j then (some (f.getD j), b || (List.range 4).any fun r => set.testBit r && !decide (R j r = R (f.getD j) r)) else (f, b)
def unev (n set mask : Nat) (R : Nat → Nat → Int) : Bool := (unevTo set mask R n).2
def SO.un (o : SO) (H : List (Nat × Nat × (Nat → Nat → Int))) : Bool := o.chk && H.any fun x => unev o.rm.n (o.sets x.1) x.2.1 x.2.2

def objC (o : SO) (vt : Value) (sp un : Bool) : Array Value := #[o.vl, .int .i64 (o.rm.n : Nat), o.rm.vr, o.rm.vm, vt, .bool sp, o.vc, .bool un]
def Obj8 (o : SO) (w : World) (vt : Value) (sp un : Bool) : Prop := w.heap[o.p]? = some (.cells (objC o vt sp un) 78 (0, 0))
section
variable {o : SO} {w w' : World} {vt : Value} {sp un : Bool}
theorem Obj8.cell (h : Obj8 o w vt sp un) (i : Nat) : w.cell? ⟨o.p, i, none⟩ = (objC o vt sp un)[i]? := cell_of_row w o.p i _ _ _ h
theorem Obj8.frozen (h : Obj8 o w vt sp un) (i : Nat) : w.frozen? ⟨o.p, i, none⟩ = false := frozen_of_row w o.p i _ _ h
theorem Obj8.lt (h : Obj8 o w vt sp un) : o.p < w.heap.size := (Array.getElem?_eq_some_iff.1 h).1
theorem Obj8.facts (h : Obj8 o w vt sp un) : w.cell? ⟨o.p, 0, none⟩ = some o.vl ∧ w.cell? ⟨o.p, 1, none⟩ = some (.int .i64 (o.rm.n : Nat)) ∧ w.cell? ⟨o.p, 2, none⟩ = some o.rm.vr ∧ w.cell? ⟨o.p, 3, none⟩ = some o.rm.vm ∧
    w.cell? ⟨o.p, 4, none⟩ = some vt ∧ w.cell? ⟨o.p, 5, none⟩ = some (.bool sp) ∧ w.cell? ⟨o.p, 6, none⟩ = some o.vc ∧ w.cell? ⟨o.p, 7, none⟩ = some (.bool un) :=
  ⟨h.cell 0, h.cell 1, h.cell 2, h.cell 3, h.cell 4, h.cell 5, h.cell 6, h.cell 7⟩
theorem Obj8.chg {S : Nat → Prop} (h : Obj8 o w vt sp un) (hc : Chg S w w') (hn : ¬ S o.p) : Obj8 o w' vt sp un := hc.heap h hn
theorem Obj8.pure (h : Obj8 o w vt sp un) (hp : Pure w w') : Obj8 o w' vt sp un := h.chg (S := fun _ => False) (Chg.of_pure hp) id
theorem Obj8.setTrace (h : Obj8 o w vt sp un) (v : Value) : Obj8 o (w.setCell ⟨o.p, 4, none⟩ v) v sp un := by
  unfold Obj8
  rw [heap_setCell_same w o.p 4 _ _ v h]; rfl
theorem Obj8.setSplit (h : Obj8 o w vt sp un) (b : Bool) : Obj8 o (w.setCell ⟨o.p, 5, none⟩ (.bool b)) vt b un := by
  unfold Obj8
  rw [heap_setCell_same w o.p 5 _ _ (.bool b) h]; rfl
theorem Obj8.setUn (h : Obj8 o w vt sp un) (b : Bool) : Obj8 o (w.setCell ⟨o.p, 7, none⟩ (.bool b)) vt sp b := by
  unfold Obj8
  rw [heap_setCell_same w o.p 7 _ _ (.bool b) h]; rfl
/-- The run's object is none of the registers' and the memory's blocks. -/
theorem Obj8.apart {R : Nat → Nat → Int} {M : Nat → Int} (h : Obj8 o w vt sp un) (hr : RM o.rm w R M) : ¬ o.rm.own o.p ∧ o.p ≠ o.rm.gr ∧ o.p ≠ o.rm.gm ∧ ∀ k, k < o.rm.n → o.p ≠ o.rm.rows k := by
  have hgm : o.p ≠ o.rm.gm := fun e => hr.mem.ne_heap h (by decide) o.rm.gm rfl e.symm
  have hrow : ∀ k, k < o.rm.n → o.p ≠ o.rm.rows k := fun k hk => ne_of_heap h (hr.row k hk) (by decide)
  obtain ⟨cur, b1, _⟩ := hr.outer
  refine ⟨?_, ne_of_heap h b1 (by decide), hgm, hrow⟩
  rintro (⟨k, hk, e⟩ | e)
  · exact hrow k hk e
  · exact hgm e
end

/-- The run under way. -/
structure SRun (o : SO) (w : World) (vt : Value) (s : LS) : Prop where
  pure : Pure o.w0 w
  codes : Codes o.w0 o.vl o.cs
  base : o.rm.B = o.w0.heap.size
  rm : RM o.rm w s.R s.M
  n1 : 1 ≤ o.rm.n
  obj : Obj8 o w vt (splitH o.cs o.rm.n s.H) (o.un s.H)
  plo : o.w0.heap.size ≤ o.p
  tr : OwnO w o.w0.heap.size 44 2 vt s.H.length (beatsL s.H)
  good : Good s
  noChk : o.chk = false → o.vc = .slice none 0 0
  chkS : o.chk = true → (∀ k, o.sets k < 16) ∧ Cells o.w0 o.vc o.cs.length 1 fun j => .int .i64 (o.sets j : Nat)
def SO.own (o : SO) (vt : Value) (k : Nat) : Prop := k = o.p ∨ o.rm.own k ∨ vt.ownBlock = some k
theorem SRun.own_lo {o : SO} {w : World} {vt : Value} {s : LS} (h : SRun o w vt s) : ∀ k, o.own vt k → o.w0.heap.size ≤ k := by
  rintro k (rfl | hk | hk)
  · exact h.plo
  · rw [← h.base]; exact h.rm.own_lo k hk
  · exact (h.tr.lt k hk).1
theorem SRun.own_hi {o : SO} {w : World} {vt : Value} {s : LS} (h : SRun o w vt s) : ∀ k, o.own vt k → k < w.heap.size := by
  rintro k (rfl | (⟨l, hl, rfl⟩ | rfl) | hk)
  · exact h.obj.lt
  · exact (Array.getElem?_eq_some_iff.1 (h.rm.row l hl)).1
  · exact h.rm.gmlo.2
  · exact (h.tr.lt k hk).2
theorem SRun.keep {o : SO} {w w' : World} {vt : Value} {s : LS} (h : SRun o w vt s) (hp : Pure w w') : SRun o w' vt s :=
  ⟨h.pure.trans hp, h.codes, h.base, h.rm.pure hp, h.n1, h.obj.pure hp, h.plo, h.tr.pure hp, h.good, h.noChk, h.chkS⟩

/-- What happens to the run's blocks between two worlds. -/
def SStep (o : SO) (w : World) (vt : Value) (w' : World) (vt' : Value) : Prop := Chg (o.own vt) w w' ∧ Lies w vt vt'
theorem SStep.refl (o : SO) (w : World) (vt : Value) : SStep o w vt w vt := ⟨Chg.refl _ _, fun _g h => .inl h⟩
theorem SStep.trans {o : SO} {a b c : World} {u v x : Value} (h : SStep o a u b v) (k : SStep o b v c x) : SStep o a u c x := by
  refine ⟨h.1.trans' k.1 fun i hi hs => ?_, fun g hg => ?_⟩
  · rcases hs with hs | hs | hs
    · exact .inl hs
    · exact .inr (.inl hs)
    · rcases h.2 i hs with h2 | h2
      · exact .inr (.inr h2)
      · omega
  · rcases k.2 g hg with h2 | h2
    · exact h.2 g h2
    · exact .inr (Nat.le_trans h.1.size h2)
theorem SStep.of_pure {o : SO} {a b : World} {u : Value} (h : Pure a b) : SStep o a u b u := ⟨Chg.of_pure h, fun _g hg => .inl hg⟩

set_option maxHeartbeats 1000000 in
theorem sones_any (o : SO) (w : World) (vt : Value) (sp un : Bool) (R : Nat → Nat → Int) (M : Nat → Int) (mask an : Nat) (ho : Obj8 o w vt sp un) (h : RM o.rm w R M) (_hm : mask < 256) (ha : an < 4) :
    Calls Try.prog 74 #[.pointer (some ⟨o.p, 0, none⟩), .int .i64 mask, .int .i64 an] w fun e w' => e = .returned (.int .i64 (onesTo R mask an o.rm.n : Nat)) ∧ w = w' := by
  have H := Lib.hid h
  obtain ⟨p0, p1, p2, p3, p4, p5, p6, p7⟩ := ho.facts
  have hn8 := h.n8
  have hcr := h.cr1
  have hcr2 := h.cr2
  have ha0 : (0 : Int) ≤ (an : Int) := by omega
  have ha4 : (an : Int) < 4 := by omega
  clear h p0 p3 p4 p5 p6 p7
  unfold RMo.vr at p2
  go_enter Try.func74, Try.ntmps74
  go_wp2
  go_loopg [8, 7] o.rm.n (fun gk i q wr => ∃ j : Nat, gk + j = o.rm.n ∧ i = .int .i64 j ∧ q = .int .i64 (onesTo R mask an j : Nat) ∧ wr = w)
  case atStart => exact ⟨0, rfl, rfl, rfl, rfl⟩
  case round =>
    obtain ⟨j, hgk, rfl, rfl, rfl⟩ := hrel
    have Hgk := Lib.hid hgk
    have hjn : j ≤ o.rm.n := by omega
    clear hgk
    have hq256 := Nat.lt_of_lt_of_le (onesTo_lt R mask an j) (pow8 (show j ≤ 8 by omega))
    have hnext : onesTo R mask an (j + 1) = if mask.testBit j && !decide (R j an = 0) then onesTo R mask an j ||| 2 ^ j else onesTo R mask an j := rfl
    obtain ⟨q, Hq⟩ : ∃ q, Hid (onesTo R mask an j = q) := ⟨_, rfl⟩
    rw [Hq.out] at hq256 hnext ⊢
    by_cases hlt : j < o.rm.n
    · have hnn := digit_nonneg mask j
      have hbit := digit_eq1 mask j
      obtain ⟨D, HD⟩ : ∃ D, Hid (mask.testBit j = D) := ⟨_, rfl⟩
      rw [HD.out] at hbit hnext
      cases D
      · have Hnext := Lib.hid hnext
        clear hnext
        go_wp2
        go_roundg (o.rm.n - (j + 1))
        case measure => have := Hgk.out; omega
        case rel => exact ⟨j + 1, by have := Hgk.out; omega, by go_num, by rw [Hnext.out]; rfl, rfl⟩
      · have q1 := H.out.outerCell hlt
        unfold RMo.row at q1
        have q2 := H.out.regCell hlt ha
        have hs := shl8 (j := j) (by omega)
        have hor : bits .or .i64 (q : Int) ((2 ^ j : Nat) : Int) = ((q ||| 2 ^ j : Nat) : Int) := bits_or (by omega) (by have := pow8 (show j ≤ 8 by omega); omega)
        obtain ⟨x, Hx⟩ : ∃ x, Hid (R j an = x) := ⟨_, rfl⟩
        rw [Hx.out] at q2 hnext
        obtain ⟨s, Hs⟩ : ∃ s, Hid (2 ^ j = s) := ⟨2 ^ j, Lib.hid rfl⟩
        rw [Hs.out] at hs hor hnext
        by_cases hx : x = 0
        · have hxb : (x != 0) = false := by rw [bne_eq_false_iff_eq]; exact hx
          have Hnext : Hid (onesTo R mask an (j + 1) = q) := Lib.hid (by rw [hnext]; simp [hx])
          clear hnext hx
          go_wp2
          go_roundg (o.rm.n - (j + 1))
          case measure => have := Hgk.out; omega
          case rel => exact ⟨j + 1, by have := Hgk.out; omega, by go_num, by rw [Hnext.out], rfl⟩
        · have hxb : (x != 0) = true := by rw [bne_iff_ne]; exact hx
          obtain ⟨q', Hq'⟩ : ∃ q', Hid (q ||| s = q') := ⟨_, rfl⟩
          rw [Hq'.out] at hor hnext
          have Hnext : Hid (onesTo R mask an (j + 1) = q') := Lib.hid (by rw [hnext]; simp [hx])
          clear hnext hx
          go_wp2
          go_roundg (o.rm.n - (j + 1))
          case measure => have := Hgk.out; omega
          case rel => exact ⟨j + 1, by have := Hgk.out; omega, by go_num, by rw [Hnext.out], rfl⟩
    · have hjl : j = o.rm.n := by omega
      go_wp2
      go_ret
      exact ⟨ret_int (by rw [← hjl, Hq.out]), rfl⟩

end Go.Proofs.Ythocmmhhhiikpaa

namespace Go.Proofs.Ythocmmhhhiikpaa

def Tr.cost : Tr → Nat
  | .nil => 0
  | .op _ k => 1 + k.cost
  | .ite _ t k => 1 + t.cost + k.cost
  | .itee _ t e k => 1 + t.cost + e.cost + k.cost
  | .loop _ b t k => 1 + b.toNat * t.cost + k.cost
theorem lanesTo_H (c : Cd) (m mask : Nat) : ∀ (j : Nat) (s : LS), (lanesTo c m mask j s).H = s.H
  | 0, _ => rfl
  | j + 1, s => by
    show (if _ then _ else _ : LS).H = _
    split
    · exact lanesTo_H c m mask j s
    · exact lanesTo_H c m mask j s
theorem exec_H (c : Cd) (n m i mask : Nat) (s : LS) : (exec c n m i mask s).H = s.H ++ [(i, mask, s.R)] := by
  unfold exec
  simp only
  split
  · exact lanesTo_H c m mask n _
  · exact lanesTo_H c m mask n _
theorem turns_H {F : Nat → LS → LS} {n a c : Nat} (hF : ∀ y s, (F y s).H.length ≤ s.H.length + c) : ∀ (b y : Nat) (s : LS), (turns F n a b y s).H.length ≤ s.H.length + b * c
  | 0, _, _ => by simp [turns]
  | b + 1, y, s => by
    have h1 := turns_H (n := n) (a := a) hF b (onesTo s.R y a n) (F (onesTo s.R y a n) s)
    have h2 := hF (onesTo s.R y a n) s
    have h3 : (b + 1) * c = b * c + c := Nat.succ_mul b c
    show (turns F n a b _ _).H.length ≤ _
    omega
theorem run_H (n m : Nat) : ∀ (t : Tr) (i mask : Nat) (s : LS), (run n m t i mask s).H.length ≤ s.H.length + t.cost
  | .nil, _, _, _ => by simp [run, Tr.cost]
  | .op c k, i, mask, s => by
    show (if _ then _ else _ : LS).H.length ≤ s.H.length + (1 + k.cost)
    split
    · omega
    · have := run_H n m k (i + 1) mask (exec c n m i mask s)
      rw [exec_H] at this
      simp at this
      omega
  | .ite a t k, i, mask, s => by
    show (if _ then _ else _ : LS).H.length ≤ s.H.length + (1 + t.cost + k.cost)
    split
    · omega
    · have h1 := run_H n m k (i + 1 + t.len + 1) mask (run n m t (i + 1) (onesTo s.R mask a.toNat n) (beat i mask s))
      have h2 := run_H n m t (i + 1) (onesTo s.R mask a.toNat n) (beat i mask s)
      have h3 : (beat i mask s).H.length = s.H.length + 1 := by simp [beat]
      omega
  | .itee a t e k, i, mask, s => by
    show (if _ then _ else _ : LS).H.length ≤ s.H.length + (1 + t.cost + e.cost + k.cost)
    split
    · omega
    · have h1 := run_H n m k (i + 1 + t.len + 1 + e.len + 1) mask (run n m e (i + 1 + t.len + 1) (del mask (onesTo s.R mask a.toNat n)) (run n m t (i + 1) (onesTo s.R mask a.toNat n) (beat i mask s)))
      have h2 := run_H n m e (i + 1 + t.len + 1) (del mask (onesTo s.R mask a.toNat n)) (run n m t (i + 1) (onesTo s.R mask a.toNat n) (beat i mask s))
      have h4 := run_H n m t (i + 1) (onesTo s.R mask a.toNat n) (beat i mask s)
      have h3 : (beat i mask s).H.length = s.H.length + 1 := by simp [beat]
      omega
  | .loop a b t k, i, mask, s => by
    show (if _ then _ else _ : LS).H.length ≤ s.H.length + (1 + b.toNat * t.cost + k.cost)
    split
    · omega
    · have h1 := run_H n m k (i + 1 + t.len + 1) mask (turns (run n m t (i + 1)) n a.toNat b.toNat mask (beat i mask s))
      have h2 := turns_H (F := run n m t (i + 1)) (n := n) (a := a.toNat) (c := t.cost) (fun y s => run_H n m t (i + 1) y s) b.toNat mask (beat i mask s)
      have h3 : (beat i mask s).H.length = s.H.length + 1 := by simp [beat]
      omega
/-- A tree of at most 40 instructions, nested to a depth of 3, takes few steps. -/
theorem cost_le : ∀ (t : Tr) (d : Nat), t.Ok → t.depth ≤ d → t.cost ≤ t.len * 4 ^ d
  | .nil, d, _, _ => by simp [Tr.cost]
  | .op c k, d, h, hd => by
    have := cost_le k d h.2 hd
    have h4 : 1 ≤ 4 ^ d := Nat.one_le_pow _ _ (by decide)
    rw [Tr.len_op, Nat.add_mul]
    simp only [Tr.cost]; omega
  | .ite a t k, d, h, hd => by
    simp only [Tr.depth] at hd
    have h1 := cost_le t d h.2.1 (by omega)
    have h2 := cost_le k d h.2.2 (by omega)
    have h4 : 1 ≤ 4 ^ d := Nat.one_le_pow _ _ (by decide)
    rw [Tr.len_ite, Nat.add_mul, Nat.add_mul, Nat.add_mul]
    simp only [Tr.cost]; omega
  | .itee a t e k, d, h, hd => by
    simp only [Tr.depth] at hd
    have h1 := cost_le t d h.2.1 (by omega)
    have h2 := cost_le e d h.2.2.1 (by omega)
    have h3 := cost_le k d h.2.2.2 (by omega)
    have h4 : 1 ≤ 4 ^ d := Nat.one_le_pow _ _ (by decide)
    rw [Tr.len_itee, Nat.add_mul, Nat.add_mul, Nat.add_mul, Nat.add_mul, Nat.add_mul]
    simp only [Tr.cost]; omega
  | .loop a b t k, 0, h, hd => by simp only [Tr.depth] at hd; omega
  | .loop a b t k, d + 1, h, hd => by
    simp only [Tr.depth] at hd
    have h1 := cost_le t d h.2.2.1 (by omega)
    have h2 := cost_le k (d + 1) h.2.2.2 (by omega)
    have h4 : 1 ≤ 4 ^ (d + 1) := Nat.one_le_pow _ _ (by decide)
    have hb : b.toNat ≤ 4 := by have := h.2.1; omega
    have h5 : b.toNat * t.cost ≤ 4 * (t.len * 4 ^ d) := Nat.mul_le_mul hb h1
    have h6 : 4 * (t.len * 4 ^ d) = t.len * 4 ^ (d + 1) := by rw [Nat.pow_succ]; rw [← Nat.mul_assoc, Nat.mul_comm 4 t.len, Nat.mul_assoc, Nat.mul_comm 4]
    rw [Tr.len_loop, Nat.add_mul, Nat.add_mul, Nat.add_mul]
    simp only [Tr.cost]; omega
theorem PValid.cost {cs : List Cd} {t : Tr} (h : PValid cs) (e : cs = t.flat) (hok : t.Ok) (hd : t.depth ≤ 3) : t.cost ≤ 2560 := by
  have h1 := cost_le t 3 hok hd
  have h2 : t.len ≤ 40 := by have := h.2.1; rw [e] at this; exact this
  have h3 : t.len * 4 ^ 3 ≤ 40 * 4 ^ 3 := Nat.mul_le_mul_right _ h2
  omega

/-- The turns of a loop, where the lanes of the next turn are known. -/
def turnsR (F : Nat → LS → LS) (n a : Nat) : Nat → Nat → LS → LS
  | 0, _, s => s
  | b + 1, y, s => turnsR F n a b (onesTo (F y s).R y a n) (F y s)
theorem turns_eq (F : Nat → LS → LS) (n a : Nat) : ∀ (b y : Nat) (s : LS), turns F n a b y s = turnsR F n a b (onesTo s.R y a n) s
  | 0, _, _ => rfl
  | b + 1, y, s => by
    show turns F n a b _ _ = turnsR F n a b _ _
    rw [turns_eq F n a b]
theorem turnsR_zero {n m a : Nat} {t : Tr} {i : Nat} : ∀ (b : Nat) (s : LS), turnsR (run n m t i) n a b 0 s = s
  | 0, _ => rfl
  | b + 1, s => by
    show turnsR _ _ _ b (onesTo (run n m t i 0 s).R 0 a n) (run n m t i 0 s) = s
    rw [onesTo_none, run_zero, turnsR_zero b s]
theorem turnsR_succ (F : Nat → LS → LS) (n a b y : Nat) (s : LS) : turnsR F n a (b + 1) y s = turnsR F n a b (onesTo (F y s).R y a n) (F y s) := rfl
theorem Tr.len_zero {t : Tr} (h : t.len = 0) : t = .nil := by
  cases t with
  | nil => rfl
  | op c k => rw [Tr.len_op] at h; omega
  | ite a t k => rw [Tr.len_ite] at h; omega
  | itee a t e k => rw [Tr.len_itee] at h; omega
  | loop a b t k => rw [Tr.len_loop] at h; omega

end Go.Proofs.Ythocmmhhhiikpaa
