/- The registers of one lane and the memory, in blocks of one's own. What an instruction does to one lane that has registers of its own, as the reference reckons it. What an instruction does to one lane that has registers of its own, as the program reckons it. No condition. -/
import Derived.StillTailTactics
import Derived.Test.YtajaonejpggcbaaKac
import Derived.Test.YtajaonejpggcbaaKad

namespace Go.Proofs.Ytajaonejpggcbaa.Lw
open Go.RowKit

/-- Where the registers of lane k and the memory lie. -/
structure RMo where
  B : Nat
  k : Nat
  m : Nat
  gm : Nat
  cm : Nat
  c : Nat
  rows : Nat → Nat
def RMo.row (o : RMo) (k : Nat) : Value := .slice (some ⟨o.rows k, 0, none⟩) 4 o.c
def RMo.vm (o : RMo) : Value := .slice (some ⟨o.gm, 0, none⟩) o.m o.cm
/-- The lane whose registers they are. -/
def RMo.Is (o : RMo) (k : Nat) : Prop := k = o.k ∧ k < 8
theorem RMo.Is.eq {o : RMo} {k : Nat} (h : o.Is k) : k = o.k := And.left h
theorem RMo.Is.lt {o : RMo} {k : Nat} (h : o.Is k) : k < 8 := And.right h
def RMo.lane (o : RMo) (k : Nat) : Nat → Prop := fun b => b = o.rows k ∨ b = o.gm
structure RM (o : RMo) (w : World) (R : Nat → Nat → Int) (M : Nat → Int) : Prop where
  m1 : 1 ≤ o.m
  m32 : o.m ≤ 32
  row : OwnO w o.B 3 1 (o.row o.k) 4 (row4 (R o.k)).toList
  mem : OwnO w o.B 3 1 o.vm o.m (memL o.m M)
  ne : o.rows o.k ≠ o.gm

section
variable {o : RMo} {w w' : World} {R : Nat → Nat → Int} {M : Nat → Int}
theorem RM.chg {S : Nat → Prop} (h : RM o w R M) (hc : Chg S w w') (h2 : ¬ S (o.rows o.k)) (h3 : ¬ S o.gm) : RM o w' R M := by
  obtain ⟨a1, a2, a3, a4, a5⟩ := h
  refine ⟨a1, a2, a3.chg hc fun g hg => ?_, a4.chg hc fun g hg => ?_, a5⟩
  · simp [RMo.row, Value.ownBlock] at hg
    subst hg; exact h2
  · simp [RMo.vm, Value.ownBlock] at hg
    subst hg; exact h3
theorem RM.pure (h : RM o w R M) (hp : Pure w w') : RM o w' R M := h.chg (S := fun _ => False) (Chg.of_pure hp) id id
theorem RM.gmlo (h : RM o w R M) : o.B ≤ o.gm ∧ o.gm < w.heap.size := h.mem.lt o.gm rfl
theorem RM.rlo (h : RM o w R M) : o.B ≤ o.rows o.k ∧ o.rows o.k < w.heap.size := h.row.lt (o.rows o.k) rfl
theorem RM.rowLt (h : RM o w R M) {k : Nat} (hk : o.Is k) : o.rows k < w.heap.size := by rw [hk.eq]; exact h.rlo.2
theorem RM.regCell (h : RM o w R M) {k : Nat} (hk : o.Is k) {r : Nat} (hr : r < 4) : w.cell? ⟨o.rows k, r, none⟩ = some (.int .i64 (R k r)) := by
  have := h.row.cell r (by omega)
  rw [Nat.zero_add] at this
  rw [hk.eq, this]
  have : r = 0 ∨ r = 1 ∨ r = 2 ∨ r = 3 := by omega
  rcases this with rfl | rfl | rfl | rfl <;> rfl
theorem RM.regFrozen (h : RM o w R M) {k : Nat} (hk : o.Is k) (r : Nat) : w.frozen? ⟨o.rows k, r, none⟩ = false := by rw [hk.eq]; exact h.row.frozen r
theorem RM.memCell (h : RM o w R M) {j : Nat} (hj : j < o.m) : w.cell? ⟨o.gm, j, none⟩ = some (.int .i64 (M j)) := by
  have := h.mem.cell j (by omega)
  rw [Nat.zero_add] at this
  rw [this]; simp [memL, hj]
theorem RM.memFrozen (h : RM o w R M) (j : Nat) : w.frozen? ⟨o.gm, j, none⟩ = false := h.mem.frozen j
theorem row4_setL (f : Nat → Int) {r : Nat} (hr : r < 4) (v : Int) : (row4 f).toList.set r (.int .i64 v) = (row4 (setF f r v)).toList := by
  have : r = 0 ∨ r = 1 ∨ r = 2 ∨ r = 3 := by omega
  rcases this with rfl | rfl | rfl | rfl <;> rfl
theorem RM.setReg (h : RM o w R M) {k : Nat} (hk : o.Is k) {r : Nat} (hr : r < 4) (v : Int) : RM o (w.setCell ⟨o.rows k, r, none⟩ (.int .i64 v)) (upR R k (setF (R k) r v)) M := by
  obtain rfl := hk.eq
  have hc : Chg (fun b => b = o.rows o.k) w (w.setCell ⟨o.rows o.k, r, none⟩ (.int .i64 v)) := Chg.of_set w _ _ _ rfl
  have hgm : o.gm ≠ o.rows o.k := fun e => h.ne e.symm
  obtain ⟨a1, a2, a3, a4, a5⟩ := h
  refine ⟨a1, a2, ?_, a4.chg hc fun g hg => ?_, a5⟩
  · have h2 := a3.stored r (.int .i64 v)
    rw [Nat.zero_add, row4_setL _ hr] at h2
    have e : upR R o.k (setF (R o.k) r v) o.k = setF (R o.k) r v := if_pos rfl
    rw [e]; exact h2
  · simp [RMo.vm, Value.ownBlock] at hg
    subst hg; exact hgm
theorem RM.setMem (h : RM o w R M) (j : Nat) (v : Int) : RM o (w.setCell ⟨o.gm, j, none⟩ (.int .i64 v)) R (setF M j v) := by
  have hc : Chg (fun b => b = o.gm) w (w.setCell ⟨o.gm, j, none⟩ (.int .i64 v)) := Chg.of_set w _ _ _ rfl
  obtain ⟨a1, a2, a3, a4, a5⟩ := h
  refine ⟨a1, a2, a3.chg hc fun g hg => ?_, ?_, a5⟩
  · simp [RMo.row, Value.ownBlock] at hg
    subst hg; exact a5
  have := a4.stored j (.int .i64 v)
  rw [Nat.zero_add, memL_set] at this
  exact this
end

end Go.Proofs.Ytajaonejpggcbaa.Lw

namespace Go.Proofs.Ytajaonejpggcbaa.Lw
open Go.RowKit

def SimPost (o : RMo) (x : Cd) (k : Nat) (R : Nat → Nat → Int) (M : Nat → Int) (w : World) (e : Ending) (w' : World) : Prop :=
  e = .returned (.tuple #[]) ∧ RM o w' (upR R k (simR x k o.m (R k) M)) (simM x o.m (R k) M) ∧ Chg (o.lane k) w w'
theorem SimPost.reg {o : RMo} {x : Cd} {k r : Nat} {v : Int} {R : Nat → Nat → Int} {M : Nat → Int} {w w' : World} (h : RM o w R M) (hk : o.Is k) (hr : r < 4) (hR : simR x k o.m (R k) M = setF (R k) r v) (hM : simM x o.m (R k) M = M)
    (hp : Pure (w.setCell ⟨o.rows k, r, none⟩ (.int .i64 v)) w') : SimPost o x k R M w (.returned (.tuple #[])) w' := by
  refine ⟨rfl, ?_, (Chg.of_set w _ _ _ (.inl rfl)).trans (Chg.of_pure hp)⟩
  rw [hR, hM]
  exact (h.setReg hk hr v).pure hp
theorem SimPost.same {o : RMo} {x : Cd} {k : Nat} {R : Nat → Nat → Int} {M : Nat → Int} {w w' : World} (h : RM o w R M) (hR : simR x k o.m (R k) M = R k) (hM : simM x o.m (R k) M = M) (hp : Pure w w') : SimPost o x k R M w (.returned (.tuple #[])) w' := by
  refine ⟨rfl, ?_, Chg.of_pure hp⟩
  rw [hR, hM, upR_same]
  exact h.pure hp
theorem SimPost.mem {o : RMo} {x : Cd} {k j : Nat} {v : Int} {R : Nat → Nat → Int} {M : Nat → Int} {w w' : World} (h : RM o w R M) (hR : simR x k o.m (R k) M = R k) (hM : simM x o.m (R k) M = setF M j v)
    (hp : Pure (w.setCell ⟨o.gm, j, none⟩ (.int .i64 v)) w') : SimPost o x k R M w (.returned (.tuple #[])) w' := by
  refine ⟨rfl, ?_, (Chg.of_set w _ _ _ (.inr rfl)).trans (Chg.of_pure hp)⟩
  rw [hR, hM, upR_same]
  exact (h.setMem j v).pure hp

set_option maxHeartbeats 1000000 in
set_option maxRecDepth 100000 in
theorem s6_1 (o : RMo) (k : Nat) (an : Nat) (han : an < 4) (b : Int) (w : World) (R : Nat → Nat → Int) (M : Nat → Int) (h : RM o w R M) (hk : o.Is k) (_hR : ∀ r, Word (R k r)) :
    Calls Try.prog 130 #[o.row k, o.vm, cdv ⟨1, an, b, 0⟩, .int .i64 k] w (SimPost o ⟨1, an, b, 0⟩ k R M w) := by
  have H := Lib.hid h
  have hk8 : k < 8 := hk.lt
  have hlt : o.rows k < w.heap.size := h.rowLt hk
  have ha0 : (0 : Int) ≤ (an : Int) := by omega
  have ha4 : (an : Int) < 4 := by omega
  have f1 := h.regFrozen hk an
  have qa := h.regCell hk han
  clear h _hR
  unfold cdv RMo.row RMo.vm
  simp only
  go_enter Try.func130, Try.ntmps130
  go_wp2
  go_end0
  exact SimPost.reg H.out hk han rfl rfl (by repeat (first | assumption | exact Pure.refl _ | refine Pure.drewN ?_ _ | refine Pure.drew ?_ | refine Pure.alloc ?_ _ | refine Pure.setCell ?_ (by simp <;> omega) _))

set_option maxHeartbeats 1000000 in
set_option maxRecDepth 100000 in
theorem s6_2 (o : RMo) (k : Nat) (an : Nat) (han : an < 4) (w : World) (R : Nat → Nat → Int) (M : Nat → Int) (h : RM o w R M) (hk : o.Is k) (_hR : ∀ r, Word (R k r)) :
    Calls Try.prog 130 #[o.row k, o.vm, cdv ⟨2, an, 0, 0⟩, .int .i64 k] w (SimPost o ⟨2, an, 0, 0⟩ k R M w) := by
  have H := Lib.hid h
  have hk8 : k < 8 := hk.lt
  have hlt : o.rows k < w.heap.size := h.rowLt hk
  have ha0 : (0 : Int) ≤ (an : Int) := by omega
  have ha4 : (an : Int) < 4 := by omega
  have f1 := h.regFrozen hk an
  have qa := h.regCell hk han
  clear h _hR
  unfold cdv RMo.row RMo.vm
  simp only
  go_enter Try.func130, Try.ntmps130
  go_wp2
  go_end0
  exact SimPost.reg H.out hk han rfl rfl (by repeat (first | assumption | exact Pure.refl _ | refine Pure.drewN ?_ _ | refine Pure.drew ?_ | refine Pure.alloc ?_ _ | refine Pure.setCell ?_ (by simp <;> omega) _))

set_option maxHeartbeats 1000000 in
set_option maxRecDepth 100000 in
theorem s6_3 (o : RMo) (k : Nat) (an : Nat) (han : an < 4) (bn : Nat) (hbn : bn < 4) (w : World) (R : Nat → Nat → Int) (M : Nat → Int) (h : RM o w R M) (hk : o.Is k) (hR : ∀ r, Word (R k r)) :
    Calls Try.prog 130 #[o.row k, o.vm, cdv ⟨3, an, bn, 0⟩, .int .i64 k] w (SimPost o ⟨3, an, bn, 0⟩ k R M w) := by
  have H := Lib.hid h
  have hk8 : k < 8 := hk.lt
  have hlt : o.rows k < w.heap.size := h.rowLt hk
  have ha0 : (0 : Int) ≤ (an : Int) := by omega
  have ha4 : (an : Int) < 4 := by omega
  have hb0 : (0 : Int) ≤ (bn : Int) := by omega
  have hb4 : (bn : Int) < 4 := by omega
  have f1 := h.regFrozen hk an
  have qa := h.regCell hk han
  obtain ⟨x, Hx⟩ : ∃ x, Hid (R k an = x) := ⟨_, rfl⟩
  have hwx : Word x := by rw [← Hx.out]; exact hR an
  rw [Hx.out] at qa
  have qb := h.regCell hk hbn
  obtain ⟨y, Hy⟩ : ∃ y, Hid (R k bn = y) := ⟨_, rfl⟩
  have hwy : Word y := by rw [← Hy.out]; exact hR bn
  rw [Hy.out] at qb
  have HWx := Lib.hid hwx; clear hwx
  have HWy := Lib.hid hwy; clear hwy
  clear h hR
  unfold cdv RMo.row RMo.vm
  simp only
  go_enter Try.func130, Try.ntmps130
  go_wp2
  refine region_tail 15 (by kernel_rfl) (by kernel_rfl) ?_
  simp only [List.take_succ_cons, List.take_zero, List.drop_succ_cons, List.drop_zero]
  repeat still_step
  still_call ((sWordAdd_any x y _ HWx.out HWy.out).mono fun e w' h => ⟨h.1, h.2.symm⟩)
  repeat still_step
  refine wpStill_nil ?_
  go_wp2
  go_end0
  exact SimPost.reg H.out hk han (show setF (R k) an ((R k an + R k bn) % 256) = _ by rw [Hx.out, Hy.out]) rfl (by repeat (first | assumption | exact Pure.refl _ | refine Pure.drewN ?_ _ | refine Pure.drew ?_ | refine Pure.alloc ?_ _ | refine Pure.setCell ?_ (by simp <;> omega) _))

set_option maxHeartbeats 1000000 in
set_option maxRecDepth 100000 in
theorem s6_4 (o : RMo) (k : Nat) (an : Nat) (han : an < 4) (bn : Nat) (hbn : bn < 4) (w : World) (R : Nat → Nat → Int) (M : Nat → Int) (h : RM o w R M) (hk : o.Is k) (hR : ∀ r, Word (R k r)) :
    Calls Try.prog 130 #[o.row k, o.vm, cdv ⟨4, an, bn, 0⟩, .int .i64 k] w (SimPost o ⟨4, an, bn, 0⟩ k R M w) := by
  have H := Lib.hid h
  have hk8 : k < 8 := hk.lt
  have hlt : o.rows k < w.heap.size := h.rowLt hk
  have ha0 : (0 : Int) ≤ (an : Int) := by omega
  have ha4 : (an : Int) < 4 := by omega
  have hb0 : (0 : Int) ≤ (bn : Int) := by omega
  have hb4 : (bn : Int) < 4 := by omega
  have f1 := h.regFrozen hk an
  have qa := h.regCell hk han
  obtain ⟨x, Hx⟩ : ∃ x, Hid (R k an = x) := ⟨_, rfl⟩
  have hwx : Word x := by rw [← Hx.out]; exact hR an
  rw [Hx.out] at qa
  have qb := h.regCell hk hbn
  obtain ⟨y, Hy⟩ : ∃ y, Hid (R k bn = y) := ⟨_, rfl⟩
  have hwy : Word y := by rw [← Hy.out]; exact hR bn
  rw [Hy.out] at qb
  have HWx := Lib.hid hwx; clear hwx
  have HWy := Lib.hid hwy; clear hwy
  clear h hR
  unfold cdv RMo.row RMo.vm
  simp only
  go_enter Try.func130, Try.ntmps130
  go_wp2
  refine region_tail 15 (by kernel_rfl) (by kernel_rfl) ?_
  simp only [List.take_succ_cons, List.take_zero, List.drop_succ_cons, List.drop_zero]
  repeat still_step
  still_call ((sWordMul_any x y _ HWx.out HWy.out).mono fun e w' h => ⟨h.1, h.2.symm⟩)
  repeat still_step
  refine wpStill_nil ?_
  go_wp2
  go_end0
  exact SimPost.reg H.out hk han (show setF (R k) an (R k an * R k bn % 256) = _ by rw [Hx.out, Hy.out]) rfl (by repeat (first | assumption | exact Pure.refl _ | refine Pure.drewN ?_ _ | refine Pure.drew ?_ | refine Pure.alloc ?_ _ | refine Pure.setCell ?_ (by simp <;> omega) _))

set_option maxHeartbeats 1000000 in
set_option maxRecDepth 100000 in
theorem s6_5 (o : RMo) (k : Nat) (an : Nat) (han : an < 4) (bn : Nat) (hbn : bn < 4) (w : World) (R : Nat → Nat → Int) (M : Nat → Int) (h : RM o w R M) (hk : o.Is k) (hR : ∀ r, Word (R k r)) :
    Calls Try.prog 130 #[o.row k, o.vm, cdv ⟨5, an, bn, 0⟩, .int .i64 k] w (SimPost o ⟨5, an, bn, 0⟩ k R M w) := by
  have H := Lib.hid h
  have hk8 : k < 8 := hk.lt
  have hlt : o.rows k < w.heap.size := h.rowLt hk
  have ha0 : (0 : Int) ≤ (an : Int) := by omega
  have ha4 : (an : Int) < 4 := by omega
  have hb0 : (0 : Int) ≤ (bn : Int) := by omega
  have hb4 : (bn : Int) < 4 := by omega
  have f1 := h.regFrozen hk an
  have qa := h.regCell hk han
  have qb := h.regCell hk hbn
  obtain ⟨y, Hy⟩ : ∃ y, Hid (R k bn = y) := ⟨_, rfl⟩
  have hwy : Word y := by rw [← Hy.out]; exact hR bn
  rw [Hy.out] at qb
  clear h hR
  unfold cdv RMo.row RMo.vm
  simp only
  go_enter Try.func130, Try.ntmps130
  go_wp2
  refine region_tail 9 (by kernel_rfl) (by kernel_rfl) ?_
  simp only [List.take_succ_cons, List.take_zero, List.drop_succ_cons, List.drop_zero]
  repeat still_step
  refine wpStill_nil ?_
  go_wp2
  go_end0
  exact SimPost.reg H.out hk han (show setF (R k) an (R k bn) = _ by rw [Hy.out]) rfl (by repeat (first | assumption | exact Pure.refl _ | refine Pure.drewN ?_ _ | refine Pure.drew ?_ | refine Pure.alloc ?_ _ | refine Pure.setCell ?_ (by simp <;> omega) _))

set_option maxHeartbeats 1000000 in
set_option maxRecDepth 100000 in
theorem s6_6 (o : RMo) (k : Nat) (an : Nat) (han : an < 4) (bn : Nat) (hbn : bn < 4) (cn : Nat) (hcn : cn < 4) (w : World) (R : Nat → Nat → Int) (M : Nat → Int) (h : RM o w R M) (hk : o.Is k) (hR : ∀ r, Word (R k r)) :
    Calls Try.prog 130 #[o.row k, o.vm, cdv ⟨6, an, bn, cn⟩, .int .i64 k] w (SimPost o ⟨6, an, bn, cn⟩ k R M w) := by
  have H := Lib.hid h
  have hk8 : k < 8 := hk.lt
  have hlt : o.rows k < w.heap.size := h.rowLt hk
  have ha0 : (0 : Int) ≤ (an : Int) := by omega
  have ha4 : (an : Int) < 4 := by omega
  have hb0 : (0 : Int) ≤ (bn : Int) := by omega
  have hb4 : (bn : Int) < 4 := by omega
  have hc0 : (0 : Int) ≤ (cn : Int) := by omega
  have hc4 : (cn : Int) < 4 := by omega
  have f1 := h.regFrozen hk an
  have qa := h.regCell hk han
  have qb := h.regCell hk hbn
  obtain ⟨y, Hy⟩ : ∃ y, Hid (R k bn = y) := ⟨_, rfl⟩
  have hwy : Word y := by rw [← Hy.out]; exact hR bn
  rw [Hy.out] at qb
  have qc := h.regCell hk hcn
  obtain ⟨z, Hz⟩ : ∃ z, Hid (R k cn = z) := ⟨_, rfl⟩
  have hwz : Word z := by rw [← Hz.out]; exact hR cn
  rw [Hz.out] at qc
  have HWy := Lib.hid hwy; clear hwy
  have HWz := Lib.hid hwz; clear hwz
  obtain ⟨b, Hb⟩ : ∃ b : Int, Hid ((if y < z then 1 else 0) = b) := ⟨_, rfl⟩
  have hL : ∀ w : World, Calls Try.prog 154 #[.int .i64 y, .int .i64 z] w fun e w' => e = .returned (.int .i64 b) ∧ w' = w := fun w => (sWordLess_any y z w HWy.out HWz.out).mono fun e w' h => ⟨by rw [← Hb.out]; exact h.1, h.2.symm⟩
  have HL := Lib.hid hL; clear hL
  clear h hR
  unfold cdv RMo.row RMo.vm
  simp only
  go_enter Try.func130, Try.ntmps130
  go_wp2
  refine region_tail 15 (by kernel_rfl) (by kernel_rfl) ?_
  simp only [List.take_succ_cons, List.take_zero, List.drop_succ_cons, List.drop_zero]
  repeat still_step
  still_call (HL.out _)
  repeat still_step
  refine wpStill_nil ?_
  go_wp2
  go_end0
  exact SimPost.reg H.out hk han (show setF (R k) an (if R k bn < R k cn then 1 else 0) = _ by rw [Hy.out, Hz.out, Hb.out]) rfl (by repeat (first | assumption | exact Pure.refl _ | refine Pure.drewN ?_ _ | refine Pure.drew ?_ | refine Pure.alloc ?_ _ | refine Pure.setCell ?_ (by simp <;> omega) _))

set_option maxHeartbeats 1000000 in
set_option maxRecDepth 100000 in
theorem s6_7 (o : RMo) (k : Nat) (an : Nat) (han : an < 4) (bn : Nat) (hbn : bn < 4) (cn : Nat) (hcn : cn < 4) (w : World) (R : Nat → Nat → Int) (M : Nat → Int) (h : RM o w R M) (hk : o.Is k) (hR : ∀ r, Word (R k r)) :
    Calls Try.prog 130 #[o.row k, o.vm, cdv ⟨7, an, bn, cn⟩, .int .i64 k] w (SimPost o ⟨7, an, bn, cn⟩ k R M w) := by
  have H := Lib.hid h
  have hk8 : k < 8 := hk.lt
  have hlt : o.rows k < w.heap.size := h.rowLt hk
  have ha0 : (0 : Int) ≤ (an : Int) := by omega
  have ha4 : (an : Int) < 4 := by omega
  have hb0 : (0 : Int) ≤ (bn : Int) := by omega
  have hb4 : (bn : Int) < 4 := by omega
  have hc0 : (0 : Int) ≤ (cn : Int) := by omega
  have hc4 : (cn : Int) < 4 := by omega
  have f1 := h.regFrozen hk an
  have qa := h.regCell hk han
  have qb := h.regCell hk hbn
  obtain ⟨y, Hy⟩ : ∃ y, Hid (R k bn = y) := ⟨_, rfl⟩
  have hwy : Word y := by rw [← Hy.out]; exact hR bn
  rw [Hy.out] at qb
  have qc := h.regCell hk hcn
  obtain ⟨z, Hz⟩ : ∃ z, Hid (R k cn = z) := ⟨_, rfl⟩
  have hwz : Word z := by rw [← Hz.out]; exact hR cn
  rw [Hz.out] at qc
  clear h hR
  unfold cdv RMo.row RMo.vm
  simp only
  by_cases hz0 : z = 0
  · have hzb : (z != 0) = false := by rw [bne_eq_false_iff_eq]; exact hz0
    have HZ := Lib.hid hz0; clear hz0
    go_enter Try.func130, Try.ntmps130
    go_wp2
    go_end0
    exact SimPost.same H.out (show (if R k cn = 0 then R k else setF (R k) an (R k bn)) = _ by rw [Hz.out, if_pos HZ.out]) rfl (by repeat (first | assumption | exact Pure.refl _ | refine Pure.drewN ?_ _ | refine Pure.drew ?_ | refine Pure.alloc ?_ _ | refine Pure.setCell ?_ (by simp <;> omega) _))
  · have hzb : (z != 0) = true := by rw [bne_iff_ne]; exact hz0
    have HZ := Lib.hid hz0; clear hz0
    go_enter Try.func130, Try.ntmps130
    go_wp2
    refine region_tail 9 (by kernel_rfl) (by kernel_rfl) ?_
    simp only [List.take_succ_cons, List.take_zero, List.drop_succ_cons, List.drop_zero]
    repeat still_step
    refine wpStill_nil ?_
    go_wp2
    go_end0
    exact SimPost.reg H.out hk han (show (if R k cn = 0 then R k else setF (R k) an (R k bn)) = _ by rw [Hz.out, if_neg HZ.out, Hy.out]) rfl (by repeat (first | assumption | exact Pure.refl _ | refine Pure.drewN ?_ _ | refine Pure.drew ?_ | refine Pure.alloc ?_ _ | refine Pure.setCell ?_ (by simp <;> omega) _))

set_option maxHeartbeats 1000000 in
set_option maxRecDepth 100000 in
theorem s6_8 (o : RMo) (k : Nat) (an : Nat) (han : an < 4) (bn : Nat) (hbn : bn < 4) (w : World) (R : Nat → Nat → Int) (M : Nat → Int) (h : RM o w R M) (hk : o.Is k) (hR : ∀ r, Word (R k r)) :
    Calls Try.prog 130 #[o.row k, o.vm, cdv ⟨8, an, bn, 0⟩, .int .i64 k] w (SimPost o ⟨8, an, bn, 0⟩ k R M w) := by
  have H := Lib.hid h
  have hk8 : k < 8 := hk.lt
  have hlt : o.rows k < w.heap.size := h.rowLt hk
  have ha0 : (0 : Int) ≤ (an : Int) := by omega
  have ha4 : (an : Int) < 4 := by omega
  have hb0 : (0 : Int) ≤ (bn : Int) := by omega
  have hb4 : (bn : Int) < 4 := by omega
  have f1 := h.regFrozen hk an
  have qa := h.regCell hk han
  have qb := h.regCell hk hbn
  obtain ⟨y, Hy⟩ : ∃ y, Hid (R k bn = y) := ⟨_, rfl⟩
  have hwy : Word y := by rw [← Hy.out]; exact hR bn
  rw [Hy.out] at qb
  obtain ⟨hy0, hy1⟩ := hwy
  obtain ⟨yn, rfl⟩ := Int.eq_ofNat_of_zero_le hy0
  have hm1 := h.m1
  have hm32 := h.m32
  have hmi : ¬ ((o.m : Int) = 0) := by omega
  have hmn : ¬ o.m = 0 := by omega
  have hmb : ((o.m : Int) == 0) = false := by rw [beq_eq_false_iff_ne]; omega
  have hjn : yn % o.m < o.m := Nat.mod_lt _ (by omega)
  have htm : (yn : Int).tmod (o.m : Int) = ((yn % o.m : Nat) : Int) := by rw [Int.tmod_eq_emod_of_nonneg (by omega)]; norm_cast
  have HC : Hid (cellOf ⟨8, an, bn, 0⟩ o.m (R k) = yn % o.m) := Lib.hid (by unfold cellOf; rw [Int.toNat_natCast, Hy.out, Int.toNat_natCast])
  obtain ⟨j, Hj⟩ : ∃ j, Hid (yn % o.m = j) := ⟨_, rfl⟩
  rw [Hj.out] at htm hjn HC
  have hj0 : (0 : Int) ≤ (j : Int) := by omega
  have hj1 : (j : Int) < (o.m : Int) := by omega
  have hgm : o.gm < w.heap.size := h.gmlo.2
  have qm := h.memCell hjn
  clear h hR
  unfold cdv RMo.row RMo.vm
  simp only
  go_enter Try.func130, Try.ntmps130
  go_wp2
  refine region_tail 15 (by kernel_rfl) (by kernel_rfl) ?_
  simp only [List.take_succ_cons, List.take_zero, List.drop_succ_cons, List.drop_zero]
  repeat still_step
  refine wpStill_nil ?_
  go_wp2
  go_end0
  exact SimPost.reg H.out hk han (show setF (R k) an (M (cellOf ⟨8, an, bn, 0⟩ o.m (R k))) = _ by rw [HC.out]) rfl (by repeat (first | assumption | exact Pure.refl _ | refine Pure.drewN ?_ _ | refine Pure.drew ?_ | refine Pure.alloc ?_ _ | refine Pure.setCell ?_ (by simp <;> omega) _))

set_option maxHeartbeats 1000000 in
set_option maxRecDepth 100000 in
theorem s6_9 (o : RMo) (k : Nat) (an : Nat) (han : an < 4) (bn : Nat) (hbn : bn < 4) (w : World) (R : Nat → Nat → Int) (M : Nat → Int) (h : RM o w R M) (hk : o.Is k) (hR : ∀ r, Word (R k r)) :
    Calls Try.prog 130 #[o.row k, o.vm, cdv ⟨9, an, bn, 0⟩, .int .i64 k] w (SimPost o ⟨9, an, bn, 0⟩ k R M w) := by
  have H := Lib.hid h
  have hk8 : k < 8 := hk.lt
  have hlt : o.rows k < w.heap.size := h.rowLt hk
  have ha0 : (0 : Int) ≤ (an : Int) := by omega
  have ha4 : (an : Int) < 4 := by omega
  have hb0 : (0 : Int) ≤ (bn : Int) := by omega
  have hb4 : (bn : Int) < 4 := by omega
  have f1 := h.regFrozen hk an
  have qa := h.regCell hk han
  obtain ⟨x, Hx⟩ : ∃ x, Hid (R k an = x) := ⟨_, rfl⟩
  have hwx : Word x := by rw [← Hx.out]; exact hR an
  rw [Hx.out] at qa
  have qb := h.regCell hk hbn
  obtain ⟨y, Hy⟩ : ∃ y, Hid (R k bn = y) := ⟨_, rfl⟩
  have hwy : Word y := by rw [← Hy.out]; exact hR bn
  rw [Hy.out] at qb
  obtain ⟨hy0, hy1⟩ := hwy
  obtain ⟨yn, rfl⟩ := Int.eq_ofNat_of_zero_le hy0
  have hm1 := h.m1
  have hm32 := h.m32
  have hmi : ¬ ((o.m : Int) = 0) := by omega
  have hmn : ¬ o.m = 0 := by omega
  have hmb : ((o.m : Int) == 0) = false := by rw [beq_eq_false_iff_ne]; omega
  have hjn : yn % o.m < o.m := Nat.mod_lt _ (by omega)
  have htm : (yn : Int).tmod (o.m : Int) = ((yn % o.m : Nat) : Int) := by rw [Int.tmod_eq_emod_of_nonneg (by omega)]; norm_cast
  have HC : Hid (cellOf ⟨9, an, bn, 0⟩ o.m (R k) = yn % o.m) := Lib.hid (by unfold cellOf; rw [Int.toNat_natCast, Hy.out, Int.toNat_natCast])
  obtain ⟨j, Hj⟩ : ∃ j, Hid (yn % o.m = j) := ⟨_, rfl⟩
  rw [Hj.out] at htm hjn HC
  have hj0 : (0 : Int) ≤ (j : Int) := by omega
  have hj1 : (j : Int) < (o.m : Int) := by omega
  have hgm : o.gm < w.heap.size := h.gmlo.2
  have qm := h.memCell hjn
  have f2 := h.memFrozen j
  clear h hR
  unfold cdv RMo.row RMo.vm
  simp only
  go_enter Try.func130, Try.ntmps130
  go_wp2
  refine region_tail 15 (by kernel_rfl) (by kernel_rfl) ?_
  simp only [List.take_succ_cons, List.take_zero, List.drop_succ_cons, List.drop_zero]
  repeat still_step
  refine wpStill_nil ?_
  go_wp2
  go_end0
  exact SimPost.mem H.out rfl (show setF M (cellOf ⟨9, an, bn, 0⟩ o.m (R k)) (R k an) = _ by rw [HC.out, Hx.out]) (by repeat (first | assumption | exact Pure.refl _ | refine Pure.drewN ?_ _ | refine Pure.drew ?_ | refine Pure.alloc ?_ _ | refine Pure.setCell ?_ (by simp <;> omega) _))

set_option maxHeartbeats 1000000 in
set_option maxRecDepth 100000 in
theorem s6_10 (o : RMo) (k : Nat) (w : World) (R : Nat → Nat → Int) (M : Nat → Int) (h : RM o w R M) (_hk : o.Is k) (_hR : ∀ r, Word (R k r)) :
    Calls Try.prog 130 #[o.row k, o.vm, cdv ⟨10, 0, 0, 0⟩, .int .i64 k] w (SimPost o ⟨10, 0, 0, 0⟩ k R M w) := by
  have H := Lib.hid h
  clear h _hR
  unfold cdv RMo.row RMo.vm
  simp only
  go_enter Try.func130, Try.ntmps130
  go_wp2
  go_end0
  exact SimPost.same H.out rfl rfl (by repeat (first | assumption | exact Pure.refl _ | refine Pure.drewN ?_ _ | refine Pure.drew ?_ | refine Pure.alloc ?_ _ | refine Pure.setCell ?_ (by simp <;> omega) _))

theorem s6_any (o : RMo) (x : Cd) (k : Nat) (w : World) (R : Nat → Nat → Int) (M : Nat → Int) (h : RM o w R M) (hk : o.Is k) (hx : Plain x) (hR : ∀ r, Word (R k r)) :
    Calls Try.prog 130 #[o.row k, o.vm, cdv x, .int .i64 k] w (SimPost o x k R M w) := by
  obtain ⟨hok, n11, n12, n13, n14⟩ := hx
  obtain ⟨op, a, b, c⟩ := x
  simp only at n11 n12 n13 n14
  obtain ⟨⟨ha0, ha3⟩, hb0, hb3, hc0, hc3, ho1, ho2⟩ := hok.regs
  unfold CdOk at hok
  simp only at hok
  have ho : op = 1 ∨ op = 2 ∨ op = 3 ∨ op = 4 ∨ op = 5 ∨ op = 6 ∨ op = 7 ∨ op = 8 ∨ op = 9 ∨ op = 10 := by omega
  obtain ⟨an, rfl⟩ := Int.eq_ofNat_of_zero_le ha0
  obtain ⟨cn, rfl⟩ := Int.eq_ofNat_of_zero_le hc0
  have han : an < 4 := by omega
  have hcn : cn < 4 := by omega
  rcases ho with rfl | ho
  · have hc : cn = 0 := by omega
    subst hc
    exact s6_1 o k an han b w R M h hk hR
  obtain ⟨bn, rfl⟩ := Int.eq_ofNat_of_zero_le (hb0 (by omega))
  have hbn : bn < 4 := by have := hb3 (by omega) (by omega); omega
  rcases ho with rfl | rfl | rfl | rfl | rfl | rfl | rfl | rfl | rfl
  · have hb9 : bn = 0 := by omega
    have hc9 : cn = 0 := by omega
    subst hb9
    subst hc9
    exact s6_2 o k an han w R M h hk hR
  · have hc9 : cn = 0 := by omega
    subst hc9
    exact s6_3 o k an han bn hbn w R M h hk hR
  · have hc9 : cn = 0 := by omega
    subst hc9
    exact s6_4 o k an han bn hbn w R M h hk hR
  · have hc9 : cn = 0 := by omega
    subst hc9
    exact s6_5 o k an han bn hbn w R M h hk hR
  · exact s6_6 o k an han bn hbn cn hcn w R M h hk hR
  · exact s6_7 o k an han bn hbn cn hcn w R M h hk hR
  · have hc9 : cn = 0 := by omega
    subst hc9
    exact s6_8 o k an han bn hbn w R M h hk hR
  · have hc9 : cn = 0 := by omega
    subst hc9
    exact s6_9 o k an han bn hbn w R M h hk hR
  · have ha9 : an = 0 := by omega
    have hb9 : bn = 0 := by omega
    have hc9 : cn = 0 := by omega
    subst ha9
    subst hb9
    subst hc9
    exact s6_10 o k w R M h hk hR

end Go.Proofs.Ytajaonejpggcbaa.Lw

namespace Go.Proofs.Ytajaonejpggcbaa.Lw
open Go.RowKit

set_option maxHeartbeats 1000000 in
set_option maxRecDepth 100000 in
theorem i6_1 (o : RMo) (k : Nat) (an : Nat) (han : an < 4) (b : Int) (w : World) (R : Nat → Nat → Int) (M : Nat → Int) (h : RM o w R M) (hk : o.Is k) (_hR : ∀ r, Word (R k r)) :
    Calls Try.prog 157 #[cdv ⟨1, an, b, 0⟩, .int .i64 k, o.row k, o.vm] w (SimPost o ⟨1, an, b, 0⟩ k R M w) := by
  have H := Lib.hid h
  have hk8 : k < 8 := hk.lt
  have hlt : o.rows k < w.heap.size := h.rowLt hk
  have ha0 : (0 : Int) ≤ (an : Int) := by omega
  have ha4 : (an : Int) < 4 := by omega
  have f1 := h.regFrozen hk an
  have qa := h.regCell hk han
  clear h _hR
  unfold cdv RMo.row RMo.vm
  simp only
  go_enter Try.func157, Try.ntmps157
  go_wp2
  go_end0
  exact SimPost.reg H.out hk han rfl rfl (by repeat (first | assumption | exact Pure.refl _ | refine Pure.drewN ?_ _ | refine Pure.drew ?_ | refine Pure.alloc ?_ _ | refine Pure.setCell ?_ (by simp <;> omega) _))

set_option maxHeartbeats 1000000 in
set_option maxRecDepth 100000 in
theorem i6_2 (o : RMo) (k : Nat) (an : Nat) (han : an < 4) (w : World) (R : Nat → Nat → Int) (M : Nat → Int) (h : RM o w R M) (hk : o.Is k) (_hR : ∀ r, Word (R k r)) :
    Calls Try.prog 157 #[cdv ⟨2, an, 0, 0⟩, .int .i64 k, o.row k, o.vm] w (SimPost o ⟨2, an, 0, 0⟩ k R M w) := by
  have H := Lib.hid h
  have hk8 : k < 8 := hk.lt
  have hlt : o.rows k < w.heap.size := h.rowLt hk
  have ha0 : (0 : Int) ≤ (an : Int) := by omega
  have ha4 : (an : Int) < 4 := by omega
  have f1 := h.regFrozen hk an
  have qa := h.regCell hk han
  clear h _hR
  unfold cdv RMo.row RMo.vm
  simp only
  go_enter Try.func157, Try.ntmps157
  go_wp2
  go_end0
  exact SimPost.reg H.out hk han rfl rfl (by repeat (first | assumption | exact Pure.refl _ | refine Pure.drewN ?_ _ | refine Pure.drew ?_ | refine Pure.alloc ?_ _ | refine Pure.setCell ?_ (by simp <;> omega) _))

set_option maxHeartbeats 1000000 in
set_option maxRecDepth 100000 in
theorem i6_3 (o : RMo) (k : Nat) (an : Nat) (han : an < 4) (bn : Nat) (hbn : bn < 4) (w : World) (R : Nat → Nat → Int) (M : Nat → Int) (h : RM o w R M) (hk : o.Is k) (hR : ∀ r, Word (R k r)) :
    Calls Try.prog 157 #[cdv ⟨3, an, bn, 0⟩, .int .i64 k, o.row k, o.vm] w (SimPost o ⟨3, an, bn, 0⟩ k R M w) := by
  have H := Lib.hid h
  have hk8 : k < 8 := hk.lt
  have hlt : o.rows k < w.heap.size := h.rowLt hk
  have ha0 : (0 : Int) ≤ (an : Int) := by omega
  have ha4 : (an : Int) < 4 := by omega
  have hb0 : (0 : Int) ≤ (bn : Int) := by omega
  have hb4 : (bn : Int) < 4 := by omega
  have f1 := h.regFrozen hk an
  have qa := h.regCell hk han
  obtain ⟨x, Hx⟩ : ∃ x, Hid (R k an = x) := ⟨_, rfl⟩
  have hwx : Word x := by rw [← Hx.out]; exact hR an
  rw [Hx.out] at qa
  have qb := h.regCell hk hbn
  obtain ⟨y, Hy⟩ : ∃ y, Hid (R k bn = y) := ⟨_, rfl⟩
  have hwy : Word y := by rw [← Hy.out]; exact hR bn
  rw [Hy.out] at qb
  have HWx := Lib.hid hwx; clear hwx
  have HWy := Lib.hid hwy; clear hwy
  clear h hR
  unfold cdv RMo.row RMo.vm
  simp only
  go_enter Try.func157, Try.ntmps157
  go_wp2
  refine region_tail 15 (by kernel_rfl) (by kernel_rfl) ?_
  simp only [List.take_succ_cons, List.take_zero, List.drop_succ_cons, List.drop_zero]
  repeat still_step
  still_call ((iWordAdd_any x y _ HWx.out HWy.out).mono fun e w' h => ⟨h.1, h.2.symm⟩)
  repeat still_step
  refine wpStill_nil ?_
  go_wp2
  go_end0
  exact SimPost.reg H.out hk han (show setF (R k) an ((R k an + R k bn) % 256) = _ by rw [Hx.out, Hy.out]) rfl (by repeat (first | assumption | exact Pure.refl _ | refine Pure.drewN ?_ _ | refine Pure.drew ?_ | refine Pure.alloc ?_ _ | refine Pure.setCell ?_ (by simp <;> omega) _))

set_option maxHeartbeats 1000000 in
set_option maxRecDepth 100000 in
theorem i6_4 (o : RMo) (k : Nat) (an : Nat) (han : an < 4) (bn : Nat) (hbn : bn < 4) (w : World) (R : Nat → Nat → Int) (M : Nat → Int) (h : RM o w R M) (hk : o.Is k) (hR : ∀ r, Word (R k r)) :
    Calls Try.prog 157 #[cdv ⟨4, an, bn, 0⟩, .int .i64 k, o.row k, o.vm] w (SimPost o ⟨4, an, bn, 0⟩ k R M w) := by
  have H := Lib.hid h
  have hk8 : k < 8 := hk.lt
  have hlt : o.rows k < w.heap.size := h.rowLt hk
  have ha0 : (0 : Int) ≤ (an : Int) := by omega
  have ha4 : (an : Int) < 4 := by omega
  have hb0 : (0 : Int) ≤ (bn : Int) := by omega
  have hb4 : (bn : Int) < 4 := by omega
  have f1 := h.regFrozen hk an
  have qa := h.regCell hk han
  obtain ⟨x, Hx⟩ : ∃ x, Hid (R k an = x) := ⟨_, rfl⟩
  have hwx : Word x := by rw [← Hx.out]; exact hR an
  rw [Hx.out] at qa
  have qb := h.regCell hk hbn
  obtain ⟨y, Hy⟩ : ∃ y, Hid (R k bn = y) := ⟨_, rfl⟩
  have hwy : Word y := by rw [← Hy.out]; exact hR bn
  rw [Hy.out] at qb
  have HWx := Lib.hid hwx; clear hwx
  have HWy := Lib.hid hwy; clear hwy
  clear h hR
  unfold cdv RMo.row RMo.vm
  simp only
  go_enter Try.func157, Try.ntmps157
  go_wp2
  refine region_tail 15 (by kernel_rfl) (by kernel_rfl) ?_
  simp only [List.take_succ_cons, List.take_zero, List.drop_succ_cons, List.drop_zero]
  repeat still_step
  still_call ((iWordMul_any x y _ HWx.out HWy.out).mono fun e w' h => ⟨h.1, h.2.symm⟩)
  repeat still_step
  refine wpStill_nil ?_
  go_wp2
  go_end0
  exact SimPost.reg H.out hk han (show setF (R k) an (R k an * R k bn % 256) = _ by rw [Hx.out, Hy.out]) rfl (by repeat (first | assumption | exact Pure.refl _ | refine Pure.drewN ?_ _ | refine Pure.drew ?_ | refine Pure.alloc ?_ _ | refine Pure.setCell ?_ (by simp <;> omega) _))

set_option maxHeartbeats 1000000 in
set_option maxRecDepth 100000 in
theorem i6_5 (o : RMo) (k : Nat) (an : Nat) (han : an < 4) (bn : Nat) (hbn : bn < 4) (w : World) (R : Nat → Nat → Int) (M : Nat → Int) (h : RM o w R M) (hk : o.Is k) (hR : ∀ r, Word (R k r)) :
    Calls Try.prog 157 #[cdv ⟨5, an, bn, 0⟩, .int .i64 k, o.row k, o.vm] w (SimPost o ⟨5, an, bn, 0⟩ k R M w) := by
  have H := Lib.hid h
  have hk8 : k < 8 := hk.lt
  have hlt : o.rows k < w.heap.size := h.rowLt hk
  have ha0 : (0 : Int) ≤ (an : Int) := by omega
  have ha4 : (an : Int) < 4 := by omega
  have hb0 : (0 : Int) ≤ (bn : Int) := by omega
  have hb4 : (bn : Int) < 4 := by omega
  have f1 := h.regFrozen hk an
  have qa := h.regCell hk han
  have qb := h.regCell hk hbn
  obtain ⟨y, Hy⟩ : ∃ y, Hid (R k bn = y) := ⟨_, rfl⟩
  have hwy : Word y := by rw [← Hy.out]; exact hR bn
  rw [Hy.out] at qb
  clear h hR
  unfold cdv RMo.row RMo.vm
  simp only
  go_enter Try.func157, Try.ntmps157
  go_wp2
  refine region_tail 9 (by kernel_rfl) (by kernel_rfl) ?_
  simp only [List.take_succ_cons, List.take_zero, List.drop_succ_cons, List.drop_zero]
  repeat still_step
  refine wpStill_nil ?_
  go_wp2
  go_end0
  exact SimPost.reg H.out hk han (show setF (R k) an (R k bn) = _ by rw [Hy.out]) rfl (by repeat (first | assumption | exact Pure.refl _ | refine Pure.drewN ?_ _ | refine Pure.drew ?_ | refine Pure.alloc ?_ _ | refine Pure.setCell ?_ (by simp <;> omega) _))

set_option maxHeartbeats 1000000 in
set_option maxRecDepth 100000 in
theorem i6_6 (o : RMo) (k : Nat) (an : Nat) (han : an < 4) (bn : Nat) (hbn : bn < 4) (cn : Nat) (hcn : cn < 4) (w : World) (R : Nat → Nat → Int) (M : Nat → Int) (h : RM o w R M) (hk : o.Is k) (hR : ∀ r, Word (R k r)) :
    Calls Try.prog 157 #[cdv ⟨6, an, bn, cn⟩, .int .i64 k, o.row k, o.vm] w (SimPost o ⟨6, an, bn, cn⟩ k R M w) := by
  have H := Lib.hid h
  have hk8 : k < 8 := hk.lt
  have hlt : o.rows k < w.heap.size := h.rowLt hk
  have ha0 : (0 : Int) ≤ (an : Int) := by omega
  have ha4 : (an : Int) < 4 := by omega
  have hb0 : (0 : Int) ≤ (bn : Int) := by omega
  have hb4 : (bn : Int) < 4 := by omega
  have hc0 : (0 : Int) ≤ (cn : Int) := by omega
  have hc4 : (cn : Int) < 4 := by omega
  have f1 := h.regFrozen hk an
  have qa := h.regCell hk han
  have qb := h.regCell hk hbn
  obtain ⟨y, Hy⟩ : ∃ y, Hid (R k bn = y) := ⟨_, rfl⟩
  have hwy : Word y := by rw [← Hy.out]; exact hR bn
  rw [Hy.out] at qb
  have qc := h.regCell hk hcn
  obtain ⟨z, Hz⟩ : ∃ z, Hid (R k cn = z) := ⟨_, rfl⟩
  have hwz : Word z := by rw [← Hz.out]; exact hR cn
  rw [Hz.out] at qc
  have HWy := Lib.hid hwy; clear hwy
  have HWz := Lib.hid hwz; clear hwz
  obtain ⟨b, Hb⟩ : ∃ b : Int, Hid ((if y < z then 1 else 0) = b) := ⟨_, rfl⟩
  have hL : ∀ w : World, Calls Try.prog 161 #[.int .i64 y, .int .i64 z] w fun e w' => e = .returned (.int .i64 b) ∧ w' = w := fun w => (iWordLess_any y z w HWy.out HWz.out).mono fun e w' h => ⟨by rw [← Hb.out]; exact h.1, h.2.symm⟩
  have HL := Lib.hid hL; clear hL
  clear h hR
  unfold cdv RMo.row RMo.vm
  simp only
  go_enter Try.func157, Try.ntmps157
  go_wp2
  refine region_tail 15 (by kernel_rfl) (by kernel_rfl) ?_
  simp only [List.take_succ_cons, List.take_zero, List.drop_succ_cons, List.drop_zero]
  repeat still_step
  still_call (HL.out _)
  repeat still_step
  refine wpStill_nil ?_
  go_wp2
  go_end0
  exact SimPost.reg H.out hk han (show setF (R k) an (if R k bn < R k cn then 1 else 0) = _ by rw [Hy.out, Hz.out, Hb.out]) rfl (by repeat (first | assumption | exact Pure.refl _ | refine Pure.drewN ?_ _ | refine Pure.drew ?_ | refine Pure.alloc ?_ _ | refine Pure.setCell ?_ (by simp <;> omega) _))

set_option maxHeartbeats 1000000 in
set_option maxRecDepth 100000 in
theorem i6_7 (o : RMo) (k : Nat) (an : Nat) (han : an < 4) (bn : Nat) (hbn : bn < 4) (cn : Nat) (hcn : cn < 4) (w : World) (R : Nat → Nat → Int) (M : Nat → Int) (h : RM o w R M) (hk : o.Is k) (hR : ∀ r, Word (R k r)) :
    Calls Try.prog 157 #[cdv ⟨7, an, bn, cn⟩, .int .i64 k, o.row k, o.vm] w (SimPost o ⟨7, an, bn, cn⟩ k R M w) := by
  have H := Lib.hid h
  have hk8 : k < 8 := hk.lt
  have hlt : o.rows k < w.heap.size := h.rowLt hk
  have ha0 : (0 : Int) ≤ (an : Int) := by omega
  have ha4 : (an : Int) < 4 := by omega
  have hb0 : (0 : Int) ≤ (bn : Int) := by omega
  have hb4 : (bn : Int) < 4 := by omega
  have hc0 : (0 : Int) ≤ (cn : Int) := by omega
  have hc4 : (cn : Int) < 4 := by omega
  have f1 := h.regFrozen hk an
  have qa := h.regCell hk han
  have qb := h.regCell hk hbn
  obtain ⟨y, Hy⟩ : ∃ y, Hid (R k bn = y) := ⟨_, rfl⟩
  have hwy : Word y := by rw [← Hy.out]; exact hR bn
  rw [Hy.out] at qb
  have qc := h.regCell hk hcn
  obtain ⟨z, Hz⟩ : ∃ z, Hid (R k cn = z) := ⟨_, rfl⟩
  have hwz : Word z := by rw [← Hz.out]; exact hR cn
  rw [Hz.out] at qc
  clear h hR
  unfold cdv RMo.row RMo.vm
  simp only
  by_cases hz0 : z = 0
  · have hzb : (z != 0) = false := by rw [bne_eq_false_iff_eq]; exact hz0
    have HZ := Lib.hid hz0; clear hz0
    go_enter Try.func157, Try.ntmps157
    go_wp2
    go_end0
    exact SimPost.same H.out (show (if R k cn = 0 then R k else setF (R k) an (R k bn)) = _ by rw [Hz.out, if_pos HZ.out]) rfl (by repeat (first | assumption | exact Pure.refl _ | refine Pure.drewN ?_ _ | refine Pure.drew ?_ | refine Pure.alloc ?_ _ | refine Pure.setCell ?_ (by simp <;> omega) _))
  · have hzb : (z != 0) = true := by rw [bne_iff_ne]; exact hz0
    have HZ := Lib.hid hz0; clear hz0
    go_enter Try.func157, Try.ntmps157
    go_wp2
    refine region_tail 9 (by kernel_rfl) (by kernel_rfl) ?_
    simp only [List.take_succ_cons, List.take_zero, List.drop_succ_cons, List.drop_zero]
    repeat still_step
    refine wpStill_nil ?_
    go_wp2
    go_end0
    exact SimPost.reg H.out hk han (show (if R k cn = 0 then R k else setF (R k) an (R k bn)) = _ by rw [Hz.out, if_neg HZ.out, Hy.out]) rfl (by repeat (first | assumption | exact Pure.refl _ | refine Pure.drewN ?_ _ | refine Pure.drew ?_ | refine Pure.alloc ?_ _ | refine Pure.setCell ?_ (by simp <;> omega) _))

set_option maxHeartbeats 1000000 in
set_option maxRecDepth 100000 in
theorem i6_8 (o : RMo) (k : Nat) (an : Nat) (han : an < 4) (bn : Nat) (hbn : bn < 4) (w : World) (R : Nat → Nat → Int) (M : Nat → Int) (h : RM o w R M) (hk : o.Is k) (hR : ∀ r, Word (R k r)) :
    Calls Try.prog 157 #[cdv ⟨8, an, bn, 0⟩, .int .i64 k, o.row k, o.vm] w (SimPost o ⟨8, an, bn, 0⟩ k R M w) := by
  have H := Lib.hid h
  have hk8 : k < 8 := hk.lt
  have hlt : o.rows k < w.heap.size := h.rowLt hk
  have ha0 : (0 : Int) ≤ (an : Int) := by omega
  have ha4 : (an : Int) < 4 := by omega
  have hb0 : (0 : Int) ≤ (bn : Int) := by omega
  have hb4 : (bn : Int) < 4 := by omega
  have f1 := h.regFrozen hk an
  have qa := h.regCell hk han
  have qb := h.regCell hk hbn
  obtain ⟨y, Hy⟩ : ∃ y, Hid (R k bn = y) := ⟨_, rfl⟩
  have hwy : Word y := by rw [← Hy.out]; exact hR bn
  rw [Hy.out] at qb
  obtain ⟨hy0, hy1⟩ := hwy
  obtain ⟨yn, rfl⟩ := Int.eq_ofNat_of_zero_le hy0
  have hm1 := h.m1
  have hm32 := h.m32
  have hmi : ¬ ((o.m : Int) = 0) := by omega
  have hmn : ¬ o.m = 0 := by omega
  have hmb : ((o.m : Int) == 0) = false := by rw [beq_eq_false_iff_ne]; omega
  have hjn : yn % o.m < o.m := Nat.mod_lt _ (by omega)
  have htm : (yn : Int).tmod (o.m : Int) = ((yn % o.m : Nat) : Int) := by rw [Int.tmod_eq_emod_of_nonneg (by omega)]; norm_cast
  have HC : Hid (cellOf ⟨8, an, bn, 0⟩ o.m (R k) = yn % o.m) := Lib.hid (by unfold cellOf; rw [Int.toNat_natCast, Hy.out, Int.toNat_natCast])
  obtain ⟨j, Hj⟩ : ∃ j, Hid (yn % o.m = j) := ⟨_, rfl⟩
  rw [Hj.out] at htm hjn HC
  have hj0 : (0 : Int) ≤ (j : Int) := by omega
  have hj1 : (j : Int) < (o.m : Int) := by omega
  have hgm : o.gm < w.heap.size := h.gmlo.2
  have qm := h.memCell hjn
  clear h hR
  unfold cdv RMo.row RMo.vm
  simp only
  go_enter Try.func157, Try.ntmps157
  go_wp2
  refine region_tail 15 (by kernel_rfl) (by kernel_rfl) ?_
  simp only [List.take_succ_cons, List.take_zero, List.drop_succ_cons, List.drop_zero]
  repeat still_step
  refine wpStill_nil ?_
  go_wp2
  go_end0
  exact SimPost.reg H.out hk han (show setF (R k) an (M (cellOf ⟨8, an, bn, 0⟩ o.m (R k))) = _ by rw [HC.out]) rfl (by repeat (first | assumption | exact Pure.refl _ | refine Pure.drewN ?_ _ | refine Pure.drew ?_ | refine Pure.alloc ?_ _ | refine Pure.setCell ?_ (by simp <;> omega) _))

set_option maxHeartbeats 1000000 in
set_option maxRecDepth 100000 in
theorem i6_9 (o : RMo) (k : Nat) (an : Nat) (han : an < 4) (bn : Nat) (hbn : bn < 4) (w : World) (R : Nat → Nat → Int) (M : Nat → Int) (h : RM o w R M) (hk : o.Is k) (hR : ∀ r, Word (R k r)) :
    Calls Try.prog 157 #[cdv ⟨9, an, bn, 0⟩, .int .i64 k, o.row k, o.vm] w (SimPost o ⟨9, an, bn, 0⟩ k R M w) := by
  have H := Lib.hid h
  have hk8 : k < 8 := hk.lt
  have hlt : o.rows k < w.heap.size := h.rowLt hk
  have ha0 : (0 : Int) ≤ (an : Int) := by omega
  have ha4 : (an : Int) < 4 := by omega
  have hb0 : (0 : Int) ≤ (bn : Int) := by omega
  have hb4 : (bn : Int) < 4 := by omega
  have f1 := h.regFrozen hk an
  have qa := h.regCell hk han
  obtain ⟨x, Hx⟩ : ∃ x, Hid (R k an = x) := ⟨_, rfl⟩
  have hwx : Word x := by rw [← Hx.out]; exact hR an
  rw [Hx.out] at qa
  have qb := h.regCell hk hbn
  obtain ⟨y, Hy⟩ : ∃ y, Hid (R k bn = y) := ⟨_, rfl⟩
  have hwy : Word y := by rw [← Hy.out]; exact hR bn
  rw [Hy.out] at qb
  obtain ⟨hy0, hy1⟩ := hwy
  obtain ⟨yn, rfl⟩ := Int.eq_ofNat_of_zero_le hy0
  have hm1 := h.m1
  have hm32 := h.m32
  have hmi : ¬ ((o.m : Int) = 0) := by omega
  have hmn : ¬ o.m = 0 := by omega
  have hmb : ((o.m : Int) == 0) = false := by rw [beq_eq_false_iff_ne]; omega
  have hjn : yn % o.m < o.m := Nat.mod_lt _ (by omega)
  have htm : (yn : Int).tmod (o.m : Int) = ((yn % o.m : Nat) : Int) := by rw [Int.tmod_eq_emod_of_nonneg (by omega)]; norm_cast
  have HC : Hid (cellOf ⟨9, an, bn, 0⟩ o.m (R k) = yn % o.m) := Lib.hid (by unfold cellOf; rw [Int.toNat_natCast, Hy.out, Int.toNat_natCast])
  obtain ⟨j, Hj⟩ : ∃ j, Hid (yn % o.m = j) := ⟨_, rfl⟩
  rw [Hj.out] at htm hjn HC
  have hj0 : (0 : Int) ≤ (j : Int) := by omega
  have hj1 : (j : Int) < (o.m : Int) := by omega
  have hgm : o.gm < w.heap.size := h.gmlo.2
  have qm := h.memCell hjn
  have f2 := h.memFrozen j
  clear h hR
  unfold cdv RMo.row RMo.vm
  simp only
  go_enter Try.func157, Try.ntmps157
  go_wp2
  refine region_tail 15 (by kernel_rfl) (by kernel_rfl) ?_
  simp only [List.take_succ_cons, List.take_zero, List.drop_succ_cons, List.drop_zero]
  repeat still_step
  refine wpStill_nil ?_
  go_wp2
  go_end0
  exact SimPost.mem H.out rfl (show setF M (cellOf ⟨9, an, bn, 0⟩ o.m (R k)) (R k an) = _ by rw [HC.out, Hx.out]) (by repeat (first | assumption | exact Pure.refl _ | refine Pure.drewN ?_ _ | refine Pure.drew ?_ | refine Pure.alloc ?_ _ | refine Pure.setCell ?_ (by simp <;> omega) _))

set_option maxHeartbeats 1000000 in
set_option maxRecDepth 100000 in
theorem i6_10 (o : RMo) (k : Nat) (w : World) (R : Nat → Nat → Int) (M : Nat → Int) (h : RM o w R M) (_hk : o.Is k) (_hR : ∀ r, Word (R k r)) :
    Calls Try.prog 157 #[cdv ⟨10, 0, 0, 0⟩, .int .i64 k, o.row k, o.vm] w (SimPost o ⟨10, 0, 0, 0⟩ k R M w) := by
  have H := Lib.hid h
  clear h _hR
  unfold cdv RMo.row RMo.vm
  simp only
  go_enter Try.func157, Try.ntmps157
  go_wp2
  go_end0
  exact SimPost.same H.out rfl rfl (by repeat (first | assumption | exact Pure.refl _ | refine Pure.drewN ?_ _ | refine Pure.drew ?_ | refine Pure.alloc ?_ _ | refine Pure.setCell ?_ (by simp <;> omega) _))

theorem i6_any (o : RMo) (x : Cd) (k : Nat) (w : World) (R : Nat → Nat → Int) (M : Nat → Int) (h : RM o w R M) (hk : o.Is k) (hx : Plain x) (hR : ∀ r, Word (R k r)) :
    Calls Try.prog 157 #[cdv x, .int .i64 k, o.row k, o.vm] w (SimPost o x k R M w) := by
  obtain ⟨hok, n11, n12, n13, n14⟩ := hx
  obtain ⟨op, a, b, c⟩ := x
  simp only at n11 n12 n13 n14
  obtain ⟨⟨ha0, ha3⟩, hb0, hb3, hc0, hc3, ho1, ho2⟩ := hok.regs
  unfold CdOk at hok
  simp only at hok
  have ho : op = 1 ∨ op = 2 ∨ op = 3 ∨ op = 4 ∨ op = 5 ∨ op = 6 ∨ op = 7 ∨ op = 8 ∨ op = 9 ∨ op = 10 := by omega
  obtain ⟨an, rfl⟩ := Int.eq_ofNat_of_zero_le ha0
  obtain ⟨cn, rfl⟩ := Int.eq_ofNat_of_zero_le hc0
  have han : an < 4 := by omega
  have hcn : cn < 4 := by omega
  rcases ho with rfl | ho
  · have hc : cn = 0 := by omega
    subst hc
    exact i6_1 o k an han b w R M h hk hR
  obtain ⟨bn, rfl⟩ := Int.eq_ofNat_of_zero_le (hb0 (by omega))
  have hbn : bn < 4 := by have := hb3 (by omega) (by omega); omega
  rcases ho with rfl | rfl | rfl | rfl | rfl | rfl | rfl | rfl | rfl
  · have hb9 : bn = 0 := by omega
    have hc9 : cn = 0 := by omega
    subst hb9
    subst hc9
    exact i6_2 o k an han w R M h hk hR
  · have hc9 : cn = 0 := by omega
    subst hc9
    exact i6_3 o k an han bn hbn w R M h hk hR
  · have hc9 : cn = 0 := by omega
    subst hc9
    exact i6_4 o k an han bn hbn w R M h hk hR
  · have hc9 : cn = 0 := by omega
    subst hc9
    exact i6_5 o k an han bn hbn w R M h hk hR
  · exact i6_6 o k an han bn hbn cn hcn w R M h hk hR
  · exact i6_7 o k an han bn hbn cn hcn w R M h hk hR
  · have hc9 : cn = 0 := by omega
    subst hc9
    exact i6_8 o k an han bn hbn w R M h hk hR
  · have hc9 : cn = 0 := by omega
    subst hc9
    exact i6_9 o k an han bn hbn w R M h hk hR
  · have ha9 : an = 0 := by omega
    have hb9 : bn = 0 := by omega
    have hc9 : cn = 0 := by omega
    subst ha9
    subst hb9
    subst hc9
    exact i6_10 o k w R M h hk hR

end Go.Proofs.Ytajaonejpggcbaa.Lw
