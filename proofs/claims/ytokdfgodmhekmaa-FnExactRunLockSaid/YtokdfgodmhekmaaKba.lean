/- The trace and its cost, as the reference finds them. What an instruction does to one lane, as the program reckons it. A run in lockstep, as the program keeps it in memory: its object; the lanes of a mask; those whose register is not 0. No condition. -/
import Derived.StillTailTactics
import Derived.Test.YtokdfgodmhekmaaKad
import Derived.Test.YtokdfgodmhekmaaKae
import Derived.Test.YtokdfgodmhekmaaKah
import Derived.Test.YtokdfgodmhekmaaKaj

namespace Go.Proofs.Ytokdfgodmhekmaa
open Go.RowKit

theorem beatsL_at : ∀ (H : List (Nat × Nat × (Nat → Nat → Int))) (k : Nat), k < H.length → (beatsL H)[k * 2]? = some (.int .i64 ((H.getD k default).1 : Nat)) ∧ (beatsL H)[k * 2 + 1]? = some (.int .i64 ((H.getD k default).2.1 : Nat))
  | [], _, h => absurd h (by simp)
  | x :: r, 0, _ => ⟨rfl, rfl⟩
  | x :: r, k + 1, h => by
    have := beatsL_at r k (by simpa using h)
    have e : beatsL (x :: r) = .int .i64 (x.1 : Nat) :: .int .i64 (x.2.1 : Nat) :: beatsL r := rfl
    have e2 : (k + 1) * 2 = k * 2 + 1 + 1 := by omega
    rw [e, e2]
    simpa using this
theorem getD_mem' {α : Type} [Inhabited α] {H : List α} {k : Nat} (h : k < H.length) : H.getD k default ∈ H := by simp [List.getD_eq_getElem?_getD, h]
theorem lockOf_in {cs : List Cd} {n : Nat} {mem : List Int} (hv : PValid cs) : ∀ x ∈ (lockOf cs n mem).H, StepIn n 0 cs.length x := by
  intro x hx
  obtain ⟨h1, h2, h3⟩ := treeOf_spec hv
  have hlen : (treeOf cs).len = cs.length := (congrArg List.length h1).symm
  rcases runStepIn n mem.length (treeOf cs) 0 (2 ^ n - 1) (startLS mem) x (Nat.sub_lt (Nat.two_pow_pos n) (by decide)) hx with h | h
  · cases h
  · rw [hlen, Nat.zero_add] at h; exact h
theorem lockOf_len {cs : List Cd} {n : Nat} {mem : List Int} (hv : PValid cs) : (lockOf cs n mem).H.length ≤ 2560 := by
  obtain ⟨h1, h2, h3⟩ := treeOf_spec hv
  have h4 := hv.cost h1 h2 h3
  have h5 := run_H n mem.length (treeOf cs) 0 (2 ^ n - 1) (startLS mem)
  have h6 : (startLS mem).H.length = 0 := rfl
  show (run _ _ _ _ _ _).H.length ≤ _
  omega
theorem lanes_nat {a : Int} (h : LanesOk a) : ∃ n : Nat, a = n ∧ 1 ≤ n ∧ n ≤ 8 := ⟨a.toNat, by unfold LanesOk at h; omega, by unfold LanesOk at h; omega, by unfold LanesOk at h; omega⟩

set_option maxHeartbeats 1000000 in
set_option maxRecDepth 100000 in
theorem strace_any (vl vm : Value) (cs : List Cd) (n : Nat) (mem : List Int) (w : World) (h : Codes w vl cs) (hm : Ints w vm mem) (hok : RunOk cs n mem) :
    Calls Try.prog 25 #[vl, .int .i64 n, vm] w fun e w' => ∃ v, e = .returned v ∧ OwnO w' w.heap.size 44 2 v (lockOf cs n mem).H.length (beatsL (lockOf cs n mem).H) ∧ Pure w w' := by
  have H := Lib.hid h
  have HM := Lib.hid hm
  have HOK := Lib.hid hok
  obtain ⟨hv, hl, hmm⟩ := hok
  have hc40 := hv.2.1
  have hm32 := hmm.1.2
  have hn1 : 1 ≤ n := by unfold LanesOk at hl; omega
  have hn8 : n ≤ 8 := by unfold LanesOk at hl; omega
  obtain ⟨A, c, rfl, hnc, hcm⟩ := h.form
  obtain ⟨Am, cm, rfl⟩ := hm.form
  clear h hm hv hl hmm
  go_enter Try.func25, Try.ntmps25
  go_wp2_with fail
  refine (sok_any _ _ cs n mem _ H.out HM.out (by omega) (by omega) true (by simp only [true_iff]; exact HOK.out)).mono ?_
  rintro e w1 ⟨rfl, hp1⟩
  go_wp2_with fail
  refine (sall_any _ _ cs n mem _ (H.out.keep hp1) (HM.out.keep hp1) HOK.out.1 hn1 hn8 HOK.out.2.2).mono ?_
  rintro e w2 ⟨o, vt, rfl, rfl, hcs, hvl, hn, hm, hck, hrun⟩
  have p4 : w2.cell? ⟨o.p, 4, none⟩ = some vt := hrun.obj.cell 4
  have HT := Lib.hid hrun.tr
  have HP := Lib.hid hrun.pure
  clear hrun hcs hvl hn hm hck
  go_wp2
  go_ret
  exact ⟨_, rfl, HT.out.base' hp1.size, hp1.trans HP.out⟩

def CostP (cs : List Cd) (a : Int) (mem : List Int) (x : Int) : Prop := (∀ n : Nat, a = n → RunOk cs a mem → x = (costTo cs (lockOf cs n mem).H (lockOf cs n mem).H.length : Nat)) ∧ (¬ RunOk cs a mem → x = -1)
theorem CostP.unique {cs : List Cd} {a : Int} {mem : List Int} {x y : Int} (h : CostP cs a mem x) (k : CostP cs a mem y) : y = x := by
  by_cases ho : RunOk cs a mem
  · obtain ⟨n, hn, _⟩ := lanes_nat ho.2.1
    rw [h.1 n hn ho, k.1 n hn ho]
  · rw [h.2 ho, k.2 ho]

set_option maxHeartbeats 1000000 in
set_option maxRecDepth 100000 in
theorem stc_any (vl vm : Value) (cs : List Cd) (a : Int) (mem : List Int) (w : World) (h : Codes w vl cs) (hm : Ints w vm mem) (hs1 : cs.length ≤ 1048576) (hs2 : mem.length ≤ 1048576) :
    Calls Try.prog 43 #[vl, .int .i64 a, vm] w fun e w' => ∃ x, e = .returned (.int .i64 x) ∧ CostP cs a mem x ∧ Pure w w' := by
  have H := Lib.hid h
  have HM := Lib.hid hm
  obtain ⟨A, c, rfl, hnc, hcm⟩ := h.form
  obtain ⟨Am, cm, rfl⟩ := hm.form
  clear h hm
  by_cases hok : RunOk cs a mem
  · have HOK := Lib.hid hok
    obtain ⟨n, rfl, hn1, hn8⟩ := lanes_nat hok.2.1
    clear hok
    go_enter Try.func43, Try.ntmps43
    go_wp2_with fail
    refine (sok_any _ _ cs n mem _ H.out HM.out hs1 hs2 true (by simp only [true_iff]; exact HOK.out)).mono ?_
    rintro e w1 ⟨rfl, hp1⟩
    go_wp2_with fail
    refine (strace_any _ _ cs n mem _ (H.out.keep hp1) (HM.out.keep hp1) HOK.out).mono ?_
    rintro e w2 ⟨v, rfl, hown, hp2⟩
    have HIN := Lib.hid (lockOf_in (n := n) (mem := mem) HOK.out.1)
    have hlen := lockOf_len (n := n) (mem := mem) HOK.out.1
    obtain ⟨L, HL⟩ : ∃ L, Hid ((lockOf cs n mem).H = L) := ⟨_, rfl⟩
    rw [HL.out] at hown hlen HIN
    have HO := Lib.hid hown
    obtain ⟨Av, cv, rfl⟩ := hown.form
    have HP12 := Lib.hid (hp1.trans hp2)
    clear hown hp1 hp2
    go_wp2
    go_loopg [7, 9] L.length (fun gk q i wr => ∃ k : Nat, gk + k = L.length ∧ i = .int .i64 k ∧ q = .int .i64 (costTo cs L k : Nat) ∧ Pure w2 wr)
    case atStart => exact ⟨0, rfl, rfl, rfl, Pure.refl _⟩
    case round =>
      obtain ⟨k, hgk, rfl, rfl, hp⟩ := hrel
      have Hgk := Lib.hid hgk
      have hkn : k ≤ L.length := by omega
      clear hgk
      by_cases hlt : k < L.length
      · obtain ⟨g, off, c', hvv, h1, h2, h3, h4⟩ := HO.out.formSome (by omega)
        injection hvv with e1 e2 e3
        subst e1
        subst e3
        have q0 := (HO.out.pure hp).cell (k * 2) (by omega)
        rw [(beatsL_at L k hlt).1] at q0
        obtain ⟨p, Hp⟩ : ∃ p, Hid ((L.getD k default).1 = p) := ⟨_, rfl⟩
        have hpl : p < cs.length := by rw [← Hp.out]; exact (HIN.out _ (getD_mem' hlt)).2.1
        rw [Hp.out] at q0
        obtain ⟨b, o, rfl, hb, hc⟩ := H.out.at_ hpl
        obtain ⟨cd, Hcd⟩ : ∃ cd, Hid (cs.getD p default = cd) := ⟨_, rfl⟩
        have hat := hc.keep (HP12.out.trans hp) hb
        rw [Hcd.out] at hat
        obtain ⟨r0, r1, r2, r3⟩ := hat
        clear hc
        have hcd : CdOk cd := by rw [← Hcd.out]; exact HOK.out.1.1 _ (cdOk_mem hpl)
        have HCD := Lib.hid hcd
        clear hcd
        obtain ⟨u, Hu⟩ : ∃ u, Hid (cdCost cd = u) := ⟨_, rfl⟩
        have hu4 : u ≤ 4 := by rw [← Hu.out]; exact cdCost_le cd
        have hsum := costTo_le cs L k
        have Hnext : Hid (costTo cs L (k + 1) = costTo cs L k + u) := Lib.hid (by show costTo cs L k + cdCost (cs.getD (L.getD k default).1 default) = _; rw [Hp.out, Hcd.out, Hu.out])
        obtain ⟨su, Hsu⟩ : ∃ su, Hid (costTo cs L k = su) := ⟨_, rfl⟩
        rw [Hsu.out] at Hnext hsum ⊢
        go_wp2_with fail
        refine (scost_any cd _ HCD.out u Hu.out).mono ?_
        rintro e w3 ⟨rfl, hp3⟩
        go_wp2
        go_roundg (L.length - (k + 1))
        case measure => have := Hgk.out; omega
        case rel => exact ⟨k + 1, by have := Hgk.out; omega, by go_num, by rw [Hnext.out]; go_num, hp.trans hp3⟩
      · have hkl : k = L.length := by omega
        subst hkl
        go_wp2
        go_ret
        refine ⟨_, rfl, ⟨fun n' hn' _ => ?_, fun hno => absurd HOK.out hno⟩, HP12.out.trans hp⟩
        obtain rfl : n = n' := by omega
        rw [HL.out]
  · have HOK := Lib.hid hok
    clear hok
    go_enter Try.func43, Try.ntmps43
    go_wp2_with fail
    refine (sok_any _ _ cs a mem _ H.out HM.out hs1 hs2 false (by simp [HOK.out])).mono ?_
    rintro e w1 ⟨rfl, hp1⟩
    go_wp2
    go_ret
    exact ⟨_, rfl, ⟨fun _ _ h => absurd h HOK.out, fun _ => rfl⟩, hp1⟩

end Go.Proofs.Ytokdfgodmhekmaa

namespace Go.Proofs.Ytokdfgodmhekmaa
open Go.RowKit

set_option maxHeartbeats 1000000 in
set_option maxRecDepth 100000 in
theorem i6_1 (o : RMo) (k : Nat) (an : Nat) (han : an < 4) (b : Int) (w : World) (R : Nat → Nat → Int) (M : Nat → Int) (h : RM o w R M) (hk : k < o.n) (hR : ∀ r, Word (R k r)) :
    Calls Try.prog 119 #[cdv ⟨1, an, b, 0⟩, .int .i64 k, o.row k, o.vm] w (SimPost o ⟨1, an, b, 0⟩ k R M w) := by
  have H := Lib.hid h
  have hk8 : k < 8 := Nat.lt_of_lt_of_le hk h.n8
  have hlt : o.rows k < w.heap.size := (Array.getElem?_eq_some_iff.1 (h.row k hk)).1
  have ha0 : (0 : Int) ≤ (an : Int) := by omega
  have ha4 : (an : Int) < 4 := by omega
  have f1 := h.regFrozen hk an
  have qa := h.regCell hk han
  clear h hR
  unfold cdv RMo.row RMo.vm
  simp only
  go_enter Try.func119, Try.ntmps119
  go_wp2
  go_end0
  exact SimPost.reg H.out hk han rfl rfl (by repeat (first | assumption | exact Pure.refl _ | refine Pure.drewN ?_ _ | refine Pure.drew ?_ | refine Pure.alloc ?_ _ | refine Pure.setCell ?_ (by simp <;> omega) _))

set_option maxHeartbeats 1000000 in
set_option maxRecDepth 100000 in
theorem i6_2 (o : RMo) (k : Nat) (an : Nat) (han : an < 4) (w : World) (R : Nat → Nat → Int) (M : Nat → Int) (h : RM o w R M) (hk : k < o.n) (hR : ∀ r, Word (R k r)) :
    Calls Try.prog 119 #[cdv ⟨2, an, 0, 0⟩, .int .i64 k, o.row k, o.vm] w (SimPost o ⟨2, an, 0, 0⟩ k R M w) := by
  have H := Lib.hid h
  have hk8 : k < 8 := Nat.lt_of_lt_of_le hk h.n8
  have hlt : o.rows k < w.heap.size := (Array.getElem?_eq_some_iff.1 (h.row k hk)).1
  have ha0 : (0 : Int) ≤ (an : Int) := by omega
  have ha4 : (an : Int) < 4 := by omega
  have f1 := h.regFrozen hk an
  have qa := h.regCell hk han
  clear h hR
  unfold cdv RMo.row RMo.vm
  simp only
  go_enter Try.func119, Try.ntmps119
  go_wp2
  go_end0
  exact SimPost.reg H.out hk han rfl rfl (by repeat (first | assumption | exact Pure.refl _ | refine Pure.drewN ?_ _ | refine Pure.drew ?_ | refine Pure.alloc ?_ _ | refine Pure.setCell ?_ (by simp <;> omega) _))

set_option maxHeartbeats 1000000 in
set_option maxRecDepth 100000 in
theorem i6_3 (o : RMo) (k : Nat) (an : Nat) (han : an < 4) (bn : Nat) (hbn : bn < 4) (w : World) (R : Nat → Nat → Int) (M : Nat → Int) (h : RM o w R M) (hk : k < o.n) (hR : ∀ r, Word (R k r)) :
    Calls Try.prog 119 #[cdv ⟨3, an, bn, 0⟩, .int .i64 k, o.row k, o.vm] w (SimPost o ⟨3, an, bn, 0⟩ k R M w) := by
  have H := Lib.hid h
  have hk8 : k < 8 := Nat.lt_of_lt_of_le hk h.n8
  have hlt : o.rows k < w.heap.size := (Array.getElem?_eq_some_iff.1 (h.row k hk)).1
  have ha0 : (0 : Int) ≤ (an : Int) := by omega
  have ha4 : (an : Int) < 4 := by omega
  have hb0 : (0 : Int) ≤ (bn : Int) := by omega
  have hb4 : (bn : Int) < 4 := by omega
  have f1 := h.regFrozen hk an
  have qa := h.regCell hk han
  obtain ⟨x, Hx⟩ : ∃ x, Hid (R k an = x) := ⟨_, rfl⟩
  have hwx : Word x := by rw [← Hx.out]; exact hR an
  rw [Hx.out] at qa
  have qb := h.regCell hk hbn
  obtain ⟨y, Hy⟩ : ∃ y, Hid (R k bn = y) := ⟨_, rfl⟩
  have hwy : Word y := by rw [← Hy.out]; exact hR bn
  rw [Hy.out] at qb
  have HWx := Lib.hid hwx; clear hwx
  have HWy := Lib.hid hwy; clear hwy
  clear h hR
  unfold cdv RMo.row RMo.vm
  simp only
  go_enter Try.func119, Try.ntmps119
  go_wp2
  refine region_tail 15 (by kernel_rfl) (by kernel_rfl) ?_
  simp only [List.take_succ_cons, List.take_zero, List.drop_succ_cons, List.drop_zero]
  repeat still_step
  still_call ((iWordAdd_any x y _ HWx.out HWy.out).mono fun e w' h => ⟨h.1, h.2.symm⟩)
  repeat still_step
  refine wpStill_nil ?_
  go_wp2
  go_end0
  exact SimPost.reg H.out hk han (show setF (R k) an ((R k an + R k bn) % 256) = _ by rw [Hx.out, Hy.out]) rfl (by repeat (first | assumption | exact Pure.refl _ | refine Pure.drewN ?_ _ | refine Pure.drew ?_ | refine Pure.alloc ?_ _ | refine Pure.setCell ?_ (by simp <;> omega) _))

set_option maxHeartbeats 1000000 in
set_option maxRecDepth 100000 in
theorem i6_4 (o : RMo) (k : Nat) (an : Nat) (han : an < 4) (bn : Nat) (hbn : bn < 4) (w : World) (R : Nat → Nat → Int) (M : Nat → Int) (h : RM o w R M) (hk : k < o.n) (hR : ∀ r, Word (R k r)) :
    Calls Try.prog 119 #[cdv ⟨4, an, bn, 0⟩, .int .i64 k, o.row k, o.vm] w (SimPost o ⟨4, an, bn, 0⟩ k R M w) := by
  have H := Lib.hid h
  have hk8 : k < 8 := Nat.lt_of_lt_of_le hk h.n8
  have hlt : o.rows k < w.heap.size := (Array.getElem?_eq_some_iff.1 (h.row k hk)).1
  have ha0 : (0 : Int) ≤ (an : Int) := by omega
  have ha4 : (an : Int) < 4 := by omega
  have hb0 : (0 : Int) ≤ (bn : Int) := by omega
  have hb4 : (bn : Int) < 4 := by omega
  have f1 := h.regFrozen hk an
  have qa := h.regCell hk han
  obtain ⟨x, Hx⟩ : ∃ x, Hid (R k an = x) := ⟨_, rfl⟩
  have hwx : Word x := by rw [← Hx.out]; exact hR an
  rw [Hx.out] at qa
  have qb := h.regCell hk hbn
  obtain ⟨y, Hy⟩ : ∃ y, Hid (R k bn = y) := ⟨_, rfl⟩
  have hwy : Word y := by rw [← Hy.out]; exact hR bn
  rw [Hy.out] at qb
  have HWx := Lib.hid hwx; clear hwx
  have HWy := Lib.hid hwy; clear hwy
  clear h hR
  unfold cdv RMo.row RMo.vm
  simp only
  go_enter Try.func119, Try.ntmps119
  go_wp2
  refine region_tail 15 (by kernel_rfl) (by kernel_rfl) ?_
  simp only [List.take_succ_cons, List.take_zero, List.drop_succ_cons, List.drop_zero]
  repeat still_step
  still_call ((iWordMul_any x y _ HWx.out HWy.out).mono fun e w' h => ⟨h.1, h.2.symm⟩)
  repeat still_step
  refine wpStill_nil ?_
  go_wp2
  go_end0
  exact SimPost.reg H.out hk han (show setF (R k) an (R k an * R k bn % 256) = _ by rw [Hx.out, Hy.out]) rfl (by repeat (first | assumption | exact Pure.refl _ | refine Pure.drewN ?_ _ | refine Pure.drew ?_ | refine Pure.alloc ?_ _ | refine Pure.setCell ?_ (by simp <;> omega) _))

set_option maxHeartbeats 1000000 in
set_option maxRecDepth 100000 in
theorem i6_5 (o : RMo) (k : Nat) (an : Nat) (han : an < 4) (bn : Nat) (hbn : bn < 4) (w : World) (R : Nat → Nat → Int) (M : Nat → Int) (h : RM o w R M) (hk : k < o.n) (hR : ∀ r, Word (R k r)) :
    Calls Try.prog 119 #[cdv ⟨5, an, bn, 0⟩, .int .i64 k, o.row k, o.vm] w (SimPost o ⟨5, an, bn, 0⟩ k R M w) := by
  have H := Lib.hid h
  have hk8 : k < 8 := Nat.lt_of_lt_of_le hk h.n8
  have hlt : o.rows k < w.heap.size := (Array.getElem?_eq_some_iff.1 (h.row k hk)).1
  have ha0 : (0 : Int) ≤ (an : Int) := by omega
  have ha4 : (an : Int) < 4 := by omega
  have hb0 : (0 : Int) ≤ (bn : Int) := by omega
  have hb4 : (bn : Int) < 4 := by omega
  have f1 := h.regFrozen hk an
  have qa := h.regCell hk han
  have qb := h.regCell hk hbn
  obtain ⟨y, Hy⟩ : ∃ y, Hid (R k bn = y) := ⟨_, rfl⟩
  have hwy : Word y := by rw [← Hy.out]; exact hR bn
  rw [Hy.out] at qb
  clear h hR
  unfold cdv RMo.row RMo.vm
  simp only
  go_enter Try.func119, Try.ntmps119
  go_wp2
  refine region_tail 9 (by kernel_rfl) (by kernel_rfl) ?_
  simp only [List.take_succ_cons, List.take_zero, List.drop_succ_cons, List.drop_zero]
  repeat still_step
  refine wpStill_nil ?_
  go_wp2
  go_end0
  exact SimPost.reg H.out hk han (show setF (R k) an (R k bn) = _ by rw [Hy.out]) rfl (by repeat (first | assumption | exact Pure.refl _ | refine Pure.drewN ?_ _ | refine Pure.drew ?_ | refine Pure.alloc ?_ _ | refine Pure.setCell ?_ (by simp <;> omega) _))

set_option maxHeartbeats 1000000 in
set_option maxRecDepth 100000 in
theorem i6_6 (o : RMo) (k : Nat) (an : Nat) (han : an < 4) (bn : Nat) (hbn : bn < 4) (cn : Nat) (hcn : cn < 4) (w : World) (R : Nat → Nat → Int) (M : Nat → Int) (h : RM o w R M) (hk : k < o.n) (hR : ∀ r, Word (R k r)) :
    Calls Try.prog 119 #[cdv ⟨6, an, bn, cn⟩, .int .i64 k, o.row k, o.vm] w (SimPost o ⟨6, an, bn, cn⟩ k R M w) := by
  have H := Lib.hid h
  have hk8 : k < 8 := Nat.lt_of_lt_of_le hk h.n8
  have hlt : o.rows k < w.heap.size := (Array.getElem?_eq_some_iff.1 (h.row k hk)).1
  have ha0 : (0 : Int) ≤ (an : Int) := by omega
  have ha4 : (an : Int) < 4 := by omega
  have hb0 : (0 : Int) ≤ (bn : Int) := by omega
  have hb4 : (bn : Int) < 4 := by omega
  have hc0 : (0 : Int) ≤ (cn : Int) := by omega
  have hc4 : (cn : Int) < 4 := by omega
  have f1 := h.regFrozen hk an
  have qa := h.regCell hk han
  have qb := h.regCell hk hbn
  obtain ⟨y, Hy⟩ : ∃ y, Hid (R k bn = y) := ⟨_, rfl⟩
  have hwy : Word y := by rw [← Hy.out]; exact hR bn
  rw [Hy.out] at qb
  have qc := h.regCell hk hcn
  obtain ⟨z, Hz⟩ : ∃ z, Hid (R k cn = z) := ⟨_, rfl⟩
  have hwz : Word z := by rw [← Hz.out]; exact hR cn
  rw [Hz.out] at qc
  have HWy := Lib.hid hwy; clear hwy
  have HWz := Lib.hid hwz; clear hwz
  obtain ⟨b, Hb⟩ : ∃ b : Int, Hid ((if y < z then 1 else 0) = b) := ⟨_, rfl⟩
  have hL : ∀ w : World, Calls Try.prog 129 #[.int .i64 y, .int .i64 z] w fun e w' => e = .returned (.int .i64 b) ∧ w' = w := fun w => (iWordLess_any y z w HWy.out HWz.out).mono fun e w' h => ⟨by rw [← Hb.out]; exact h.1, h.2.symm⟩
  have HL := Lib.hid hL; clear hL
  clear h hR
  unfold cdv RMo.row RMo.vm
  simp only
  go_enter Try.func119, Try.ntmps119
  go_wp2
  refine region_tail 15 (by kernel_rfl) (by kernel_rfl) ?_
  simp only [List.take_succ_cons, List.take_zero, List.drop_succ_cons, List.drop_zero]
  repeat still_step
  still_call (HL.out _)
  repeat still_step
  refine wpStill_nil ?_
  go_wp2
  go_end0
  exact SimPost.reg H.out hk han (show setF (R k) an (if R k bn < R k cn then 1 else 0) = _ by rw [Hy.out, Hz.out, Hb.out]) rfl (by repeat (first | assumption | exact Pure.refl _ | refine Pure.drewN ?_ _ | refine Pure.drew ?_ | refine Pure.alloc ?_ _ | refine Pure.setCell ?_ (by simp <;> omega) _))

set_option maxHeartbeats 1000000 in
set_option maxRecDepth 100000 in
theorem i6_7 (o : RMo) (k : Nat) (an : Nat) (han : an < 4) (bn : Nat) (hbn : bn < 4) (cn : Nat) (hcn : cn < 4) (w : World) (R : Nat → Nat → Int) (M : Nat → Int) (h : RM o w R M) (hk : k < o.n) (hR : ∀ r, Word (R k r)) :
    Calls Try.prog 119 #[cdv ⟨7, an, bn, cn⟩, .int .i64 k, o.row k, o.vm] w (SimPost o ⟨7, an, bn, cn⟩ k R M w) := by
  have H := Lib.hid h
  have hk8 : k < 8 := Nat.lt_of_lt_of_le hk h.n8
  have hlt : o.rows k < w.heap.size := (Array.getElem?_eq_some_iff.1 (h.row k hk)).1
  have ha0 : (0 : Int) ≤ (an : Int) := by omega
  have ha4 : (an : Int) < 4 := by omega
  have hb0 : (0 : Int) ≤ (bn : Int) := by omega
  have hb4 : (bn : Int) < 4 := by omega
  have hc0 : (0 : Int) ≤ (cn : Int) := by omega
  have hc4 : (cn : Int) < 4 := by omega
  have f1 := h.regFrozen hk an
  have qa := h.regCell hk han
  have qb := h.regCell hk hbn
  obtain ⟨y, Hy⟩ : ∃ y, Hid (R k bn = y) := ⟨_, rfl⟩
  have hwy : Word y := by rw [← Hy.out]; exact hR bn
  rw [Hy.out] at qb
  have qc := h.regCell hk hcn
  obtain ⟨z, Hz⟩ : ∃ z, Hid (R k cn = z) := ⟨_, rfl⟩
  have hwz : Word z := by rw [← Hz.out]; exact hR cn
  rw [Hz.out] at qc
  clear h hR
  unfold cdv RMo.row RMo.vm
  simp only
  by_cases hz0 : z = 0
  · have hzb : (z != 0) = false := by rw [bne_eq_false_iff_eq]; exact hz0
    have HZ := Lib.hid hz0; clear hz0
    go_enter Try.func119, Try.ntmps119
    go_wp2
    go_end0
    exact SimPost.same H.out (show (if R k cn = 0 then R k else setF (R k) an (R k bn)) = _ by rw [Hz.out, if_pos HZ.out]) rfl (by repeat (first | assumption | exact Pure.refl _ | refine Pure.drewN ?_ _ | refine Pure.drew ?_ | refine Pure.alloc ?_ _ | refine Pure.setCell ?_ (by simp <;> omega) _))
  · have hzb : (z != 0) = true := by rw [bne_iff_ne]; exact hz0
    have HZ := Lib.hid hz0; clear hz0
    go_enter Try.func119, Try.ntmps119
    go_wp2
    refine region_tail 9 (by kernel_rfl) (by kernel_rfl) ?_
    simp only [List.take_succ_cons, List.take_zero, List.drop_succ_cons, List.drop_zero]
    repeat still_step
    refine wpStill_nil ?_
    go_wp2
    go_end0
    exact SimPost.reg H.out hk han (show (if R k cn = 0 then R k else setF (R k) an (R k bn)) = _ by rw [Hz.out, if_neg HZ.out, Hy.out]) rfl (by repeat (first | assumption | exact Pure.refl _ | refine Pure.drewN ?_ _ | refine Pure.drew ?_ | refine Pure.alloc ?_ _ | refine Pure.setCell ?_ (by simp <;> omega) _))

set_option maxHeartbeats 1000000 in
set_option maxRecDepth 100000 in
theorem i6_8 (o : RMo) (k : Nat) (an : Nat) (han : an < 4) (bn : Nat) (hbn : bn < 4) (w : World) (R : Nat → Nat → Int) (M : Nat → Int) (h : RM o w R M) (hk : k < o.n) (hR : ∀ r, Word (R k r)) :
    Calls Try.prog 119 #[cdv ⟨8, an, bn, 0⟩, .int .i64 k, o.row k, o.vm] w (SimPost o ⟨8, an, bn, 0⟩ k R M w) := by
  have H := Lib.hid h
  have hk8 : k < 8 := Nat.lt_of_lt_of_le hk h.n8
  have hlt : o.rows k < w.heap.size := (Array.getElem?_eq_some_iff.1 (h.row k hk)).1
  have ha0 : (0 : Int) ≤ (an : Int) := by omega
  have ha4 : (an : Int) < 4 := by omega
  have hb0 : (0 : Int) ≤ (bn : Int) := by omega
  have hb4 : (bn : Int) < 4 := by omega
  have f1 := h.regFrozen hk an
  have qa := h.regCell hk han
  have qb := h.regCell hk hbn
  obtain ⟨y, Hy⟩ : ∃ y, Hid (R k bn = y) := ⟨_, rfl⟩
  have hwy : Word y := by rw [← Hy.out]; exact hR bn
  rw [Hy.out] at qb
  obtain ⟨hy0, hy1⟩ := hwy
  obtain ⟨yn, rfl⟩ := Int.eq_ofNat_of_zero_le hy0
  have hm1 := h.m1
  have hm32 := h.m32
  have hmi : ¬ ((o.m : Int) = 0) := by omega
  have hmn : ¬ o.m = 0 := by omega
  have hmb : ((o.m : Int) == 0) = false := by rw [beq_eq_false_iff_ne]; omega
  have hjn : yn % o.m < o.m := Nat.mod_lt _ (by omega)
  have htm : (yn : Int).tmod (o.m : Int) = ((yn % o.m : Nat) : Int) := by rw [Int.tmod_eq_emod_of_nonneg (by omega)]; norm_cast
  have HC : Hid (cellOf ⟨8, an, bn, 0⟩ o.m (R k) = yn % o.m) := Lib.hid (by unfold cellOf; rw [Int.toNat_natCast, Hy.out, Int.toNat_natCast])
  obtain ⟨j, Hj⟩ : ∃ j, Hid (yn % o.m = j) := ⟨_, rfl⟩
  rw [Hj.out] at htm hjn HC
  have hj0 : (0 : Int) ≤ (j : Int) := by omega
  have hj1 : (j : Int) < (o.m : Int) := by omega
  have hgm : o.gm < w.heap.size := h.gmlo.2
  have qm := h.memCell hjn
  clear h hR
  unfold cdv RMo.row RMo.vm
  simp only
  go_enter Try.func119, Try.ntmps119
  go_wp2
  refine region_tail 15 (by kernel_rfl) (by kernel_rfl) ?_
  simp only [List.take_succ_cons, List.take_zero, List.drop_succ_cons, List.drop_zero]
  repeat still_step
  refine wpStill_nil ?_
  go_wp2
  go_end0
  exact SimPost.reg H.out hk han (show setF (R k) an (M (cellOf ⟨8, an, bn, 0⟩ o.m (R k))) = _ by rw [HC.out]) rfl (by repeat (first | assumption | exact Pure.refl _ | refine Pure.drewN ?_ _ | refine Pure.drew ?_ | refine Pure.alloc ?_ _ | refine Pure.setCell ?_ (by simp <;> omega) _))

set_option maxHeartbeats 1000000 in
set_option maxRecDepth 100000 in
theorem i6_9 (o : RMo) (k : Nat) (an : Nat) (han : an < 4) (bn : Nat) (hbn : bn < 4) (w : World) (R : Nat → Nat → Int) (M : Nat → Int) (h : RM o w R M) (hk : k < o.n) (hR : ∀ r, Word (R k r)) :
    Calls Try.prog 119 #[cdv ⟨9, an, bn, 0⟩, .int .i64 k, o.row k, o.vm] w (SimPost o ⟨9, an, bn, 0⟩ k R M w) := by
  have H := Lib.hid h
  have hk8 : k < 8 := Nat.lt_of_lt_of_le hk h.n8
  have hlt : o.rows k < w.heap.size := (Array.getElem?_eq_some_iff.1 (h.row k hk)).1
  have ha0 : (0 : Int) ≤ (an : Int) := by omega
  have ha4 : (an : Int) < 4 := by omega
  have hb0 : (0 : Int) ≤ (bn : Int) := by omega
  have hb4 : (bn : Int) < 4 := by omega
  have f1 := h.regFrozen hk an
  have qa := h.regCell hk han
  obtain ⟨x, Hx⟩ : ∃ x, Hid (R k an = x) := ⟨_, rfl⟩
  have hwx : Word x := by rw [← Hx.out]; exact hR an
  rw [Hx.out] at qa
  have qb := h.regCell hk hbn
  obtain ⟨y, Hy⟩ : ∃ y, Hid (R k bn = y) := ⟨_, rfl⟩
  have hwy : Word y := by rw [← Hy.out]; exact hR bn
  rw [Hy.out] at qb
  obtain ⟨hy0, hy1⟩ := hwy
  obtain ⟨yn, rfl⟩ := Int.eq_ofNat_of_zero_le hy0
  have hm1 := h.m1
  have hm32 := h.m32
  have hmi : ¬ ((o.m : Int) = 0) := by omega
  have hmn : ¬ o.m = 0 := by omega
  have hmb : ((o.m : Int) == 0) = false := by rw [beq_eq_false_iff_ne]; omega
  have hjn : yn % o.m < o.m := Nat.mod_lt _ (by omega)
  have htm : (yn : Int).tmod (o.m : Int) = ((yn % o.m : Nat) : Int) := by rw [Int.tmod_eq_emod_of_nonneg (by omega)]; norm_cast
  have HC : Hid (cellOf ⟨9, an, bn, 0⟩ o.m (R k) = yn % o.m) := Lib.hid (by unfold cellOf; rw [Int.toNat_natCast, Hy.out, Int.toNat_natCast])
  obtain ⟨j, Hj⟩ : ∃ j, Hid (yn % o.m = j) := ⟨_, rfl⟩
  rw [Hj.out] at htm hjn HC
  have hj0 : (0 : Int) ≤ (j : Int) := by omega
  have hj1 : (j : Int) < (o.m : Int) := by omega
  have hgm : o.gm < w.heap.size := h.gmlo.2
  have qm := h.memCell hjn
  have f2 := h.memFrozen j
  clear h hR
  unfold cdv RMo.row RMo.vm
  simp only
  go_enter Try.func119, Try.ntmps119
  go_wp2
  refine region_tail 15 (by kernel_rfl) (by kernel_rfl) ?_
  simp only [List.take_succ_cons, List.take_zero, List.drop_succ_cons, List.drop_zero]
  repeat still_step
  refine wpStill_nil ?_
  go_wp2
  go_end0
  exact SimPost.mem H.out rfl (show setF M (cellOf ⟨9, an, bn, 0⟩ o.m (R k)) (R k an) = _ by rw [HC.out, Hx.out]) (by repeat (first | assumption | exact Pure.refl _ | refine Pure.drewN ?_ _ | refine Pure.drew ?_ | refine Pure.alloc ?_ _ | refine Pure.setCell ?_ (by simp <;> omega) _))

set_option maxHeartbeats 1000000 in
set_option maxRecDepth 100000 in
theorem i6_10 (o : RMo) (k : Nat) (w : World) (R : Nat → Nat → Int) (M : Nat → Int) (h : RM o w R M) (hk : k < o.n) (hR : ∀ r, Word (R k r)) :
    Calls Try.prog 119 #[cdv ⟨10, 0, 0, 0⟩, .int .i64 k, o.row k, o.vm] w (SimPost o ⟨10, 0, 0, 0⟩ k R M w) := by
  have H := Lib.hid h
  clear h hR
  unfold cdv RMo.row RMo.vm
  simp only
  go_enter Try.func119, Try.ntmps119
  go_wp2
  go_end0
  exact SimPost.same H.out rfl rfl (by repeat (first | assumption | exact Pure.refl _ | refine Pure.drewN ?_ _ | refine Pure.drew ?_ | refine Pure.alloc ?_ _ | refine Pure.setCell ?_ (by simp <;> omega) _))

theorem i6_any (o : RMo) (x : Cd) (k : Nat) (w : World) (R : Nat → Nat → Int) (M : Nat → Int) (h : RM o w R M) (hk : k < o.n) (hx : Plain x) (hR : ∀ r, Word (R k r)) :
    Calls Try.prog 119 #[cdv x, .int .i64 k, o.row k, o.vm] w (SimPost o x k R M w) := by
  obtain ⟨hok, n11, n12, n13, n14⟩ := hx
  obtain ⟨op, a, b, c⟩ := x
  simp only at n11 n12 n13 n14
  obtain ⟨⟨ha0, ha3⟩, hb0, hb3, hc0, hc3, ho1, ho2⟩ := hok.regs
  unfold CdOk at hok
  simp only at hok
  have ho : op = 1 ∨ op = 2 ∨ op = 3 ∨ op = 4 ∨ op = 5 ∨ op = 6 ∨ op = 7 ∨ op = 8 ∨ op = 9 ∨ op = 10 := by omega
  obtain ⟨an, rfl⟩ := Int.eq_ofNat_of_zero_le ha0
  obtain ⟨cn, rfl⟩ := Int.eq_ofNat_of_zero_le hc0
  have han : an < 4 := by omega
  have hcn : cn < 4 := by omega
  rcases ho with rfl | ho
  · have hc : cn = 0 := by omega
    subst hc
    exact i6_1 o k an han b w R M h hk hR
  obtain ⟨bn, rfl⟩ := Int.eq_ofNat_of_zero_le (hb0 (by omega))
  have hbn : bn < 4 := by have := hb3 (by omega) (by omega); omega
  rcases ho with rfl | rfl | rfl | rfl | rfl | rfl | rfl | rfl | rfl
  · have hb9 : bn = 0 := by omega
    have hc9 : cn = 0 := by omega
    subst hb9
    subst hc9
    exact i6_2 o k an han w R M h hk hR
  · have hc9 : cn = 0 := by omega
    subst hc9
    exact i6_3 o k an han bn hbn w R M h hk hR
  · have hc9 : cn = 0 := by omega
    subst hc9
    exact i6_4 o k an han bn hbn w R M h hk hR
  · have hc9 : cn = 0 := by omega
    subst hc9
    exact i6_5 o k an han bn hbn w R M h hk hR
  · exact i6_6 o k an han bn hbn cn hcn w R M h hk hR
  · exact i6_7 o k an han bn hbn cn hcn w R M h hk hR
  · have hc9 : cn = 0 := by omega
    subst hc9
    exact i6_8 o k an han bn hbn w R M h hk hR
  · have hc9 : cn = 0 := by omega
    subst hc9
    exact i6_9 o k an han bn hbn w R M h hk hR
  · have ha9 : an = 0 := by omega
    have hb9 : bn = 0 := by omega
    have hc9 : cn = 0 := by omega
    subst ha9
    subst hb9
    subst hc9
    exact i6_10 o k w R M h hk hR

end Go.Proofs.Ytokdfgodmhekmaa

namespace Go.Proofs.Ytokdfgodmhekmaa
open Go.RowKit

theorem elBeatI : ElT Try.prog 35 44 2 [.int .i64 0, .int .i64 0] 16 := ⟨by kernel_rfl, ⟨.agg #[.int .i64 0, .int .i64 0], by kernel_rfl, by kernel_rfl, rfl⟩, by decide⟩

theorem elAcc : ElT Try.prog 48 76 4 [.int .i64 0, .int .i64 0, .bool false, .int .i64 0] 32 := ⟨by kernel_rfl, ⟨.agg #[.int .i64 0, .int .i64 0, .bool false, .int .i64 0], by kernel_rfl, by kernel_rfl, rfl⟩, by decide⟩

theorem digit_and (u j : Nat) (h : u < 4611686018427387904) : bits .and .i64 ((u : Int) / 2 ^ j) 1 = if u.testBit j then 1 else 0 := by
  have e : ((u : Int) / 2 ^ j) = ((u / 2 ^ j : Nat) : Int) := by
    have : ((2 ^ j : Nat) : Int) = (2 : Int) ^ j := by simp
    rw [← this]; norm_cast
  have h2 : u / 2 ^ j ≤ u := Nat.div_le_self _ _
  have := bits_and (a := u / 2 ^ j) (b := 1) (by omega) (by omega)
  rw [e]
  rw [show (1 : Int) = ((1 : Nat) : Int) from rfl, this, Nat.and_one_is_mod, digit_testBit]
  split <;> rfl
theorem shlI {j : Nat} (h : j < 9) : wrap64 (2 ^ j) = ((2 ^ j : Nat) : Int) := by
  have : j = 0 ∨ j = 1 ∨ j = 2 ∨ j = 3 ∨ j = 4 ∨ j = 5 ∨ j = 6 ∨ j = 7 ∨ j = 8 := by omega
  rcases this with rfl | rfl | rfl | rfl | rfl | rfl | rfl | rfl | rfl
  all_goals (rw [← IntWalk.i64_left, IntWalk.i64_in _ ⟨by decide, by decide⟩]; rfl)
theorem powI {j : Nat} (h : j ≤ 8) : 2 ^ j ≤ 256 := by
  calc 2 ^ j ≤ 2 ^ 8 := Nat.pow_le_pow_right (by decide) h
    _ = 256 := rfl

/-- The lanes below j that are in a mask. -/
def lanesL (mask : Nat) : Nat → List Nat
  | 0 => []
  | j + 1 => if mask.testBit j then lanesL mask j ++ [j] else lanesL mask j
theorem lanesL_len (mask : Nat) : ∀ j, (lanesL mask j).length ≤ j
  | 0 => Nat.le_refl _
  | j + 1 => by
    have := lanesL_len mask j
    unfold lanesL
    split
    · simp; omega
    · omega
theorem lanesL_mem {mask k : Nat} : ∀ {j : Nat}, k ∈ lanesL mask j → k < j ∧ mask.testBit k = true
  | 0, h => by simp [lanesL] at h
  | j + 1, h => by
    unfold lanesL at h
    split at h
    · rcases List.mem_append.1 h with h | h
      · have := lanesL_mem h; exact ⟨by omega, this.2⟩
      · simp at h; subst h; exact ⟨by omega, by assumption⟩
    · have := lanesL_mem h; exact ⟨by omega, this.2⟩
theorem lanesL_lt {mask k n j : Nat} (hm : mask < 2 ^ n) (h : k ∈ lanesL mask j) : k < n := by
  by_cases e : k < n
  · exact e
  · have := (lanesL_mem h).2
    rw [testBit_hi hm (by omega)] at this; cases this
def onesL (R : Nat → Nat → Int) (a : Nat) (ks : List Nat) : Nat := ks.foldl (fun s k => if R k a = 0 then s else s ||| 2 ^ k) 0
theorem onesL_eq (R : Nat → Nat → Int) (mask a : Nat) : ∀ j, onesL R a (lanesL mask j) = onesTo R mask a j
  | 0 => rfl
  | j + 1 => by
    have ih := onesL_eq R mask a j
    unfold lanesL onesTo
    cases hb : mask.testBit j
    · simpa using ih
    · unfold onesL at ih ⊢
      simp only [if_true, Bool.true_and]
      rw [List.foldl_append, ih]
      by_cases hz : R j a = 0 <;> simp [hz]
theorem onesL_snoc (R : Nat → Nat → Int) (a k : Nat) (ks : List Nat) : onesL R a (ks ++ [k]) = if R k a = 0 then onesL R a ks else onesL R a ks ||| 2 ^ k := by
  unfold onesL; rw [List.foldl_append]; rfl
theorem onesL_lt (R : Nat → Nat → Int) (a : Nat) {n : Nat} : ∀ ks : List Nat, (∀ k ∈ ks, k < n) → onesL R a ks < 2 ^ n := by
  intro ks
  have key : ∀ (ks : List Nat) (s : Nat), s < 2 ^ n → (∀ k ∈ ks, k < n) → ks.foldl (fun s k => if R k a = 0 then s else s ||| 2 ^ k) s < 2 ^ n := by
    intro ks
    induction ks with
    | nil => intro s hs _; exact hs
    | cons x r ih =>
      intro s hs hk
      refine ih _ ?_ (fun k hk2 => hk k (by simp [hk2]))
      show (if R x a = 0 then s else s ||| 2 ^ x) < 2 ^ n
      split
      · exact hs
      · exact Nat.or_lt_two_pow hs (Nat.pow_lt_pow_right (by decide) (hk x (by simp)))
  exact key ks 0 (Nat.two_pow_pos n)
def lanesF (c : Cd) (m : Nat) (ks : List Nat) (s : LS) : LS := ks.foldl (fun s k => lane1 c m k s) s
theorem lanesF_eq (c : Cd) (m mask : Nat) (s : LS) : ∀ j, lanesF c m (lanesL mask j) s = lanesTo c m mask j s
  | 0 => rfl
  | j + 1 => by
    have ih := lanesF_eq c m mask s j
    unfold lanesL lanesTo
    cases hb : mask.testBit j
    · simpa using ih
    · unfold lanesF at ih ⊢
      simp only [if_true]
      rw [List.foldl_append, ih]; rfl
theorem lanesF_snoc (c : Cd) (m k : Nat) (ks : List Nat) (s : LS) : lanesF c m (ks ++ [k]) s = lane1 c m k (lanesF c m ks s) := by
  unfold lanesF; rw [List.foldl_append]; rfl
theorem take_snoc' {ks : List Nat} {q k : Nat} (h : ks[q]? = some k) : ks.take (q + 1) = ks.take q ++ [k] := by
  rw [List.take_add_one, h]; rfl

def LanP (mask : Nat) (w : World) (e : Ending) (w' : World) : Prop :=
  ∃ v, e = .returned v ∧ OwnO w' w.heap.size 3 1 v (lanesL mask 8).length ((lanesL mask 8).map fun k => .int .i64 (k : Nat)) ∧ Pure w w'

set_option maxHeartbeats 1000000 in
theorem ilanes_any (mask : Nat) (hm : mask < 256) (w : World) : Calls Try.prog 78 #[.int .i64 mask] w (LanP mask w) := by
  go_enter Try.func78, Try.ntmps78
  go_wp2
  go_loopg [5, 3] 8 (fun gk i q wr => ∃ j : Nat, gk + j = 8 ∧ i = .int .i64 j ∧ OwnO wr w.heap.size 3 1 q (lanesL mask j).length ((lanesL mask j).map fun k => .int .i64 (k : Nat)) ∧ Pure w wr)
  case atStart => exact ⟨0, rfl, rfl, OwnO.of_own (World.ownsRow_nil _ _ _ _), Pure.refl _⟩
  case round =>
    obtain ⟨j, hgk, rfl, hq, hp⟩ := hrel
    have Hgk := Lib.hid hgk
    have HQ := Lib.hid hq
    have hj8 : j ≤ 8 := by omega
    have hlen := lanesL_len mask j
    obtain ⟨Aq, cq, rfl⟩ := hq.form
    clear hgk hq
    by_cases hlt : j < 8
    · have hnn := digit_nonneg mask j
      have hbit := digit_and mask j (by omega)
      have hnext : lanesL mask (j + 1) = if mask.testBit j then lanesL mask j ++ [j] else lanesL mask j := rfl
      obtain ⟨D, HD⟩ : ∃ D, Hid (mask.testBit j = D) := ⟨_, rfl⟩
      rw [HD.out] at hbit hnext
      have Hnext := Lib.hid hnext
      clear hnext
      cases D
      · have hb0 : bits .and .i64 ((mask : Int) / 2 ^ j) 1 = 0 := hbit
        clear hbit
        go_wp2
        go_roundg (8 - (j + 1))
        case measure => have := Hgk.out; omega
        case rel => exact ⟨j + 1, by have := Hgk.out; omega, by go_num, by rw [Hnext.out]; exact HQ.out, hp⟩
      · have hb1 : bits .and .i64 ((mask : Int) / 2 ^ j) 1 = 1 := hbit
        clear hbit
        go_wp2_with (at_builtin; go_must (refine wl_append1F elInt rfl _ _ rfl w.heap.size (.slice Aq (lanesL mask j).length cq) (lanesL mask j).length _ rfl HQ.out wr.heap.size 1 [.int .i64 (j : Int)] rfl rfl rfl rfl (by decide) (by omega) hp.size ?_); intro q' wq hq' hgq _; have HQ' := Lib.hid hq'; have HPQ := Lib.hid (Pure.grown hp hgq (fun g hg => (HQ.out.lt g hg).1)); clear hq' hgq)
        go_roundg (8 - (j + 1))
        case measure => have := Hgk.out; omega
        case rel =>
          refine ⟨j + 1, by have := Hgk.out; omega, by go_num, ?_, HPQ.out⟩
          rw [Hnext.out]
          have := HQ'.out
          simpa using this
    · have hjl : j = 8 := by omega
      subst hjl
      go_wp2
      go_ret
      exact ⟨_, rfl, HQ.out, hp⟩

/-- Where a run of the program lies, and what it does not change. -/
structure IObj where
  rm : RMo
  w0 : World
  cs : List Cd
  vl : Value
  va : Value
  vo : Value
  pm : Nat
  p : Nat
  look : Value

def accsL (A : List Ac) : List Value := A.flatMap fun x => [.int .i64 (x.who : Nat), .int .i64 (x.cell : Nat), .bool x.wr, .int .i64 (x.ph : Nat)]
theorem accsL_append (A : List Ac) (x : Ac) : accsL (A ++ [x]) = accsL A ++ [.int .i64 (x.who : Nat), .int .i64 (x.cell : Nat), .bool x.wr, .int .i64 (x.ph : Nat)] := by
  simp [accsL]
def beatsI (H : List (Nat × Nat × (Nat → Nat → Int))) : List Value := H.flatMap fun x => [.int .i64 (x.1 : Nat), .int .i64 (x.2.1 : Nat)]
theorem beatsI_append (H : List (Nat × Nat × (Nat → Nat → Int))) (x : Nat × Nat × (Nat → Nat → Int)) : beatsI (H ++ [x]) = beatsI H ++ [.int .i64 (x.1 : Nat), .int .i64 (x.2.1 : Nat)] := by
  simp [beatsI]
def lockC (o : IObj) (vb va : Value) (ph : Nat) : Array Value := #[.pointer (some ⟨o.pm, 0, none⟩), o.rm.vr, o.rm.vm, vb, va, .int .i64 (ph : Nat), o.look]
def Lock7 (o : IObj) (w : World) (vb va : Value) (ph : Nat) : Prop := w.heap[o.p]? = some (.cells (lockC o vb va ph) 71 (0, 0))
section
variable {o : IObj} {w w' : World} {vb va : Value} {ph : Nat}
theorem Lock7.cell (h : Lock7 o w vb va ph) (i : Nat) : w.cell? ⟨o.p, i, none⟩ = (lockC o vb va ph)[i]? := cell_of_row w o.p i _ _ _ h
theorem Lock7.frozen (h : Lock7 o w vb va ph) (i : Nat) : w.frozen? ⟨o.p, i, none⟩ = false := frozen_of_row w o.p i _ _ h
theorem Lock7.lt (h : Lock7 o w vb va ph) : o.p < w.heap.size := (Array.getElem?_eq_some_iff.1 h).1
theorem Lock7.facts (h : Lock7 o w vb va ph) : w.cell? ⟨o.p, 0, none⟩ = some (.pointer (some ⟨o.pm, 0, none⟩)) ∧ w.cell? ⟨o.p, 1, none⟩ = some o.rm.vr ∧ w.cell? ⟨o.p, 2, none⟩ = some o.rm.vm ∧ w.cell? ⟨o.p, 3, none⟩ = some vb ∧
    w.cell? ⟨o.p, 4, none⟩ = some va ∧ w.cell? ⟨o.p, 5, none⟩ = some (.int .i64 (ph : Nat)) ∧ w.cell? ⟨o.p, 6, none⟩ = some o.look :=
  ⟨h.cell 0, h.cell 1, h.cell 2, h.cell 3, h.cell 4, h.cell 5, h.cell 6⟩
theorem Lock7.chg {S : Nat → Prop} (h : Lock7 o w vb va ph) (hc : Chg S w w') (hn : ¬ S o.p) : Lock7 o w' vb va ph := hc.heap h hn
theorem Lock7.pure (h : Lock7 o w vb va ph) (hp : Pure w w') : Lock7 o w' vb va ph := h.chg (S := fun _ => False) (Chg.of_pure hp) id
theorem Lock7.setBeats (h : Lock7 o w vb va ph) (v : Value) : Lock7 o (w.setCell ⟨o.p, 3, none⟩ v) v va ph := by
  unfold Lock7; rw [heap_setCell_same w o.p 3 _ _ v h]; rfl
theorem Lock7.setAccs (h : Lock7 o w vb va ph) (v : Value) : Lock7 o (w.setCell ⟨o.p, 4, none⟩ v) vb v ph := by
  unfold Lock7; rw [heap_setCell_same w o.p 4 _ _ v h]; rfl
theorem Lock7.setPh (h : Lock7 o w vb va ph) (q : Nat) : Lock7 o (w.setCell ⟨o.p, 5, none⟩ (.int .i64 (q : Nat))) vb va q := by
  unfold Lock7; rw [heap_setCell_same w o.p 5 _ _ _ h]; rfl
theorem Lock7.apart {R : Nat → Nat → Int} {M : Nat → Int} (h : Lock7 o w vb va ph) (hr : RM o.rm w R M) : ¬ o.rm.own o.p ∧ o.p ≠ o.rm.gr ∧ o.p ≠ o.rm.gm ∧ ∀ k, k < o.rm.n → o.p ≠ o.rm.rows k := by
  have hgm : o.p ≠ o.rm.gm := fun e => hr.mem.ne_heap h (by decide) o.rm.gm rfl e.symm
  have hrow : ∀ k, k < o.rm.n → o.p ≠ o.rm.rows k := fun k hk => ne_of_heap h (hr.row k hk) (by decide)
  obtain ⟨cur, b1, _⟩ := hr.outer
  refine ⟨?_, ne_of_heap h b1 (by decide), hgm, hrow⟩
  rintro (⟨k, hk, e⟩ | e)
  · exact hrow k hk e
  · exact hgm e
end

/-- The run under way. -/
structure ORun (o : IObj) (w : World) (vb va : Value) (s : LS) : Prop where
  pure : Pure o.w0 w
  codes : Codes o.w0 o.vl o.cs
  mach : o.w0.cell? ⟨o.pm, 0, none⟩ = some o.vl ∧ o.w0.cell? ⟨o.pm, 1, none⟩ = some o.vo
  tabs : Tabs o.w0 o.va o.vo o.cs
  base : o.rm.B = o.w0.heap.size
  rm : RM o.rm w s.R s.M
  n1 : 1 ≤ o.rm.n
  obj : Lock7 o w vb va s.P
  plo : o.w0.heap.size ≤ o.p
  bt : OwnO w o.w0.heap.size 44 2 vb s.H.length (beatsI s.H)
  ac : OwnO w o.w0.heap.size 76 4 va s.A.length (accsL s.A)
  good : Good s
def IObj.own (o : IObj) (vb va : Value) (k : Nat) : Prop := k = o.p ∨ o.rm.own k ∨ vb.ownBlock = some k ∨ va.ownBlock = some k

section
variable {o : IObj} {w w' : World} {vb va vb' va' : Value} {s : LS}
theorem ORun.keep (h : ORun o w vb va s) (hp : Pure w w') : ORun o w' vb va s :=
  ⟨h.pure.trans hp, h.codes, h.mach, h.tabs, h.base, h.rm.pure hp, h.n1, h.obj.pure hp, h.plo, h.bt.pure hp, h.ac.pure hp, h.good⟩
theorem ORun.own_lo (h : ORun o w vb va s) : ∀ k, o.own vb va k → o.w0.heap.size ≤ k := by
  rintro k (rfl | hk | hk | hk)
  · exact h.plo
  · rw [← h.base]; exact h.rm.own_lo k hk
  · exact (h.bt.lt k hk).1
  · exact (h.ac.lt k hk).1
theorem ORun.own_hi (h : ORun o w vb va s) : ∀ k, o.own vb va k → k < w.heap.size := by
  rintro k (rfl | (⟨l, hl, rfl⟩ | rfl) | hk | hk)
  · exact h.obj.lt
  · exact (Array.getElem?_eq_some_iff.1 (h.rm.row l hl)).1
  · exact h.rm.gmlo.2
  · exact (h.bt.lt k hk).2
  · exact (h.ac.lt k hk).2
theorem ORun.bt_ne (h : ORun o w vb va s) : ∀ k, vb.ownBlock = some k → k ≠ o.p ∧ k ≠ o.rm.gr ∧ ¬ o.rm.own k ∧ va.ownBlock ≠ some k := by
  intro k hk
  obtain ⟨cur, b1, _⟩ := h.rm.outer
  refine ⟨h.bt.ne_heap h.obj (by decide) k hk, h.bt.ne_heap b1 (by decide) k hk, ?_, fun e => h.bt.ne h.ac (by decide) k hk e.symm⟩
  rintro (⟨l, hl, e⟩ | e)
  · exact h.bt.ne_heap (h.rm.row l hl) (by decide) k hk e
  · exact h.bt.ne h.rm.mem (by decide) k hk (by rw [e]; rfl)
theorem ORun.ac_ne (h : ORun o w vb va s) : ∀ k, va.ownBlock = some k → k ≠ o.p ∧ k ≠ o.rm.gr ∧ ¬ o.rm.own k ∧ vb.ownBlock ≠ some k := by
  intro k hk
  obtain ⟨cur, b1, _⟩ := h.rm.outer
  refine ⟨h.ac.ne_heap h.obj (by decide) k hk, h.ac.ne_heap b1 (by decide) k hk, ?_, fun e => h.ac.ne h.bt (by decide) k hk e.symm⟩
  rintro (⟨l, hl, e⟩ | e)
  · exact h.ac.ne_heap (h.rm.row l hl) (by decide) k hk e
  · exact h.ac.ne h.rm.mem (by decide) k hk (by rw [e]; rfl)

/-- What happens to the run's blocks between two worlds. -/
def OStep (o : IObj) (w : World) (vb va : Value) (w' : World) (vb' va' : Value) : Prop := Chg (o.own vb va) w w' ∧ Lies w vb vb' ∧ Lies w va va'
theorem OStep.refl (o : IObj) (w : World) (vb va : Value) : OStep o w vb va w vb va := ⟨Chg.refl _ _, fun g h => .inl h, fun g h => .inl h⟩
theorem OStep.trans {a b c : World} {u v x u' v' x' : Value} (h : OStep o a u u' b v v') (k : OStep o b v v' c x x') : OStep o a u u' c x x' := by
  refine ⟨h.1.trans' k.1 fun i hi hs => ?_, fun g hg => ?_, fun g hg => ?_⟩
  · rcases hs with hs | hs | hs | hs
    · exact .inl hs
    · exact .inr (.inl hs)
    · rcases h.2.1 i hs with h2 | h2
      · exact .inr (.inr (.inl h2))
      · omega
    · rcases h.2.2 i hs with h2 | h2
      · exact .inr (.inr (.inr h2))
      · omega
  · rcases k.2.1 g hg with h2 | h2
    · exact h.2.1 g h2
    · exact .inr (Nat.le_trans h.1.size h2)
  · rcases k.2.2 g hg with h2 | h2
    · exact h.2.2 g h2
    · exact .inr (Nat.le_trans h.1.size h2)
theorem OStep.of_pure {a b : World} {u v : Value} (h : Pure a b) : OStep o a u v b u v := ⟨Chg.of_pure h, fun g hg => .inl hg, fun g hg => .inl hg⟩

/-- A step is noted. -/
theorem ORun.beat {i mask : Nat} (h : ORun o w vb va s) (hp : Pure w w') {wq : World} (ht : OwnO wq o.w0.heap.size 44 2 vb' (s.H.length + 1) (beatsI s.H ++ [.int .i64 (i : Nat), .int .i64 (mask : Nat)]))
    (hg : w'.grownBy wq vb.ownBlock) (hl : Lies w' vb vb') :
    ORun o (wq.setCell ⟨o.p, 3, none⟩ vb') vb' va (beat i mask s) ∧ OStep o w vb va (wq.setCell ⟨o.p, 3, none⟩ vb') vb' va := by
  have h' := h.keep hp
  have hc : Chg (fun k => vb.ownBlock = some k) w' wq := Chg.of_grown hg (fun k hk => hk)
  have hc2 : Chg (fun k => k = o.p) wq (wq.setCell ⟨o.p, 3, none⟩ vb') := Chg.of_set wq _ _ _ rfl
  have hne := h'.bt_ne
  have hap := h'.obj.apart h'.rm
  have hrm : RM o.rm wq s.R s.M := h'.rm.chg hc (fun e => (hne _ e).2.1 rfl) (fun k hk e => (hne _ e).2.2.1 (.inl ⟨k, hk, rfl⟩)) (fun e => (hne _ e).2.2.1 (.inr rfl))
  have hob : Lock7 o wq vb va s.P := h'.obj.chg hc (fun e => (hne _ e).1 rfl)
  have hac : OwnO wq o.w0.heap.size 76 4 va s.A.length (accsL s.A) := h'.ac.chg hc (fun g hg e => (h'.ac_ne g hg).2.2.2 e)
  have hpq : Pure o.w0 wq := Chg.pure h'.pure hc (fun k hk => (h'.bt.lt k hk).1)
  have hbt : OwnO wq o.w0.heap.size 44 2 vb' (Proofs.Ytokdfgodmhekmaa.beat i mask s).H.length (beatsI (Proofs.Ytokdfgodmhekmaa.beat i mask s).H) := by
    show OwnO wq o.w0.heap.size 44 2 vb' (s.H ++ [(i, mask, s.R)]).length (beatsI (s.H ++ [(i, mask, s.R)]))
    rw [beatsI_append]; simpa using ht
  refine ⟨⟨Chg.pure hpq hc2 (fun k hk => by rw [hk]; exact h.plo), h.codes, h.mach, h.tabs, h.base, ?_, h.n1, hob.setBeats vb', h.plo, ?_, ?_, h.good.beat i mask⟩, ?_, fun g hg2 => ?_, fun g hg => .inl hg⟩
  · exact hrm.chg hc2 (fun e => hap.2.1 e.symm) (fun k hk e => hap.2.2.2 k hk e.symm) (fun e => hap.2.2.1 e.symm)
  · exact hbt.chg hc2 (fun g hg3 e => hbt.ne_heap hob (by decide) g hg3 e)
  · exact hac.chg hc2 (fun g hg3 e => hac.ne_heap hob (by decide) g hg3 e)
  · exact ((Chg.of_pure hp).trans ((hc.mono fun k hk => .inr (.inr (.inl hk))).trans (hc2.mono fun k hk => .inl hk)))
  · rcases hl g hg2 with h1 | h1
    · exact .inl h1
    · exact .inr (Nat.le_trans hp.size h1)
/-- An access is noted. -/
theorem ORun.acc {x : Ac} (h : ORun o w vb va s) (hp : Pure w w') {wq : World} (ht : OwnO wq o.w0.heap.size 76 4 va' (s.A.length + 1) (accsL s.A ++ [.int .i64 (x.who : Nat), .int .i64 (x.cell : Nat), .bool x.wr, .int .i64 (x.ph : Nat)]))
    (hg : w'.grownBy wq va.ownBlock) (hl : Lies w' va va') :
    ORun o (wq.setCell ⟨o.p, 4, none⟩ va') vb va' { s with A := s.A ++ [x] } ∧ OStep o w vb va (wq.setCell ⟨o.p, 4, none⟩ va') vb va' := by
  have h' := h.keep hp
  have hc : Chg (fun k => va.ownBlock = some k) w' wq := Chg.of_grown hg (fun k hk => hk)
  have hc2 : Chg (fun k => k = o.p) wq (wq.setCell ⟨o.p, 4, none⟩ va') := Chg.of_set wq _ _ _ rfl
  have hne := h'.ac_ne
  have hap := h'.obj.apart h'.rm
  have hrm : RM o.rm wq s.R s.M := h'.rm.chg hc (fun e => (hne _ e).2.1 rfl) (fun k hk e => (hne _ e).2.2.1 (.inl ⟨k, hk, rfl⟩)) (fun e => (hne _ e).2.2.1 (.inr rfl))
  have hob : Lock7 o wq vb va s.P := h'.obj.chg hc (fun e => (hne _ e).1 rfl)
  have hbt : OwnO wq o.w0.heap.size 44 2 vb s.H.length (beatsI s.H) := h'.bt.chg hc (fun g hg e => (h'.bt_ne g hg).2.2.2 e)
  have hpq : Pure o.w0 wq := Chg.pure h'.pure hc (fun k hk => (h'.ac.lt k hk).1)
  have hac : OwnO wq o.w0.heap.size 76 4 va' (s.A ++ [x]).length (accsL (s.A ++ [x])) := by
    rw [accsL_append]; simpa using ht
  refine ⟨⟨Chg.pure hpq hc2 (fun k hk => by rw [hk]; exact h.plo), h.codes, h.mach, h.tabs, h.base, ?_, h.n1, hob.setAccs va', h.plo, ?_, ?_, h.good⟩, ?_, fun g hg => .inl hg, fun g hg2 => ?_⟩
  · exact hrm.chg hc2 (fun e => hap.2.1 e.symm) (fun k hk e => hap.2.2.2 k hk e.symm) (fun e => hap.2.2.1 e.symm)
  · exact hbt.chg hc2 (fun g hg3 e => hbt.ne_heap hob (by decide) g hg3 e)
  · exact hac.chg hc2 (fun g hg3 e => hac.ne_heap hob (by decide) g hg3 e)
  · exact ((Chg.of_pure hp).trans ((hc.mono fun k hk => .inr (.inr (.inr hk))).trans (hc2.mono fun k hk => .inl hk)))
  · rcases hl g hg2 with h1 | h1
    · exact .inl h1
    · exact .inr (Nat.le_trans hp.size h1)
/-- A lane has executed an instruction (its access is noted already). -/
theorem ORun.lane {k : Nat} {c : Cd} (h : ORun o w vb va s) (hk : k < o.rm.n) (hc : CdOk c) (hr : RM o.rm w' (upR s.R k (simR c k o.rm.m (s.R k) s.M)) (simM c o.rm.m (s.R k) s.M)) (hch : Chg (o.rm.lane k) w w') :
    ORun o w' vb va { lane1 c o.rm.m k s with A := s.A } ∧ OStep o w vb va w' vb va := by
  have hlo : ∀ b, o.rm.lane k b → o.rm.own b := by
    rintro b (hb | hb)
    · exact .inl ⟨k, hk, hb⟩
    · exact .inr hb
  have hap := h.obj.apart h.rm
  have hn8 := h.rm.n8
  refine ⟨⟨Chg.pure h.pure hch (fun b hb => by rw [← h.base]; exact h.rm.lane_lo hk b hb), h.codes, h.mach, h.tabs, h.base, hr, h.n1, h.obj.chg hch (fun e => hap.1 (hlo _ e)), h.plo, h.bt.chg hch (fun g hg e => (h.bt_ne g hg).2.2.1 (hlo _ e)), h.ac.chg hch (fun g hg e => (h.ac_ne g hg).2.2.1 (hlo _ e)), h.good.lane1 hc (by omega)⟩,
    hch.mono fun b hb => .inr (.inl (hlo b hb)), fun g hg => .inl hg, fun g hg => .inl hg⟩
/-- The phase is written. -/
theorem ORun.phase (h : ORun o w vb va s) (q : Nat) : ORun o (w.setCell ⟨o.p, 5, none⟩ (.int .i64 (q : Nat))) vb va { s with P := q } ∧ OStep o w vb va (w.setCell ⟨o.p, 5, none⟩ (.int .i64 (q : Nat))) vb va := by
  have hc : Chg (fun k => k = o.p) w (w.setCell ⟨o.p, 5, none⟩ (.int .i64 (q : Nat))) := Chg.of_set w _ _ _ rfl
  have hap := h.obj.apart h.rm
  refine ⟨⟨Chg.pure h.pure hc (fun k hk => by rw [hk]; exact h.plo), h.codes, h.mach, h.tabs, h.base, h.rm.chg hc (fun e => hap.2.1 e.symm) (fun k hk e => hap.2.2.2 k hk e.symm) (fun e => hap.2.2.1 e.symm), h.n1, h.obj.setPh q, h.plo, h.bt.chg hc (fun g hg e => (h.bt_ne g hg).1 e), h.ac.chg hc (fun g hg e => (h.ac_ne g hg).1 e), h.good⟩, hc.mono fun k hk => .inl hk, fun g hg => .inl hg, fun g hg => .inl hg⟩
theorem IObj.own_lies {u v q q' : Value} {W : World} {g : Nat} (h : ¬ o.own u v g) (hl : Lies W u q) (hl' : Lies W v q') (hg : g < W.heap.size) : ¬ o.own q q' g := by
  rintro (e | e | e | e)
  · exact h (.inl e)
  · exact h (.inr (.inl e))
  · rcases hl g e with h2 | h2
    · exact h (.inr (.inr (.inl h2)))
    · omega
  · rcases hl' g e with h2 | h2
    · exact h (.inr (.inr (.inr h2)))
    · omega
end

set_option maxHeartbeats 1000000 in
theorem iact_any (o : IObj) (w : World) (vb va : Value) (ph : Nat) (R : Nat → Nat → Int) (M : Nat → Int) (mask an : Nat) (ho : Lock7 o w vb va ph) (h : RM o.rm w R M) (hmn : mask < 2 ^ o.rm.n) (ha : an < 4) :
    Calls Try.prog 104 #[.pointer (some ⟨o.p, 0, none⟩), .int .i64 mask, .int .i64 an] w fun e w' => e = .returned (.int .i64 (onesTo R mask an o.rm.n : Nat)) ∧ Pure w w' := by
  have H := Lib.hid h
  have HOB := Lib.hid ho
  have HMN := Lib.hid hmn
  have hn8 := h.n8
  have hcr := h.cr1
  have hcr2 := h.cr2
  have hm256 : mask < 256 := Nat.lt_of_lt_of_le hmn (powI hn8)
  have ha0 : (0 : Int) ≤ (an : Int) := by omega
  have ha4 : (an : Int) < 4 := by omega
  clear h ho hmn
  go_enter Try.func104, Try.ntmps104
  go_wp2_with fail
  refine (ilanes_any mask hm256 _).mono ?_
  rintro e w1 ⟨v, rfl, hv, hp1⟩
  have HV := Lib.hid hv
  obtain ⟨Av, cv, rfl⟩ := hv.form
  clear hv
  have hl8 := lanesL_len mask 8
  obtain ⟨L, HL⟩ : ∃ L, Hid (lanesL mask 8 = L) := ⟨_, rfl⟩
  rw [HL.out] at HV hl8 ⊢
  have HP1 := Lib.hid hp1
  clear hp1
  go_wp2_with fail
  go_loopg [13, 7] L.length (fun gk i q wr => ∃ j : Nat, gk + j = L.length ∧ i = .int .i64 j ∧ q = .int .i64 (onesL R an (L.take j) : Nat) ∧ wr = w1)
  case atStart => exact ⟨0, rfl, rfl, rfl, rfl⟩
  case round =>
    obtain ⟨j, hgk, rfl, rfl, rfl⟩ := hrel
    have Hgk := Lib.hid hgk
    have hjn : j ≤ L.length := by omega
    clear hgk
    have hq256 : onesL R an (L.take j) < 2 ^ 8 := onesL_lt R an (n := 8) _ (fun k hk => by have := List.mem_of_mem_take hk; rw [← HL.out] at this; exact (lanesL_mem this).1)
    obtain ⟨q, Hq⟩ : ∃ q, Hid (onesL R an (L.take j) = q) := ⟨_, rfl⟩
    rw [Hq.out] at hq256 ⊢
    by_cases hlt : j < L.length
    · obtain ⟨g, off, c', hv, h1, h2, h3, h4⟩ := HV.out.formSome (by omega)
      injection hv with e1 e2 e3
      subst e1 e3
      obtain ⟨k, hk⟩ : ∃ k, L[j]? = some k := ⟨L[j], List.getElem?_eq_getElem hlt⟩
      have c0 := HV.out.cell j (by omega)
      rw [List.getElem?_map, hk] at c0
      have hkm : k ∈ lanesL mask 8 := by rw [HL.out]; exact List.mem_of_getElem? hk
      have hkn : k < o.rm.n := lanesL_lt HMN.out hkm
      have hnext : onesL R an (L.take (j + 1)) = if R k an = 0 then q else q ||| 2 ^ k := by rw [take_snoc' hk, onesL_snoc, Hq.out]
      simp only [Option.map_some] at c0
      have hk0 : (0 : Int) ≤ (k : Int) := by omega
      have hk1 : (k : Int) < (o.rm.n : Int) := by omega
      obtain ⟨p0, p1, p2, p3, p4, p5, p6⟩ := (HOB.out.pure HP1.out).facts
      have q1 := (H.out.pure HP1.out).outerCell hkn
      have q2 := (H.out.pure HP1.out).regCell hkn ha
      unfold RMo.vr at p1
      unfold RMo.row at q1
      have hs := shlI (j := k) (by omega)
      have hor : bits .or .i64 (q : Int) ((2 ^ k : Nat) : Int) = ((q ||| 2 ^ k : Nat) : Int) := bits_or (by omega) (by have := powI (show k ≤ 8 by omega); omega)
      obtain ⟨x, Hx⟩ : ∃ x, Hid (R k an = x) := ⟨_, rfl⟩
      rw [Hx.out] at q2 hnext
      obtain ⟨s, Hs⟩ : ∃ s, Hid (2 ^ k = s) := ⟨2 ^ k, Lib.hid rfl⟩
      rw [Hs.out] at hs hor hnext
      clear hk hkm p0 p2 p3 p4 p5 p6
      by_cases hx : x = 0
      · have hxb : (x != 0) = false := by rw [bne_eq_false_iff_eq]; exact hx
        have Hnext : Hid (onesL R an (L.take (j + 1)) = q) := Lib.hid (by rw [hnext, if_pos hx])
        clear hnext hx
        go_wp2
        go_roundg (L.length - (j + 1))
        case measure => have := Hgk.out; omega
        case rel => exact ⟨j + 1, by have := Hgk.out; omega, by go_num, by rw [Hnext.out], rfl⟩
      · have hxb : (x != 0) = true := by rw [bne_iff_ne]; exact hx
        obtain ⟨q', Hq'⟩ : ∃ q', Hid (q ||| s = q') := ⟨_, rfl⟩
        rw [Hq'.out] at hor hnext
        have Hnext : Hid (onesL R an (L.take (j + 1)) = q') := Lib.hid (by rw [hnext, if_neg hx])
        clear hnext hx
        go_wp2
        go_roundg (L.length - (j + 1))
        case measure => have := Hgk.out; omega
        case rel => exact ⟨j + 1, by have := Hgk.out; omega, by go_num, by rw [Hnext.out], rfl⟩
    · have hjl : j = L.length := by omega
      have hfin : q = onesTo R mask an o.rm.n := by
        rw [← Hq.out, hjl, List.take_length, ← HL.out, onesL_eq, onesTo_stop R HMN.out 8 hn8]
      have Hfin := Lib.hid hfin
      clear hfin
      go_wp2
      go_ret
      exact ⟨ret_int (by rw [← Hfin.out]), HP1.out⟩

end Go.Proofs.Ytokdfgodmhekmaa
