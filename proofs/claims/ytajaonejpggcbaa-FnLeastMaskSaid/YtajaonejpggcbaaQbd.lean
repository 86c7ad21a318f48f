/- A step of the reference's lane: a copy is stepped, and the memory. Lanes that run by themselves come to the end, soon enough; there they leave what lockstep leaves. No program in sight. The laws' helpers on steps and accesses: equal ones are found equal; marks are written and found. The program's lanes at the least place, and their steps. No condition. -/
import Derived.Test.YtajaonejpggcbaaQaa
import Derived.Test.YtajaonejpggcbaaQad
import Derived.Test.YtajaonejpggcbaaQae
import Derived.Test.YtajaonejpggcbaaQaf
import Derived.Test.YtajaonejpggcbaaQag
import Derived.Test.YtajaonejpggcbaaQah
import Derived.Test.YtajaonejpggcbaaQaj
import Derived.Test.YtajaonejpggcbaaQba
import Derived.Test.YtajaonejpggcbaaQbb
import Derived.Test.YtajaonejpggcbaaQbc

namespace Go.Proofs.Ytajaonejpggcbaa
open Go.RowKit

/-- A lane in blocks of one's own, the turns cut off anywhere. -/
def LnB (w : World) (B : Nat) (vr vt : Value) (l : Ln) : Prop := (∃ g c, vr = .slice (some ⟨g, 0, none⟩) 4 c) ∧ OwnO w B 3 1 vr 4 (regL l) ∧ OwnO w B 3 1 vt l.T.length (trnL l)
theorem LnB.chg {S : Nat → Prop} {w w' : World} {B : Nat} {vr vt : Value} {l : Ln} (h : LnB w B vr vt l) (hc : Chg S w w') (h1 : ∀ g, vr.ownBlock = some g → ¬ S g) (h2 : ∀ g, vt.ownBlock = some g → ¬ S g) : LnB w' B vr vt l := ⟨h.1, h.2.1.chg hc h1, h.2.2.chg hc h2⟩
theorem LnB.read {w : World} {B : Nat} {vr vt : Value} {l : Ln} (h : LnB w B vr vt l) : LnR w vr vt l :=
  ⟨Cells.of_ownO h.2.1 (fun j hj => by
      have : j = 0 ∨ j = 1 ∨ j = 2 ∨ j = 3 := by omega
      rcases this with rfl | rfl | rfl | rfl <;> rfl),
   Cells.of_ownO h.2.2 (fun j hj => by
      have : j < l.T.length := by omega
      simp [trnL, List.getD_eq_getElem?_getD, this])⟩
structure SMem (w : World) (B gm m cm : Nat) (M : Nat → Int) : Prop where
  m1 : 1 ≤ m
  m32 : m ≤ 32
  own : OwnO w B 3 1 (.slice (some ⟨gm, 0, none⟩) m cm) m (memL m M)
  good : ∀ j, Word (M j)
def StepLP (w : World) (B gm m cm : Nat) (l : Ln) (M : Nat → Int) (e : Ending) (w' : World) : Prop :=
  ∃ vr vt, e = .returned (lnV vr vt l) ∧ LnB w' w.heap.size vr vt l ∧ SMem w' B gm m cm M ∧ Chg (fun b => b = gm) w w'

def SOut (w w2 : World) (b : Nat) : Prop := b = w.heap.size + 1 ∨ w2.heap.size ≤ b
theorem step_pure {w _wb w2 wf : World} (hp : Pure w w2) (hc : Chg (SOut w w2) w2 wf) : Pure w wf := Chg.pure hp hc (fun k hk => by
  rcases hk with h | h
  · omega
  · exact Nat.le_trans hp.size h)
theorem step_same {w wb w2 wf : World} {B gm m cm : Nat} {vr vt : Value} {l l' : Ln} {M : Nat → Int} (hp : Pure w wb) (hs : wb.heap.size = w.heap.size + 2) (h2 : LnO wb w2 wb.heap.size vr vt l) (hv : ∃ g c, vr = .slice (some ⟨g, 0, none⟩) 4 c) (hm : SMem w B gm m cm M)
    (hc : Chg (SOut w w2) w2 wf) (hR : l'.R = l.R) (hT : l'.T = l.T) : StepLP w B gm m cm l' M (.returned (lnV vr vt l')) wf := by
  have hpf : Pure w wf := step_pure (_wb := wb) (hp.trans h2.pure) hc
  have e1 : regL l' = regL l := by unfold regL; rw [hR]
  have e2 : trnL l' = trnL l := by unfold trnL; rw [hT]
  refine ⟨vr, vt, rfl, ⟨hv, ?_, ?_⟩, ⟨hm.m1, hm.m32, hm.own.pure hpf, hm.good⟩, Chg.of_pure hpf⟩
  · rw [e1]
    refine OwnO.base' ((OwnO.of_own h2.l).chg hc fun g hg e => ?_) (show w.heap.size ≤ wb.heap.size by omega)
    have := own_lt h2.l g hg
    rcases e with e | e <;> omega
  · rw [e2, hT]
    refine OwnO.base' ((OwnO.of_own h2.r).chg hc fun g hg e => ?_) (show w.heap.size ≤ wb.heap.size by omega)
    have := own_lt h2.r g hg
    rcases e with e | e <;> omega
theorem step_gen {w w5 wf : World} {S : Nat → Prop} {B gm m cm : Nat} {vr vt : Value} {l' : Ln} {M : Nat → Int} (hv : ∃ g c, vr = .slice (some ⟨g, 0, none⟩) 4 c) (hm : SMem w B gm m cm M) (hpf : Pure w w5) (hS : ∀ b, S b → w.heap.size ≤ b)
    (hr : OwnO w5 w.heap.size 3 1 vr 4 (regL l')) (ht : OwnO w5 w.heap.size 3 1 vt l'.T.length (trnL l')) (hc : Chg S w5 wf) (h1 : ∀ g, vr.ownBlock = some g → ¬ S g) (h2 : ∀ g, vt.ownBlock = some g → ¬ S g) : StepLP w B gm m cm l' M (.returned (lnV vr vt l')) wf := by
  have hpf : Pure w wf := Chg.pure hpf hc hS
  exact ⟨vr, vt, rfl, ⟨hv, hr.chg hc h1, ht.chg hc h2⟩, ⟨hm.m1, hm.m32, hm.own.pure hpf, hm.good⟩, Chg.of_pure hpf⟩
theorem OwnO.lift {w : World} {B B' e s n : Nat} {v : Value} {xs : List Value} (h : OwnO w B e s v n xs) (hB : ∀ g, v.ownBlock = some g → B' ≤ g) : OwnO w B' e s v n xs := by
  refine ⟨h.1, ?_⟩
  rcases h.2 with q | ⟨g, off, cap, cur, rfl, q1, q2, q3⟩
  · exact .inl q
  · exact .inr ⟨g, off, cap, cur, rfl, hB g rfl, q2, q3⟩
theorem step_simple {w wb w2 wz w3 wf : World} {B gm m cm g2 c2 ik a : Nat} {vt : Value} {l : Ln} {M : Nat → Int} {x : Cd} (hp2 : Pure w w2) (hpz : Pure w2 wz) (hch : Chg (fun b => b = g2 ∨ b = gm) wz w3) (h1 : w.heap.size + 2 ≤ g2) (hgm : gm < w.heap.size) (hm : SMem w B gm m cm M) (hR : ∀ r, Word (l.R r))
    (hrm : Lw.RM ⟨0, ik, m, gm, cm, c2, fun _ => g2⟩ w3 (upR (fun _ => l.R) ik (simR x ik m l.R M)) (simM x m l.R M)) (h2 : LnO wb w2 wb.heap.size (.slice (some ⟨g2, 0, none⟩) 4 c2) vt l) (hwb : w.heap.size + 2 ≤ wb.heap.size) (hc : Chg (fun b => b = w.heap.size + 1) w3 wf) :
    StepLP w B gm m cm { l with R := simR x ik m l.R M, at_ := a + 1 } (simM x m l.R M) (.returned (lnV (.slice (some ⟨g2, 0, none⟩) 4 c2) vt { l with R := simR x ik m l.R M, at_ := a + 1 })) wf := by
  have hgB := (hm.own.lt gm rfl).1
  have hrow := hrm.row
  have hmem := hrm.mem
  have e : upR (fun _ => l.R) ik (simR x ik m l.R M) ik = simR x ik m l.R M := if_pos rfl
  simp only [e] at hrow
  refine ⟨_, vt, rfl, ⟨⟨_, _, rfl⟩, ?_, ?_⟩, ⟨hm.m1, hm.m32, ?_, simM_word hR hm.good⟩, ?_⟩
  · refine (OwnO.lift hrow fun g hg => ?_).chg hc fun g hg e => ?_
    · have hg2 : some g2 = some g := hg
      injection hg2 with hg2; omega
    · have hg2 : some g2 = some g := hg
      injection hg2 with hg2; omega
  · have ht := (OwnO.of_own h2.r).pure hpz
    refine ((OwnO.base' ht (by omega)).chg hch fun g hg e => ?_).chg hc fun g hg e => ?_
    · have := own_lt h2.r g hg
      rcases e with e | e
      · exact h2.ne g2 rfl (by rw [hg, e])
      · omega
    · have := own_lt h2.r g hg; omega
  · refine (OwnO.lift hmem fun g hg => ?_).chg hc fun g hg e => ?_
    · have hg2 : some gm = some g := hg
      injection hg2 with hg2; omega
    · have hg2 : some gm = some g := hg
      injection hg2 with hg2; omega
  · have c1 : Chg (fun b => b = gm) w wz := Chg.of_pure (hp2.trans hpz)
    exact (c1.trans' hch (fun i hi e => by rcases e with e | e <;> omega)).trans' hc (fun i hi e => by omega)
theorem lnStep_bar {cs : List Cd} {m id : Nat} {l : Ln} {M : Nat → Int} (h : (cs.getD l.at_ default).op = 10) : lnStep cs m id l M = { l with at_ := l.at_ + 1, W := true } := by
  unfold lnStep; simp only; rw [if_pos h]

set_option maxHeartbeats 4000000 in
set_option maxRecDepth 100000 in
theorem l6step_any (vl : Value) (cs : List Cd) (ik : Nat) (gm m cm B : Nat) (vr vt : Value) (l : Ln) (M : Nat → Int) (w : World) (hc : Codes w vl cs) (hv : PValid cs) (h : LnR w vr vt l) (hm : SMem w B gm m cm M) (hid : ik < 8) (hlt : l.at_ < cs.length)
    (htl : l.T.length ≤ 40) (htb : ∀ x ∈ l.T, (0 : Int) ≤ x ∧ x ≤ 3) (htn : (cs.getD l.at_ default).op = 14 → (cs.getD (aroundAt cs l.at_).toNat default).op = 13 → 0 < l.T.length) (hR : ∀ r, Word (l.R r)) (hW : l.W = false) :
    Calls Try.prog 93 #[lnV vr vt l, vl, .int .i64 (ik : Nat), .slice (some ⟨gm, 0, none⟩) m cm] w (StepLP w B gm m cm (lnStep cs m ik l M) (lnMem cs m l M)) := by
  have HC := Lib.hid hc
  have HV := Lib.hid hv
  have HL := Lib.hid h
  have HM := Lib.hid hm
  have HTB := Lib.hid htb
  have HTN := Lib.hid htn
  have HG := Lib.hid hR
  have h40 := hv.2.1
  obtain ⟨Ac, cc, rfl, hcc1, hcc2⟩ := hc.form
  obtain ⟨⟨Ar, cr, rfl, hcr1, hcr2, hrd0⟩, ⟨At, ct, rfl, hct1, hct2, htd⟩⟩ := h
  obtain ⟨br, orr, rfl, hbr, hrd⟩ := hrd0 (by omega)
  clear hrd0
  have HTD := Lib.hid htd
  clear htd
  obtain ⟨a, Ha⟩ : ∃ a, Hid (l.at_ = a) := ⟨_, Lib.hid rfl⟩
  rw [Ha.out] at hlt
  obtain ⟨b, ob, hvl, hb, hcd⟩ := HC.out.at_ hlt
  subst hvl
  obtain ⟨cd, Hcd⟩ : ∃ cd, Hid (cs.getD a default = cd) := ⟨_, Lib.hid rfl⟩
  rw [Hcd.out] at hcd
  have hx := heap_alloc_new w (.cells #[.slice (some ⟨br, orr, none⟩) 4 cr, .int .i64 (a : Nat), .slice At l.T.length ct, .bool false] 55)
  obtain ⟨wb, Hwb⟩ : ∃ wb, Hid ((w.alloc (.cells #[.slice (some ⟨br, orr, none⟩) 4 cr, .int .i64 (a : Nat), .slice At l.T.length ct, .bool false] 55)).alloc (.cells #[.slice none 0 0, .int .i64 0, .slice none 0 0, .bool false] 55) = wb) := ⟨_, Lib.hid rfl⟩
  have hpb : Pure w wb := by rw [← Hwb.out]; exact (by repeat (first | assumption | exact Pure.refl _ | refine Pure.drewN ?_ _ | refine Pure.drew ?_ | refine Pure.alloc ?_ _ | refine Pure.setCell ?_ (by simp <;> omega) _))
  have HPB := Lib.hid hpb
  have HLB := Lib.hid (HL.out.keep hpb)
  have HCOK : Hid (CdOk cd) := Lib.hid (by rw [← Hcd.out]; exact hv.1 _ (cdOk_mem hlt))
  have HRD := Lib.hid hrd
  clear hc hv hm htb htn hR hpb hrd
  have HWF := Lib.hid hW
  unfold lnV
  rw [Ha.out, hW]
  clear hW
  go_enter Try.func93, Try.ntmps93
  go_wp2_with fail
  rw [Hwb.out]
  have hcp := l6copy_any (.slice (some ⟨br, orr, none⟩) 4 cr) (.slice At l.T.length ct) l wb HLB.out (by omega)
  unfold lnV at hcp
  rw [Ha.out, HWF.out] at hcp
  refine hcp.mono ?_
  clear hcp
  rintro e w2 ⟨vr2, vt2, rfl, h2⟩
  have hp2 := h2.pure
  obtain ⟨g2, c2, hv2, hg21, hg22, hc21, hc22⟩ := own_form h2.l (by omega)
  subst hv2
  obtain ⟨At2, ct2, hv3⟩ := (OwnO.of_own h2.r).form
  subst hv3
  have H2 := Lib.hid h2
  have HP2 := Lib.hid (HPB.out.trans hp2)
  have hbx := (Chg.of_pure (S := fun _ => False) hp2).heap (show wb.heap[w.heap.size]? = _ by rw [← Hwb.out]; exact (Chg.of_pure (S := fun _ => False) (show Pure _ _ from (by repeat (first | assumption | exact Pure.refl _ | refine Pure.drewN ?_ _ | refine Pure.drew ?_ | refine Pure.alloc ?_ _ | refine Pure.setCell ?_ (by simp <;> omega) _)))).heap hx id) id
  have hsb : wb.heap.size = w.heap.size + 2 := by rw [← Hwb.out]; simp
  have hs2 : w.heap.size + 2 ≤ w2.heap.size := by have := hp2.size; omega
  have hbl0 : w.heap.size < w2.heap.size := by omega
  have hbl1 : w.heap.size + 1 < w2.heap.size := by omega
  have q0 := (cell_of_row _ _ 0 _ _ _ hbx).trans (show _ = some (Value.slice (some ⟨br, orr, none⟩) 4 cr) from rfl)
  have q1 := (cell_of_row _ _ 1 _ _ _ hbx).trans (show _ = some (Value.int .i64 (a : Nat)) from rfl)
  have q2 := (cell_of_row _ _ 2 _ _ _ hbx).trans (show _ = some (Value.slice At l.T.length ct) from rfl)
  obtain ⟨op, ca, cb, cx⟩ := cd
  have hcd2 := hcd.keep HP2.out hb
  obtain ⟨c0, c1, c2', c3⟩ := hcd2
  have hb2 := Nat.lt_of_lt_of_le hb HP2.out.size
  have hres : w2.heap[w.heap.size + 1]? = some (.cells #[.slice none 0 0, .int .i64 0, .slice none 0 0, .bool false] 55 (0, 0)) := (Chg.of_pure (S := fun _ => False) hp2).heap (show wb.heap[w.heap.size + 1]? = _ by
    rw [← Hwb.out]
    have := heap_alloc_new (w.alloc (.cells #[.slice (some ⟨br, orr, none⟩) 4 cr, .int .i64 (a : Nat), .slice At l.T.length ct, .bool false] 55)) (.cells #[.slice none 0 0, .int .i64 0, .slice none 0 0, .bool false] 55)
    simpa using this) id
  have HRS := Lib.hid hres
  have ha0 : (0 : Int) ≤ (a : Int) := by omega
  have haI : (a : Int) < (cs.length : Int) := by omega
  unfold lnV
  rw [Ha.out, HWF.out]
  clear hx hcd hres hbx h2 hp2
  simp only at c0 c1 c2' c3
  have k0 := cell_of_row _ _ 0 _ _ _ HRS.out
  have k1 := cell_of_row _ _ 1 _ _ _ HRS.out
  have k2 := cell_of_row _ _ 2 _ _ _ HRS.out
  have k3 := cell_of_row _ _ 3 _ _ _ HRS.out
  simp only [List.getElem?_toArray, List.getElem?_cons_zero, List.getElem?_cons_succ] at k0 k1 k2 k3
  have kf0 := frozen_of_row _ _ 0 _ _ HRS.out
  have kf1 := frozen_of_row _ _ 1 _ _ HRS.out
  have kf2 := frozen_of_row _ _ 2 _ _ HRS.out
  have kf3 := frozen_of_row _ _ 3 _ _ HRS.out
  by_cases h10 : op = 10
  · subst h10
    go_wp2_with fail
    refine bodyPost_ret (v := lnV (.slice (some ⟨g2, 0, none⟩) 4 c2) (.slice At2 l.T.length ct2) ⟨l.R, a + 1, l.T, true⟩) (by simp [results, Try.results93, lnV, go_sem, k0, k1, k2, k3, hbl0, hbl1]) rfl ?_
    rw [lnStep_bar (by rw [Ha.out, Hcd.out]), lnMem_ne (by rw [Ha.out, Hcd.out]; simp), Ha.out]
    refine step_same HPB.out hsb H2.out ⟨_, _, rfl⟩ HM.out ?_ rfl rfl
    repeat (first | refine Chg.trans ?_ (Chg.of_set _ _ _ _ (by show _ ∨ _; omega)) | refine Chg.trans ?_ (Chg.of_pure ((Pure.refl _).alloc _)))
    exact Chg.refl _ _
  have HRR : Hid (∀ an, an < 4 → w2.cell? ⟨br, orr + an, none⟩ = some (.int .i64 (l.R an))) := Lib.hid fun an han => (HP2.out.cell _ _ hbr).trans (HRD.out an (by omega))
  have hbr2 : br < w2.heap.size := Nat.lt_of_lt_of_le hbr HP2.out.size
  obtain ⟨wz, Hwz⟩ : ∃ wz, Hid ((w2.alloc (.cells #[.slice (some ⟨g2, 0, none⟩) 4 c2, .int .i64 ((a : Int) + 1), .slice At2 l.T.length ct2, .bool false] 55)).alloc (.cells #[.int .i64 op, .int .i64 ca, .int .i64 cb, .int .i64 cx] 68) = wz) := ⟨_, Lib.hid rfl⟩
  have hpz : Pure w2 wz := by rw [← Hwz.out]; exact (by repeat (first | assumption | exact Pure.refl _ | refine Pure.drewN ?_ _ | refine Pure.drew ?_ | refine Pure.alloc ?_ _ | refine Pure.setCell ?_ (by simp <;> omega) _))
  have HPZ := Lib.hid hpz
  have hxz : wz.heap[w2.heap.size]? = some (.cells #[.slice (some ⟨g2, 0, none⟩) 4 c2, .int .i64 ((a : Int) + 1), .slice At2 l.T.length ct2, .bool false] 55 (0, 0)) := by
    rw [← Hwz.out]
    exact (Chg.of_pure (S := fun _ => False) (show Pure _ _ from (by repeat (first | assumption | exact Pure.refl _ | refine Pure.drewN ?_ _ | refine Pure.drew ?_ | refine Pure.alloc ?_ _ | refine Pure.setCell ?_ (by simp <;> omega) _)))).heap (heap_alloc_new w2 _) id
  have HXZ := Lib.hid hxz
  have hcz : wz.heap[w2.heap.size + 1]? = some (.cells #[.int .i64 op, .int .i64 ca, .int .i64 cb, .int .i64 cx] 68 (0, 0)) := by
    rw [← Hwz.out]
    have := heap_alloc_new (w2.alloc (.cells #[.slice (some ⟨g2, 0, none⟩) 4 c2, .int .i64 ((a : Int) + 1), .slice At2 l.T.length ct2, .bool false] 55)) (.cells #[.int .i64 op, .int .i64 ca, .int .i64 cb, .int .i64 cx] 68)
    simpa using this
  have HCZ := Lib.hid hcz
  clear hpz hxz hcz
  by_cases h11 : op = 11
  · subst h11
    have hreg := open_reg HCOK.out (.inl rfl)
    obtain ⟨an, han⟩ := Int.eq_ofNat_of_zero_le hreg.1
    simp only at han
    subst han
    have han4 : an < 4 := by have := hreg.2; simp only at this; omega
    have r0 := HRR.out an han4
    obtain ⟨x, Hx⟩ : ∃ x, Hid (l.R an = x) := ⟨_, Lib.hid rfl⟩
    rw [Hx.out] at r0
    obtain ⟨eN, oI, hbi⟩ := (HV.out.pi hlt).1 (by rw [Hcd.out]; exact .inl rfl)
    have hen40 : eN < 40 := by have := hbi.le; omega
    have hoI : oI < 40 ∧ -1 ≤ oI := by rcases hbi.el with h | ⟨q, h, h1, h2, _⟩ <;> omega
    have Hend := Lib.hid hbi.ends
    have Hst : Hid (lnStep cs m ik l M = { l with at_ := if x = 0 then (if 0 ≤ oI then (oI + 1).toNat else eN + 1) else a + 1 }) := Lib.hid (by
      unfold lnStep
      simp only
      rw [Ha.out, Hcd.out, if_neg (by simp), if_pos rfl]
      simp only [Int.toNat_natCast]
      simp only [Hx.out]
      split
      · unfold outAt; rw [Hend.out]; simp only; congr 1
      · rfl)
    have Hmm : Hid (lnMem cs m l M = M) := Lib.hid (lnMem_ne (by rw [Ha.out, Hcd.out]; simp))
    clear hbi hreg
    have ha4 : (an : Int) < 4 := by omega
    have hb0 : (0 : Int) ≤ (an : Int) := by omega
    go_wp2_with fail
    rw [Hwz.out]
    refine (l4End_any _ cs a _ _ (HC.out.keep (HP2.out.trans HPZ.out)) (by omega) hlt Hend.out).mono ?_
    rintro e w3 ⟨rfl, hp3⟩
    have HPW := Lib.hid (HP2.out.trans (HPZ.out.trans hp3))
    have HP3 := Lib.hid (HPZ.out.trans hp3)
    have hx3 := (Chg.of_pure (S := fun _ => False) hp3).heap HXZ.out id
    have hc3 := (Chg.of_pure (S := fun _ => False) hp3).heap HCZ.out id
    have x0 := cell_of_row _ _ 0 _ _ _ hx3
    have x1 := cell_of_row _ _ 1 _ _ _ hx3
    have x2 := cell_of_row _ _ 2 _ _ _ hx3
    have x3 := cell_of_row _ _ 3 _ _ _ hx3
    have y0 := cell_of_row _ _ 0 _ _ _ hc3
    have y1 := cell_of_row _ _ 1 _ _ _ hc3
    have y2 := cell_of_row _ _ 2 _ _ _ hc3
    simp only [List.getElem?_toArray, List.getElem?_cons_zero, List.getElem?_cons_succ] at x0 x1 x2 x3 y0 y1 y2
    have xf1 := frozen_of_row _ _ 1 _ _ hx3
    have xf2 := frozen_of_row _ _ 2 _ _ hx3
    have xf3 := frozen_of_row _ _ 3 _ _ hx3
    have q0 := keepP HP3.out q0
    have q1 := keepP HP3.out q1
    have q2 := keepP HP3.out q2
    have hres := (Chg.of_pure (S := fun _ => False) HP3.out).heap HRS.out id
    have k0 := cell_of_row _ _ 0 _ _ _ hres
    have k1 := cell_of_row _ _ 1 _ _ _ hres
    have k2 := cell_of_row _ _ 2 _ _ _ hres
    have k3 := cell_of_row _ _ 3 _ _ _ hres
    simp only [List.getElem?_toArray, List.getElem?_cons_zero, List.getElem?_cons_succ] at k0 k1 k2 k3
    have kf0 := frozen_of_row _ _ 0 _ _ hres
    have kf1 := frozen_of_row _ _ 1 _ _ hres
    have kf2 := frozen_of_row _ _ 2 _ _ hres
    have kf3 := frozen_of_row _ _ 3 _ _ hres
    have hbl3 : w.heap.size + 1 < w3.heap.size := Nat.lt_of_lt_of_le hbl1 HP3.out.size
    have hbx3 : w2.heap.size < w3.heap.size := (Array.getElem?_eq_some_iff.1 hx3).1
    have hne1 : w.heap.size + 1 ≠ w2.heap.size := by omega
    have hne2 : w.heap.size ≠ w2.heap.size := by omega
    have hbr3 := Nat.lt_of_lt_of_le hbr2 HP3.out.size
    have hne3 : br ≠ w2.heap.size := by omega
    clear hp3 hx3 hc3 hres c0 c1 c2' c3
    have r0 := keepP HP3.out r0
    by_cases hx0 : x = 0
    · by_cases ho : 0 ≤ oI
      · obtain ⟨oN, hoN⟩ := Int.eq_ofNat_of_zero_le ho
        subst hoN
        go_wp2_with fail
        refine bodyPost_ret (v := lnV (.slice (some ⟨g2, 0, none⟩) 4 c2) (.slice At2 l.T.length ct2) ⟨l.R, oN + 1, l.T, l.W⟩) (by simp [results, Try.results93, lnV, go_sem, k0, k1, k2, k3, HWF.out]) rfl ?_
        rw [Hst.out, Hmm.out, if_pos hx0, if_pos ho, show ((oN : Int) + 1).toNat = oN + 1 by omega]
        refine step_same HPB.out hsb H2.out ⟨_, _, rfl⟩ HM.out ?_ rfl rfl
        refine Chg.trans (Chg.of_pure HP3.out) ?_
        repeat (first | refine Chg.trans ?_ (Chg.of_set _ _ _ _ (by show _ ∨ _; omega)) | refine Chg.trans ?_ (Chg.of_pure ((Pure.refl _).alloc _)))
        exact Chg.refl _ _
      · go_wp2_with fail
        refine bodyPost_ret (v := lnV (.slice (some ⟨g2, 0, none⟩) 4 c2) (.slice At2 l.T.length ct2) ⟨l.R, eN + 1, l.T, l.W⟩) (by simp [results, Try.results93, lnV, go_sem, k0, k1, k2, k3, HWF.out]) rfl ?_
        rw [Hst.out, Hmm.out, if_pos hx0, if_neg (by omega)]
        refine step_same HPB.out hsb H2.out ⟨_, _, rfl⟩ HM.out ?_ rfl rfl
        refine Chg.trans (Chg.of_pure HP3.out) ?_
        repeat (first | refine Chg.trans ?_ (Chg.of_set _ _ _ _ (by show _ ∨ _; omega)) | refine Chg.trans ?_ (Chg.of_pure ((Pure.refl _).alloc _)))
        exact Chg.refl _ _
    · go_wp2_with fail
      refine bodyPost_ret (v := lnV (.slice (some ⟨g2, 0, none⟩) 4 c2) (.slice At2 l.T.length ct2) ⟨l.R, a + 1, l.T, l.W⟩) (by simp [results, Try.results93, lnV, go_sem, k0, k1, k2, k3, HWF.out]) rfl ?_
      rw [Hst.out, Hmm.out, if_neg hx0]
      refine step_same HPB.out hsb H2.out ⟨_, _, rfl⟩ HM.out ?_ rfl rfl
      refine Chg.trans (Chg.of_pure HP3.out) ?_
      repeat (first | refine Chg.trans ?_ (Chg.of_set _ _ _ _ (by show _ ∨ _; omega)) | refine Chg.trans ?_ (Chg.of_pure ((Pure.refl _).alloc _)))
      exact Chg.refl _ _
  by_cases h12 : op = 12
  · subst h12
    obtain ⟨p, eN, hbi⟩ := (HV.out.pi hlt).2.1 (by rw [Hcd.out])
    have hap : aroundAt cs a = p := by
      rcases hbi.el with h | ⟨q, h, _, _, _, h2, _⟩
      · omega
      · have : q = a := by omega
        rw [← this]; exact h2
    have hpa : p < cs.length := by have := hbi.lt; have := hbi.le; omega
    have hen40 : eN < 40 := by have := hbi.le; omega
    have Hend := Lib.hid hbi.ends
    have Hap := Lib.hid hap
    have Hst : Hid (lnStep cs m ik l M = { l with at_ := eN + 1 }) := Lib.hid (by
      rw [lnStep_else (by rw [Ha.out, Hcd.out]), Ha.out, hap, Int.toNat_natCast, Hend.out]
      simp only
      rw [show ((eN : Int) + 1).toNat = eN + 1 by omega])
    have Hmm : Hid (lnMem cs m l M = M) := Lib.hid (lnMem_ne (by rw [Ha.out, Hcd.out]; simp))
    clear hbi hap
    go_wp2_with fail
    rw [Hwz.out]
    refine (l4Around_any _ cs a _ _ (HC.out.keep (HP2.out.trans HPZ.out)) (by omega) (by omega) Hap.out).mono ?_
    rintro e wy ⟨rfl, hpy⟩
    have HPY := Lib.hid hpy
    clear hpy
    go_wp2_with fail
    refine (l4End_any _ cs p _ _ (HC.out.keep ((HP2.out.trans HPZ.out).trans HPY.out)) (by omega) hpa Hend.out).mono ?_
    rintro e w3 ⟨rfl, hp3⟩
    have hp3 := HPY.out.trans hp3
    have HPW := Lib.hid (HP2.out.trans (HPZ.out.trans hp3))
    have HP3 := Lib.hid (HPZ.out.trans hp3)
    have hx3 := (Chg.of_pure (S := fun _ => False) hp3).heap HXZ.out id
    have hc3 := (Chg.of_pure (S := fun _ => False) hp3).heap HCZ.out id
    have x0 := cell_of_row _ _ 0 _ _ _ hx3
    have x1 := cell_of_row _ _ 1 _ _ _ hx3
    have x2 := cell_of_row _ _ 2 _ _ _ hx3
    have x3 := cell_of_row _ _ 3 _ _ _ hx3
    have y0 := cell_of_row _ _ 0 _ _ _ hc3
    have y1 := cell_of_row _ _ 1 _ _ _ hc3
    have y2 := cell_of_row _ _ 2 _ _ _ hc3
    simp only [List.getElem?_toArray, List.getElem?_cons_zero, List.getElem?_cons_succ] at x0 x1 x2 x3 y0 y1 y2
    have xf1 := frozen_of_row _ _ 1 _ _ hx3
    have xf2 := frozen_of_row _ _ 2 _ _ hx3
    have xf3 := frozen_of_row _ _ 3 _ _ hx3
    have q0 := keepP HP3.out q0
    have q1 := keepP HP3.out q1
    have q2 := keepP HP3.out q2
    have hres := (Chg.of_pure (S := fun _ => False) HP3.out).heap HRS.out id
    have k0 := cell_of_row _ _ 0 _ _ _ hres
    have k1 := cell_of_row _ _ 1 _ _ _ hres
    have k2 := cell_of_row _ _ 2 _ _ _ hres
    have k3 := cell_of_row _ _ 3 _ _ _ hres
    simp only [List.getElem?_toArray, List.getElem?_cons_zero, List.getElem?_cons_succ] at k0 k1 k2 k3
    have kf0 := frozen_of_row _ _ 0 _ _ hres
    have kf1 := frozen_of_row _ _ 1 _ _ hres
    have kf2 := frozen_of_row _ _ 2 _ _ hres
    have kf3 := frozen_of_row _ _ 3 _ _ hres
    have hbl3 : w.heap.size + 1 < w3.heap.size := Nat.lt_of_lt_of_le hbl1 HP3.out.size
    have hbx3 : w2.heap.size < w3.heap.size := (Array.getElem?_eq_some_iff.1 hx3).1
    have hne1 : w.heap.size + 1 ≠ w2.heap.size := by omega
    have hne2 : w.heap.size ≠ w2.heap.size := by omega
    have hbr3 := Nat.lt_of_lt_of_le hbr2 HP3.out.size
    have hne3 : br ≠ w2.heap.size := by omega
    clear hp3 hx3 hc3 hres c0 c1 c2' c3
    go_wp2_with fail
    refine bodyPost_ret (v := lnV (.slice (some ⟨g2, 0, none⟩) 4 c2) (.slice At2 l.T.length ct2) ⟨l.R, eN + 1, l.T, l.W⟩) (by simp [results, Try.results93, lnV, go_sem, k0, k1, k2, k3, HWF.out]) rfl ?_
    rw [Hst.out, Hmm.out]
    refine step_same HPB.out hsb H2.out ⟨_, _, rfl⟩ HM.out ?_ rfl rfl
    refine Chg.trans (Chg.of_pure HP3.out) ?_
    repeat (first | refine Chg.trans ?_ (Chg.of_set _ _ _ _ (by show _ ∨ _; omega)) | refine Chg.trans ?_ (Chg.of_pure ((Pure.refl _).alloc _)))
    exact Chg.refl _ _
  by_cases h13 : op = 13
  · subst h13
    have hreg := open_reg HCOK.out (.inr rfl)
    obtain ⟨an, han⟩ := Int.eq_ofNat_of_zero_le hreg.1
    simp only at han
    subst han
    have han4 : an < 4 := by have := hreg.2; simp only at this; omega
    have hcb : 1 ≤ cb ∧ cb ≤ 4 := by
      have := HCOK.out
      unfold CdOk at this
      simp only at this
      omega
    have r0 := HRR.out an han4
    obtain ⟨x, Hx⟩ : ∃ x, Hid (l.R an = x) := ⟨_, Lib.hid rfl⟩
    rw [Hx.out] at r0
    obtain ⟨eN, oI, hbi⟩ := (HV.out.pi hlt).1 (by rw [Hcd.out]; exact .inr rfl)
    have hen40 : eN < 40 := by have := hbi.le; omega
    have Hend := Lib.hid hbi.ends
    have Hst : Hid (lnStep cs m ik l M = if x = 0 then { l with at_ := eN + 1 } else { l with at_ := a + 1, T := l.T ++ [cb - 1] }) := Lib.hid (by
      unfold lnStep
      simp only
      rw [Ha.out, Hcd.out, if_neg (by simp), if_neg (by simp), if_neg (by simp), if_pos rfl]
      simp only [Int.toNat_natCast, Hx.out, Hend.out]
      rw [show ((eN : Int) + 1).toNat = eN + 1 by omega])
    have Hmm : Hid (lnMem cs m l M = M) := Lib.hid (lnMem_ne (by rw [Ha.out, Hcd.out]; simp))
    clear hbi hreg
    have ha4 : (an : Int) < 4 := by omega
    have hb0 : (0 : Int) ≤ (an : Int) := by omega
    by_cases hx0 : x = 0
    · go_wp2_with fail
      rw [Hwz.out]
      refine (l4End_any _ cs a _ _ (HC.out.keep (HP2.out.trans HPZ.out)) (by omega) hlt Hend.out).mono ?_
      rintro e w3 ⟨rfl, hp3⟩
      have HPW := Lib.hid (HP2.out.trans (HPZ.out.trans hp3))
      have HP3 := Lib.hid (HPZ.out.trans hp3)
      have hx3 := (Chg.of_pure (S := fun _ => False) hp3).heap HXZ.out id
      have hc3 := (Chg.of_pure (S := fun _ => False) hp3).heap HCZ.out id
      have x0 := cell_of_row _ _ 0 _ _ _ hx3
      have x1 := cell_of_row _ _ 1 _ _ _ hx3
      have x2 := cell_of_row _ _ 2 _ _ _ hx3
      have x3 := cell_of_row _ _ 3 _ _ _ hx3
      have y0 := cell_of_row _ _ 0 _ _ _ hc3
      have y1 := cell_of_row _ _ 1 _ _ _ hc3
      have y2 := cell_of_row _ _ 2 _ _ _ hc3
      simp only [List.getElem?_toArray, List.getElem?_cons_zero, List.getElem?_cons_succ] at x0 x1 x2 x3 y0 y1 y2
      have xf1 := frozen_of_row _ _ 1 _ _ hx3
      have xf2 := frozen_of_row _ _ 2 _ _ hx3
      have xf3 := frozen_of_row _ _ 3 _ _ hx3
      have q0 := keepP HP3.out q0
      have q1 := keepP HP3.out q1
      have q2 := keepP HP3.out q2
      have hres := (Chg.of_pure (S := fun _ => False) HP3.out).heap HRS.out id
      have k0 := cell_of_row _ _ 0 _ _ _ hres
      have k1 := cell_of_row _ _ 1 _ _ _ hres
      have k2 := cell_of_row _ _ 2 _ _ _ hres
      have k3 := cell_of_row _ _ 3 _ _ _ hres
      simp only [List.getElem?_toArray, List.getElem?_cons_zero, List.getElem?_cons_succ] at k0 k1 k2 k3
      have kf0 := frozen_of_row _ _ 0 _ _ hres
      have kf1 := frozen_of_row _ _ 1 _ _ hres
      have kf2 := frozen_of_row _ _ 2 _ _ hres
      have kf3 := frozen_of_row _ _ 3 _ _ hres
      have hbl3 : w.heap.size + 1 < w3.heap.size := Nat.lt_of_lt_of_le hbl1 HP3.out.size
      have hbx3 : w2.heap.size < w3.heap.size := (Array.getElem?_eq_some_iff.1 hx3).1
      have hne1 : w.heap.size + 1 ≠ w2.heap.size := by omega
      have hne2 : w.heap.size ≠ w2.heap.size := by omega
      have hbr3 := Nat.lt_of_lt_of_le hbr2 HP3.out.size
      have hne3 : br ≠ w2.heap.size := by omega
      clear hp3 hx3 hc3 hres c0 c1 c2' c3
      go_wp2_with fail
      refine bodyPost_ret (v := lnV (.slice (some ⟨g2, 0, none⟩) 4 c2) (.slice At2 l.T.length ct2) ⟨l.R, eN + 1, l.T, l.W⟩) (by simp [results, Try.results93, lnV, go_sem, k0, k1, k2, k3, HWF.out]) rfl ?_
      rw [Hst.out, Hmm.out, if_pos hx0]
      refine step_same HPB.out hsb H2.out ⟨_, _, rfl⟩ HM.out ?_ rfl rfl
      refine Chg.trans (Chg.of_pure HP3.out) ?_
      repeat (first | refine Chg.trans ?_ (Chg.of_set _ _ _ _ (by show _ ∨ _; omega)) | refine Chg.trans ?_ (Chg.of_pure ((Pure.refl _).alloc _)))
      exact Chg.refl _ _
    · obtain ⟨wq, Hwq⟩ : ∃ wq, Hid (wz.alloc (.cells #[.int .i64 (cb - 1)] 3) = wq) := ⟨_, Lib.hid rfl⟩
      have hpq : Pure wz wq := by rw [← Hwq.out]; exact (by repeat (first | assumption | exact Pure.refl _ | refine Pure.drewN ?_ _ | refine Pure.drew ?_ | refine Pure.alloc ?_ _ | refine Pure.setCell ?_ (by simp <;> omega) _))
      have HXQ := Lib.hid ((Chg.of_pure (S := fun _ => False) hpq).heap HXZ.out id)
      have hq0 : wq.heap[w2.heap.size + 1 + 1]? = some (.cells #[.int .i64 (cb - 1)] 3 (0, 0)) := by
        rw [← Hwq.out]
        have := heap_alloc_new wz (.cells #[.int .i64 (cb - 1)] 3)
        have hzs : wz.heap.size = w2.heap.size + 1 + 1 := by rw [← Hwz.out]; simp
        rw [hzs] at this; exact this
      have hwq0 : ((w2.alloc (.cells #[.slice (some ⟨g2, 0, none⟩) 4 c2, .int .i64 ((a : Int) + 1), .slice At2 l.T.length ct2, .bool false] 55)).alloc (.cells #[.int .i64 13, .int .i64 an, .int .i64 cb, .int .i64 cx] 68)).alloc (.cells #[.int .i64 (cb - 1)] 3) = wq := by rw [← Hwq.out, ← Hwz.out]
      have HLIT := Lib.hid (fun i u (hu : [Value.int .i64 (cb - 1)][i]? = some u) => (show wq.cell? ⟨w2.heap.size + 1 + 1, i, none⟩ = some u from (cell_of_row _ _ i _ _ _ hq0).trans (by rw [List.getElem?_toArray]; exact hu)))
      have HQP := Lib.hid (HPZ.out.trans hpq)
      have HQO := Lib.hid (own_pure H2.out.r HQP.out)
      have HQS : Hid (wb.heap.size ≤ wq.heap.size) := Lib.hid (by have := HQP.out.size; omega)
      rw [← hwq0] at HLIT HQO HQS
      have Hwq0 := Lib.hid hwq0
      clear hwq0 hq0 hpq
      go_wp2_with (at_builtin; go_must (refine wl_append elInt rfl _ _ rfl wb.heap.size _ l.T.length (trnL l) rfl HQO.out (w2.heap.size + 1 + 1) 1 1 [.int .i64 (cb - 1)] rfl rfl HLIT.out (by intro u hu; simp at hu; subst hu; rfl) (by omega) (by omega) HQS.out ?_); intro v5 w5 hown5 hg5; go_must (obtain ⟨g5, c5, hv5, hg51, hg52, _, _⟩ := own_form hown5 (by omega); subst hv5; rw [Hwq0.out] at hg5; have HO5 := Lib.hid hown5; have hc5 := Chg.of_grown (S := fun b => (Value.slice At2 l.T.length ct2).ownBlock = some b) hg5 (fun k hk => hk); have hx5 := hc5.heap HXQ.out (fun e => by have := own_lt H2.out.r _ e; omega); have hc25 := (Chg.of_pure (S := fun b => (Value.slice At2 l.T.length ct2).ownBlock = some b) HQP.out).trans hc5; have hres := hc25.heap HRS.out (fun e => by have := own_lt H2.out.r _ e; omega); have HC25 := Lib.hid hc25; have x0 := cell_of_row _ _ 0 _ _ _ hx5; have x1 := cell_of_row _ _ 1 _ _ _ hx5; have x2 := cell_of_row _ _ 2 _ _ _ hx5; have x3 := cell_of_row _ _ 3 _ _ _ hx5; have k0 := cell_of_row _ _ 0 _ _ _ hres; have k1 := cell_of_row _ _ 1 _ _ _ hres; have k2 := cell_of_row _ _ 2 _ _ _ hres; have k3 := cell_of_row _ _ 3 _ _ _ hres; simp only [List.getElem?_toArray, List.getElem?_cons_zero, List.getElem?_cons_succ] at x0 x1 x2 x3 k0 k1 k2 k3; have xf2 := frozen_of_row _ _ 2 _ _ hx5; have kf0 := frozen_of_row _ _ 0 _ _ hres; have kf1 := frozen_of_row _ _ 1 _ _ hres; have kf2 := frozen_of_row _ _ 2 _ _ hres; have kf3 := frozen_of_row _ _ 3 _ _ hres; have HX5 := Lib.hid hx5; have hne1 : w.heap.size + 1 ≠ w2.heap.size := (by omega); clear hown5 hg5 hc5 hc25 hx5 hres))
      refine bodyPost_ret (v := lnV (.slice (some ⟨g2, 0, none⟩) 4 c2) (.slice (some ⟨g5, 0, none⟩) (l.T.length + 1) c5) ⟨l.R, a + 1, l.T ++ [cb - 1], l.W⟩) (by simp [results, Try.results93, lnV, go_sem, k0, k1, k2, k3, HWF.out]) rfl ?_
      rw [Hst.out, Hmm.out, if_neg hx0]
      have ht5 : OwnO w5 wb.heap.size 3 1 (.slice (some ⟨g5, 0, none⟩) (l.T.length + 1) c5) (l.T ++ [cb - 1]).length ((l.T ++ [cb - 1]).map (.int .i64)) := by
        have := OwnO.of_own HO5.out
        rw [List.length_append, List.map_append]
        exact this
      have hr5 := own_chg H2.out.l HC25.out (fun g hg e => H2.out.ne g hg e)
      refine step_gen (S := fun b => b = w.heap.size + 1 ∨ b = w2.heap.size) (l' := { l with at_ := a + 1, T := l.T ++ [cb - 1] }) ⟨_, _, rfl⟩ HM.out (Chg.pure HP2.out HC25.out (fun k hk => by have := own_lt H2.out.r k hk; omega)) (fun b hb => by rcases hb with h | h <;> omega) (OwnO.base' (OwnO.of_own hr5) (by omega)) (OwnO.base' ht5 (by omega)) ?_ (fun g hg e => ?_) (fun g hg e => ?_)
      · repeat (first | refine Chg.trans ?_ (Chg.of_set _ _ _ _ (by show _ ∨ _; omega)) | refine Chg.trans ?_ (Chg.of_pure ((Pure.refl _).alloc _)))
        exact Chg.refl _ _
      · have := own_lt H2.out.l g hg
        rcases e with e | e <;> omega
      · have h1 := own_ne_heap HO5.out HX5.out (by decide) g hg
        have h2 := own_lt HO5.out g hg
        rcases e with e | e <;> omega
  by_cases h14 : op = 14
  · subst h14
    obtain ⟨p, oI, hbi⟩ := (HV.out.pi hlt).2.2 (by rw [Hcd.out])
    have hpa : p < a := hbi.lt
    have hp : p < cs.length := by omega
    have HAR := Lib.hid hbi.ar
    have hpo := hbi.op
    obtain ⟨pd, Hpd⟩ : ∃ pd, Hid (cs.getD p default = pd) := ⟨_, Lib.hid rfl⟩
    obtain ⟨b', ob', eb, hb', hcp⟩ := HC.out.at_ hp
    injection eb with eb
    injection eb with eb1 eb2 _
    subst eb1 eb2
    have hpok : CdOk pd := by rw [← Hpd.out]; exact HV.out.1 _ (cdOk_mem hp)
    rw [Hpd.out] at hcp hpo
    have hreg := open_reg hpok hpo
    obtain ⟨pop, pa, pb, pc⟩ := pd
    obtain ⟨d0, d1, d2, d3⟩ := hcp.keep HP2.out hb
    obtain ⟨an, han⟩ := Int.eq_ofNat_of_zero_le hreg.1
    simp only at han d0 d1 d2 d3
    subst han
    have han4 : an < 4 := by have := hreg.2; simp only at this; omega
    have r0 := HRR.out an han4
    obtain ⟨x, Hx⟩ : ∃ x, Hid (l.R an = x) := ⟨_, Lib.hid rfl⟩
    rw [Hx.out] at r0
    have Hmm : Hid (lnMem cs m l M = M) := Lib.hid (lnMem_ne (by rw [Ha.out, Hcd.out]; simp))
    have ha4 : (an : Int) < 4 := by omega
    have hb0 : (0 : Int) ≤ (an : Int) := by omega
    have hp0 : (0 : Int) ≤ (p : Int) := by omega
    have hpI : (p : Int) < (cs.length : Int) := by omega
    have htn := HTN.out
    rw [Ha.out, Hcd.out, HAR.out, Int.toNat_natCast, Hpd.out] at htn
    have HTN2 := Lib.hid htn
    have h14c : (cs.getD l.at_ default).op = 14 := by rw [Ha.out, Hcd.out]
    have H14 := Lib.hid h14c
    have HAR2 : Hid (aroundAt cs l.at_ = p) := Lib.hid (by rw [Ha.out]; exact HAR.out)
    clear hbi hpo hpok hcp hreg htn h14c hb'
    go_wp2_with fail
    rw [Hwz.out]
    refine (l4Around_any _ cs a _ _ (HC.out.keep (HP2.out.trans HPZ.out)) (by omega) (by omega) HAR.out).mono ?_
    rintro e w3 ⟨rfl, hp3⟩
    have HPW := Lib.hid (HP2.out.trans (HPZ.out.trans hp3))
    have HP3 := Lib.hid (HPZ.out.trans hp3)
    have hx3 := (Chg.of_pure (S := fun _ => False) hp3).heap HXZ.out id
    have hc3 := (Chg.of_pure (S := fun _ => False) hp3).heap HCZ.out id
    have x0 := cell_of_row _ _ 0 _ _ _ hx3
    have x1 := cell_of_row _ _ 1 _ _ _ hx3
    have x2 := cell_of_row _ _ 2 _ _ _ hx3
    have x3 := cell_of_row _ _ 3 _ _ _ hx3
    have y0 := cell_of_row _ _ 0 _ _ _ hc3
    have y1 := cell_of_row _ _ 1 _ _ _ hc3
    have y2 := cell_of_row _ _ 2 _ _ _ hc3
    simp only [List.getElem?_toArray, List.getElem?_cons_zero, List.getElem?_cons_succ] at x0 x1 x2 x3 y0 y1 y2
    have xf1 := frozen_of_row _ _ 1 _ _ hx3
    have xf2 := frozen_of_row _ _ 2 _ _ hx3
    have xf3 := frozen_of_row _ _ 3 _ _ hx3
    have q0 := keepP HP3.out q0
    have q1 := keepP HP3.out q1
    have q2 := keepP HP3.out q2
    have hres := (Chg.of_pure (S := fun _ => False) HP3.out).heap HRS.out id
    have k0 := cell_of_row _ _ 0 _ _ _ hres
    have k1 := cell_of_row _ _ 1 _ _ _ hres
    have k2 := cell_of_row _ _ 2 _ _ _ hres
    have k3 := cell_of_row _ _ 3 _ _ _ hres
    simp only [List.getElem?_toArray, List.getElem?_cons_zero, List.getElem?_cons_succ] at k0 k1 k2 k3
    have kf0 := frozen_of_row _ _ 0 _ _ hres
    have kf1 := frozen_of_row _ _ 1 _ _ hres
    have kf2 := frozen_of_row _ _ 2 _ _ hres
    have kf3 := frozen_of_row _ _ 3 _ _ hres
    have hbl3 : w.heap.size + 1 < w3.heap.size := Nat.lt_of_lt_of_le hbl1 HP3.out.size
    have hbx3 : w2.heap.size < w3.heap.size := (Array.getElem?_eq_some_iff.1 hx3).1
    have hne1 : w.heap.size + 1 ≠ w2.heap.size := by omega
    have hne2 : w.heap.size ≠ w2.heap.size := by omega
    have hbr3 := Nat.lt_of_lt_of_le hbr2 HP3.out.size
    have hne3 : br ≠ w2.heap.size := by omega
    clear hp3 hx3 hc3 hres c0 c1 c2' c3
    have r0 := keepP HP3.out r0
    have d0 := keepP HP3.out d0
    have d1 := keepP HP3.out d1
    have hb3 := Nat.lt_of_lt_of_le hb2 HP3.out.size
    by_cases hp13 : pop = 13
    · subst hp13
      have htn := HTN2.out (by trivial) (by trivial)
      obtain ⟨gt, ot, rfl, hgt, htc⟩ := HTD.out htn
      obtain ⟨ln, Hln⟩ : ∃ ln, Hid (l.T.length - 1 = ln) := ⟨_, Lib.hid rfl⟩
      have hln : (l.T.length : Int) - 1 = (ln : Int) := by have := Hln.out; omega
      have hln1 : (ln : Int) < (l.T.length : Int) := by omega
      have hln0 : (0 : Int) ≤ (ln : Int) := by omega
      obtain ⟨tv, Htv⟩ : ∃ tv, Hid (l.T.getD ln 0 = tv) := ⟨_, Lib.hid rfl⟩
      have htvm : tv ∈ l.T := by rw [← Htv.out]; have hh : ln < l.T.length := by omega
                                 simp [List.getD_eq_getElem?_getD, hh]
      obtain ⟨htv0, htv3⟩ := HTB.out tv htvm
      have t0 : w3.cell? ⟨gt, ot + ln, none⟩ = some (.int .i64 tv) := by
        rw [← Htv.out]
        exact (HPW.out.cell _ _ hgt).trans (htc ln (by omega))
      have hgt3 := Nat.lt_of_lt_of_le hgt HPW.out.size
      obtain ⟨gt2, ct2', hv3, hgt21, hgt22, hct21, hct22⟩ := own_form H2.out.r htn
      injection hv3 with hv31 _ hv32
      subst hv31 hv32
      have hO3 := OwnO.of_own (own_pure H2.out.r HP3.out)
      have t2 : w3.cell? ⟨gt2, ln, none⟩ = some (.int .i64 tv) := by
        have hh : ln < l.T.length := by omega
        have := hO3.cell ln (by omega)
        rw [Nat.zero_add] at this
        rw [this, ← Htv.out]
        simp [trnL, List.getD_eq_getElem?_getD, hh]
      have t2f : w3.frozen? ⟨gt2, ln, none⟩ = false := hO3.frozen ln
      have HO3 := Lib.hid hO3
      have hgt23 := Nat.lt_of_lt_of_le hgt22 HP3.out.size
      have hne4 : gt2 ≠ w2.heap.size := by omega
      have hne5 : gt2 ≠ w.heap.size + 1 := by omega
      have hne6 : gt ≠ gt2 := by omega
      have hne7 : br ≠ gt2 := by omega
      have hne8 : w.heap.size ≠ gt2 := by omega
      have hne9 : gt ≠ w2.heap.size := by have := HP2.out.size; omega
      clear htvm htc hO3
      by_cases htz : 0 < tv ∧ x ≠ 0
      · obtain ⟨htp, hxx⟩ := htz
        have hx' : (x != 0) = true := by rw [bne_iff_ne]; exact hxx
        go_wp2_with fail
        go_quiet (fail)
        go_wp2_with fail
        refine region_tail 10 (by kernel_rfl) (by kernel_rfl) ?_
        simp only [List.take_succ_cons, List.take_zero, List.drop_succ_cons, List.drop_zero]
        repeat still_step
        refine wpStill_nil ?_
        go_wp2_with fail
        refine bodyPost_ret (v := lnV (.slice (some ⟨g2, 0, none⟩) 4 c2) (.slice (some ⟨gt2, 0, none⟩) l.T.length ct2) ⟨l.R, p + 1, l.T.set ln (tv - 1), l.W⟩) (by simp [results, Try.results93, lnV, go_sem, k0, k1, k2, k3, HWF.out]) rfl ?_
        have Hst : Hid (lnStep cs m ik l M = { l with at_ := p + 1, T := l.T.set ln (tv - 1) }) := Lib.hid (by
          have e := lnStep_end3 (m := m) (id := ik) (l := l) (M := M) (p := p) H14.out HAR2.out (by rw [Hpd.out]) (by rw [Hpd.out, Hln.out, Htv.out]; exact ⟨htp, by show l.R (an : Int).toNat ≠ 0; rw [Int.toNat_natCast, Hx.out]; exact hxx⟩)
          rw [e, Hln.out, Htv.out])
        rw [Hst.out, Hmm.out]
        have hpd := show Pure w3 (w3.drewN (nq + 1)) from (by repeat (first | assumption | exact Pure.refl _ | refine Pure.drewN ?_ _ | refine Pure.drew ?_ | refine Pure.alloc ?_ _ | refine Pure.setCell ?_ (by simp <;> omega) _))
        have ht5 := (HO3.out.pure hpd).stored ln (.int .i64 (tv - 1))
        rw [Nat.zero_add] at ht5
        have hr5 := OwnO.of_own (own_chg (own_pure H2.out.l (HP3.out.trans hpd)) (Chg.of_set (S := fun b => b = gt2) (w3.drewN (nq + 1)) gt2 ln (.int .i64 (tv - 1)) rfl) (fun g hg e => H2.out.ne g hg (by rw [e]; rfl)))
        have hp5 : Pure w ((w3.drewN (nq + 1)).setCell ⟨gt2, ln, none⟩ (.int .i64 (tv - 1))) := (HPW.out.trans hpd).setCell (by show w.heap.size ≤ gt2; omega) _
        refine step_gen (S := fun b => b = w.heap.size + 1 ∨ b = w2.heap.size) (l' := { l with at_ := p + 1, T := l.T.set ln (tv - 1) }) ⟨_, _, rfl⟩ HM.out hp5 (fun b hb => by rcases hb with h | h <;> omega) (OwnO.base' hr5 (by omega)) ?_ ?_ (fun g hg e => ?_) (fun g hg e => ?_)
        · refine OwnO.base' (B := wb.heap.size) ?_ (by omega)
          show OwnO _ _ _ _ _ (l.T.set ln (tv - 1)).length ((l.T.set ln (tv - 1)).map (.int .i64))
          rw [List.length_set, List.map_set]
          exact ht5
        · repeat (first | refine Chg.trans ?_ (Chg.of_set _ _ _ _ (by show _ ∨ _; omega)))
          exact Chg.refl _ _
        · have := own_lt H2.out.l g hg
          rcases e with e | e <;> omega
        · have hg2 : some gt2 = some g := hg
          injection hg2 with hg2
          rcases e with e | e <;> omega
      · have hor : tv = 0 ∨ (0 < tv ∧ x = 0) := by
          by_cases h : x = 0
          · omega
          · left
            have : ¬ 0 < tv := fun h2 => htz ⟨h2, h⟩
            omega
        have Hst : Hid (lnStep cs m ik l M = { l with at_ := a + 1, T := l.T.take ln }) := Lib.hid (by
          have e := lnStep_end2 (m := m) (id := ik) (l := l) (M := M) (p := p) H14.out HAR2.out (by rw [Hpd.out]) (by rw [Hpd.out, Hln.out, Htv.out]; rintro ⟨h1, h2⟩; refine htz ⟨h1, fun h3 => h2 ?_⟩; show l.R (an : Int).toNat = 0; rw [Int.toNat_natCast, Hx.out, h3])
          rw [e, Ha.out, Hln.out])
        have hlc : (ln : Int) ≤ (ct2 : Int) := by omega
        clear htz
        rcases hor with h0 | ⟨htp, hxx⟩
        · subst h0
          go_wp2_with fail
          go_quiet (fail)
          go_wp2_with fail
          refine bodyPost_ret (v := lnV (.slice (some ⟨g2, 0, none⟩) 4 c2) (.slice (some ⟨gt2, 0, none⟩) ln ct2) ⟨l.R, a + 1, l.T.take ln, l.W⟩) (by simp [results, Try.results93, lnV, go_sem, k0, k1, k2, k3, HWF.out]) rfl ?_
          rw [Hst.out, Hmm.out]
          refine step_gen (S := fun b => b = w.heap.size + 1 ∨ b = w2.heap.size) (l' := { l with at_ := a + 1, T := l.T.take ln }) ⟨_, _, rfl⟩ HM.out (HPW.out.trans (show Pure w3 (w3.drewN nq) from (by repeat (first | assumption | exact Pure.refl _ | refine Pure.drewN ?_ _ | refine Pure.drew ?_ | refine Pure.alloc ?_ _ | refine Pure.setCell ?_ (by simp <;> omega) _)))) (fun b hb => by rcases hb with h | h <;> omega) (OwnO.base' (OwnO.of_own (own_pure H2.out.l (HP3.out.trans (show Pure w3 (w3.drewN nq) from (by repeat (first | assumption | exact Pure.refl _ | refine Pure.drewN ?_ _ | refine Pure.drew ?_ | refine Pure.alloc ?_ _ | refine Pure.setCell ?_ (by simp <;> omega) _)))))) (by omega)) ?_ ?_ (fun g hg e => ?_) (fun g hg e => ?_)
          · refine OwnO.base' (B := wb.heap.size) ?_ (by omega)
            show OwnO _ _ _ _ _ (l.T.take ln).length ((l.T.take ln).map (.int .i64))
            have hle : ln ≤ l.T.length := by omega
            have ht := (HO3.out.pure (show Pure w3 (w3.drewN nq) from (by repeat (first | assumption | exact Pure.refl _ | refine Pure.drewN ?_ _ | refine Pure.drew ?_ | refine Pure.alloc ?_ _ | refine Pure.setCell ?_ (by simp <;> omega) _)))).take hle
            rw [List.length_take, Nat.min_eq_left hle, List.map_take]
            rwa [Nat.mul_one] at ht
          · repeat (first | refine Chg.trans ?_ (Chg.of_set _ _ _ _ (by show _ ∨ _; omega)))
            exact Chg.refl _ _
          · have := own_lt H2.out.l g hg
            rcases e with e | e <;> omega
          · have hg2 : some gt2 = some g := hg
            injection hg2 with hg2
            rcases e with e | e <;> omega
        · have hx' : (x != 0) = false := by rw [hxx]; rfl
          go_wp2_with fail
          go_quiet (fail)
          go_wp2_with fail
          refine bodyPost_ret (v := lnV (.slice (some ⟨g2, 0, none⟩) 4 c2) (.slice (some ⟨gt2, 0, none⟩) ln ct2) ⟨l.R, a + 1, l.T.take ln, l.W⟩) (by simp [results, Try.results93, lnV, go_sem, k0, k1, k2, k3, HWF.out]) rfl ?_
          rw [Hst.out, Hmm.out]
          refine step_gen (S := fun b => b = w.heap.size + 1 ∨ b = w2.heap.size) (l' := { l with at_ := a + 1, T := l.T.take ln }) ⟨_, _, rfl⟩ HM.out (HPW.out.trans (show Pure w3 (w3.drewN nq) from (by repeat (first | assumption | exact Pure.refl _ | refine Pure.drewN ?_ _ | refine Pure.drew ?_ | refine Pure.alloc ?_ _ | refine Pure.setCell ?_ (by simp <;> omega) _)))) (fun b hb => by rcases hb with h | h <;> omega) (OwnO.base' (OwnO.of_own (own_pure H2.out.l (HP3.out.trans (show Pure w3 (w3.drewN nq) from (by repeat (first | assumption | exact Pure.refl _ | refine Pure.drewN ?_ _ | refine Pure.drew ?_ | refine Pure.alloc ?_ _ | refine Pure.setCell ?_ (by simp <;> omega) _)))))) (by omega)) ?_ ?_ (fun g hg e => ?_) (fun g hg e => ?_)
          · refine OwnO.base' (B := wb.heap.size) ?_ (by omega)
            show OwnO _ _ _ _ _ (l.T.take ln).length ((l.T.take ln).map (.int .i64))
            have hle : ln ≤ l.T.length := by omega
            have ht := (HO3.out.pure (show Pure w3 (w3.drewN nq) from (by repeat (first | assumption | exact Pure.refl _ | refine Pure.drewN ?_ _ | refine Pure.drew ?_ | refine Pure.alloc ?_ _ | refine Pure.setCell ?_ (by simp <;> omega) _)))).take hle
            rw [List.length_take, Nat.min_eq_left hle, List.map_take]
            rwa [Nat.mul_one] at ht
          · repeat (first | refine Chg.trans ?_ (Chg.of_set _ _ _ _ (by show _ ∨ _; omega)))
            exact Chg.refl _ _
          · have := own_lt H2.out.l g hg
            rcases e with e | e <;> omega
          · have hg2 : some gt2 = some g := hg
            injection hg2 with hg2
            rcases e with e | e <;> omega
    · have Hst : Hid (lnStep cs m ik l M = { l with at_ := a + 1 }) := Lib.hid (by
        have e := lnStep_end1 (m := m) (id := ik) (l := l) (M := M) (p := p) H14.out HAR2.out (by rw [Hpd.out]; exact hp13)
        rw [e, Ha.out])
      go_wp2_with fail
      refine bodyPost_ret (v := lnV (.slice (some ⟨g2, 0, none⟩) 4 c2) (.slice At2 l.T.length ct2) ⟨l.R, a + 1, l.T, l.W⟩) (by simp [results, Try.results93, lnV, go_sem, k0, k1, k2, k3, HWF.out]) rfl ?_
      rw [Hst.out, Hmm.out]
      refine step_same HPB.out hsb H2.out ⟨_, _, rfl⟩ HM.out ?_ rfl rfl
      refine Chg.trans (Chg.of_pure HP3.out) ?_
      repeat (first | refine Chg.trans ?_ (Chg.of_set _ _ _ _ (by show _ ∨ _; omega)) | refine Chg.trans ?_ (Chg.of_pure ((Pure.refl _).alloc _)))
      exact Chg.refl _ _
  have HPL : Hid (Plain ⟨op, ca, cb, cx⟩) := Lib.hid ⟨HCOK.out, h11, h12, h13, h14⟩
  have e10 : (op == 10) = false := by rw [beq_eq_false_iff_ne]; exact h10
  have e11 : (op == 11) = false := by rw [beq_eq_false_iff_ne]; exact h11
  have e12 : (op == 12) = false := by rw [beq_eq_false_iff_ne]; exact h12
  have e13 : (op == 13) = false := by rw [beq_eq_false_iff_ne]; exact h13
  have e14 : (op == 14) = false := by rw [beq_eq_false_iff_ne]; exact h14
  have hgml := HM.out.own.lt gm rfl
  have Hst : Hid (lnStep cs m ik l M = { l with R := simR ⟨op, ca, cb, cx⟩ ik m l.R M, at_ := a + 1 }) := Lib.hid (by
    rw [lnStep_plain (by rw [Ha.out]; exact Hcd.out) HPL.out, Ha.out, if_neg h10])
  have Hmm : Hid (lnMem cs m l M = simM ⟨op, ca, cb, cx⟩ m l.R M) := Lib.hid (by unfold lnMem; rw [Ha.out, Hcd.out])
  go_wp2_with fail
  rw [Hwz.out]
  refine (Lw.s6_any ⟨0, ik, m, gm, cm, c2, fun _ => g2⟩ ⟨op, ca, cb, cx⟩ ik wz (fun _ => l.R) M ⟨HM.out.m1, HM.out.m32, OwnO.base' ((OwnO.of_own H2.out.l).pure HPZ.out) (Nat.zero_le _), OwnO.base' (HM.out.own.pure (HP2.out.trans HPZ.out)) (Nat.zero_le _), by show g2 ≠ gm; omega⟩ ⟨rfl, hid⟩ HPL.out HG.out).mono ?_
  rintro e w3 ⟨rfl, hrm, hch⟩
  have HRM := Lib.hid hrm
  have HCH : Hid (Chg (fun b => b = g2 ∨ b = gm) wz w3) := Lib.hid hch
  have hx3 := HCH.out.heap HXZ.out (by rintro (e | e) <;> omega)
  have hres := HCH.out.heap ((Chg.of_pure (S := fun _ => False) HPZ.out).heap HRS.out id) (by rintro (e | e) <;> omega)
  have x0 := cell_of_row _ _ 0 _ _ _ hx3
  have x1 := cell_of_row _ _ 1 _ _ _ hx3
  have x2 := cell_of_row _ _ 2 _ _ _ hx3
  have x3 := cell_of_row _ _ 3 _ _ _ hx3
  have k0 := cell_of_row _ _ 0 _ _ _ hres
  have k1 := cell_of_row _ _ 1 _ _ _ hres
  have k2 := cell_of_row _ _ 2 _ _ _ hres
  have k3 := cell_of_row _ _ 3 _ _ _ hres
  simp only [List.getElem?_toArray, List.getElem?_cons_zero, List.getElem?_cons_succ] at x0 x1 x2 x3 k0 k1 k2 k3
  have kf0 := frozen_of_row _ _ 0 _ _ hres
  have kf1 := frozen_of_row _ _ 1 _ _ hres
  have kf2 := frozen_of_row _ _ 2 _ _ hres
  have kf3 := frozen_of_row _ _ 3 _ _ hres
  have hne1 : w.heap.size + 1 ≠ w2.heap.size := by omega
  clear hrm hch hx3 hres c0 c1 c2' c3 q0 q1 q2
  go_wp2_with fail
  refine bodyPost_ret (v := lnV (.slice (some ⟨g2, 0, none⟩) 4 c2) (.slice At2 l.T.length ct2) ⟨simR ⟨op, ca, cb, cx⟩ ik m l.R M, a + 1, l.T, l.W⟩) (by simp [results, Try.results93, lnV, go_sem, k0, k1, k2, k3, HWF.out]) rfl ?_
  rw [Hst.out, Hmm.out]
  have hchg := fun u (hu : Chg (fun b => b = w.heap.size + 1) w3 u) => hu
  refine step_simple HP2.out HPZ.out HCH.out (by omega) (by omega) HM.out HG.out HRM.out H2.out (by omega) ?_
  repeat (first | refine Chg.trans ?_ (Chg.of_set _ _ _ _ rfl))
  exact Chg.refl _ _

end Go.Proofs.Ytajaonejpggcbaa

namespace Go.Proofs.Ytajaonejpggcbaa

def startCS (mem : List Int) : CS := ⟨fun _ => ln0, fun j => mem.getD j 0, [], [], 0⟩
end Go.Proofs.Ytajaonejpggcbaa

namespace Go.Proofs.Ytajaonejpggcbaa
open Go.RowKit

/-- A slice whose cells read as a list. -/
def Flat (w : World) (v : Value) (n s : Nat) (xs : List Value) : Prop := Cells w v n s fun j => xs.getD j undef
theorem Flat.keep {w w' : World} {v : Value} {n s : Nat} {xs : List Value} (h : Flat w v n s xs) (hp : Pure w w') : Flat w' v n s xs := Cells.keep h hp
theorem Flat.of_own {w : World} {B e s n : Nat} {v : Value} {xs : List Value} (h : OwnO w B e s v n xs) : Flat w v n s xs :=
  Cells.of_ownO h fun j hj => by
    have : j < xs.length := by rw [h.1]; exact hj
    simp [List.getD_eq_getElem?_getD, this]
theorem Flat.form {w : World} {v : Value} {n s : Nat} {xs : List Value} (h : Flat w v n s xs) : ∃ A c, v = .slice A n c ∧ n ≤ c ∧ c ≤ 9223372036854775807 := by
  obtain ⟨A, c, h1, h2, h3, _⟩ := h
  exact ⟨A, c, h1, h2, h3⟩
theorem Flat.at_ {w : World} {A : Option Addr} {n s c : Nat} {xs : List Value} (h : Flat w (.slice A n c) n s xs) (hn : 0 < n) : ∃ b o, A = some ⟨b, o, none⟩ ∧ b < w.heap.size ∧ ∀ j, j < n * s → w.cell? ⟨b, o + j, none⟩ = some (xs.getD j undef) := by
  obtain ⟨A', c', hv, _, _, h4⟩ := h
  injection hv with e1 e2 e3
  subst e1
  exact h4 hn
end Go.Proofs.Ytajaonejpggcbaa

namespace Go.Proofs.Ytajaonejpggcbaa
open Go.RowKit

theorem lanes_full (n : Nat) (hn : n ≤ 8) : lanesL (2 ^ n - 1) 8 = List.range n := by
  have : n = 0 ∨ n = 1 ∨ n = 2 ∨ n = 3 ∨ n = 4 ∨ n = 5 ∨ n = 6 ∨ n = 7 ∨ n = 8 := by omega
  rcases this with rfl | rfl | rfl | rfl | rfl | rfl | rfl | rfl | rfl <;> decide
theorem least_bits (cs : List Cd) (L : Nat → Ln) : ∀ j, j ≤ 8 → (leastTo cs L j).1 < 256 := fun j hj => by
  have := (least_spec (cs := cs) (L := L) j).2.2.2.2
  exact Nat.lt_of_lt_of_le this (powI hj)
theorem least_succ (cs : List Cd) (L : Nat → Ln) (j : Nat) : leastTo cs L (j + 1) = if goesL cs.length (L j) = true then (if (L j).at_ < (leastTo cs L j).2 then (2 ^ j, (L j).at_) else if (L j).at_ = (leastTo cs L j).2 then ((leastTo cs L j).1 ||| 2 ^ j, (leastTo cs L j).2) else leastTo cs L j) else leastTo cs L j := rfl

end Go.Proofs.Ytajaonejpggcbaa
