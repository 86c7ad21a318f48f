/- The program's lane at the end of a block. A step of the program's lane. Lanes and crowds that came in; the laws' helpers on them: sizes, copies, comparisons. Crowds that came in: copies of lanes and of crowds, and their size. The graph of a valid program, as the program makes it. No condition. -/
import Derived.Test.YtkolnakcgjlcgaaQab
import Derived.Test.YtkolnakcgjlcgaaQai
import Derived.Test.YtkolnakcgjlcgaaQba
import Derived.Test.YtkolnakcgjlcgaaQbd

namespace Go.Proofs.Ytkolnakcgjlcgaa
open Go.RowKit

/-- A number of further turns is written. -/
theorem MRun.setTurn {o : MO} {w : World} {vt : Nat → Value} {L : Nat → Ln} {M : Nat → Int} (h : MRun o w vt L M) {k : Nat} (hk : k < o.n) {gt ot ct n : Nat} (hv : vt k = .slice (some ⟨gt, ot, none⟩) n ct) (hn : n = (L k).T.length) (j : Nat) (y : Int) :
    MRun o (w.setCell ⟨gt, ot + j, none⟩ (.int .i64 y)) vt (upL L k { L k with T := (L k).T.set j y }) M ∧ MStep o w vt (w.setCell ⟨gt, ot + j, none⟩ (.int .i64 y)) vt := by
  subst hn
  have hg : (vt k).ownBlock = some gt := by rw [hv]; rfl
  have hc : Chg (fun b => b = gt) w (w.setCell ⟨gt, ot + j, none⟩ (.int .i64 y)) := Chg.of_set w _ _ _ rfl
  have hS : ∀ b, b = gt → MOwn o vt b := fun b hb => .inr (.inr (.inr ⟨k, hk, by rw [hb]; exact hg⟩))
  obtain ⟨cur, b1, b2⟩ := h.lanes
  refine ⟨h.frame hc hS ⟨cur, hc.heap b1 (fun e => h.gl_ne.2.2.1 k hk (by rw [hg, e])), fun j' hj => ?_⟩ (fun j' hj => ?_) (h.mem.chg hc fun g hg2 => ?_) (fun j' hj => ?_) h.trx h.tinj (fun j' hj r => ?_) h.mgood, hc.mono hS, fun _ _ _ hg => .inl hg⟩
  · obtain ⟨c0, c1, c2, c3⟩ := b2 j' hj
    unfold LaneC upL
    split
    · rename_i e; subst e; exact ⟨c0, c1, c2, c3⟩
    · exact ⟨c0, c1, c2, c3⟩
  · have hr := (h.row j' hj).chg hc fun g hg2 => by
      simp [MO.row, Value.ownBlock] at hg2
      subst hg2
      exact fun e => (h.row_trn hj hk hg).1 e.symm
    unfold upL
    split
    · rename_i e; subst e; exact hr
    · exact hr
  · simp [MO.vm, Value.ownBlock] at hg2
    subst hg2
    exact fun e => (h.row_trn hk hk hg).2 e.symm
  · unfold upL
    by_cases e : j' = k
    · subst e
      rw [if_pos rfl]
      have := h.trn j' hj
      rw [hv] at this
      have := this.stored j (.int .i64 y)
      rw [hv]
      show OwnO _ _ _ _ _ ((L j').T.set j y).length (((L j').T.set j y).map (.int .i64))
      rw [List.length_set, List.map_set]
      exact this
    · rw [if_neg e]
      exact (h.trn j' hj).chg hc fun g hg2 e2 => h.tinj j' k hj hk e g hg2 (by rw [hg, e2])
  · unfold upL
    split
    · rename_i e; subst e; exact h.good j' hj r
    · exact h.good j' hj r

theorem lnStep_end1 {cs : List Cd} {m id p : Nat} {l : Ln} {M : Nat → Int} (h : (cs.getD l.at_ default).op = 14) (hp : aroundAt cs l.at_ = p) (h13 : (cs.getD p default).op ≠ 13) : lnStep cs m id l M = { l with at_ := l.at_ + 1 } := by
  unfold lnStep; simp only; rw [if_neg (by omega), if_neg (by omega), if_neg (by omega), if_neg (by omega), if_pos h, hp, Int.toNat_natCast, if_neg h13]
theorem lnStep_end2 {cs : List Cd} {m id p : Nat} {l : Ln} {M : Nat → Int} (h : (cs.getD l.at_ default).op = 14) (hp : aroundAt cs l.at_ = p) (h13 : (cs.getD p default).op = 13) (hz : ¬ (0 < l.T.getD (l.T.length - 1) 0 ∧ l.R (cs.getD p default).a.toNat ≠ 0)) : lnStep cs m id l M = { l with at_ := l.at_ + 1, T := l.T.take (l.T.length - 1) } := by
  unfold lnStep; simp only; rw [if_neg (by omega), if_neg (by omega), if_neg (by omega), if_neg (by omega), if_pos h, hp, Int.toNat_natCast, if_pos h13, if_neg hz]
theorem lnStep_end3 {cs : List Cd} {m id p : Nat} {l : Ln} {M : Nat → Int} (h : (cs.getD l.at_ default).op = 14) (hp : aroundAt cs l.at_ = p) (h13 : (cs.getD p default).op = 13) (hz : 0 < l.T.getD (l.T.length - 1) 0 ∧ l.R (cs.getD p default).a.toNat ≠ 0) : lnStep cs m id l M = { l with at_ := p + 1, T := l.T.set (l.T.length - 1) (l.T.getD (l.T.length - 1) 0 - 1) } := by
  unfold lnStep; simp only; rw [if_neg (by omega), if_neg (by omega), if_neg (by omega), if_neg (by omega), if_pos h, hp, Int.toNat_natCast, if_pos h13, if_pos hz]
theorem open_reg {c : Cd} (hc : CdOk c) (ho : Opens c) : Reg c.a := by
  unfold CdOk at hc
  rcases ho with hop | hop
  · rcases hc with h | h | h | h | h | h
    · omega
    · exact h.2.1
    · omega
    · omega
    · omega
    · omega
  · rcases hc with h | h | h | h | h | h
    · omega
    · omega
    · omega
    · omega
    · exact h.2.1
    · omega

theorem MRun.postAt2 {o : MO} {w wx w1 w2 : World} {vt vt1 : Nat → Value} {L1 L' : Nat → Ln} {M : Nat → Int} {k kk a : Nat} {v : Int} (h : MRun o wx vt1 L1 M) (hst : MStep o w vt wx vt1) (hp : Pure wx w1) (hp2 : Pure (w1.setCell ⟨o.gl, kk + 1, none⟩ (.int .i64 v)) w2) (hk : k < o.n) (hkk : k * 4 = kk) (hv : v = (a : Int)) (e : L' = upL L1 k { L1 k with at_ := a }) :
    MRun o w2 vt1 L' M ∧ MStep o w vt w2 vt1 := by
  subst hkk hv e
  obtain ⟨g1, g2⟩ := (h.keep hp).setAt hk a
  exact ⟨g1.keep hp2, (hst.trans ((MStep.of_pure hp).trans g2)).trans (MStep.of_pure hp2)⟩
theorem MRun.popT {o : MO} {w : World} {vt : Nat → Value} {L : Nat → Ln} {M : Nat → Int} (h : MRun o w vt L M) {k : Nat} (hk : k < o.n) {gt ot ct n ln : Nat} (hv : vt k = .slice (some ⟨gt, ot, none⟩) n ct) (hn : n = (L k).T.length) (hl : ln ≤ n) :
    MRun o (w.setCell ⟨o.gl, k * 4 + 2, none⟩ (.slice (some ⟨gt, ot, none⟩) ln ct)) (upV vt k (.slice (some ⟨gt, ot, none⟩) ln ct)) (upL L k { L k with T := (L k).T.take ln }) M ∧ MStep o w vt (w.setCell ⟨o.gl, k * 4 + 2, none⟩ (.slice (some ⟨gt, ot, none⟩) ln ct)) (upV vt k (.slice (some ⟨gt, ot, none⟩) ln ct)) := by
  have ht := h.trn k hk
  rw [hv, ← hn] at ht
  have ht2 := ht.take hl
  refine h.setT hk ((Pure.refl w).grownBy _) ?_ (fun g hg => .inl (by rw [hv]; exact hg))
  have e : ((L k).T.take ln).length = ln := by rw [List.length_take]; omega
  rw [e, List.map_take]
  rwa [Nat.mul_one] at ht2
theorem MPost.of {o : MO} {w w2 : World} {vt vt1 : Nat → Value} {L' : Nat → Ln} {M : Nat → Int} (h : MRun o w2 vt1 L' M ∧ MStep o w vt w2 vt1) : MPost o w vt L' M (.returned (.tuple #[])) w2 := ⟨rfl, vt1, h.1, h.2⟩

set_option maxHeartbeats 4000000 in
set_option maxRecDepth 100000 in
theorem ileave_any (o : MO) (hv : PValid o.cs) (w : World) (vt : Nat → Value) (L : Nat → Ln) (M : Nat → Int) (h : MRun o w vt L M) (k : Nat) (hk : k < o.n) (hlt : (L k).at_ < o.cs.length) (hop : (o.cs.getD (L k).at_ default).op = 14) (htl : (L k).T.length ≤ 40)
    (htn : (o.cs.getD (aroundAt o.cs (L k).at_).toNat default).op = 13 → 0 < (L k).T.length) (htb : ∀ x ∈ (L k).T, (0 : Int) ≤ x ∧ x ≤ 3) :
    Calls Try.prog 92 #[.pointer (some ⟨o.pm, 0, none⟩), .pointer (some ⟨o.gl, k * 4, none⟩)] w (MPost o w vt (upL L k (lnStep o.cs o.m k (L k) M)) M) := by
  have H := Lib.hid h
  obtain ⟨l, Hl⟩ : ∃ l, Hid (L k = l) := ⟨_, Lib.hid rfl⟩
  rw [Hl.out] at hlt hop htl htn htb ⊢
  obtain ⟨a, Ha⟩ : ∃ a, Hid (l.at_ = a) := ⟨_, Lib.hid rfl⟩
  rw [Ha.out] at hlt hop htn
  have hlen := hv.2.1
  obtain ⟨q0, q1, q2, q3, qf⟩ := h.laneCells hk
  rw [Hl.out] at q1 q3
  rw [Ha.out] at q1
  obtain ⟨p, oI, hbi⟩ := (hv.pi hlt).2.2 hop
  have hpa : p < a := hbi.lt
  have hp : p < o.cs.length := by omega
  have hpo := hbi.op
  have har := hbi.ar
  rw [har, Int.toNat_natCast] at htn
  obtain ⟨b, ob, cv, hvl, hb, m0, c0, c1, c2, c3⟩ := h.codeAt hp
  obtain ⟨g, cg, pb, m1, hg1, hg2, hown, hblk⟩ := h.ownAt
  have g0 : w.cell? ⟨g, a, none⟩ = some (.pointer (some ⟨pb p, 0, none⟩)) := by
    have := hown a hlt
    have e : ownOf o.cs a = some p := by unfold ownOf; rw [if_neg (by unfold Opens; omega), if_pos (.inr hop), har, Int.toNat_natCast]
    rw [e] at this; exact this
  obtain ⟨eb, e0, e1, e2⟩ := hblk p hp hpo
  have hpbgl : pb p ≠ o.gl := by have := h.glB.2; omega
  have HPG : Hid (∀ g, (vt k).ownBlock = some g → pb p ≠ g) := Lib.hid (fun g hg => by have := (h.trx k g hk hg).1; omega)
  obtain ⟨cd, Hcd⟩ : ∃ cd, Hid (o.cs.getD p default = cd) := ⟨_, Lib.hid rfl⟩
  have hcok : CdOk cd := by rw [← Hcd.out]; exact hv.1 _ (cdOk_mem hp)
  rw [Hcd.out] at hpo htn c0 c1 c2 c3
  have hreg := open_reg hcok hpo
  obtain ⟨an, han⟩ := Int.eq_ofNat_of_zero_le hreg.1
  have han4 : an < 4 := by have := hreg.2; omega
  have r0 := h.regCell hk han4
  rw [Hl.out] at r0
  obtain ⟨x, Hx⟩ : ∃ x, Hid (l.R an = x) := ⟨_, Lib.hid rfl⟩
  rw [Hx.out] at r0
  have HOP := Lib.hid hop
  have HAR := Lib.hid har
  have HTN := Lib.hid htn
  have HTB := Lib.hid htb
  have htrn := h.trn k hk
  rw [Hl.out] at htrn
  have HT := Lib.hid htrn
  obtain ⟨At, ct, hvt⟩ := htrn.form
  rw [hvt] at q2
  have HVT := Lib.hid hvt
  obtain ⟨kk, Hkk⟩ : ∃ kk, Hid (k * 4 = kk) := ⟨_, Lib.hid rfl⟩
  rw [Hkk.out] at q0 q1 q2 q3 ⊢
  have ha0 : (0 : Int) ≤ (a : Int) := by omega
  have haI : (a : Int) < (o.cs.length : Int) := by omega
  have hp0 : (0 : Int) ≤ (p : Int) := by omega
  have hpI : (p : Int) < (o.cs.length : Int) := by omega
  have hglw : o.gl < w.heap.size := h.glLt
  have f1 := qf (kk + 1)
  have f2 := qf (kk + 2)
  have HNE : Hid (∀ g, (vt k).ownBlock = some g → g ≠ o.gl ∧ g ≠ o.rows k) := Lib.hid (fun g hg => ⟨fun e => h.gl_ne.2.2.1 k hk (by rw [hg, e]), (h.row_trn hk hk hg).1⟩)
  have hrgl : o.rows k ≠ o.gl := fun e => h.gl_ne.2.1 k hk e.symm
  obtain ⟨op, ca, cb, cc⟩ := cd
  simp only at c0 c1 c2 c3 han
  subst han
  unfold MO.row at q0
  have han0 : (0 : Int) ≤ (an : Int) := by omega
  have han4I : (an : Int) < 4 := by omega
  clear h hv hop hreg hcok hbi hown hblk qf htrn hvt hvl e1 e2 hpo har htn htb
  go_enter Try.func92, Try.ntmps92
  go_wp2_with fail
  go_quiet (fail)
  go_wp2_with fail
  obtain ⟨w1, Hw1⟩ : ∃ w1, Hid (w.drewN nq = w1) := ⟨_, Lib.hid rfl⟩
  have HPw : Hid (Pure w w1) := Lib.hid (by rw [← Hw1.out]; exact (by repeat (first | assumption | exact Pure.refl _ | refine Pure.drewN ?_ _ | refine Pure.drew ?_ | refine Pure.alloc ?_ _ | refine Pure.setCell ?_ (by simp <;> omega) _)))
  rw [Hw1.out]
  have H1 := Lib.hid (H.out.keep HPw.out)
  have HSt : Hid (MStep o w vt w1 vt) := Lib.hid (MStep.of_pure HPw.out)
  have HT1 := Lib.hid (HT.out.pure HPw.out)
  have q0 := keepP HPw.out q0
  have q1 := keepP HPw.out q1
  have q2 := keepP HPw.out q2
  have r0 := keepP HPw.out r0
  have m0 := keepP HPw.out m0
  have e0 := keepP HPw.out e0
  have c0 := keepP HPw.out c0
  have c1 := keepP HPw.out c1
  have c2 := keepP HPw.out c2
  have c3 := keepP HPw.out c3
  have f1 : w1.frozen? ⟨o.gl, kk + 1, none⟩ = false := by rw [HPw.out.frozen _ _ hglw]; exact f1
  have f2 : w1.frozen? ⟨o.gl, kk + 2, none⟩ = false := by rw [HPw.out.frozen _ _ hglw]; exact f2
  have hglw := Nat.lt_of_lt_of_le hglw HPw.out.size
  refine region_heldF (fun w' => w'.cell? ⟨o.pm, 0, none⟩ = some (.slice (some ⟨b, ob, none⟩) o.cs.length cv) ∧ w'.cell? ⟨pb p, 0, none⟩ = some (.int .i64 (p : Int)) ∧ w'.cell? ⟨b, ob + p * 4, none⟩ = some (.int .i64 op) ∧ w'.cell? ⟨b, ob + p * 4 + 1, none⟩ = some (.int .i64 (an : Int)) ∧ w'.cell? ⟨b, ob + p * 4 + 2, none⟩ = some (.int .i64 cb) ∧ w'.cell? ⟨b, ob + p * 4 + 3, none⟩ = some (.int .i64 cc))
    (List.range 10) [10, 11] (fun l => List.take 10 l) (fun l => List.drop 10 l) (by kernel_rfl) (by kernel_rfl) (by kernel_rfl) (by kernel_rfl) (fun c a d v w h => by cases d <;> exact h) (by exact ⟨keepP (by repeat (first | assumption | exact Pure.refl _ | refine Pure.drewN ?_ _ | refine Pure.drew ?_ | refine Pure.alloc ?_ _ | refine Pure.setCell ?_ (by simp <;> omega) _)) m0, keepP (by repeat (first | assumption | exact Pure.refl _ | refine Pure.drewN ?_ _ | refine Pure.drew ?_ | refine Pure.alloc ?_ _ | refine Pure.setCell ?_ (by simp <;> omega) _)) e0, keepP (by repeat (first | assumption | exact Pure.refl _ | refine Pure.drewN ?_ _ | refine Pure.drew ?_ | refine Pure.alloc ?_ _ | refine Pure.setCell ?_ (by simp <;> omega) _)) c0, keepP (by repeat (first | assumption | exact Pure.refl _ | refine Pure.drewN ?_ _ | refine Pure.drew ?_ | refine Pure.alloc ?_ _ | refine Pure.setCell ?_ (by simp <;> omega) _)) c1, keepP (by repeat (first | assumption | exact Pure.refl _ | refine Pure.drewN ?_ _ | refine Pure.drew ?_ | refine Pure.alloc ?_ _ | refine Pure.setCell ?_ (by simp <;> omega) _)) c2, keepP (by repeat (first | assumption | exact Pure.refl _ | refine Pure.drewN ?_ _ | refine Pure.drew ?_ | refine Pure.alloc ?_ _ | refine Pure.setCell ?_ (by simp <;> omega) _)) c3⟩) ?_
  simp only [List.take_succ_cons, List.take_zero, List.drop_succ_cons, List.drop_zero]
  iterate 10
    apply held_of
    · exact rfl
    · intro w' hS
      obtain ⟨s0, s1, s2, s3, s4, s5⟩ := hS
      go_simp
      try exact rfl
    try go_simp
  refine held_nil ?_
  unfold Tail
  go_wp2
  refine And.intro (by exact ⟨keepP (by repeat (first | assumption | exact Pure.refl _ | refine Pure.drewN ?_ _ | refine Pure.drew ?_ | refine Pure.alloc ?_ _ | refine Pure.setCell ?_ (by simp <;> omega) _)) m0, keepP (by repeat (first | assumption | exact Pure.refl _ | refine Pure.drewN ?_ _ | refine Pure.drew ?_ | refine Pure.alloc ?_ _ | refine Pure.setCell ?_ (by simp <;> omega) _)) e0, keepP (by repeat (first | assumption | exact Pure.refl _ | refine Pure.drewN ?_ _ | refine Pure.drew ?_ | refine Pure.alloc ?_ _ | refine Pure.setCell ?_ (by simp <;> omega) _)) c0, keepP (by repeat (first | assumption | exact Pure.refl _ | refine Pure.drewN ?_ _ | refine Pure.drew ?_ | refine Pure.alloc ?_ _ | refine Pure.setCell ?_ (by simp <;> omega) _)) c1, keepP (by repeat (first | assumption | exact Pure.refl _ | refine Pure.drewN ?_ _ | refine Pure.drew ?_ | refine Pure.alloc ?_ _ | refine Pure.setCell ?_ (by simp <;> omega) _)) c2, keepP (by repeat (first | assumption | exact Pure.refl _ | refine Pure.drewN ?_ _ | refine Pure.drew ?_ | refine Pure.alloc ?_ _ | refine Pure.setCell ?_ (by simp <;> omega) _)) c3⟩) ?_
  unfold Tail
  by_cases h13 : op = 13
  · subst h13
    have htn := HTN.out rfl
    obtain ⟨gt, ot, ct', hvt, hct1, hct2, hgt1, hgt2⟩ := HT1.out.formSome htn
    have hvt' := HVT.out.symm.trans hvt
    injection hvt' with hA _ hC
    subst hA hC
    obtain ⟨ln, Hln⟩ : ∃ ln, Hid (l.T.length - 1 = ln) := ⟨_, Lib.hid rfl⟩
    have hln : (l.T.length : Int) - 1 = (ln : Int) := by have := Hln.out; omega
    have hln1 : (ln : Int) < (l.T.length : Int) := by omega
    have hln0 : (0 : Int) ≤ (ln : Int) := by omega
    obtain ⟨tv, Htv⟩ : ∃ tv, Hid (l.T.getD ln 0 = tv) := ⟨_, Lib.hid rfl⟩
    have htvm : tv ∈ l.T := by rw [← Htv.out]; have hh : ln < l.T.length := by omega
                               simp [List.getD_eq_getElem?_getD, hh]
    obtain ⟨htv0, htv3⟩ := HTB.out tv htvm
    have t0 : w1.cell? ⟨gt, ot + ln, none⟩ = some (.int .i64 tv) := by
      have hh : ln < l.T.length := by omega
      have := HT1.out
      rw [HVT.out] at this
      have := this.cell ln (by omega)
      rw [this, ← Htv.out]
      simp [List.getD_eq_getElem?_getD, hh]
    have hgne := HNE.out gt (by rw [HVT.out]; rfl)
    have tf : w1.frozen? ⟨gt, ot + ln, none⟩ = false := by
      have := HT1.out
      rw [HVT.out] at this
      exact this.frozen _
    have hrlt : o.rows k < w1.heap.size := (H1.out.rowLo hk).2
    clear htvm hvt
    go_wp2_with fail
    obtain ⟨bx, Hbx⟩ : ∃ bx, Hid (w1.heap.size = bx) := ⟨_, Lib.hid rfl⟩
    obtain ⟨wy, Hwy⟩ : ∃ wy, Hid ((w1.setCell ⟨o.gl, kk + 1, none⟩ (.int .i64 ((a : Int) + 1))).alloc (.cells #[.int .i64 13, .int .i64 (an : Int), .int .i64 cb, .int .i64 cc] 36) = wy) := ⟨_, Lib.hid rfl⟩
    have HM := Lib.hid (H1.out.postAt2 (w2 := wy) (v := (a : Int) + 1) (L' := upL L k { l with at_ := a + 1 }) HSt.out (Pure.refl _) (by rw [← Hwy.out]; exact (by repeat (first | assumption | exact Pure.refl _ | refine Pure.drewN ?_ _ | refine Pure.drew ?_ | refine Pure.alloc ?_ _ | refine Pure.setCell ?_ (by simp <;> omega) _))) hk Hkk.out (a := a + 1) (by push_cast; rfl) (by rw [Hl.out]))
    have hbox : wy.heap[bx]? = some (.cells #[.int .i64 13, .int .i64 (an : Int), .int .i64 cb, .int .i64 cc] 36 (0, 0)) := by
      rw [← Hwy.out, ← Hbx.out]
      have := heap_alloc_new (w1.setCell ⟨o.gl, kk + 1, none⟩ (.int .i64 ((a : Int) + 1))) (.cells #[.int .i64 13, .int .i64 (an : Int), .int .i64 cb, .int .i64 cc] 36)
      simpa using this
    have x1 := cell_of_row wy bx 1 _ _ _ hbox
    simp only [List.getElem?_toArray, List.getElem?_cons_zero, List.getElem?_cons_succ] at x1
    have hlc := HM.out.1.laneCells hk
    rw [upL_same, Hkk.out] at hlc
    obtain ⟨y0, y1, y2, _, yf⟩ := hlc
    have yf1 := yf (kk + 1)
    have yf2 := yf (kk + 2)
    have yr := HM.out.1.regCell hk han4
    rw [upL_same] at yr
    simp only [Hx.out] at yr
    rw [HVT.out] at y2
    unfold MO.row at y0
    have htw := HM.out.1.trn k hk
    rw [upL_same, HVT.out] at htw
    have yt : wy.cell? ⟨gt, ot + ln, none⟩ = some (.int .i64 tv) := by
      have hh : ln < l.T.length := by omega
      have := htw.cell ln (by simpa using hh)
      rw [this, ← Htv.out]
      simp [List.getD_eq_getElem?_getD, hh]
    have ytf : wy.frozen? ⟨gt, ot + ln, none⟩ = false := htw.frozen _
    have hglne : gt ≠ o.gl := hgne.1
    have HTW := Lib.hid htw
    have hpbgt : pb p ≠ gt := HPG.out gt (by rw [HVT.out]; rfl)
    have ye0 : wy.cell? ⟨pb p, 0, none⟩ = some (.int .i64 (p : Int)) := by
      rw [← Hwy.out]
      exact keepP (show Pure (w1.setCell ⟨o.gl, kk + 1, none⟩ (.int .i64 ((a : Int) + 1))) _ from (by repeat (first | assumption | exact Pure.refl _ | refine Pure.drewN ?_ _ | refine Pure.drew ?_ | refine Pure.alloc ?_ _ | refine Pure.setCell ?_ (by simp <;> omega) _))) (keepC (Chg.of_set (S := fun b => b = o.gl) w1 o.gl (kk + 1) _ rfl) hpbgl e0)
    rw [Hbx.out, Hwy.out]
    clear yf htw hbox q0 q1 q2 r0 m0 e0 c0 c1 c2 c3 f1 f2 t0 tf
    by_cases hx : x = 0
    · have hx' : (x != 0) = false := by rw [hx]; rfl
      have Hlo : Hid (lnStep o.cs o.m k l M = { l with at_ := a + 1, T := l.T.take ln }) := Lib.hid (by
        have e := lnStep_end2 (m := o.m) (id := k) (l := l) (M := M) (p := p) (by rw [Ha.out]; exact HOP.out) (by rw [Ha.out]; exact HAR.out) (by rw [Hcd.out]) (by rw [Hcd.out]; rintro ⟨_, h2⟩; exact h2 (by show l.R (an : Int).toNat = 0; rw [Int.toNat_natCast, Hx.out, hx]))
        rw [e, Ha.out, Hln.out])
      go_quiet (fail)
      go_wp2
      go_end0
      have hp := (HM.out.1.keep (show Pure wy (wy.drewN (1 + nq)) from (by repeat (first | assumption | exact Pure.refl _ | refine Pure.drewN ?_ _ | refine Pure.drew ?_ | refine Pure.alloc ?_ _ | refine Pure.setCell ?_ (by simp <;> omega) _)))).popT (ln := ln) hk HVT.out (by rw [upL_same]) (by omega)
      rw [upL_same, upL_up, Hkk.out] at hp
      rw [Hlo.out]
      exact MPost.of ⟨hp.1, HM.out.2.trans ((MStep.of_pure (show Pure wy (wy.drewN (1 + nq)) from (by repeat (first | assumption | exact Pure.refl _ | refine Pure.drewN ?_ _ | refine Pure.drew ?_ | refine Pure.alloc ?_ _ | refine Pure.setCell ?_ (by simp <;> omega) _)))).trans hp.2)⟩
    · have hx' : (x != 0) = true := by rw [bne_iff_ne]; exact hx
      by_cases htv : tv > 0
      · have Hlo : Hid (lnStep o.cs o.m k l M = { l with at_ := p + 1, T := l.T.set ln (tv - 1) }) := Lib.hid (by
          have e := lnStep_end3 (m := o.m) (id := k) (l := l) (M := M) (p := p) (by rw [Ha.out]; exact HOP.out) (by rw [Ha.out]; exact HAR.out) (by rw [Hcd.out]) (by rw [Hcd.out, Hln.out, Htv.out]; exact ⟨htv, by show l.R (an : Int).toNat ≠ 0; rw [Int.toNat_natCast, Hx.out]; exact hx⟩)
          rw [e, Hln.out, Htv.out])
        have hglne2 : o.gl ≠ gt := fun e => hglne e.symm
        go_quiet (fail)
        go_wp2
        go_end0
        have hp := (HM.out.1.keep (show Pure wy (wy.drewN (1 + nq)) from (by repeat (first | assumption | exact Pure.refl _ | refine Pure.drewN ?_ _ | refine Pure.drew ?_ | refine Pure.alloc ?_ _ | refine Pure.setCell ?_ (by simp <;> omega) _)))).setTurn hk HVT.out (by rw [upL_same]) ln (tv - 1)
        rw [upL_same, upL_up] at hp
        exact hp.1.postAt (HM.out.2.trans ((MStep.of_pure (show Pure wy (wy.drewN (1 + nq)) from (by repeat (first | assumption | exact Pure.refl _ | refine Pure.drewN ?_ _ | refine Pure.drew ?_ | refine Pure.alloc ?_ _ | refine Pure.setCell ?_ (by simp <;> omega) _)))).trans hp.2)) (Pure.refl _) hk Hkk.out (a := p + 1) (by push_cast; rfl) (by rw [Hlo.out, upL_same, upL_up])
      · have htv2 : tv = 0 := by omega
        subst htv2
        have Hlo : Hid (lnStep o.cs o.m k l M = { l with at_ := a + 1, T := l.T.take ln }) := Lib.hid (by
          have e := lnStep_end2 (m := o.m) (id := k) (l := l) (M := M) (p := p) (by rw [Ha.out]; exact HOP.out) (by rw [Ha.out]; exact HAR.out) (by rw [Hcd.out]) (by rw [Hln.out, Htv.out]; rintro ⟨h1, _⟩; omega)
          rw [e, Ha.out, Hln.out])
        go_quiet (fail)
        go_wp2
        go_end0
        have hp := (HM.out.1.keep (show Pure wy (wy.drewN (1 + nq)) from (by repeat (first | assumption | exact Pure.refl _ | refine Pure.drewN ?_ _ | refine Pure.drew ?_ | refine Pure.alloc ?_ _ | refine Pure.setCell ?_ (by simp <;> omega) _)))).popT (ln := ln) hk HVT.out (by rw [upL_same]) (by omega)
        rw [upL_same, upL_up, Hkk.out] at hp
        rw [Hlo.out]
        exact MPost.of ⟨hp.1, HM.out.2.trans ((MStep.of_pure (show Pure wy (wy.drewN (1 + nq)) from (by repeat (first | assumption | exact Pure.refl _ | refine Pure.drewN ?_ _ | refine Pure.drew ?_ | refine Pure.alloc ?_ _ | refine Pure.setCell ?_ (by simp <;> omega) _)))).trans hp.2)⟩
  · have Hlo : Hid (lnStep o.cs o.m k l M = { l with at_ := a + 1 }) := Lib.hid (by
      have e := lnStep_end1 (m := o.m) (id := k) (l := l) (M := M) (p := p) (by rw [Ha.out]; exact HOP.out) (by rw [Ha.out]; exact HAR.out) (by rw [Hcd.out]; exact h13)
      rw [e, Ha.out])
    have h13' : (op != 13) = true := by rw [bne_iff_ne]; exact h13
    go_wp2
    go_end0
    exact MPost.of (H1.out.postAt2 (v := (a : Int) + 1) HSt.out (Pure.refl _) (by repeat (first | assumption | exact Pure.refl _ | refine Pure.drewN ?_ _ | refine Pure.drew ?_ | refine Pure.alloc ?_ _ | refine Pure.setCell ?_ (by simp <;> omega) _)) hk Hkk.out (a := a + 1) (by push_cast; rfl) (by rw [Hlo.out, Hl.out]))

end Go.Proofs.Ytkolnakcgjlcgaa

namespace Go.Proofs.Ytkolnakcgjlcgaa
open Go.RowKit

theorem ctx_turns {cs : List Cd} : ∀ {F : List Fr} {j : Nat}, Ctx cs j F → (frT F).length + j ≤ cs.length
  | [], _, h => by rw [show _ = _ from h]; simp [frT]
  | .fi _ k :: F, j, h => by
    have := ctx_turns (F := F) h.2.2.2.2.2.2
    simp only [frT]; omega
  | .fe _ e k :: F, j, h => by
    have := ctx_turns (F := F) h.2.2.2.2.2.2
    simp only [frT]; omega
  | .lo _ _ _ _ _ k :: F, j, h => by
    obtain ⟨_, _, _, _, _, _, _, _, _, _, _, _, hc⟩ := h
    have := ctx_turns (F := F) hc
    simp only [frT, List.length_append, List.length_singleton]; omega
/-- Places and turns of a lane on its way. -/
theorem OnWay.facts {cs : List Cd} {l : Ln} {w : Nat} (h : OnWay cs l w) (h40 : cs.length ≤ 40) : l.at_ ≤ cs.length ∧ l.T.length ≤ 40 ∧ (∀ x ∈ l.T, (0 : Int) ≤ x ∧ x ≤ 3) ∧ (l.at_ < cs.length → (cs.getD l.at_ default).op = 14 → (cs.getD (aroundAt cs l.at_).toNat default).op = 13 → 0 < l.T.length) := by
  have hle := h.le
  obtain ⟨u, F, h1, h2⟩ := h
  have ht := ctx_turns h1.ctx
  refine ⟨hle, by rw [h1.t]; omega, by rw [h1.t]; exact frT_len h1.ctx, fun hlt h14 h13 => ?_⟩
  cases u with
  | op c k =>
    rw [h1.seg.op.1] at h14
    exact absurd h14 h1.ok.1.2.2.2.2
  | ite a t k => rw [h1.seg.ite.1] at h14; simp [cIf] at h14
  | itee a t e k => rw [h1.seg.itee.1] at h14; simp [cIf] at h14
  | loop a b t k => rw [h1.seg.loop.1] at h14; simp [cLoop] at h14
  | nil =>
    cases F with
    | nil => have := h1.done; omega
    | cons f F =>
      have hc := h1.nil_ctx
      cases f with
      | fi p k =>
        obtain ⟨_, _, s3, s4, _⟩ := hc
        rw [s3, Int.toNat_natCast] at h13
        omega
      | fe p e k =>
        rw [hc.1] at h14; simp [cElse] at h14
      | lo p a b r t k =>
        rw [h1.t]; simp [frT]
theorem lnStep_else {cs : List Cd} {m id : Nat} {l : Ln} {M : Nat → Int} (h : (cs.getD l.at_ default).op = 12) : lnStep cs m id l M = { l with at_ := ((endAt cs (aroundAt cs l.at_).toNat).1 + 1).toNat } := by
  unfold lnStep; simp only; rw [if_neg (by omega), if_neg (by omega), if_pos h]
def stepL (o : MO) (L : Nat → Ln) (M : Nat → Int) (k : Nat) : Nat → Ln := if goesL o.cs.length (L k) = true then upL L k (lnStep o.cs o.m k (L k) M) else L
def stepM (o : MO) (L : Nat → Ln) (M : Nat → Int) (k : Nat) : Nat → Int := if goesL o.cs.length (L k) = true then lnMem o.cs o.m (L k) M else M

set_option maxHeartbeats 4000000 in
set_option maxRecDepth 100000 in
theorem istep_any (o : MO) (hv : PValid o.cs) (w : World) (vt : Nat → Value) (L : Nat → Ln) (M : Nat → Int) (h : MRun o w vt L M) (k : Nat) (hk : k < o.n) (W : Nat) (hw : OnWay o.cs (L k) W) :
    Calls Try.prog 70 #[.pointer (some ⟨o.pm, 0, none⟩), .pointer (some ⟨o.gl, k * 4, none⟩), .int .i64 (k : Nat), o.vm] w (MPost o w vt (stepL o L M k) (stepM o L M k)) := by
  have H := Lib.hid h
  have HV := Lib.hid hv
  obtain ⟨hle, htl, htb, htn⟩ := hw.facts hv.2.1
  have HD : Hid (∀ u : World, Pure w u → Calls Try.prog 69 #[.pointer (some ⟨o.pm, 0, none⟩), .pointer (some ⟨o.gl, k * 4, none⟩)] u fun e w' => e = .returned (.bool (decide ((L k).at_ = o.cs.length))) ∧ Pure u w') := Lib.hid fun u hu => idone_any o u vt L M (H.out.keep hu) k hk
  have HE : Hid (∀ (u : World) (hlt : (L k).at_ < o.cs.length) (hop : Opens (o.cs.getD (L k).at_ default)), Pure w u → Calls Try.prog 91 #[.pointer (some ⟨o.pm, 0, none⟩), .pointer (some ⟨o.gl, k * 4, none⟩)] u (MPost o u vt (upL L k (lnStep o.cs o.m k (L k) M)) M)) := Lib.hid fun u hlt hop hu => ienter_any o hv u vt L M (H.out.keep hu) k hk hlt hop htl
  have HL : Hid (∀ (u : World) (hlt : (L k).at_ < o.cs.length) (hop : (o.cs.getD (L k).at_ default).op = 14), Pure w u → Calls Try.prog 92 #[.pointer (some ⟨o.pm, 0, none⟩), .pointer (some ⟨o.gl, k * 4, none⟩)] u (MPost o u vt (upL L k (lnStep o.cs o.m k (L k) M)) M)) := Lib.hid fun u hlt hop hu => ileave_any o hv u vt L M (H.out.keep hu) k hk hlt hop htl (htn hlt hop) htb
  obtain ⟨q0, q1, q2, q3, qf⟩ := h.laneCells hk
  obtain ⟨kk, Hkk⟩ : ∃ kk, Hid (k * 4 = kk) := ⟨_, Lib.hid rfl⟩
  rw [Hkk.out] at q0 q1 q2 q3 HD HE HL ⊢
  obtain ⟨l, Hl⟩ : ∃ l, Hid (L k = l) := ⟨_, Lib.hid rfl⟩
  rw [Hl.out] at HD HE HL q1 q3 hle
  obtain ⟨W', HWb⟩ : ∃ W', Hid (l.W = W') := ⟨_, Lib.hid rfl⟩
  rw [HWb.out] at q3
  cases W'
  case true =>
    have hng : goesL o.cs.length (L k) = false := by rw [Hl.out]; unfold goesL; rw [HWb.out]; rfl
    have HS : Hid (stepL o L M k = L ∧ stepM o L M k = M) := Lib.hid (by unfold stepL stepM; rw [hng]; exact ⟨rfl, rfl⟩)
    clear hng h hv hw q0 q1 q2 qf htl htb htn
    go_enter Try.func70, Try.ntmps70
    go_wp2
    go_end0
    rw [HS.out.1, HS.out.2]
    exact ⟨rfl, vt, H.out, MStep.refl _ _ _⟩
  case false =>
  by_cases hdn : l.at_ = o.cs.length
  · have hng : goesL o.cs.length (L k) = false := by rw [Hl.out]; unfold goesL; rw [HWb.out, hdn]; simp
    have HS : Hid (stepL o L M k = L ∧ stepM o L M k = M) := Lib.hid (by unfold stepL stepM; rw [hng]; exact ⟨rfl, rfl⟩)
    have HDN := Lib.hid hdn
    clear hng h hv hw q0 q1 q2 qf htl htb htn hdn
    go_enter Try.func70, Try.ntmps70
    go_wp2_with fail
    refine (HD.out _ (Pure.refl _)).mono ?_
    rintro e w1 ⟨rfl, hp1⟩
    rw [decide_eq_true HDN.out]
    go_wp2
    go_end0
    rw [HS.out.1, HS.out.2]
    exact ⟨rfl, vt, H.out.keep hp1, MStep.of_pure hp1⟩
  obtain ⟨a, Ha⟩ : ∃ a, Hid (l.at_ = a) := ⟨_, Lib.hid rfl⟩
  have hlt : a < o.cs.length := by rw [← Ha.out]; omega
  have hgo : goesL o.cs.length (L k) = true := by rw [Hl.out]; unfold goesL; rw [HWb.out, Ha.out]; simp [hlt]
  have HS : Hid (stepL o L M k = upL L k (lnStep o.cs o.m k l M) ∧ stepM o L M k = lnMem o.cs o.m l M) := Lib.hid (by unfold stepL stepM; rw [hgo, Hl.out]; exact ⟨rfl, rfl⟩)
  have HDN := Lib.hid hdn
  rw [Ha.out] at q1 HE HL
  obtain ⟨b, ob, cv, hvl, hb, m0, c0, c1, c2, c3⟩ := h.codeAt hlt
  obtain ⟨g, cg, pb, m1, hg1, hg2, hown, hblk⟩ := h.ownAt
  obtain ⟨cd, Hcd⟩ : ∃ cd, Hid (o.cs.getD a default = cd) := ⟨_, Lib.hid rfl⟩
  have hcok : CdOk cd := by rw [← Hcd.out]; exact hv.1 _ (cdOk_mem hlt)
  have HCOK := Lib.hid hcok
  rw [Hcd.out] at c0 c1 c2 c3 HE HL
  have HCL := Lib.hid (show o.cs.getD l.at_ default = cd by rw [Ha.out]; exact Hcd.out)
  have HOWN := Lib.hid hown
  have HBLK := Lib.hid hblk
  have ha0 : (0 : Int) ≤ (a : Int) := by omega
  have haI : (a : Int) < (o.cs.length : Int) := by omega
  have hlen := hv.2.1
  obtain ⟨op, ca, cb, cc⟩ := cd
  simp only at c0 c1 c2 c3
  have hglw : o.gl < w.heap.size := h.glLt
  clear h hv hw hcok hown hblk hdn htl htb htn hgo hvl hle q2
  go_enter Try.func70, Try.ntmps70
  go_wp2_with fail
  refine (HD.out _ (Pure.refl _)).mono ?_
  rintro e w1 ⟨rfl, hp1⟩
  rw [decide_eq_false HDN.out]
  have HP1 := Lib.hid hp1
  have q0 := keepP hp1 q0
  have q1 := keepP hp1 q1
  have q3 := keepP hp1 q3
  have m0 := keepP hp1 m0
  have m1 := keepP hp1 m1
  have c0 := keepP hp1 c0
  have c1 := keepP hp1 c1
  have c2 := keepP hp1 c2
  have c3 := keepP hp1 c3
  have hb := Nat.lt_of_lt_of_le hb hp1.size
  have hglw := Nat.lt_of_lt_of_le hglw hp1.size
  have H1 := Lib.hid (H.out.keep hp1)
  clear hp1 qf
  go_wp2_with fail
  refine region_heldF (fun w' => w'.cell? ⟨o.pm, 0, none⟩ = some (.slice (some ⟨b, ob, none⟩) o.cs.length cv) ∧ w'.cell? ⟨o.gl, kk + 1, none⟩ = some (.int .i64 (a : Int)) ∧ w'.cell? ⟨b, ob + a * 4, none⟩ = some (.int .i64 op) ∧ w'.cell? ⟨b, ob + a * 4 + 1, none⟩ = some (.int .i64 ca) ∧ w'.cell? ⟨b, ob + a * 4 + 2, none⟩ = some (.int .i64 cb) ∧ w'.cell? ⟨b, ob + a * 4 + 3, none⟩ = some (.int .i64 cc))
    (List.range 10) [10, 11] (fun l => List.take 10 l) (fun l => List.drop 10 l) (by kernel_rfl) (by kernel_rfl) (by kernel_rfl) (by kernel_rfl) (fun c a d v w h => by cases d <;> exact h) (by exact ⟨m0, q1, c0, c1, c2, c3⟩) ?_
  simp only [List.take_succ_cons, List.take_zero, List.drop_succ_cons, List.drop_zero]
  iterate 10
    apply held_of
    · exact rfl
    · intro w' hS
      obtain ⟨s0, s1, s2, s3, s4, s5⟩ := hS
      go_simp
      try exact rfl
    try go_simp
  refine held_nil ?_
  unfold Tail
  go_wp2
  refine And.intro (by exact ⟨keepP (by repeat (first | assumption | exact Pure.refl _ | refine Pure.drewN ?_ _ | refine Pure.drew ?_ | refine Pure.alloc ?_ _ | refine Pure.setCell ?_ (by simp <;> omega) _)) m0, keepP (by repeat (first | assumption | exact Pure.refl _ | refine Pure.drewN ?_ _ | refine Pure.drew ?_ | refine Pure.alloc ?_ _ | refine Pure.setCell ?_ (by simp <;> omega) _)) q1, keepP (by repeat (first | assumption | exact Pure.refl _ | refine Pure.drewN ?_ _ | refine Pure.drew ?_ | refine Pure.alloc ?_ _ | refine Pure.setCell ?_ (by simp <;> omega) _)) c0, keepP (by repeat (first | assumption | exact Pure.refl _ | refine Pure.drewN ?_ _ | refine Pure.drew ?_ | refine Pure.alloc ?_ _ | refine Pure.setCell ?_ (by simp <;> omega) _)) c1, keepP (by repeat (first | assumption | exact Pure.refl _ | refine Pure.drewN ?_ _ | refine Pure.drew ?_ | refine Pure.alloc ?_ _ | refine Pure.setCell ?_ (by simp <;> omega) _)) c2, keepP (by repeat (first | assumption | exact Pure.refl _ | refine Pure.drewN ?_ _ | refine Pure.drew ?_ | refine Pure.alloc ?_ _ | refine Pure.setCell ?_ (by simp <;> omega) _)) c3⟩) ?_
  unfold Tail
  by_cases hopn : Opens ⟨op, ca, cb, cc⟩
  · have d1 : (op == 11) = true ∨ ((op == 11) = false ∧ (op == 13) = true) := by
      rcases hopn with h | h
      · exact .inl (by rw [beq_iff_eq]; exact h)
      · exact .inr ⟨by rw [beq_eq_false_iff_ne]; show ¬ op = 11; have : op = 13 := h; omega, by rw [beq_iff_eq]; exact h⟩
    have HMM : Hid (lnMem o.cs o.m l M = M) := Lib.hid (lnMem_ne (by rw [HCL.out]; rcases hopn with h | h <;> (show ¬ op = 9; have : _ = _ := h; simp only at this; omega)))
    have HO := Lib.hid hopn
    clear hopn
    rcases d1 with d11 | ⟨d11, d13⟩
    · go_wp2_with fail
      refine (HE.out _ hlt HO.out (HP1.out.trans (by repeat (first | assumption | exact Pure.refl _ | refine Pure.drewN ?_ _ | refine Pure.drew ?_ | refine Pure.alloc ?_ _ | refine Pure.setCell ?_ (by simp <;> omega) _)))).mono ?_
      rintro e w2 ⟨rfl, vt2, h2, s2⟩
      go_wp2
      go_end0
      rw [HS.out.1, HS.out.2, HMM.out]
      exact ⟨rfl, vt2, h2, (MStep.of_pure (HP1.out.trans (by repeat (first | assumption | exact Pure.refl _ | refine Pure.drewN ?_ _ | refine Pure.drew ?_ | refine Pure.alloc ?_ _ | refine Pure.setCell ?_ (by simp <;> omega) _)))).trans s2⟩
    · go_wp2_with fail
      refine (HE.out _ hlt HO.out (HP1.out.trans (by repeat (first | assumption | exact Pure.refl _ | refine Pure.drewN ?_ _ | refine Pure.drew ?_ | refine Pure.alloc ?_ _ | refine Pure.setCell ?_ (by simp <;> omega) _)))).mono ?_
      rintro e w2 ⟨rfl, vt2, h2, s2⟩
      go_wp2
      go_end0
      rw [HS.out.1, HS.out.2, HMM.out]
      exact ⟨rfl, vt2, h2, (MStep.of_pure (HP1.out.trans (by repeat (first | assumption | exact Pure.refl _ | refine Pure.drewN ?_ _ | refine Pure.drew ?_ | refine Pure.alloc ?_ _ | refine Pure.setCell ?_ (by simp <;> omega) _)))).trans s2⟩
  have d11 : (op == 11) = false := by rw [beq_eq_false_iff_ne]; exact fun e => hopn (.inl e)
  have d13 : (op == 13) = false := by rw [beq_eq_false_iff_ne]; exact fun e => hopn (.inr e)
  have HNO := Lib.hid hopn
  clear hopn
  by_cases h14 : op = 14
  · subst h14
    have HMM : Hid (lnMem o.cs o.m l M = M) := Lib.hid (lnMem_ne (by rw [HCL.out]; simp))
    go_wp2_with fail
    refine (HL.out _ hlt (by first | trivial | rfl) (HP1.out.trans (by repeat (first | assumption | exact Pure.refl _ | refine Pure.drewN ?_ _ | refine Pure.drew ?_ | refine Pure.alloc ?_ _ | refine Pure.setCell ?_ (by simp <;> omega) _)))).mono ?_
    rintro e w2 ⟨rfl, vt2, h2, s2⟩
    go_wp2
    go_end0
    rw [HS.out.1, HS.out.2, HMM.out]
    exact ⟨rfl, vt2, h2, (MStep.of_pure (HP1.out.trans (by repeat (first | assumption | exact Pure.refl _ | refine Pure.drewN ?_ _ | refine Pure.drew ?_ | refine Pure.alloc ?_ _ | refine Pure.setCell ?_ (by simp <;> omega) _)))).trans s2⟩
  have d14 : (op == 14) = false := by rw [beq_eq_false_iff_ne]; exact h14
  by_cases h12 : op = 12
  · subst h12
    obtain ⟨p, eN, hbi⟩ := (HV.out.pi hlt).2.1 (by rw [Hcd.out])
    have hap : aroundAt o.cs a = p := by
      rcases hbi.el with h | ⟨q, h, _, _, _, h2, _⟩
      · omega
      · have : q = a := by omega
        rw [← this]; exact h2
    have hpa : p < o.cs.length := by have := hbi.lt; have := hbi.le; omega
    have heN := hbi.le
    have g0 : w1.cell? ⟨g, a, none⟩ = some (.pointer (some ⟨pb p, 0, none⟩)) := keepP HP1.out (by
      have := HOWN.out a hlt
      have e : ownOf o.cs a = some p := by unfold ownOf; rw [Hcd.out, if_neg (by unfold Opens; simp), if_pos (.inl rfl), hap, Int.toNat_natCast]
      rw [e] at this; exact this)
    obtain ⟨_, _, _, e2⟩ := HBLK.out p hpa hbi.op
    have hen : (endAt o.cs p).1 = (eN : Int) := by rw [hbi.ends]
    rw [hen] at e2
    have e2 := keepP HP1.out e2
    have HMM : Hid (lnMem o.cs o.m l M = M) := Lib.hid (lnMem_ne (by rw [HCL.out]; simp))
    have Hlo : Hid (lnStep o.cs o.m k l M = { l with at_ := eN + 1 }) := Lib.hid (by
      rw [lnStep_else (by rw [HCL.out]), Ha.out, hap, Int.toNat_natCast, hen]
      rw [show ((eN : Int) + 1).toNat = eN + 1 by omega])
    have f1 := (H1.out.laneCells hk).2.2.2.2 (kk + 1)
    clear hbi hap hen
    go_wp2_with fail
    obtain ⟨wx, Hwx⟩ : ∃ wx, Hid ((w1.alloc (.cells #[.int .i64 12, .int .i64 ca, .int .i64 cb, .int .i64 cc] 36)).drew = wx) := ⟨_, Lib.hid rfl⟩
    have HPx : Hid (Pure w1 wx) := Lib.hid (by rw [← Hwx.out]; exact (by repeat (first | assumption | exact Pure.refl _ | refine Pure.drewN ?_ _ | refine Pure.drew ?_ | refine Pure.alloc ?_ _ | refine Pure.setCell ?_ (by simp <;> omega) _)))
    rw [Hwx.out]
    have HP1x := Lib.hid (HP1.out.trans HPx.out)
    have q1 := keepP HPx.out q1
    have m1 := keepP HPx.out m1
    have g0 := keepP HPx.out g0
    have e2 := keepP HPx.out e2
    have f1 : wx.frozen? ⟨o.gl, kk + 1, none⟩ = false := by rw [HPx.out.frozen _ _ hglw]; exact f1
    have Hx0 := Lib.hid (H1.out.keep HPx.out)
    clear m0 c0 c1 c2 c3 q0 q3 hb
    refine region_tail 17 (by kernel_rfl) (by kernel_rfl) ?_
    simp only [List.take_succ_cons, List.take_zero, List.drop_succ_cons, List.drop_zero]
    repeat still_step
    refine wpStill_nil ?_
    go_wp2
    go_end0
    rw [HS.out.1, HS.out.2, HMM.out]
    exact MPost.of (Hx0.out.postAt2 (v := (eN : Int) + 1) (MStep.of_pure HP1x.out) (Pure.refl _) (by repeat (first | assumption | exact Pure.refl _ | refine Pure.drewN ?_ _ | refine Pure.drew ?_ | refine Pure.alloc ?_ _ | refine Pure.setCell ?_ (by simp <;> omega) _)) hk Hkk.out (a := eN + 1) (by push_cast; rfl) (by rw [Hlo.out, Hl.out]))
  · have HPL : Hid (Plain ⟨op, ca, cb, cc⟩) := Lib.hid ⟨HCOK.out, fun e => HNO.out (.inl e), h12, fun e => HNO.out (.inr e), h14⟩
    have d12 : (op == 12) = false := by rw [beq_eq_false_iff_ne]; exact h12
    go_wp2_with fail
    obtain ⟨bx, Hbx⟩ : ∃ bx, Hid (w1.heap.size = bx) := ⟨_, Lib.hid rfl⟩
    obtain ⟨wx, Hwx⟩ : ∃ wx, Hid ((w1.alloc (.cells #[.int .i64 op, .int .i64 ca, .int .i64 cb, .int .i64 cc] 36)).drew = wx) := ⟨_, Lib.hid rfl⟩
    have HPx : Hid (Pure w1 wx) := Lib.hid (by rw [← Hwx.out]; exact (by repeat (first | assumption | exact Pure.refl _ | refine Pure.drewN ?_ _ | refine Pure.drew ?_ | refine Pure.alloc ?_ _ | refine Pure.setCell ?_ (by simp <;> omega) _)))
    have hbox : wx.heap[bx]? = some (.cells #[.int .i64 op, .int .i64 ca, .int .i64 cb, .int .i64 cc] 36 (0, 0)) := by rw [← Hwx.out, ← Hbx.out]; exact heap_alloc_new w1 _
    have x0 := cell_of_row wx bx 0 _ _ _ hbox
    have x1 := cell_of_row wx bx 1 _ _ _ hbox
    have x2 := cell_of_row wx bx 2 _ _ _ hbox
    have x3 := cell_of_row wx bx 3 _ _ _ hbox
    simp only [List.getElem?_toArray, List.getElem?_cons_zero, List.getElem?_cons_succ] at x0 x1 x2 x3
    rw [Hbx.out, Hwx.out]
    have HP1x := Lib.hid (HP1.out.trans HPx.out)
    have q0 := keepP HPx.out q0
    have Hx0 := Lib.hid (H1.out.keep HPx.out)
    have HBN : Hid (∀ c, (o.lw k).lane k c → c ≠ bx) := Lib.hid (by
      rintro c (hc | hc)
      · have := (H1.out.rowLo hk).2; have := Hbx.out; rw [hc]; show o.rows k ≠ bx; omega
      · have := H1.out.gmLo.2; have := Hbx.out; rw [hc]; show o.gm ≠ bx; omega)
    unfold MO.row at q0
    clear m0 m1 c0 c1 c2 c3 q1 q3 hb hbox
    refine region_tail 7 (by kernel_rfl) (by kernel_rfl) ?_
    simp only [List.take_succ_cons, List.take_zero, List.drop_succ_cons, List.drop_zero]
    repeat still_step
    refine wpStill_nil ?_
    go_wp2_with fail
    refine (Lw.i6_any (o.lw k) ⟨op, ca, cb, cc⟩ k _ (fun l => (L l).R) M ((Hx0.out.keep (by repeat (first | assumption | exact Pure.refl _ | refine Pure.drewN ?_ _ | refine Pure.drew ?_ | refine Pure.alloc ?_ _ | refine Pure.setCell ?_ (by simp <;> omega) _))).regs hk) ⟨rfl, Nat.lt_of_lt_of_le hk Hx0.out.n8⟩ HPL.out (Hx0.out.good k hk)).mono ?_
    rintro e w3 hs3
    obtain rfl : e = .returned (.tuple #[]) := hs3.1
    have y0 := keepC hs3.2.2 (fun e => HBN.out bx e rfl) (keepP (show Pure wx wx.drew from (by repeat (first | assumption | exact Pure.refl _ | refine Pure.drewN ?_ _ | refine Pure.drew ?_ | refine Pure.alloc ?_ _ | refine Pure.setCell ?_ (by simp <;> omega) _))) x0)
    have HM := Lib.hid ((Hx0.out.keep (show Pure wx wx.drew from (by repeat (first | assumption | exact Pure.refl _ | refine Pure.drewN ?_ _ | refine Pure.drew ?_ | refine Pure.alloc ?_ _ | refine Pure.setCell ?_ (by simp <;> omega) _)))).lane hk HCOK.out hs3)
    have hlc := HM.out.1.laneCells hk
    rw [upL_same, Hkk.out, Hl.out] at hlc
    obtain ⟨_, y1, _, y3, yf⟩ := hlc
    simp only [Ha.out, HWb.out] at y1 y3
    have yf1 := yf (kk + 1)
    have yf3 := yf (kk + 3)
    clear yf hs3
    go_wp2
    go_end0
    have h1 := HM.out.1.setW hk (op == 10)
    rw [upL_same, upL_up, Hkk.out] at h1
    have hmm : lnMem o.cs o.m l M = simM ⟨op, ca, cb, cc⟩ o.m (L k).R M := by unfold lnMem; rw [HCL.out, Hl.out]
    rw [HS.out.1, HS.out.2, hmm]
    refine h1.1.postAt ((MStep.of_pure HP1x.out).trans ((MStep.of_pure (show Pure wx wx.drew from (by repeat (first | assumption | exact Pure.refl _ | refine Pure.drewN ?_ _ | refine Pure.drew ?_ | refine Pure.alloc ?_ _ | refine Pure.setCell ?_ (by simp <;> omega) _)))).trans (HM.out.2.trans h1.2))) (Pure.refl _) hk Hkk.out (a := a + 1) (by push_cast; rfl) ?_
    rw [upL_same, upL_up, Hl.out, lnStep_plain HCL.out HPL.out, Ha.out, HWb.out]
    congr 1

end Go.Proofs.Ytkolnakcgjlcgaa

namespace Go.Proofs.Ytkolnakcgjlcgaa
open Go.RowKit

/-- A lane, of any kind. -/
structure Lx where
  rs : List Int
  at_ : Int
  ts : List Int
  wt : Bool
deriving Inhabited
/-- A crowd, of any kind. -/
structure Cx where
  ls : List Lx
  mem : List Int

/-- The four cells of a lane, and its rows. -/
structure LnAt (w : World) (b o : Nat) (l : Lx) (R T : Value) : Prop where
  c0 : w.cell? ⟨b, o, none⟩ = some R
  c1 : w.cell? ⟨b, o + 1, none⟩ = some (.int .i64 l.at_)
  c2 : w.cell? ⟨b, o + 2, none⟩ = some T
  c3 : w.cell? ⟨b, o + 3, none⟩ = some (.bool l.wt)
  r : Ints w R l.rs
  t : Ints w T l.ts
theorem LnAt.keep {w w' : World} {b o : Nat} {l : Lx} {R T : Value} (h : LnAt w b o l R T) (hp : Pure w w') : LnAt w' b o l R T := by
  have hb : b < w.heap.size := World.block_lt_of_cell? _ _ h.c0
  exact ⟨(hp.cell b _ hb).trans h.c0, (hp.cell b _ hb).trans h.c1, (hp.cell b _ hb).trans h.c2, (hp.cell b _ hb).trans h.c3, h.r.keep hp, h.t.keep hp⟩
def Lanes (w : World) (v : Value) (ls : List Lx) : Prop :=
  ∃ A c, v = .slice A ls.length c ∧ ls.length ≤ c ∧ c ≤ 9223372036854775807 ∧ (0 < ls.length → ∃ b o, A = some ⟨b, o, none⟩ ∧ b < w.heap.size ∧ ∀ k, k < ls.length → ∃ R T, LnAt w b (o + k * 4) (ls.getD k default) R T)
theorem Lanes.keep {w w' : World} {v : Value} {ls : List Lx} (h : Lanes w v ls) (hp : Pure w w') : Lanes w' v ls := by
  obtain ⟨A, c, h1, h2, h3, h4⟩ := h
  refine ⟨A, c, h1, h2, h3, fun hn => ?_⟩
  obtain ⟨b, o, e, hb, hc⟩ := h4 hn
  refine ⟨b, o, e, Nat.lt_of_lt_of_le hb hp.size, fun k hk => ?_⟩
  obtain ⟨R, T, h⟩ := hc k hk
  exact ⟨R, T, h.keep hp⟩
theorem Lanes.form {w : World} {v : Value} {ls : List Lx} (h : Lanes w v ls) : ∃ A c, v = .slice A ls.length c ∧ ls.length ≤ c ∧ c ≤ 9223372036854775807 := by
  obtain ⟨A, c, h, h1, h2, _⟩ := h
  exact ⟨A, c, h, h1, h2⟩
theorem Lanes.at_ {w : World} {A : Option Addr} {n c : Nat} {ls : List Lx} (h : Lanes w (.slice A n c) ls) {k : Nat} (hk : k < ls.length) : ∃ b o, A = some ⟨b, o, none⟩ ∧ b < w.heap.size ∧ ∃ R T, LnAt w b (o + k * 4) (ls.getD k default) R T := by
  obtain ⟨A', c', hv, _, _, h4⟩ := h
  injection hv with e1 e2 e3
  subst e1
  obtain ⟨b, o, rfl, hb, hc⟩ := h4 (by omega)
  exact ⟨b, o, rfl, hb, hc k hk⟩
def Crowd (w : World) (v : Value) (c : Cx) : Prop := ∃ vl vm, v = .agg #[vl, vm] ∧ Lanes w vl c.ls ∧ Ints w vm c.mem
theorem Crowd.keep {w w' : World} {v : Value} {c : Cx} (h : Crowd w v c) (hp : Pure w w') : Crowd w' v c := by
  obtain ⟨vl, vm, e, h1, h2⟩ := h
  exact ⟨vl, vm, e, h1.keep hp, h2.keep hp⟩
def lnVX (R : Value) (a : Int) (T : Value) (b : Bool) : Value := .agg #[R, .int .i64 a, T, .bool b]

end Go.Proofs.Ytkolnakcgjlcgaa

namespace Go.Proofs.Ytkolnakcgjlcgaa
open Go.RowKit

theorem row_pure {w w1 : World} {b : Nat} {row : Array Value} {t : TypeId} (hp : Pure w w1) (h : w.heap[b]? = some (.cells row t (0, 0))) (i : Nat) : w1.cell? ⟨b, i, none⟩ = row[i]? ∧ w1.frozen? ⟨b, i, none⟩ = false := by
  have hb : b < w.heap.size := (Array.getElem?_eq_some_iff.1 h).1
  exact ⟨(hp.cell b i hb).trans (cell_of_row _ _ i _ _ _ h), (hp.frozen b i hb).trans (frozen_of_row _ _ i _ _ h)⟩

end Go.Proofs.Ytkolnakcgjlcgaa

namespace Go.Proofs.Ytkolnakcgjlcgaa
open Go.RowKit

theorem Tabs.own {w : World} {va vo : Value} {cs : List Cd} (h : Tabs w va vo cs) {k : Nat} (hk : k < cs.length) :
    ∃ A c, vo = .slice A cs.length c ∧ cs.length ≤ c ∧ c ≤ 9223372036854775807 ∧ ∃ b o, A = some ⟨b, o, none⟩ ∧ b < w.heap.size ∧
      ((∀ p, ownOf cs k = some p → p < cs.length → Opens (cs.getD p default) → ∃ g, w.cell? ⟨b, o + k, none⟩ = some (.pointer (some ⟨g, 0, none⟩)) ∧ g < w.heap.size ∧ w.cell? ⟨g, 0, none⟩ = some (.int .i64 p) ∧ w.cell? ⟨g, 1, none⟩ = some (.int .i64 (endAt cs p).2) ∧ w.cell? ⟨g, 2, none⟩ = some (.int .i64 (endAt cs p).1)) ∧
       (ownOf cs k = none → w.cell? ⟨b, o + k, none⟩ = some (.pointer none))) := by
  obtain ⟨pb, h1, h2, _⟩ := h
  obtain ⟨A, c, rfl, h3, h4, h5⟩ := h1
  obtain ⟨b, o, rfl, hb, hc⟩ := h5 (by omega)
  refine ⟨_, c, rfl, h3, h4, b, o, rfl, hb, fun p hp hp1 hp2 => ?_, fun hn => ?_⟩
  · obtain ⟨x1, x2, x3, x4⟩ := h2 p hp1 hp2
    refine ⟨pb p, ?_, x1, x2, x3, x4⟩
    rw [hc k (by omega)]; simp only [hp]; rfl
  · rw [hc k (by omega)]; simp only [hn]; rfl

def SuccPost (cs : List Cd) (k : Nat) (w : World) (e : Ending) (w' : World) : Prop :=
  ∃ v, e = .returned v ∧ OwnO w' w.heap.size 3 1 v (succs cs k).length ((succs cs k).map (.int .i64)) ∧ Pure w w'

theorem SuccPost.lit {cs : List Cd} {k n : Nat} {w : World} {xs : List Int} (hx : succs cs k = xs) (hn : xs.length = n) (h63 : n ≤ 64) :
    SuccPost cs k w (.returned (.slice (some ⟨w.heap.size, 0, none⟩) n n)) (w.alloc (.cells (xs.map (.int .i64)).toArray 3)) := by
  subst hn
  refine ⟨_, rfl, ?_, Pure.alloc (Pure.refl _) _⟩
  rw [hx]
  have := OwnO.lit (e := 3) (s := 1) w (xs.map (.int .i64)).toArray xs.length (Nat.le_refl _) (by omega) (by simp)
  simpa using this

/-- The graph under way: the first k rows are there, the others not yet. -/
def RowsM (w : World) (B g N k : Nat) (S : Nat → List Int) : Prop :=
  ∃ ys, OwnO w B 24 1 (.slice (some ⟨g, 0, none⟩) N N) N ys ∧ (∀ j, j < k → ∃ r, ys[j]? = some r ∧ OwnO w B 3 1 r (S j).length ((S j).map (.int .i64))) ∧ ∀ j, k ≤ j → j < N → ys[j]? = some (.slice none 0 0)
theorem RowsM.pure {w w' : World} {B g N k : Nat} {S : Nat → List Int} (h : RowsM w B g N k S) (hp : Pure w w') : RowsM w' B g N k S := by
  obtain ⟨ys, h1, h2, h3⟩ := h
  exact ⟨ys, h1.pure hp, fun j hj => let ⟨r, a, b⟩ := h2 j hj; ⟨r, a, b.pure hp⟩, h3⟩
theorem RowsM.facts {w : World} {B g N k : Nat} {S : Nat → List Int} (h : RowsM w B g N k S) (hk : k < N) :
    (∃ u, w.cell? ⟨g, k, none⟩ = some u) ∧ w.frozen? ⟨g, k, none⟩ = false ∧ g < w.heap.size ∧ B ≤ g := by
  obtain ⟨ys, h1, h2, h3⟩ := h
  have := h1.cellSome k (by omega)
  rw [Nat.zero_add] at this
  exact ⟨this, h1.frozen k, (h1.lt g rfl).2, (h1.lt g rfl).1⟩
theorem RowsM.put {w : World} {B g N k : Nat} {r : Value} {S : Nat → List Int} (h : RowsM w B g N k S) (hk : k < N) (hr : OwnO w B 3 1 r (S k).length ((S k).map (.int .i64))) :
    RowsM (w.setCell ⟨g, k, none⟩ r) B g N (k + 1) S := by
  obtain ⟨ys, h1, h2, h3⟩ := h
  have hst := h1.stored k r
  rw [Nat.zero_add] at hst
  have hl : k < ys.length := by have := h1.1; omega
  have hg : w.grownBy (w.setCell ⟨g, k, none⟩ r) (some g) := grown_setCell w ⟨g, k, none⟩ r
  refine ⟨_, hst, fun j hj => ?_, fun j hj hj2 => ?_⟩
  · by_cases e : j = k
    · subst e
      exact ⟨r, by rw [List.getElem?_set_self hl], hr.kept hg (fun g' hg' => hr.ne h1 (by decide) g' hg')⟩
    · obtain ⟨r', a, b⟩ := h2 j (by omega)
      exact ⟨r', by rw [List.getElem?_set_ne (by omega)]; exact a, b.kept hg (fun g' hg' => b.ne h1 (by decide) g' hg')⟩
  · rw [List.getElem?_set_ne (by omega)]; exact h3 j (by omega) hj2
theorem RowsM.rows {w : World} {B g n : Nat} {S : Nat → List Int} (h : RowsM w B g (n + 1) n S) (hS : S n = []) : RowsO w B (.slice (some ⟨g, 0, none⟩) (n + 1) (n + 1)) (n + 1) S (h.choose) := by
  obtain ⟨h1, h2, h3⟩ := h.choose_spec
  refine ⟨h1, fun j hj => ?_⟩
  by_cases e : j = n
  · subst e
    exact ⟨_, h3 j (Nat.le_refl _) hj, by rw [hS]; exact OwnO.of_own (World.ownsRow_nil _ _ _ _)⟩
  · exact h2 j (by omega)

end Go.Proofs.Ytkolnakcgjlcgaa
