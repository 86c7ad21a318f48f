/- The reference's walk through a block of instructions that notes the accesses. No condition. -/
import Derived.Test.YtonmndojlnohcaaKbb

namespace Go.Proofs.Ytonmndojlnohcaa
open Go.RowKit

set_option maxRecDepth 100000 in
theorem watch_skip (vp vq vh : Value) (fr to mask : Int) (w : World) (h : to ≤ fr) :
    Calls Try.prog 76 #[vp, .int .i64 fr, .int .i64 to, .int .i64 mask, vq, vh] w fun e w' => e = .returned (.tuple #[]) ∧ w = w' := by
  go_enter Try.func76, Try.ntmps76
  go_wp2_with fail
  go_loopg [12] 0 (fun gk i' wr => i' = .int .i64 fr ∧ wr = w)
  case atStart => exact ⟨rfl, rfl⟩
  case round =>
    obtain ⟨rfl, rfl⟩ := hrel
    go_wp2_with fail
    go_end0
    exact ⟨rfl, rfl⟩

set_option maxHeartbeats 16000000 in
set_option maxRecDepth 100000 in
theorem watch_any (o : SO) (gq gp : Nat) (hv : PValid o.cs) : ∀ (sz : Nat) (t : Tr) (i mask : Nat) (s : LS) (va : Value) (w : World) (fr to : Int), t.len ≤ sz → t.Ok → Seg o.cs i t → i + t.len ≤ o.cs.length → mask < 2 ^ o.rm.n →
    msz s + 10 * t.cost ≤ 1099511626000 → WRun o gq gp w va s → fr = (i : Nat) → to = ((i + t.len : Nat) : Int) →
    Calls Try.prog 76 #[.pointer (some ⟨o.p, 0, none⟩), .int .i64 fr, .int .i64 to, .int .i64 mask, .pointer (some ⟨gq, 0, none⟩), .pointer (some ⟨gp, 0, none⟩)] w (WatP o gq gp w va (run o.rm.n o.rm.m t i mask s)) := by
  intro sz
  induction sz with
  | zero =>
    intro t i mask s va w fr to hsz hok hseg hic hmask hcost hrun hfr hto
    obtain rfl := Tr.len_zero (show t.len = 0 by omega)
    refine (watch_skip _ _ _ _ _ _ _ (by have : Tr.nil.len = 0 := rfl; omega)).mono ?_
    rintro e w1 ⟨rfl, rfl⟩
    exact ⟨rfl, va, hrun, WStep.refl _ _ _ _ _⟩
  | succ sz ih =>
    intro t i mask s va w fr to hsz hok hseg hic hmask hcost hrun hfr hto
    subst hfr
    have HIH := Lib.hid ih
    have HV := Lib.hid hv
    have HTO := Lib.hid hto
    have HR := Lib.hid hrun
    have HSEG := Lib.hid hseg
    have HOK := Lib.hid hok
    have HCO := Lib.hid hcost
    have HSZ := Lib.hid hsz
    have hn8 := hrun.rm.n8
    have hn1 := hrun.n1
    have hsmall := hv.2.1
    have hm256 : mask < 256 := Nat.lt_of_lt_of_le hmask (pow8 hn8)
    have HMASK := Lib.hid hmask
    obtain ⟨A, cA, hvl, hnc, hcm⟩ := hrun.codes.form
    have HVL := Lib.hid hvl
    have htoc : to ≤ (o.cs.length : Int) := by rw [hto]; exact_mod_cast hic
    clear ih hv hto hrun hseg hok hcost hsz hic hvl
    go_enter Try.func76, Try.ntmps76
    go_wp2_with fail
    go_loopg [12] t.len (fun gk kk wr => ∃ (t' : Tr) (k : Nat) (s' : LS) (va' : Value), gk = t'.len ∧ ((k + t'.len : Nat) : Int) = to ∧ t'.len ≤ t.len ∧ kk = .int .i64 k ∧ t'.Ok ∧ Seg o.cs k t' ∧ msz s' + 10 * t'.cost ≤ 1099511626000 ∧ WRun o gq gp wr va' s' ∧ WStep o gq gp w va wr va' ∧ run o.rm.n o.rm.m t' k mask s' = run o.rm.n o.rm.m t i mask s)
    case atStart => exact ⟨t, i, s, va, rfl, HTO.out.symm, Nat.le_refl _, rfl, HOK.out, HSEG.out, HCO.out, HR.out, WStep.refl _ _ _ _ _, rfl⟩
    case round =>
      clear HR HSEG HOK HCO HTO
      obtain ⟨t', k, s', va', hgk, hto, htl, rfl, hok, hseg, hco, hr, hst, hrun⟩ := hrel
      have Hgk := Lib.hid hgk
      have Hto := Lib.hid hto
      have Htl := Lib.hid htl
      have Hok := Lib.hid hok
      have Hseg := Lib.hid hseg
      have Hco := Lib.hid hco
      have Hr := Lib.hid hr
      have Hst := Lib.hid hst
      have Hrun := Lib.hid hrun
      clear hgk hto htl hok hseg hco hst hrun
      by_cases hm0 : mask = 0
      · subst hm0
        clear hr
        have hfin : run o.rm.n o.rm.m t i 0 s = s' := by rw [← Hrun.out, run_zero]
        have Hfin := Lib.hid hfin
        clear hfin
        by_cases hlt : (k : Int) < to
        · go_wp2_with fail
          go_end0
          exact ⟨rfl, va', by rw [Hfin.out]; exact Hr.out, Hst.out⟩
        · go_wp2_with fail
          go_end0
          exact ⟨rfl, va', by rw [Hfin.out]; exact Hr.out, Hst.out⟩
      by_cases hlt : (k : Int) < to
      case neg =>
        have hz : t' = .nil := Tr.len_zero (by have := Hto.out; omega)
        subst hz
        have Hfin : Hid (run o.rm.n o.rm.m t i mask s = s') := Lib.hid (by rw [← Hrun.out]; rfl)
        clear hr hm0
        go_wp2_with fail
        go_end0
        exact ⟨rfl, va', by rw [Hfin.out]; exact Hr.out, Hst.out⟩
      case pos =>
        have HM0 := Lib.hid hm0
        have hmne : ((mask : Int) != 0) = true := by rw [bne_iff_ne]; omega
        clear hm0
        have hk : k < o.cs.length := by omega
        obtain ⟨p0, p1, p2, p3, p4, p5, p6, p7⟩ := hr.obj.facts
        rw [HVL.out] at p0
        have hcd := hr.codes.keep hr.pure
        rw [HVL.out] at hcd
        obtain ⟨b, ob, rfl, hb, hc⟩ := hcd.at_ hk
        obtain ⟨cd, Hcd⟩ : ∃ cd, Hid (o.cs.getD k default = cd) := ⟨_, rfl⟩
        rw [Hcd.out] at hc
        obtain ⟨c0, c1, c2, c3⟩ := hc
        have hcok : CdOk cd := by rw [← Hcd.out]; exact HV.out.1 _ (cdOk_mem hk)
        have HCOK := Lib.hid hcok
        obtain ⟨op, ca, cb, cc⟩ := cd
        simp only at c0 c1 c2 c3
        have hplt : o.p < wr.heap.size := hr.obj.lt
        have hbase : o.w0.heap.size ≤ wr.heap.size := hr.pure.size
        obtain ⟨wo, rfl⟩ : ∃ wo : World, wo = wr := ⟨_, rfl⟩
        have hnown : ¬ WOwn o gq gp va' wo.heap.size := fun e => absurd (hr.own_hi _ e) (by omega)
        have HNO0 := Lib.hid hnown
        clear hr hcd hcok hnown p1 p2 p3 p4 p5 p6 p7
        have HB1 := Lib.hid (show Pure wo (wo.alloc (.cells #[.int .i64 op, .int .i64 ca, .int .i64 cb, .int .i64 cc] 31)) from Pure.alloc (Pure.refl _) _)
        have hxb := boxed (Pure.refl (wo.alloc (.cells #[.int .i64 op, .int .i64 ca, .int .i64 cb, .int .i64 cc] 31)))
        have HXB : Hid (Box (wo.alloc (.cells #[.int .i64 op, .int .i64 ca, .int .i64 cb, .int .i64 cc] 31)) wo.heap.size ⟨op, ca, cb, cc⟩) := Lib.hid ⟨hxb.1, hxb.2.1, hxb.2.2.1, hxb.2.2.2.1⟩
        clear hxb
        go_wp2_with fail
        obtain ⟨B, HB⟩ : ∃ B, Hid (decide (Opens ⟨op, ca, cb, cc⟩) = B) := ⟨_, rfl⟩
        refine (l4Opens_any ⟨op, ca, cb, cc⟩ _ B (by rw [← HB.out]; simp)).mono ?_
        rintro e w4 ⟨rfl, hp4⟩
        have HP4 := Lib.hid (HB1.out.trans hp4)
        have HX4 := Lib.hid (HXB.out.pure hp4)
        have HT4 := Lib.hid (Hr.out.keep HP4.out)
        have HST := Lib.hid (Hst.out.trans (WStep.of_pure HP4.out))
        obtain ⟨bx, Hbx⟩ : ∃ bx, Hid (wo.heap.size = bx) := ⟨_, Lib.hid rfl⟩
        rw [Hbx.out] at HX4 HNO0
        have HNO := HNO0
        clear HNO0
        obtain ⟨p0, p1, p2, p3, p4, p5, p6, p7⟩ := HT4.out.obj.facts
        rw [HVL.out] at p0
        have hcw4 := Lib.hid (HT4.out.codes.keep HT4.out.pure)
        obtain ⟨y0, y1, y2, y3⟩ := HX4.out
        have hby := HX4.out.lt
        clear hp4 p2 p3 p4 p5 p6 p7 hb c0 c1 c2 c3
        simp only at y0 y1 y2 y3
        rw [Hbx.out]
        cases t' with
        | nil => exact absurd Hto.out (by have : Tr.nil.len = 0 := rfl; omega)
        | op c0 tk =>
          have hce : c0 = ⟨op, ca, cb, cc⟩ := Hseg.out.op.1.symm.trans Hcd.out
          subst hce
          have HPL := Lib.hid Hok.out.1
          have hB : B = false := by rw [← HB.out]; have h := HPL.out; exact decide_eq_false (by rintro (h1 | h1); exact h.2.1 h1; exact h.2.2.2.1 h1)
          subst hB
          have HMS : Hid (s'.A.length + 8 ≤ 1099511627000) := Lib.hid (by have := Hco.out; unfold msz at this; omega)
          have HMP : Hid (s'.P + 8 ≤ 1099511627000) := Lib.hid (by have := Hco.out; unfold msz at this; omega)
          by_cases h10 : op = 10
          · subst h10
            have HE : Hid (exec ⟨10, ca, cb, cc⟩ o.rm.n o.rm.m k mask s' = lanesTo ⟨10, ca, cb, cc⟩ o.rm.m mask o.rm.n { beat k mask s' with P := s'.P + 1 }) := Lib.hid (by
              rw [lanesTo_setP (by show ¬ ((10 : Int) = 8); decide) (by show ¬ ((10 : Int) = 9); decide)]
              unfold exec
              simp only [if_pos]
              rw [lanesTo_P]; rfl)
            have hRL := (HT4.out.beat k mask).phase (s'.P + 1)
            have HRL : Hid (WRun o gq gp (w4.setCell ⟨gp, 0, none⟩ (.int .i64 ((s'.P + 1 : Nat) : Int))) va' { beat k mask s' with P := s'.P + 1 }) := Lib.hid hRL.1
            have HSTL := Lib.hid hRL.2
            have HXL := Lib.hid (HX4.out.wstep hRL.2 HNO.out)
            have z1 := cell_of_row _ _ 0 _ _ _ HT4.out.pb
            simp only [List.getElem?_toArray, List.getElem?_cons_zero] at z1
            have f1 := frozen_of_row _ _ 0 _ _ HT4.out.pb
            have hplt2 := HT4.out.plt
            obtain ⟨ph, Hph⟩ : ∃ ph, Hid (s'.P = ph) := ⟨_, rfl⟩
            rw [Hph.out] at z1 HRL HSTL HXL HMP
            have hHE := HE.out
            rw [Hph.out] at hHE
            have HE := Lib.hid hHE
            have hMP := HMP.out
            have hph : ph + 8 ≤ 1099511627000 := hMP
            have hcast : ((ph + 1 : Nat) : Int) = (ph : Int) + 1 := by omega
            rw [hcast] at HRL HSTL HXL
            clear hRL hHE hMP
            have HMP : Hid ((ph + 1) + 7 ≤ 1099511627000) := Lib.hid (by omega)
            go_wp2_with fail
            go_loopg [18] o.rm.n (fun g2 i wr => ∃ (j : Nat) (va2 : Value), g2 + j = o.rm.n ∧ i = .int .i64 j ∧ WRun o gq gp wr va2 (lanesTo ⟨10, ca, cb, cc⟩ o.rm.m mask j { beat k mask s' with P := ph + 1 }) ∧ WStep o gq gp (w4.setCell ⟨gp, 0, none⟩ (.int .i64 ((ph : Int) + 1))) va' wr va2)
            case atStart => exact ⟨0, va', rfl, rfl, HRL.out, WStep.refl _ _ _ _ _⟩
            case round =>
              obtain ⟨j, va2, hg2, rfl, hr2, hs2⟩ := hrel
              have Hg2 := Lib.hid hg2
              have HR2 := Lib.hid hr2
              have HS2 := Lib.hid hs2
              have hjn : j ≤ o.rm.n := by omega
              obtain ⟨p0, p1, p2, p3, p4, p5, p6, p7⟩ := hr2.obj.facts
              obtain ⟨y0, y1, y2, y3⟩ := HXL.out.wstep hs2 HNO.out
              have hby := (HXL.out.wstep hs2 HNO.out).lt
              have HNB2 : Hid (¬ WOwn o gq gp va2 bx) := Lib.hid (WOwn.lies HNO.out hs2.2 HXL.out.lt)
              clear hg2 hs2 p0 p4 p5 p6 p7
              simp only at y0 y1 y2 y3
              by_cases hlt : j < o.rm.n
              · have hnn := digit_nonneg mask j
                have hbit := digit_eq1 mask j
                have hnext : lanesTo ⟨10, ca, cb, cc⟩ o.rm.m mask (j + 1) { beat k mask s' with P := ph + 1 } = if mask.testBit j then lane1 ⟨10, ca, cb, cc⟩ o.rm.m j (lanesTo ⟨10, ca, cb, cc⟩ o.rm.m mask j { beat k mask s' with P := ph + 1 }) else lanesTo ⟨10, ca, cb, cc⟩ o.rm.m mask j { beat k mask s' with P := ph + 1 } := rfl
                have hal : (lanesTo ⟨10, ca, cb, cc⟩ o.rm.m mask j { beat k mask s' with P := ph + 1 }).A.length ≤ s'.A.length + j := lanesTo_A ⟨10, ca, cb, cc⟩ o.rm.m mask { beat k mask s' with P := ph + 1 } j
                have Hal : Hid ((lanesTo ⟨10, ca, cb, cc⟩ o.rm.m mask j { beat k mask s' with P := ph + 1 }).A.length ≤ 1099511627000) := Lib.hid (by have := HMS.out; omega)
                have Hap : Hid ((lanesTo ⟨10, ca, cb, cc⟩ o.rm.m mask j { beat k mask s' with P := ph + 1 }).P ≤ 1099511627000) := Lib.hid (by rw [lanesTo_P]; have := HMP.out; show ph + 1 ≤ _; omega)
                clear hal
                obtain ⟨D, HD⟩ : ∃ D, Hid (mask.testBit j = D) := ⟨_, rfl⟩
                rw [HD.out] at hbit hnext
                have Hnext := Lib.hid hnext
                clear hnext
                cases D
                · clear hr2
                  go_wp2
                  go_roundg (o.rm.n - (j + 1))
                  case measure => have := Hg2.out; omega
                  case rel => exact ⟨j + 1, va2, by have := Hg2.out; omega, by go_num, by rw [Hnext.out]; exact HR2.out, HS2.out⟩
                · have hj0 : (0 : Int) ≤ (j : Int) := by omega
                  have hj1 : (j : Int) < (o.rm.n : Int) := by omega
                  have q1 := HR2.out.rm.outerCell hlt
                  have hcr := HR2.out.rm.cr1
                  have hcr2 := HR2.out.rm.cr2
                  have hplt := HR2.out.obj.lt
                  unfold RMo.vr at p2
                  unfold RMo.row at q1
                  unfold RMo.vm at p3
                  have Hnext2 : Hid (lanesTo ⟨10, ca, cb, cc⟩ o.rm.m mask (j + 1) { beat k mask s' with P := ph + 1 } = lane1 ⟨10, ca, cb, cc⟩ o.rm.m j (lanesTo ⟨10, ca, cb, cc⟩ o.rm.m mask j { beat k mask s' with P := ph + 1 })) := Lib.hid (by rw [Hnext.out]; rfl)
                  clear Hnext
                  obtain ⟨s2, Hs2⟩ : ∃ s2, Hid (lanesTo ⟨10, ca, cb, cc⟩ o.rm.m mask j { beat k mask s' with P := ph + 1 } = s2) := ⟨_, rfl⟩
                  rw [Hs2.out] at HR2 hr2 Hnext2 Hal Hap
                  have Hnext := Hnext2
                  clear Hnext2
                  have hgood := Lib.hid hr2.good
                  clear hr2
                  have H3 := HR2
                  have Hacc : Hid (¬ ((10 : Int) = 8 ∨ (10 : Int) = 9)) := Lib.hid (by decide)
                  go_wp2_with fail
                  refine region_tail 13 (by kernel_rfl) (by kernel_rfl) ?_
                  simp only [List.take_succ_cons, List.take_zero, List.drop_succ_cons, List.drop_zero]
                  repeat still_step
                  refine wpStill_nil ?_
                  go_wp2_with fail
                  refine (s6_any o.rm ⟨10, ca, cb, cc⟩ j _ s2.R s2.M (H3.out.rm.pure (by exact (by repeat (first | assumption | exact Pure.refl _ | refine Pure.drewN ?_ _ | refine Pure.drew ?_ | refine Pure.alloc ?_ _ | refine Pure.setCell ?_ (by simp <;> omega) _)))) hlt HPL.out (hgood.out.1 j)).mono ?_
                  rintro e w7 ⟨rfl, hrm7, hch7⟩
                  have h7 := WRun.lane (H3.out.keep (w' := wr.drew) (by exact (by repeat (first | assumption | exact Pure.refl _ | refine Pure.drewN ?_ _ | refine Pure.drew ?_ | refine Pure.alloc ?_ _ | refine Pure.setCell ?_ (by simp <;> omega) _)))) hlt HPL.out.1 hrm7 hch7
                  clear hrm7 hch7
                  have hlan := lane1_no (c := ⟨10, ca, cb, cc⟩) (m := o.rm.m) (k := j) (s := s2) Hacc.out
                  have H7 : Hid (WRun o gq gp w7 va2 (lane1 ⟨10, ca, cb, cc⟩ o.rm.m j s2)) := Lib.hid (by rw [← hlan]; exact h7.1)
                  have H7s := Lib.hid (HS2.out.trans ((WStep.of_pure (show Pure wr wr.drew from (by repeat (first | assumption | exact Pure.refl _ | refine Pure.drewN ?_ _ | refine Pure.drew ?_ | refine Pure.alloc ?_ _ | refine Pure.setCell ?_ (by simp <;> omega) _)))).trans h7.2))
                  clear h7 hlan
                  go_wp2
                  go_roundg (o.rm.n - (j + 1))
                  case measure => have := Hg2.out; omega
                  case rel => exact ⟨j + 1, _, by have := Hg2.out; omega, by go_num, by rw [Hnext.out]; exact H7.out, H7s.out⟩
              · have hjl : j = o.rm.n := by omega
                subst hjl
                have HF : Hid (WRun o gq gp wr va2 (exec ⟨10, ca, cb, cc⟩ o.rm.n o.rm.m k mask s')) := Lib.hid (by rw [HE.out]; exact HR2.out)
                clear hr2
                go_wp2
                go_roundg tk.len
                case measure => have := Hgk.out; have := Tr.len_op ⟨10, ca, cb, cc⟩ tk; omega
                case rel =>
                  exact ⟨tk, k + 1, _, va2, rfl, by have := Hto.out; have := Tr.len_op ⟨10, ca, cb, cc⟩ tk; omega, by have := Htl.out; have := Tr.len_op ⟨10, ca, cb, cc⟩ tk; omega, by go_num, Hok.out.2, Hseg.out.op.2.2, by have h1 := execM_msz ⟨10, ca, cb, cc⟩ (n := o.rm.n) (m := o.rm.m) (mask := mask) (beat k mask s') hn8; rw [← exec_eq, beat_msz] at h1; have := Hco.out; simp only [Tr.cost] at this; omega, HF.out, (HST.out.trans HSTL.out).trans HS2.out, by rw [← Hrun.out]; show _ = (if mask = 0 then _ else _ : LS); rw [if_neg HM0.out]⟩
          · have d10 : (op == 10) = false := by rw [beq_eq_false_iff_ne]; exact h10
            have HE : Hid (exec ⟨op, ca, cb, cc⟩ o.rm.n o.rm.m k mask s' = lanesTo ⟨op, ca, cb, cc⟩ o.rm.m mask o.rm.n (beat k mask s')) := Lib.hid (by unfold exec; simp only; rw [if_neg h10])
            have HRL := Lib.hid (HT4.out.beat k mask)
            have HXL := HX4
            have HSTL := Lib.hid (WStep.refl o gq gp w4 va')
            clear h10
            go_wp2_with fail
            go_loopg [18] o.rm.n (fun g2 i wr => ∃ (j : Nat) (va2 : Value), g2 + j = o.rm.n ∧ i = .int .i64 j ∧ WRun o gq gp wr va2 (lanesTo ⟨op, ca, cb, cc⟩ o.rm.m mask j (beat k mask s')) ∧ WStep o gq gp w4 va' wr va2)
            case atStart => exact ⟨0, va', rfl, rfl, HRL.out, WStep.refl _ _ _ _ _⟩
            case round =>
              obtain ⟨j, va2, hg2, rfl, hr2, hs2⟩ := hrel
              have Hg2 := Lib.hid hg2
              have HR2 := Lib.hid hr2
              have HS2 := Lib.hid hs2
              have hjn : j ≤ o.rm.n := by omega
              obtain ⟨p0, p1, p2, p3, p4, p5, p6, p7⟩ := hr2.obj.facts
              obtain ⟨y0, y1, y2, y3⟩ := HXL.out.wstep hs2 HNO.out
              have hby := (HXL.out.wstep hs2 HNO.out).lt
              have HNB2 : Hid (¬ WOwn o gq gp va2 bx) := Lib.hid (WOwn.lies HNO.out hs2.2 HXL.out.lt)
              clear hg2 hs2 p0 p4 p5 p6 p7
              simp only at y0 y1 y2 y3
              by_cases hlt : j < o.rm.n
              · have hnn := digit_nonneg mask j
                have hbit := digit_eq1 mask j
                have hnext : lanesTo ⟨op, ca, cb, cc⟩ o.rm.m mask (j + 1) (beat k mask s') = if mask.testBit j then lane1 ⟨op, ca, cb, cc⟩ o.rm.m j (lanesTo ⟨op, ca, cb, cc⟩ o.rm.m mask j (beat k mask s')) else lanesTo ⟨op, ca, cb, cc⟩ o.rm.m mask j (beat k mask s') := rfl
                have hal : (lanesTo ⟨op, ca, cb, cc⟩ o.rm.m mask j (beat k mask s')).A.length ≤ s'.A.length + j := lanesTo_A ⟨op, ca, cb, cc⟩ o.rm.m mask (beat k mask s') j
                have Hal : Hid ((lanesTo ⟨op, ca, cb, cc⟩ o.rm.m mask j (beat k mask s')).A.length ≤ 1099511627000) := Lib.hid (by have := HMS.out; omega)
                have Hap : Hid ((lanesTo ⟨op, ca, cb, cc⟩ o.rm.m mask j (beat k mask s')).P ≤ 1099511627000) := Lib.hid (by rw [lanesTo_P]; have := HMP.out; show s'.P ≤ _; omega)
                clear hal
                obtain ⟨D, HD⟩ : ∃ D, Hid (mask.testBit j = D) := ⟨_, rfl⟩
                rw [HD.out] at hbit hnext
                have Hnext := Lib.hid hnext
                clear hnext
                cases D
                · clear hr2
                  go_wp2
                  go_roundg (o.rm.n - (j + 1))
                  case measure => have := Hg2.out; omega
                  case rel => exact ⟨j + 1, va2, by have := Hg2.out; omega, by go_num, by rw [Hnext.out]; exact HR2.out, HS2.out⟩
                · have hj0 : (0 : Int) ≤ (j : Int) := by omega
                  have hj1 : (j : Int) < (o.rm.n : Int) := by omega
                  have q1 := HR2.out.rm.outerCell hlt
                  have hcr := HR2.out.rm.cr1
                  have hcr2 := HR2.out.rm.cr2
                  have hplt := HR2.out.obj.lt
                  unfold RMo.vr at p2
                  unfold RMo.row at q1
                  unfold RMo.vm at p3
                  have Hnext2 : Hid (lanesTo ⟨op, ca, cb, cc⟩ o.rm.m mask (j + 1) (beat k mask s') = lane1 ⟨op, ca, cb, cc⟩ o.rm.m j (lanesTo ⟨op, ca, cb, cc⟩ o.rm.m mask j (beat k mask s'))) := Lib.hid (by rw [Hnext.out]; rfl)
                  clear Hnext
                  obtain ⟨s2, Hs2⟩ : ∃ s2, Hid (lanesTo ⟨op, ca, cb, cc⟩ o.rm.m mask j (beat k mask s') = s2) := ⟨_, rfl⟩
                  rw [Hs2.out] at HR2 hr2 Hnext2 Hal Hap
                  have Hnext := Hnext2
                  clear Hnext2
                  have hgood := Lib.hid hr2.good
                  by_cases hacc : op = 8 ∨ op = 9
                  · have Hacc := Lib.hid hacc
                    have hb03 : (0 ≤ cb ∧ cb ≤ 3) := by
                      have h0 := HPL.out.1.regs
                      rcases hacc with e | e <;> subst e <;> exact ⟨h0.2.1 (by decide), h0.2.2.1 (by decide) (by decide)⟩
                    obtain ⟨hb0, hb3⟩ := hb03
                    obtain ⟨bn, rfl⟩ := Int.eq_ofNat_of_zero_le hb0
                    have hbn : bn < 4 := by omega
                    have hbI0 : (0 : Int) ≤ (bn : Int) := by omega
                    have hbI4 : (bn : Int) < 4 := by omega
                    have q2 := hr2.rm.regCell hlt hbn
                    obtain ⟨yv, Hyv⟩ : ∃ yv, Hid (s2.R j bn = yv) := ⟨_, rfl⟩
                    rw [Hyv.out] at q2
                    have hwy : Word yv := by rw [← Hyv.out]; exact hgood.out.1 j bn
                    obtain ⟨hy0, hy1⟩ := hwy
                    obtain ⟨yn, rfl⟩ := Int.eq_ofNat_of_zero_le hy0
                    have hm1 := hr2.rm.m1
                    have hm32 := hr2.rm.m32
                    have hmn0 : ¬ o.rm.m = 0 := by omega
                    have hmi : ¬ ((o.rm.m : Int) = 0) := by omega
                    have htm : (yn : Int).tmod (o.rm.m : Int) = ((yn % o.rm.m : Nat) : Int) := by rw [Int.tmod_eq_emod_of_nonneg (by omega)]; norm_cast
                    have hem : (yn : Int) % (o.rm.m : Int) = ((yn % o.rm.m : Nat) : Int) := by norm_cast
                    have HC : Hid (cellOf ⟨op, ca, bn, cc⟩ o.rm.m (s2.R j) = yn % o.rm.m) := Lib.hid (by unfold cellOf; rw [Int.toNat_natCast, Hyv.out, Int.toNat_natCast])
                    obtain ⟨ce, Hce⟩ : ∃ ce, Hid (yn % o.rm.m = ce) := ⟨_, rfl⟩
                    rw [Hce.out] at htm hem HC
                    obtain ⟨W, HW⟩ : ∃ W, Hid (decide (op = 9) = W) := ⟨_, rfl⟩
                    have hw9 : (op == 9) = W := by rw [← HW.out, Bool.eq_iff_iff, beq_iff_eq, decide_eq_true_eq]
                    have z0 := cell_of_row _ _ 0 _ _ _ hr2.qb
                    have z1 := cell_of_row _ _ 0 _ _ _ hr2.pb
                    obtain ⟨ph, Hph⟩ : ∃ ph, Hid (s2.P = ph) := ⟨_, rfl⟩
                    rw [Hph.out] at z1
                    obtain ⟨Aa, ca2, rfl⟩ := hr2.ac.form
                    simp only [List.getElem?_toArray, List.getElem?_cons_zero] at z0 z1
                    have HAC := Lib.hid hr2.ac
                    have hlenA : s2.A.length + 1 ≤ 1099511627776 := by have := Hal.out; omega
                    have hbaseA : o.w0.heap.size ≤ wr.heap.size := hr2.pure.size
                    have HAN := Lib.hid hr2.ac_ne
                    have hqlt := hr2.qlt
                    have hplt2 := hr2.plt
                    have hcases : (op == 8) = true ∨ ((op == 8) = false ∧ (op == 9) = true) := by
                      rcases hacc with e | e
                      · exact .inl (by simp [e])
                      · exact .inr ⟨by simp [e], by simp [e]⟩
                    obtain ⟨wo, rfl⟩ : ∃ wo : World, wo = wr := ⟨_, rfl⟩
                    have hqg := hr2.q_ne
                    have hn1' : gq ≠ o.p := hqg.1
                    have hn2' : o.p ≠ gq := fun e => hqg.1 e.symm
                    have hn3' : gq ≠ o.rm.gr := hqg.2.1
                    have hn4' : o.rm.gr ≠ gq := fun e => hqg.2.1 e.symm
                    have hn5' : gq ≠ o.rm.rows j := fun e => hqg.2.2.1 (.inl ⟨j, hlt, e⟩)
                    have hn6' : o.rm.rows j ≠ gq := fun e => hqg.2.2.1 (.inl ⟨j, hlt, e.symm⟩)
                    have hn7' : bx ≠ gq := fun e => HNB2.out (.inl e)
                    have hn8' : gq ≠ bx := fun e => HNB2.out (.inl e.symm)
                    have hn9' : gq ≠ gp := hqg.2.2.2.1
                    have hn0' : gp ≠ gq := fun e => hqg.2.2.2.1 e.symm
                    clear hr2 hqg
                    rcases hcases with hd8 | ⟨hd8, hd9⟩
                    · go_wp2_with fail
                      refine region_heldF (fun w' => w'.cell? ⟨gq, 0, none⟩ = some (.slice Aa s2.A.length ca2) ∧ w'.cell? ⟨o.p, 2, none⟩ = some (.slice (some ⟨o.rm.gr, 0, none⟩) o.rm.n o.rm.cr) ∧ w'.cell? ⟨o.p, 3, none⟩ = some (.slice (some ⟨o.rm.gm, 0, none⟩) o.rm.m o.rm.cm) ∧ w'.cell? ⟨gp, 0, none⟩ = some (.int .i64 (ph : Nat)) ∧ w'.cell? ⟨o.rm.gr, j, none⟩ = some (.slice (some ⟨o.rm.rows j, 0, none⟩) 4 4) ∧ w'.cell? ⟨o.rm.rows j, bn, none⟩ = some (.int .i64 (yn : Nat)) ∧ w'.cell? ⟨bx, 0, none⟩ = some (.int .i64 op) ∧ w'.cell? ⟨bx, 2, none⟩ = some (.int .i64 (bn : Nat)))
                        (List.range 29) [29, 30, 31, 32] (fun l => List.take 29 l) (fun l => List.drop 29 l) (by kernel_rfl) (by kernel_rfl) (by kernel_rfl) (by kernel_rfl) (fun c a d v w h => by cases d <;> exact h) (by exact ⟨z0, p2, p3, z1, q1, q2, y0, y2⟩) ?_
                      simp only [List.take_succ_cons, List.take_zero, List.drop_succ_cons, List.drop_zero]
                      apply held_of
                      · exact rfl
                      · intro w' hS
                        obtain ⟨s1, s2, s3, s4, s5, s6, s7, s8⟩ := hS
                        go_simp
                        try exact rfl
                      try go_simp
                      apply held_of
                      · exact rfl
                      · intro w' hS
                        obtain ⟨s1, s2, s3, s4, s5, s6, s7, s8⟩ := hS
                        go_simp
                        try exact rfl
                      try go_simp
                      apply held_of
                      · exact rfl
                      · intro w' hS
                        obtain ⟨s1, s2, s3, s4, s5, s6, s7, s8⟩ := hS
                        go_simp
                        try exact rfl
                      try go_simp
                      apply held_of
                      · exact rfl
                      · intro w' hS
                        obtain ⟨s1, s2, s3, s4, s5, s6, s7, s8⟩ := hS
                        go_simp
                        try exact rfl
                      try go_simp
                      apply held_of
                      · exact rfl
                      · intro w' hS
                        obtain ⟨s1, s2, s3, s4, s5, s6, s7, s8⟩ := hS
                        go_simp
                        try exact rfl
                      try go_simp
                      apply held_of
                      · exact rfl
                      · intro w' hS
                        obtain ⟨s1, s2, s3, s4, s5, s6, s7, s8⟩ := hS
                        go_simp
                        try exact rfl
                      try go_simp
                      apply held_of
                      · exact rfl
                      · intro w' hS
                        obtain ⟨s1, s2, s3, s4, s5, s6, s7, s8⟩ := hS
                        go_simp
                        try exact rfl
                      try go_simp
                      apply held_of
                      · exact rfl
                      · intro w' hS
                        obtain ⟨s1, s2, s3, s4, s5, s6, s7, s8⟩ := hS
                        go_simp
                        try exact rfl
                      try go_simp
                      apply held_of
                      · exact rfl
                      · intro w' hS
                        obtain ⟨s1, s2, s3, s4, s5, s6, s7, s8⟩ := hS
                        go_simp
                        try exact rfl
                      try go_simp
                      apply held_of
                      · exact rfl
                      · intro w' hS
                        obtain ⟨s1, s2, s3, s4, s5, s6, s7, s8⟩ := hS
                        go_simp
                        try exact rfl
                      try go_simp
                      apply held_of
                      · exact rfl
                      · intro w' hS
                        obtain ⟨s1, s2, s3, s4, s5, s6, s7, s8⟩ := hS
                        go_simp
                        try exact rfl
                      try go_simp
                      apply held_of
                      · exact rfl
                      · intro w' hS
                        obtain ⟨s1, s2, s3, s4, s5, s6, s7, s8⟩ := hS
                        go_simp
                        try exact rfl
                      try go_simp
                      apply held_of
                      · exact rfl
                      · intro w' hS
                        obtain ⟨s1, s2, s3, s4, s5, s6, s7, s8⟩ := hS
                        go_simp
                        try exact rfl
                      try go_simp
                      apply held_of
                      · exact rfl
                      · intro w' hS
                        obtain ⟨s1, s2, s3, s4, s5, s6, s7, s8⟩ := hS
                        go_simp
                        try exact rfl
                      try go_simp
                      apply held_of
                      · exact rfl
                      · intro w' hS
                        obtain ⟨s1, s2, s3, s4, s5, s6, s7, s8⟩ := hS
                        go_simp
                        try exact rfl
                      try go_simp
                      apply held_of
                      · exact rfl
                      · intro w' hS
                        obtain ⟨s1, s2, s3, s4, s5, s6, s7, s8⟩ := hS
                        go_simp
                        try exact rfl
                      try go_simp
                      apply held_of
                      · exact rfl
                      · intro w' hS
                        obtain ⟨s1, s2, s3, s4, s5, s6, s7, s8⟩ := hS
                        go_simp
                        try exact rfl
                      try go_simp
                      apply held_of
                      · exact rfl
                      · intro w' hS
                        obtain ⟨s1, s2, s3, s4, s5, s6, s7, s8⟩ := hS
                        go_simp
                        try exact rfl
                      try go_simp
                      apply held_of
                      · exact rfl
                      · intro w' hS
                        obtain ⟨s1, s2, s3, s4, s5, s6, s7, s8⟩ := hS
                        go_simp
                        try exact rfl
                      try go_simp
                      apply held_of
                      · exact rfl
                      · intro w' hS
                        obtain ⟨s1, s2, s3, s4, s5, s6, s7, s8⟩ := hS
                        go_simp
                        try exact rfl
                      try go_simp
                      apply held_of
                      · exact rfl
                      · intro w' hS
                        obtain ⟨s1, s2, s3, s4, s5, s6, s7, s8⟩ := hS
                        go_simp
                        try exact rfl
                      try go_simp
                      apply held_of
                      · exact rfl
                      · intro w' hS
                        obtain ⟨s1, s2, s3, s4, s5, s6, s7, s8⟩ := hS
                        go_simp
                        try exact rfl
                      try go_simp
                      apply held_of
                      · exact rfl
                      · intro w' hS
                        obtain ⟨s1, s2, s3, s4, s5, s6, s7, s8⟩ := hS
                        go_simp
                        try exact rfl
                      try go_simp
                      apply held_of
                      · exact rfl
                      · intro w' hS
                        obtain ⟨s1, s2, s3, s4, s5, s6, s7, s8⟩ := hS
                        go_simp
                        try exact rfl
                      try go_simp
                      apply held_of
                      · exact rfl
                      · intro w' hS
                        obtain ⟨s1, s2, s3, s4, s5, s6, s7, s8⟩ := hS
                        go_simp
                        try exact rfl
                      try go_simp
                      apply held_of
                      · exact rfl
                      · intro w' hS
                        obtain ⟨s1, s2, s3, s4, s5, s6, s7, s8⟩ := hS
                        go_simp
                        try exact rfl
                      try go_simp
                      apply held_of
                      · exact rfl
                      · intro w' hS
                        obtain ⟨s1, s2, s3, s4, s5, s6, s7, s8⟩ := hS
                        go_simp
                        try exact rfl
                      try go_simp
                      apply held_of
                      · exact rfl
                      · intro w' hS
                        obtain ⟨s1, s2, s3, s4, s5, s6, s7, s8⟩ := hS
                        go_simp
                        try exact rfl
                      try go_simp
                      apply held_of
                      · exact rfl
                      · intro w' hS
                        obtain ⟨s1, s2, s3, s4, s5, s6, s7, s8⟩ := hS
                        go_simp
                        try exact rfl
                      try go_simp
                      refine held_nil ?_
                      unfold Tail
                      go_wp2
                      refine And.intro ?_ ?_
                      · exact ⟨keepP (by repeat (first | assumption | exact Pure.refl _ | refine Pure.drewN ?_ _ | refine Pure.drew ?_ | refine Pure.alloc ?_ _ | refine Pure.setCell ?_ (by simp <;> omega) _)) z0, keepP (by repeat (first | assumption | exact Pure.refl _ | refine Pure.drewN ?_ _ | refine Pure.drew ?_ | refine Pure.alloc ?_ _ | refine Pure.setCell ?_ (by simp <;> omega) _)) p2, keepP (by repeat (first | assumption | exact Pure.refl _ | refine Pure.drewN ?_ _ | refine Pure.drew ?_ | refine Pure.alloc ?_ _ | refine Pure.setCell ?_ (by simp <;> omega) _)) p3, keepP (by repeat (first | assumption | exact Pure.refl _ | refine Pure.drewN ?_ _ | refine Pure.drew ?_ | refine Pure.alloc ?_ _ | refine Pure.setCell ?_ (by simp <;> omega) _)) z1, keepP (by repeat (first | assumption | exact Pure.refl _ | refine Pure.drewN ?_ _ | refine Pure.drew ?_ | refine Pure.alloc ?_ _ | refine Pure.setCell ?_ (by simp <;> omega) _)) q1, keepP (by repeat (first | assumption | exact Pure.refl _ | refine Pure.drewN ?_ _ | refine Pure.drew ?_ | refine Pure.alloc ?_ _ | refine Pure.setCell ?_ (by simp <;> omega) _)) q2, keepP (by repeat (first | assumption | exact Pure.refl _ | refine Pure.drewN ?_ _ | refine Pure.drew ?_ | refine Pure.alloc ?_ _ | refine Pure.setCell ?_ (by simp <;> omega) _)) y0, keepP (by repeat (first | assumption | exact Pure.refl _ | refine Pure.drewN ?_ _ | refine Pure.drew ?_ | refine Pure.alloc ?_ _ | refine Pure.setCell ?_ (by simp <;> omega) _)) y2⟩
                      unfold Tail
                      rw [alloc_drew]
                      refine wl_append1F elAcc rfl _ _ rfl o.w0.heap.size _ s2.A.length (accsL s2.A) rfl (HAC.out.pure (w' := wo.drew) (by repeat (first | assumption | exact Pure.refl _ | refine Pure.drewN ?_ _ | refine Pure.drew ?_ | refine Pure.alloc ?_ _ | refine Pure.setCell ?_ (by simp <;> omega) _))) wo.heap.size 1 [.int .i64 (j : Int), .int .i64 (ce : Int), .bool W, .int .i64 (ph : Int)] rfl rfl rfl rfl (by decide) hlenA hbaseA ?_
                      intro q' wq hq' hg' hl'
                      obtain ⟨Aq, cq, hqe⟩ := hq'.form
                      subst hqe
                      have HT := Lib.hid (WRun.acc (x := ⟨j, ce, W, ph⟩) HR2.out (Pure.drew (Pure.refl wo)) hq' hg' hl')
                      have hgc : Chg (fun b => (Value.slice Aa s2.A.length ca2).ownBlock = some b) wo.drew wq := Chg.of_grown hg' (fun b hb => hb)
                      have HGC := Lib.hid ((Chg.of_pure (S := fun b => (Value.slice Aa s2.A.length ca2).ownBlock = some b) (show Pure wo wo.drew from (by repeat (first | assumption | exact Pure.refl _ | refine Pure.drewN ?_ _ | refine Pure.drew ?_ | refine Pure.alloc ?_ _ | refine Pure.setCell ?_ (by simp <;> omega) _)))).trans hgc)
                      clear hq' hg' hl' hgc
                      go_wp2
                      have x0 := keepC HGC.out (fun e => (HAN.out _ e).2.2.2.1 rfl) z0
                      have x2 := keepC HGC.out (fun e => (HAN.out _ e).1 rfl) p2
                      have x3 := keepC HGC.out (fun e => (HAN.out _ e).1 rfl) p3
                      have x1 := keepC HGC.out (fun e => (HAN.out _ e).2.2.2.2 rfl) z1
                      have x4 := keepC HGC.out (fun e => (HAN.out _ e).2.1 rfl) q1
                      have x5 := keepC HGC.out (fun e => (HAN.out _ e).2.2.1 (.inl ⟨j, hlt, rfl⟩)) q2
                      have v0 := keepC HGC.out (fun e => HNB2.out (.inr (.inr (.inr e)))) y0
                      have v1 := keepC HGC.out (fun e => HNB2.out (.inr (.inr (.inr e)))) y1
                      have v2 := keepC HGC.out (fun e => HNB2.out (.inr (.inr (.inr e)))) y2
                      have v3 := keepC HGC.out (fun e => HNB2.out (.inr (.inr (.inr e)))) y3
                      have hfz : wq.frozen? ⟨gq, 0, none⟩ = false := frozen_of_row wq gq 0 _ _ (HGC.out.heap HR2.out.qb (fun e => (HAN.out _ e).2.2.2.1 rfl))
                      have hszq := HGC.out.size
                      clear z0 z1 p2 p3 q1 q2 y0 y1 y2 y3
                      refine And.intro (by exact ⟨x0, x2, x3, x1, x4, x5, v0, v2⟩) ?_
                      unfold Tail
                      go_wp2
                      refine And.intro (by exact ⟨x0, x2, x3, x1, x4, x5, v0, v2⟩) ?_
                      unfold Tail
                      go_wp2
                      have H3 := Lib.hid HT.out.1
                      have H3s := Lib.hid HT.out.2
                      refine region_tail 13 (by kernel_rfl) (by kernel_rfl) ?_
                      simp only [List.take_succ_cons, List.take_zero, List.drop_succ_cons, List.drop_zero]
                      repeat still_step
                      refine wpStill_nil ?_
                      go_wp2_with fail
                      refine (s6_any o.rm ⟨op, ca, bn, cc⟩ j _ s2.R s2.M (H3.out.rm.pure (by exact (by repeat (first | assumption | exact Pure.refl _ | refine Pure.drewN ?_ _ | refine Pure.drew ?_ | refine Pure.alloc ?_ _ | refine Pure.setCell ?_ (by simp <;> omega) _)))) hlt HPL.out (hgood.out.1 j)).mono ?_
                      rintro e w7 ⟨rfl, hrm7, hch7⟩
                      have h7 := WRun.lane (H3.out.keep (w' := (wq.setCell ⟨gq, 0, none⟩ (.slice Aq (s2.A.length + 1) cq)).drew) (by exact (by repeat (first | assumption | exact Pure.refl _ | refine Pure.drewN ?_ _ | refine Pure.drew ?_ | refine Pure.alloc ?_ _ | refine Pure.setCell ?_ (by simp <;> omega) _)))) hlt HPL.out.1 hrm7 hch7
                      clear hrm7 hch7
                      have hx : (⟨j, ce, W, ph⟩ : Ac) = ⟨j, cellOf ⟨op, ca, bn, cc⟩ o.rm.m (s2.R j), decide ((⟨op, ca, bn, cc⟩ : Cd).op = 9), s2.P⟩ := by
                        have h9 : decide ((⟨op, ca, bn, cc⟩ : Cd).op = 9) = W := HW.out
                        rw [HC.out, h9, Hph.out]
                      have hlan : ({ lane1 ⟨op, ca, bn, cc⟩ o.rm.m j { s2 with A := s2.A ++ [⟨j, ce, W, ph⟩] } with A := s2.A ++ [⟨j, ce, W, ph⟩] } : LS) = lane1 ⟨op, ca, bn, cc⟩ o.rm.m j s2 := by
                        rw [hx]; exact lane1_acc Hacc.out
                      have H7 : Hid (WRun o gq gp w7 (.slice Aq (s2.A.length + 1) cq) (lane1 ⟨op, ca, bn, cc⟩ o.rm.m j s2)) := Lib.hid (by rw [← hlan]; exact h7.1)
                      have H7s := Lib.hid ((HS2.out.trans H3s.out).trans ((WStep.of_pure (show Pure (wq.setCell ⟨gq, 0, none⟩ (.slice Aq (s2.A.length + 1) cq)) _ from (by repeat (first | assumption | exact Pure.refl _ | refine Pure.drewN ?_ _ | refine Pure.drew ?_ | refine Pure.alloc ?_ _ | refine Pure.setCell ?_ (by simp <;> omega) _)))).trans h7.2))
                      clear h7 hlan
                      go_wp2
                      go_roundg (o.rm.n - (j + 1))
                      case measure => have := Hg2.out; omega
                      case rel => exact ⟨j + 1, _, by have := Hg2.out; omega, by go_num, by rw [Hnext.out]; exact H7.out, H7s.out⟩
                    · obtain rfl : W = true := by rw [← hw9]; exact hd9
                      clear hw9
                      go_wp2_with fail
                      refine region_heldF (fun w' => w'.cell? ⟨gq, 0, none⟩ = some (.slice Aa s2.A.length ca2) ∧ w'.cell? ⟨o.p, 2, none⟩ = some (.slice (some ⟨o.rm.gr, 0, none⟩) o.rm.n o.rm.cr) ∧ w'.cell? ⟨o.p, 3, none⟩ = some (.slice (some ⟨o.rm.gm, 0, none⟩) o.rm.m o.rm.cm) ∧ w'.cell? ⟨gp, 0, none⟩ = some (.int .i64 (ph : Nat)) ∧ w'.cell? ⟨o.rm.gr, j, none⟩ = some (.slice (some ⟨o.rm.rows j, 0, none⟩) 4 4) ∧ w'.cell? ⟨o.rm.rows j, bn, none⟩ = some (.int .i64 (yn : Nat)) ∧ w'.cell? ⟨bx, 0, none⟩ = some (.int .i64 op) ∧ w'.cell? ⟨bx, 2, none⟩ = some (.int .i64 (bn : Nat)))
                        (List.range 29) [29, 30, 31, 32] (fun l => List.take 29 l) (fun l => List.drop 29 l) (by kernel_rfl) (by kernel_rfl) (by kernel_rfl) (by kernel_rfl) (fun c a d v w h => by cases d <;> exact h) (by exact ⟨z0, p2, p3, z1, q1, q2, y0, y2⟩) ?_
                      simp only [List.take_succ_cons, List.take_zero, List.drop_succ_cons, List.drop_zero]
                      apply held_of
                      · exact rfl
                      · intro w' hS
                        obtain ⟨s1, s2, s3, s4, s5, s6, s7, s8⟩ := hS
                        go_simp
                        try exact rfl
                      try go_simp
                      apply held_of
                      · exact rfl
                      · intro w' hS
                        obtain ⟨s1, s2, s3, s4, s5, s6, s7, s8⟩ := hS
                        go_simp
                        try exact rfl
                      try go_simp
                      apply held_of
                      · exact rfl
                      · intro w' hS
                        obtain ⟨s1, s2, s3, s4, s5, s6, s7, s8⟩ := hS
                        go_simp
                        try exact rfl
                      try go_simp
                      apply held_of
                      · exact rfl
                      · intro w' hS
                        obtain ⟨s1, s2, s3, s4, s5, s6, s7, s8⟩ := hS
                        go_simp
                        try exact rfl
                      try go_simp
                      apply held_of
                      · exact rfl
                      · intro w' hS
                        obtain ⟨s1, s2, s3, s4, s5, s6, s7, s8⟩ := hS
                        go_simp
                        try exact rfl
                      try go_simp
                      apply held_of
                      · exact rfl
                      · intro w' hS
                        obtain ⟨s1, s2, s3, s4, s5, s6, s7, s8⟩ := hS
                        go_simp
                        try exact rfl
                      try go_simp
                      apply held_of
                      · exact rfl
                      · intro w' hS
                        obtain ⟨s1, s2, s3, s4, s5, s6, s7, s8⟩ := hS
                        go_simp
                        try exact rfl
                      try go_simp
                      apply held_of
                      · exact rfl
                      · intro w' hS
                        obtain ⟨s1, s2, s3, s4, s5, s6, s7, s8⟩ := hS
                        go_simp
                        try exact rfl
                      try go_simp
                      apply held_of
                      · exact rfl
                      · intro w' hS
                        obtain ⟨s1, s2, s3, s4, s5, s6, s7, s8⟩ := hS
                        go_simp
                        try exact rfl
                      try go_simp
                      apply held_of
                      · exact rfl
                      · intro w' hS
                        obtain ⟨s1, s2, s3, s4, s5, s6, s7, s8⟩ := hS
                        go_simp
                        try exact rfl
                      try go_simp
                      apply held_of
                      · exact rfl
                      · intro w' hS
                        obtain ⟨s1, s2, s3, s4, s5, s6, s7, s8⟩ := hS
                        go_simp
                        try exact rfl
                      try go_simp
                      apply held_of
                      · exact rfl
                      · intro w' hS
                        obtain ⟨s1, s2, s3, s4, s5, s6, s7, s8⟩ := hS
                        go_simp
                        try exact rfl
                      try go_simp
                      apply held_of
                      · exact rfl
                      · intro w' hS
                        obtain ⟨s1, s2, s3, s4, s5, s6, s7, s8⟩ := hS
                        go_simp
                        try exact rfl
                      try go_simp
                      apply held_of
                      · exact rfl
                      · intro w' hS
                        obtain ⟨s1, s2, s3, s4, s5, s6, s7, s8⟩ := hS
                        go_simp
                        try exact rfl
                      try go_simp
                      apply held_of
                      · exact rfl
                      · intro w' hS
                        obtain ⟨s1, s2, s3, s4, s5, s6, s7, s8⟩ := hS
                        go_simp
                        try exact rfl
                      try go_simp
                      apply held_of
                      · exact rfl
                      · intro w' hS
                        obtain ⟨s1, s2, s3, s4, s5, s6, s7, s8⟩ := hS
                        go_simp
                        try exact rfl
                      try go_simp
                      apply held_of
                      · exact rfl
                      · intro w' hS
                        obtain ⟨s1, s2, s3, s4, s5, s6, s7, s8⟩ := hS
                        go_simp
                        try exact rfl
                      try go_simp
                      apply held_of
                      · exact rfl
                      · intro w' hS
                        obtain ⟨s1, s2, s3, s4, s5, s6, s7, s8⟩ := hS
                        go_simp
                        try exact rfl
                      try go_simp
                      apply held_of
                      · exact rfl
                      · intro w' hS
                        obtain ⟨s1, s2, s3, s4, s5, s6, s7, s8⟩ := hS
                        go_simp
                        try exact rfl
                      try go_simp
                      apply held_of
                      · exact rfl
                      · intro w' hS
                        obtain ⟨s1, s2, s3, s4, s5, s6, s7, s8⟩ := hS
                        go_simp
                        try exact rfl
                      try go_simp
                      apply held_of
                      · exact rfl
                      · intro w' hS
                        obtain ⟨s1, s2, s3, s4, s5, s6, s7, s8⟩ := hS
                        go_simp
                        try exact rfl
                      try go_simp
                      apply held_of
                      · exact rfl
                      · intro w' hS
                        obtain ⟨s1, s2, s3, s4, s5, s6, s7, s8⟩ := hS
                        go_simp
                        try exact rfl
                      try go_simp
                      apply held_of
                      · exact rfl
                      · intro w' hS
                        obtain ⟨s1, s2, s3, s4, s5, s6, s7, s8⟩ := hS
                        go_simp
                        try exact rfl
                      try go_simp
                      apply held_of
                      · exact rfl
                      · intro w' hS
                        obtain ⟨s1, s2, s3, s4, s5, s6, s7, s8⟩ := hS
                        go_simp
                        try exact rfl
                      try go_simp
                      apply held_of
                      · exact rfl
                      · intro w' hS
                        obtain ⟨s1, s2, s3, s4, s5, s6, s7, s8⟩ := hS
                        go_simp
                        try exact rfl
                      try go_simp
                      apply held_of
                      · exact rfl
                      · intro w' hS
                        obtain ⟨s1, s2, s3, s4, s5, s6, s7, s8⟩ := hS
                        go_simp
                        try exact rfl
                      try go_simp
                      apply held_of
                      · exact rfl
                      · intro w' hS
                        obtain ⟨s1, s2, s3, s4, s5, s6, s7, s8⟩ := hS
                        go_simp
                        try exact rfl
                      try go_simp
                      apply held_of
                      · exact rfl
                      · intro w' hS
                        obtain ⟨s1, s2, s3, s4, s5, s6, s7, s8⟩ := hS
                        go_simp
                        try exact rfl
                      try go_simp
                      apply held_of
                      · exact rfl
                      · intro w' hS
                        obtain ⟨s1, s2, s3, s4, s5, s6, s7, s8⟩ := hS
                        go_simp
                        try exact rfl
                      try go_simp
                      refine held_nil ?_
                      unfold Tail
                      go_wp2
                      refine And.intro ?_ ?_
                      · exact ⟨keepP (by repeat (first | assumption | exact Pure.refl _ | refine Pure.drewN ?_ _ | refine Pure.drew ?_ | refine Pure.alloc ?_ _ | refine Pure.setCell ?_ (by simp <;> omega) _)) z0, keepP (by repeat (first | assumption | exact Pure.refl _ | refine Pure.drewN ?_ _ | refine Pure.drew ?_ | refine Pure.alloc ?_ _ | refine Pure.setCell ?_ (by simp <;> omega) _)) p2, keepP (by repeat (first | assumption | exact Pure.refl _ | refine Pure.drewN ?_ _ | refine Pure.drew ?_ | refine Pure.alloc ?_ _ | refine Pure.setCell ?_ (by simp <;> omega) _)) p3, keepP (by repeat (first | assumption | exact Pure.refl _ | refine Pure.drewN ?_ _ | refine Pure.drew ?_ | refine Pure.alloc ?_ _ | refine Pure.setCell ?_ (by simp <;> omega) _)) z1, keepP (by repeat (first | assumption | exact Pure.refl _ | refine Pure.drewN ?_ _ | refine Pure.drew ?_ | refine Pure.alloc ?_ _ | refine Pure.setCell ?_ (by simp <;> omega) _)) q1, keepP (by repeat (first | assumption | exact Pure.refl _ | refine Pure.drewN ?_ _ | refine Pure.drew ?_ | refine Pure.alloc ?_ _ | refine Pure.setCell ?_ (by simp <;> omega) _)) q2, keepP (by repeat (first | assumption | exact Pure.refl _ | refine Pure.drewN ?_ _ | refine Pure.drew ?_ | refine Pure.alloc ?_ _ | refine Pure.setCell ?_ (by simp <;> omega) _)) y0, keepP (by repeat (first | assumption | exact Pure.refl _ | refine Pure.drewN ?_ _ | refine Pure.drew ?_ | refine Pure.alloc ?_ _ | refine Pure.setCell ?_ (by simp <;> omega) _)) y2⟩
                      unfold Tail
                      rw [alloc_drew]
                      refine wl_append1F elAcc rfl _ _ rfl o.w0.heap.size _ s2.A.length (accsL s2.A) rfl (HAC.out.pure (w' := wo.drew) (by repeat (first | assumption | exact Pure.refl _ | refine Pure.drewN ?_ _ | refine Pure.drew ?_ | refine Pure.alloc ?_ _ | refine Pure.setCell ?_ (by simp <;> omega) _))) wo.heap.size 1 [.int .i64 (j : Int), .int .i64 (ce : Int), .bool true, .int .i64 (ph : Int)] rfl rfl rfl rfl (by decide) hlenA hbaseA ?_
                      intro q' wq hq' hg' hl'
                      obtain ⟨Aq, cq, hqe⟩ := hq'.form
                      subst hqe
                      have HT := Lib.hid (WRun.acc (x := ⟨j, ce, true, ph⟩) HR2.out (Pure.drew (Pure.refl wo)) hq' hg' hl')
                      have hgc : Chg (fun b => (Value.slice Aa s2.A.length ca2).ownBlock = some b) wo.drew wq := Chg.of_grown hg' (fun b hb => hb)
                      have HGC := Lib.hid ((Chg.of_pure (S := fun b => (Value.slice Aa s2.A.length ca2).ownBlock = some b) (show Pure wo wo.drew from (by repeat (first | assumption | exact Pure.refl _ | refine Pure.drewN ?_ _ | refine Pure.drew ?_ | refine Pure.alloc ?_ _ | refine Pure.setCell ?_ (by simp <;> omega) _)))).trans hgc)
                      clear hq' hg' hl' hgc
                      go_wp2
                      have x0 := keepC HGC.out (fun e => (HAN.out _ e).2.2.2.1 rfl) z0
                      have x2 := keepC HGC.out (fun e => (HAN.out _ e).1 rfl) p2
                      have x3 := keepC HGC.out (fun e => (HAN.out _ e).1 rfl) p3
                      have x1 := keepC HGC.out (fun e => (HAN.out _ e).2.2.2.2 rfl) z1
                      have x4 := keepC HGC.out (fun e => (HAN.out _ e).2.1 rfl) q1
                      have x5 := keepC HGC.out (fun e => (HAN.out _ e).2.2.1 (.inl ⟨j, hlt, rfl⟩)) q2
                      have v0 := keepC HGC.out (fun e => HNB2.out (.inr (.inr (.inr e)))) y0
                      have v1 := keepC HGC.out (fun e => HNB2.out (.inr (.inr (.inr e)))) y1
                      have v2 := keepC HGC.out (fun e => HNB2.out (.inr (.inr (.inr e)))) y2
                      have v3 := keepC HGC.out (fun e => HNB2.out (.inr (.inr (.inr e)))) y3
                      have hfz : wq.frozen? ⟨gq, 0, none⟩ = false := frozen_of_row wq gq 0 _ _ (HGC.out.heap HR2.out.qb (fun e => (HAN.out _ e).2.2.2.1 rfl))
                      have hszq := HGC.out.size
                      clear z0 z1 p2 p3 q1 q2 y0 y1 y2 y3
                      refine And.intro (by exact ⟨x0, x2, x3, x1, x4, x5, v0, v2⟩) ?_
                      unfold Tail
                      go_wp2
                      refine And.intro (by exact ⟨x0, x2, x3, x1, x4, x5, v0, v2⟩) ?_
                      unfold Tail
                      go_wp2
                      have H3 := Lib.hid HT.out.1
                      have H3s := Lib.hid HT.out.2
                      refine region_tail 13 (by kernel_rfl) (by kernel_rfl) ?_
                      simp only [List.take_succ_cons, List.take_zero, List.drop_succ_cons, List.drop_zero]
                      repeat still_step
                      refine wpStill_nil ?_
                      go_wp2_with fail
                      refine (s6_any o.rm ⟨op, ca, bn, cc⟩ j _ s2.R s2.M (H3.out.rm.pure (by exact (by repeat (first | assumption | exact Pure.refl _ | refine Pure.drewN ?_ _ | refine Pure.drew ?_ | refine Pure.alloc ?_ _ | refine Pure.setCell ?_ (by simp <;> omega) _)))) hlt HPL.out (hgood.out.1 j)).mono ?_
                      rintro e w7 ⟨rfl, hrm7, hch7⟩
                      have h7 := WRun.lane (H3.out.keep (w' := (wq.setCell ⟨gq, 0, none⟩ (.slice Aq (s2.A.length + 1) cq)).drew) (by exact (by repeat (first | assumption | exact Pure.refl _ | refine Pure.drewN ?_ _ | refine Pure.drew ?_ | refine Pure.alloc ?_ _ | refine Pure.setCell ?_ (by simp <;> omega) _)))) hlt HPL.out.1 hrm7 hch7
                      clear hrm7 hch7
                      have hx : (⟨j, ce, true, ph⟩ : Ac) = ⟨j, cellOf ⟨op, ca, bn, cc⟩ o.rm.m (s2.R j), decide ((⟨op, ca, bn, cc⟩ : Cd).op = 9), s2.P⟩ := by
                        have h9 : decide ((⟨op, ca, bn, cc⟩ : Cd).op = 9) = true := HW.out
                        rw [HC.out, h9, Hph.out]
                      have hlan : ({ lane1 ⟨op, ca, bn, cc⟩ o.rm.m j { s2 with A := s2.A ++ [⟨j, ce, true, ph⟩] } with A := s2.A ++ [⟨j, ce, true, ph⟩] } : LS) = lane1 ⟨op, ca, bn, cc⟩ o.rm.m j s2 := by
                        rw [hx]; exact lane1_acc Hacc.out
                      have H7 : Hid (WRun o gq gp w7 (.slice Aq (s2.A.length + 1) cq) (lane1 ⟨op, ca, bn, cc⟩ o.rm.m j s2)) := Lib.hid (by rw [← hlan]; exact h7.1)
                      have H7s := Lib.hid ((HS2.out.trans H3s.out).trans ((WStep.of_pure (show Pure (wq.setCell ⟨gq, 0, none⟩ (.slice Aq (s2.A.length + 1) cq)) _ from (by repeat (first | assumption | exact Pure.refl _ | refine Pure.drewN ?_ _ | refine Pure.drew ?_ | refine Pure.alloc ?_ _ | refine Pure.setCell ?_ (by simp <;> omega) _)))).trans h7.2))
                      clear h7 hlan
                      go_wp2
                      go_roundg (o.rm.n - (j + 1))
                      case measure => have := Hg2.out; omega
                      case rel => exact ⟨j + 1, _, by have := Hg2.out; omega, by go_num, by rw [Hnext.out]; exact H7.out, H7s.out⟩
                  · clear hr2
                    have H3 := HR2
                    have Hacc := Lib.hid hacc
                    have hd8 : (op == 8) = false := by rw [beq_eq_false_iff_ne]; exact fun e => hacc (.inl e)
                    have hd9 : (op == 9) = false := by rw [beq_eq_false_iff_ne]; exact fun e => hacc (.inr e)
                    clear hacc
                    go_wp2_with fail
                    refine region_tail 13 (by kernel_rfl) (by kernel_rfl) ?_
                    simp only [List.take_succ_cons, List.take_zero, List.drop_succ_cons, List.drop_zero]
                    repeat still_step
                    refine wpStill_nil ?_
                    go_wp2_with fail
                    refine (s6_any o.rm ⟨op, ca, cb, cc⟩ j _ s2.R s2.M (H3.out.rm.pure (by exact (by repeat (first | assumption | exact Pure.refl _ | refine Pure.drewN ?_ _ | refine Pure.drew ?_ | refine Pure.alloc ?_ _ | refine Pure.setCell ?_ (by simp <;> omega) _)))) hlt HPL.out (hgood.out.1 j)).mono ?_
                    rintro e w7 ⟨rfl, hrm7, hch7⟩
                    have h7 := WRun.lane (H3.out.keep (w' := wr.drew) (by exact (by repeat (first | assumption | exact Pure.refl _ | refine Pure.drewN ?_ _ | refine Pure.drew ?_ | refine Pure.alloc ?_ _ | refine Pure.setCell ?_ (by simp <;> omega) _)))) hlt HPL.out.1 hrm7 hch7
                    clear hrm7 hch7
                    have hlan := lane1_no (c := ⟨op, ca, cb, cc⟩) (m := o.rm.m) (k := j) (s := s2) Hacc.out
                    have H7 : Hid (WRun o gq gp w7 va2 (lane1 ⟨op, ca, cb, cc⟩ o.rm.m j s2)) := Lib.hid (by rw [← hlan]; exact h7.1)
                    have H7s := Lib.hid (HS2.out.trans ((WStep.of_pure (show Pure wr wr.drew from (by repeat (first | assumption | exact Pure.refl _ | refine Pure.drewN ?_ _ | refine Pure.drew ?_ | refine Pure.alloc ?_ _ | refine Pure.setCell ?_ (by simp <;> omega) _)))).trans h7.2))
                    clear h7 hlan
                    go_wp2
                    go_roundg (o.rm.n - (j + 1))
                    case measure => have := Hg2.out; omega
                    case rel => exact ⟨j + 1, _, by have := Hg2.out; omega, by go_num, by rw [Hnext.out]; exact H7.out, H7s.out⟩
              · have hjl : j = o.rm.n := by omega
                subst hjl
                have HF : Hid (WRun o gq gp wr va2 (exec ⟨op, ca, cb, cc⟩ o.rm.n o.rm.m k mask s')) := Lib.hid (by rw [HE.out]; exact HR2.out)
                clear hr2
                go_wp2
                go_roundg tk.len
                case measure => have := Hgk.out; have := Tr.len_op ⟨op, ca, cb, cc⟩ tk; omega
                case rel =>
                  exact ⟨tk, k + 1, _, va2, rfl, by have := Hto.out; have := Tr.len_op ⟨op, ca, cb, cc⟩ tk; omega, by have := Htl.out; have := Tr.len_op ⟨op, ca, cb, cc⟩ tk; omega, by go_num, Hok.out.2, Hseg.out.op.2.2, by have h1 := execM_msz ⟨op, ca, cb, cc⟩ (n := o.rm.n) (m := o.rm.m) (mask := mask) (beat k mask s') hn8; rw [← exec_eq, beat_msz] at h1; have := Hco.out; simp only [Tr.cost] at this; omega, HF.out, (HST.out.trans HSTL.out).trans HS2.out, by rw [← Hrun.out]; show _ = (if mask = 0 then _ else _ : LS); rw [if_neg HM0.out]⟩
        | ite a t1 tk =>
          have hce : (⟨op, ca, cb, cc⟩ : Cd) = cIf a := Hcd.out.symm.trans Hseg.out.ite.1
          injection hce with e1 e2 e3 e4
          subst e1 e2 e3 e4
          have hB : B = true := by rw [← HB.out]; exact decide_eq_true (.inl rfl)
          subst hB
          obtain ⟨ha0, ha3⟩ := Hok.out.1
          obtain ⟨an, rfl⟩ := Int.eq_ofNat_of_zero_le ha0
          have han : an < 4 := by omega
          have hend := (end_ite Hok.out Hseg.out).1
          obtain ⟨en, Hen⟩ : ∃ en, Hid (k + 1 + t1.len = en) := ⟨_, rfl⟩
          rw [Hen.out] at hend
          go_wp2_with fail
          refine (l4End_any _ o.cs k _ _ (by have := hcw4.out; rw [HVL.out] at this; exact this) (by omega) hk hend).mono ?_
          rintro e w5 ⟨rfl, hp5⟩
          clear hend p0
          have HP5 := Lib.hid hp5
          obtain ⟨y0, y1, y2, y3⟩ := HX4.out.pure hp5
          have hby := (HX4.out.pure hp5).lt
          have HR5 := Lib.hid (HT4.out.keep hp5)
          have H45 := Lib.hid (WStep.of_pure (o := o) (gq := gq) (gp := gp) (u := va') hp5)
          clear hp5
          simp only at y0 y1 y2 y3
          obtain ⟨y, Hy⟩ : ∃ y, Hid (onesTo s'.R mask an o.rm.n = y) := ⟨_, rfl⟩
          have hy : y < 2 ^ o.rm.n := by rw [← Hy.out]; exact onesTo_lt _ _ _ _
          have hy256 := Nat.lt_of_lt_of_le hy (pow8 hn8)
          have HYM := Lib.hid hy
          clear hy
          go_wp2_with fail
          refine (sones_any o _ _ _ _ s'.R s'.M mask an HR5.out.obj HR5.out.rm hm256 han).mono ?_
          rintro e w6 ⟨rfl, rfl⟩
          rw [Hy.out]
          have hen1 : en < o.cs.length := by rw [← Hen.out]; exact Hseg.out.ite.2.2.2.1
          have HL := Lib.hid (Tr.len_ite (an : Int) t1 tk)
          obtain ⟨d, Hd⟩ : ∃ d, Hid (del mask y = d) := ⟨_, rfl⟩
          have hdel : bits .andNot .i64 (mask : Int) (y : Int) = (d : Int) := by rw [bits_andNot (by omega) (by omega)]; exact congrArg _ Hd.out
          go_wp2_with fail
          refine (HIH.out t1 (k + 1) y (beat k mask s') va' _ _ _ (by have := HL.out; have := HSZ.out; have := Htl.out; omega) Hok.out.2.1 Hseg.out.ite.2.1 (by have := Hen.out; omega) HYM.out (by have := Hco.out; simp only [Tr.cost] at this; rw [beat_msz]; omega) (HR5.out.beat k mask) (by omega) (by have := Hen.out; omega)).mono ?_
          rintro e w7 ⟨rfl, va7, hr7, hs7⟩
          have H7 := Lib.hid hr7
          have H7s := Lib.hid hs7
          clear hr7 hs7
          go_wp2_with fail
          refine (watch_skip _ _ _ _ _ _ _ (by omega)).mono ?_
          rintro e w8 ⟨rfl, rfl⟩
          go_wp2_with fail
          go_roundg tk.len
          case measure => have := Hgk.out; have := HL.out; omega
          case rel =>
            exact ⟨tk, en + 1, _, va7, rfl, by have := Hto.out; have := HL.out; have := Hen.out; omega, by have := Htl.out; have := HL.out; omega, by go_num, Hok.out.2.2, by rw [← Hen.out]; exact Hseg.out.ite.2.2.2.2, by have := Hco.out; have h1 := run_msz o.rm.n o.rm.m hn8 t1 (k + 1) y (beat k mask s'); simp only [Tr.cost] at this; rw [beat_msz] at h1; omega, H7.out, (HST.out.trans H45.out).trans H7s.out, by rw [← Hrun.out, ← Hen.out]; show _ = (if mask = 0 then _ else _ : LS); rw [if_neg HM0.out, Int.toNat_natCast, Hy.out]⟩
        | itee a t1 t2 tk =>
          have hce : (⟨op, ca, cb, cc⟩ : Cd) = cIf a := Hcd.out.symm.trans Hseg.out.itee.1
          injection hce with e1 e2 e3 e4
          subst e1 e2 e3 e4
          have hB : B = true := by rw [← HB.out]; exact decide_eq_true (.inl rfl)
          subst hB
          obtain ⟨ha0, ha3⟩ := Hok.out.1
          obtain ⟨an, rfl⟩ := Int.eq_ofNat_of_zero_le ha0
          have han : an < 4 := by omega
          have hend := (end_itee Hok.out Hseg.out).1
          obtain ⟨on, Hon⟩ : ∃ on, Hid (k + 1 + t1.len = on) := ⟨_, rfl⟩
          obtain ⟨en, Hen⟩ : ∃ en, Hid (k + 1 + t1.len + 1 + t2.len = en) := ⟨_, rfl⟩
          rw [Hen.out, Hon.out] at hend
          go_wp2_with fail
          refine (l4End_any _ o.cs k _ _ (by have := hcw4.out; rw [HVL.out] at this; exact this) (by omega) hk hend).mono ?_
          rintro e w5 ⟨rfl, hp5⟩
          clear hend p0
          have HP5 := Lib.hid hp5
          obtain ⟨y0, y1, y2, y3⟩ := HX4.out.pure hp5
          have hby := (HX4.out.pure hp5).lt
          have HR5 := Lib.hid (HT4.out.keep hp5)
          have H45 := Lib.hid (WStep.of_pure (o := o) (gq := gq) (gp := gp) (u := va') hp5)
          clear hp5
          simp only at y0 y1 y2 y3
          obtain ⟨y, Hy⟩ : ∃ y, Hid (onesTo s'.R mask an o.rm.n = y) := ⟨_, rfl⟩
          have hy : y < 2 ^ o.rm.n := by rw [← Hy.out]; exact onesTo_lt _ _ _ _
          have hy256 := Nat.lt_of_lt_of_le hy (pow8 hn8)
          have HYM := Lib.hid hy
          clear hy
          go_wp2_with fail
          refine (sones_any o _ _ _ _ s'.R s'.M mask an HR5.out.obj HR5.out.rm hm256 han).mono ?_
          rintro e w6 ⟨rfl, rfl⟩
          rw [Hy.out]
          have hen1 : en < o.cs.length := by rw [← Hen.out]; exact Hseg.out.itee.2.2.2.2.2.1
          have hon1 : on < en := by have := Hen.out; have := Hon.out; omega
          have HL := Lib.hid (Tr.len_itee (an : Int) t1 t2 tk)
          obtain ⟨d, Hd⟩ : ∃ d, Hid (del mask y = d) := ⟨_, rfl⟩
          have hdel : bits .andNot .i64 (mask : Int) (y : Int) = (d : Int) := by rw [bits_andNot (by omega) (by omega)]; exact congrArg _ Hd.out
          have HDM : Hid (d < 2 ^ o.rm.n) := Lib.hid (by rw [← Hd.out]; exact del_lt2 y HMASK.out)
          have HCC : Hid (msz s' + 1 + 10 * t1.cost + 10 * t2.cost + 10 * tk.cost ≤ 1099511626000) := Lib.hid (by have := Hco.out; simp only [Tr.cost] at this; omega)
          have hc1 : Hid (msz (run o.rm.n o.rm.m t1 (k + 1) y (beat k mask s')) ≤ msz s' + 1 + 10 * t1.cost) := Lib.hid (by have h1 := run_msz o.rm.n o.rm.m hn8 t1 (k + 1) y (beat k mask s'); rw [beat_msz] at h1; exact h1)
          go_wp2_with fail
          refine (HIH.out t1 (k + 1) y (beat k mask s') va' _ _ _ (by have := HL.out; have := HSZ.out; have := Htl.out; omega) Hok.out.2.1 Hseg.out.itee.2.1 (by have := Hon.out; omega) HYM.out (by have := HCC.out; rw [beat_msz]; omega) (HR5.out.beat k mask) (by omega) (by have := Hon.out; omega)).mono ?_
          rintro e w7 ⟨rfl, va7, hr7, hs7⟩
          have H7 := Lib.hid hr7
          have H7s := Lib.hid hs7
          clear hr7 hs7
          go_wp2_with fail
          refine (HIH.out t2 (on + 1) d (run o.rm.n o.rm.m t1 (k + 1) y (beat k mask s')) va7 _ _ _ (by have := HL.out; have := HSZ.out; have := Htl.out; omega) Hok.out.2.2.1 (by rw [← Hon.out]; exact Hseg.out.itee.2.2.2.1) (by have := Hon.out; have := Hen.out; omega) HDM.out (by have h1 := HCC.out; have h2 := hc1.out; omega) H7.out (by omega) (by have := Hon.out; have := Hen.out; omega)).mono ?_
          rintro e w8 ⟨rfl, va8, hr8, hs8⟩
          have H8 := Lib.hid hr8
          have H8s := Lib.hid hs8
          have hc2 := Lib.hid (run_msz o.rm.n o.rm.m hn8 t2 (on + 1) d (run o.rm.n o.rm.m t1 (k + 1) y (beat k mask s')))
          clear hr8 hs8
          go_wp2_with fail
          go_roundg tk.len
          case measure => have := Hgk.out; have := HL.out; omega
          case rel =>
            exact ⟨tk, en + 1, _, va8, rfl, by have := Hto.out; have := HL.out; have := Hen.out; omega, by have := Htl.out; have := HL.out; omega, by go_num, Hok.out.2.2.2, by rw [← Hen.out]; exact Hseg.out.itee.2.2.2.2.2.2, by have h1 := HCC.out; have h2 := hc1.out; have h3 := hc2.out; omega, H8.out, ((HST.out.trans H45.out).trans H7s.out).trans H8s.out, by rw [← Hrun.out, ← Hen.out, ← Hon.out]; show _ = (if mask = 0 then _ else _ : LS); rw [if_neg HM0.out, Int.toNat_natCast, Hy.out, Hd.out]⟩
        | loop a lb t1 tk =>
          have hce : (⟨op, ca, cb, cc⟩ : Cd) = cLoop a lb := Hcd.out.symm.trans Hseg.out.loop.1
          injection hce with e1 e2 e3 e4
          subst e1 e2 e3 e4
          obtain ⟨hb1, hb4⟩ := Hok.out.2.1
          obtain ⟨bn, rfl⟩ := Int.eq_ofNat_of_zero_le (show (0 : Int) ≤ cb by omega)
          have hB : B = true := by rw [← HB.out]; exact decide_eq_true (.inr rfl)
          subst hB
          obtain ⟨ha0, ha3⟩ := Hok.out.1
          obtain ⟨an, rfl⟩ := Int.eq_ofNat_of_zero_le ha0
          have han : an < 4 := by omega
          have hend := (end_loop Hok.out Hseg.out).1
          obtain ⟨en, Hen⟩ : ∃ en, Hid (k + 1 + t1.len = en) := ⟨_, rfl⟩
          rw [Hen.out] at hend
          go_wp2_with fail
          refine (l4End_any _ o.cs k _ _ (by have := hcw4.out; rw [HVL.out] at this; exact this) (by omega) hk hend).mono ?_
          rintro e w5 ⟨rfl, hp5⟩
          clear hend p0
          have HP5 := Lib.hid hp5
          obtain ⟨y0, y1, y2, y3⟩ := HX4.out.pure hp5
          have hby := (HX4.out.pure hp5).lt
          have HR5 := Lib.hid (HT4.out.keep hp5)
          have H45 := Lib.hid (WStep.of_pure (o := o) (gq := gq) (gp := gp) (u := va') hp5)
          clear hp5
          simp only at y0 y1 y2 y3
          obtain ⟨y, Hy⟩ : ∃ y, Hid (onesTo s'.R mask an o.rm.n = y) := ⟨_, rfl⟩
          have hy : y < 2 ^ o.rm.n := by rw [← Hy.out]; exact onesTo_lt _ _ _ _
          have hy256 := Nat.lt_of_lt_of_le hy (pow8 hn8)
          have HYM := Lib.hid hy
          clear hy
          go_wp2_with fail
          refine (sones_any o _ _ _ _ s'.R s'.M mask an HR5.out.obj HR5.out.rm hm256 han).mono ?_
          rintro e w6 ⟨rfl, rfl⟩
          rw [Hy.out]
          have hen1 : en < o.cs.length := by rw [← Hen.out]; exact Hseg.out.loop.2.2.2.1
          have HL := Lib.hid (Tr.len_loop (an : Int) (bn : Int) t1 tk)
          have HTE := Lib.hid (turns_eq (run o.rm.n o.rm.m t1 (k + 1)) o.rm.n an bn mask (beat k mask s'))
          have hTE : turns (run o.rm.n o.rm.m t1 (k + 1)) o.rm.n an bn mask (beat k mask s') = turnsR (run o.rm.n o.rm.m t1 (k + 1)) o.rm.n an bn y (beat k mask s') := by rw [HTE.out]; show turnsR _ _ _ _ (onesTo s'.R mask an o.rm.n) _ = _; rw [Hy.out]
          have HTR := Lib.hid hTE
          clear hTE HTE
          go_wp2_with fail
          go_loopg [17, 16] bn (fun g2 i l wr => ∃ (j y2 : Nat) (s2 : LS) (vt2 : Value), g2 + j = bn ∧ i = .int .i64 j ∧ l = .int .i64 y2 ∧ y2 < 2 ^ o.rm.n ∧ WRun o gq gp wr vt2 s2 ∧ WStep o gq gp w4 va' wr vt2 ∧ msz s2 + g2 * (10 * t1.cost) + 10 * tk.cost ≤ 1099511626000 ∧ turnsR (run o.rm.n o.rm.m t1 (k + 1)) o.rm.n an bn y (beat k mask s') = turnsR (run o.rm.n o.rm.m t1 (k + 1)) o.rm.n an g2 y2 s2)
          case atStart => exact ⟨0, y, beat k mask s', va', rfl, rfl, rfl, HYM.out, HR5.out.beat k mask, H45.out, by have := Hco.out; simp only [Tr.cost, Int.toNat_natCast] at this; rw [beat_msz]; rw [Nat.mul_left_comm bn 10]; omega, rfl⟩
          case round =>
            obtain ⟨j, y2, s2, vt2, hg2, rfl, rfl, hy2, hr2, hs2, hc2, ht2⟩ := hrel
            have Hg2 := Lib.hid hg2
            have HY2 := Lib.hid hy2
            have HR2 := Lib.hid hr2
            have HS2 := Lib.hid hs2
            have HC2 := Lib.hid hc2
            have HTT := Lib.hid ht2
            have hjn : j ≤ bn := by omega
            have hy2256 := Nat.lt_of_lt_of_le hy2 (pow8 hn8)
            obtain ⟨y0, y1, y2', y3⟩ := HX4.out.wstep hs2 HNO.out
            have hby := (HX4.out.wstep hs2 HNO.out).lt
            clear hg2 hy2 hr2 hs2 hc2 ht2
            simp only at y0 y1 y2' y3
            by_cases hgo : j < bn ∧ y2 ≠ 0
            · obtain ⟨hjb, hy20⟩ := hgo
              have hyb : ((y2 : Int) != 0) = true := by rw [bne_iff_ne]; omega
              obtain ⟨g3, rfl⟩ : ∃ g3, gk = g3 + 1 := ⟨gk - 1, by have := Hg2.out; omega⟩
              clear hy20
              have HC9 : Hid (msz s2 + (g3 * (10 * t1.cost) + 10 * t1.cost) + 10 * tk.cost ≤ 1099511626000) := Lib.hid (by have h := HC2.out; rwa [Nat.succ_mul] at h)
              go_wp2_with fail
              refine (HIH.out t1 (k + 1) y2 s2 vt2 _ _ _ (by have := HL.out; have := HSZ.out; have := Htl.out; omega) Hok.out.2.2.1 Hseg.out.loop.2.1 (by have := Hen.out; omega) HY2.out (by have h := HC9.out; generalize g3 * (10 * t1.cost) = X at h; omega) HR2.out (by omega) (by have := Hen.out; omega)).mono ?_
              rintro e w7 ⟨rfl, vt7, hr7, hs7⟩
              have H7 := Lib.hid hr7
              have H7s := Lib.hid (HS2.out.trans hs7)
              obtain ⟨y0, y1, y2', y3⟩ := HX4.out.wstep (HS2.out.trans hs7) HNO.out
              have hby := (HX4.out.wstep (HS2.out.trans hs7) HNO.out).lt
              clear hr7 hs7
              simp only at y0 y1 y2' y3
              obtain ⟨y3n, Hy3⟩ : ∃ y3n, Hid (onesTo (run o.rm.n o.rm.m t1 (k + 1) y2 s2).R y2 an o.rm.n = y3n) := ⟨_, rfl⟩
              have HY3 : Hid (y3n < 2 ^ o.rm.n) := Lib.hid (by rw [← Hy3.out]; exact onesTo_lt _ _ _ _)
              go_wp2_with fail
              refine (sones_any o _ _ _ _ (run o.rm.n o.rm.m t1 (k + 1) y2 s2).R (run o.rm.n o.rm.m t1 (k + 1) y2 s2).M y2 an H7.out.obj H7.out.rm hy2256 han).mono ?_
              rintro e w8 ⟨rfl, rfl⟩
              rw [Hy3.out]
              go_wp2_with fail
              go_roundg g3
              case measure => omega
              case rel =>
                exact ⟨j + 1, y3n, _, vt7, by have := Hg2.out; omega, by go_num, rfl, HY3.out, H7.out, H7s.out, by have h := HC9.out; have h1 := run_msz o.rm.n o.rm.m hn8 t1 (k + 1) y2 s2; generalize g3 * (10 * t1.cost) = X at h ⊢; omega, by rw [HTT.out, turnsR_succ, Hy3.out]⟩
            · have hfin : turns (run o.rm.n o.rm.m t1 (k + 1)) o.rm.n an bn mask (beat k mask s') = s2 := by
                rw [HTR.out, HTT.out]
                by_cases hj : j < bn
                · have hz : y2 = 0 := by
                    by_cases h : y2 = 0
                    · exact h
                    · exact absurd ⟨hj, h⟩ hgo
                  rw [hz, turnsR_zero]
                · have hz : gk = 0 := by have := Hg2.out; omega
                  rw [hz]; rfl
              have Hfin := Lib.hid hfin
              have HC3 : Hid (msz s2 + 10 * tk.cost ≤ 1099511626000) := Lib.hid (by have h := HC2.out; generalize gk * (10 * t1.cost) = X at h; omega)
              clear hfin
              by_cases hj : j < bn
              · have hyb : ((y2 : Int) != 0) = false := by
                  rw [bne_eq_false_iff_eq]
                  by_cases h : y2 = 0
                  · omega
                  · exact absurd ⟨hj, h⟩ hgo
                clear hgo
                go_wp2_with fail
                go_roundg tk.len
                case measure => have := Hgk.out; have := HL.out; omega
                case rel =>
                  exact ⟨tk, en + 1, _, vt2, rfl, by have := Hto.out; have := HL.out; have := Hen.out; omega, by have := Htl.out; have := HL.out; omega, by go_num, Hok.out.2.2.2, by rw [← Hen.out]; exact Hseg.out.loop.2.2.2.2, HC3.out, HR2.out, HST.out.trans HS2.out, by rw [← Hrun.out, ← Hen.out]; show _ = (if mask = 0 then _ else _ : LS); rw [if_neg HM0.out, Int.toNat_natCast, Int.toNat_natCast, Hfin.out]⟩
              · clear hgo
                go_wp2_with fail
                go_roundg tk.len
                case measure => have := Hgk.out; have := HL.out; omega
                case rel =>
                  exact ⟨tk, en + 1, _, vt2, rfl, by have := Hto.out; have := HL.out; have := Hen.out; omega, by have := Htl.out; have := HL.out; omega, by go_num, Hok.out.2.2.2, by rw [← Hen.out]; exact Hseg.out.loop.2.2.2.2, HC3.out, HR2.out, HST.out.trans HS2.out, by rw [← Hrun.out, ← Hen.out]; show _ = (if mask = 0 then _ else _ : LS); rw [if_neg HM0.out, Int.toNat_natCast, Int.toNat_natCast, Hfin.out]⟩

end Go.Proofs.Ytonmndojlnohcaa
