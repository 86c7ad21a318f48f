/- Uniform registers, as the program finds them: the walk. The sets of uniform registers: the reference's and the program's. A region that draws its order, walked by what holds of the operations that are through: each operation once, whatever the order. A region that draws its order, whose operations each yield a known value in every world that meets S, and leave such a world: whatever the order, the same values lie there behind it. No condition. -/
import Derived.Test.YtokdfgodmhekmaaKac
import Derived.Test.YtokdfgodmhekmaaKad
import Derived.Test.YtokdfgodmhekmaaKah
import Derived.Test.YtokdfgodmhekmaaKai
import Derived.Test.YtokdfgodmhekmaaKaj
import Derived.Test.YtokdfgodmhekmaaKcb

namespace Go.Proofs.Ytokdfgodmhekmaa
open Go.RowKit

set_option maxHeartbeats 2000000 in
set_option maxRecDepth 100000 in
theorem irun_nil (w0 : World) (vl va vn vo : Value) (p : Nat) (cs : List Cd) (i u : Nat) (live : Nat → Nat) (w : World) (fr to : Int) (hrun : UI w0 vl va vn vo p cs w live) (hfr : fr = (i : Nat)) (hto : to = (i : Nat)) :
    Calls Try.prog 101 #[.pointer (some ⟨p, 0, none⟩), .int .i64 fr, .int .i64 to, .int .i64 (u : Nat)] w
      fun e w' => e = .returned (.int .i64 ((uni .nil u).1 : Nat)) ∧ UI w0 vl va vn vo p cs w' (lay cs live i (uni .nil u).2) ∧ Chg (fun k => vo.ownBlock = some k) w w' := by
  have HR := Lib.hid hrun
  subst hfr hto
  clear hrun
  go_enter Try.func101, Try.ntmps101
  go_wp2_with fail
  go_loopg [9, 3] 0 (fun gk i' u' wr => i' = .int .i64 i ∧ u' = .int .i64 u ∧ wr = w)
  case atStart => exact ⟨rfl, rfl, rfl⟩
  case round =>
    obtain ⟨rfl, rfl, rfl⟩ := hrel
    go_wp2_with fail
    go_ret
    exact ⟨rfl, by rw [uni_nil, lay_nil]; exact HR.out, Chg.refl _ _⟩

set_option maxHeartbeats 8000000 in
set_option maxRecDepth 100000 in
theorem irun_any (w0 : World) (vl va vn vo : Value) (p : Nat) (cs : List Cd) (hv : PValid cs) : ∀ sz, RunU w0 vl va vn vo p cs sz := by
  intro sz
  induction sz with
  | zero =>
    intro t i u live w fr to hsz hok hseg hic hu hrun hfr hto
    obtain rfl := Tr.len_zero' (show t.len = 0 by omega)
    exact irun_nil w0 vl va vn vo p cs i u live w fr to hrun hfr hto
  | succ sz ih =>
    intro t i u live w fr to hsz hok hseg hic hu hrun hfr hto
    by_cases htz : t.len = 0
    · obtain rfl := Tr.len_zero' htz
      exact irun_nil w0 vl va vn vo p cs i u live w fr to hrun hfr hto
    subst hfr
    obtain ⟨g, off, cg, rfl, hg1, hg2, hg3, hg4⟩ := hrun.ur.own.formSome (by omega)
    obtain ⟨A, cA, rfl, hnc, hcm⟩ := hrun.ur.codes.form
    have HIH := Lib.hid ih
    have HV := Lib.hid hv
    have HTO := Lib.hid hto
    have HR := Lib.hid hrun
    have HSEG := Lib.hid hseg
    have HOK := Lib.hid hok
    have HSZ := Lib.hid hsz
    have HUL := Lib.hid hu
    have hsmall := hv.2.1
    have htoc : to ≤ (cs.length : Int) := by rw [hto]; exact_mod_cast hic
    have hpg : g ≠ p := fun e => hrun.ne (by rw [e]; rfl)
    clear ih hv hto hrun hseg hok hsz hic hu htz hg4
    go_enter Try.func101, Try.ntmps101
    go_wp2_with fail
    go_loopg [9, 3] t.len (fun gk kk uu wr => ∃ (t' : Tr) (k u' : Nat) (live' : Nat → Nat), gk = t'.len ∧ ((k + t'.len : Nat) : Int) = to ∧ t'.len ≤ t.len ∧ kk = .int .i64 k ∧ uu = .int .i64 u' ∧ u' < 16 ∧ t'.Ok ∧ Seg cs k t' ∧ UI w0 (.slice A cs.length cA) va vn (.slice (some ⟨g, off, none⟩) cs.length cg) p cs wr live' ∧ Chg (fun k => (Value.slice (some ⟨g, off, none⟩) cs.length cg).ownBlock = some k) w wr ∧ (uni t' u').1 = (uni t u).1 ∧ lay cs live' k (uni t' u').2 = lay cs live i (uni t u).2)
    case atStart => exact ⟨t, i, u, live, rfl, HTO.out.symm, Nat.le_refl _, rfl, rfl, HUL.out, HOK.out, HSEG.out, HR.out, Chg.refl _ _, rfl, rfl⟩
    case round =>
      clear HR HSEG HOK HTO HUL
      obtain ⟨t', k, u', live', hgk, hto, htl, rfl, rfl, hu', hok, hseg, hr, hst, hn1, hn2⟩ := hrel
      have Hgk := Lib.hid hgk
      have Hto := Lib.hid hto
      have Htl := Lib.hid htl
      have Hok := Lib.hid hok
      have Hseg := Lib.hid hseg
      have Hr := Lib.hid hr
      have Hst := Lib.hid hst
      have HN1 := Lib.hid hn1
      have HN2 := Lib.hid hn2
      clear hgk hto htl hok hseg hst hn1 hn2
      by_cases hlt : (k : Int) < to
      case neg =>
        have hz : t' = .nil := Tr.len_zero' (by have := Hto.out; omega)
        subst hz
        have Hfin : Hid ((uni t u).1 = u') := Lib.hid (by rw [← HN1.out]; rfl)
        have Hfin2 : Hid (lay cs live i (uni t u).2 = live') := Lib.hid (by rw [← HN2.out, uni_nil, lay_nil])
        clear hr
        go_wp2_with fail
        go_ret
        exact ⟨by rw [Hfin.out]; rfl, by rw [Hfin2.out]; exact Hr.out, Hst.out⟩
      case pos =>
        have hk : k < cs.length := by omega
        obtain ⟨b, ob, rfl, hb, hc0⟩ := hr.ur.codes.at_ hk
        have hc := hc0.keep hr.ur.pure hb
        obtain ⟨cd, Hcd⟩ : ∃ cd, Hid (cs.getD k default = cd) := ⟨_, rfl⟩
        rw [Hcd.out] at hc
        obtain ⟨c0, c1, c2, c3⟩ := hc
        have hcok : CdOk cd := by rw [← Hcd.out]; exact HV.out.1 _ (cdOk_mem hk)
        have HCOK := Lib.hid hcok
        obtain ⟨op, ca, cb, cc⟩ := cd
        simp only at c0 c1 c2 c3
        have q0 := hr.o0
        have hplt := hr.lt
        have hbx := UBox.new wr ⟨op, ca, cb, cc⟩ (Pure.refl _)
        have HBP := Lib.hid hbx.2
        have hra := hr.keep hbx.2
        have q0a := hra.o0
        have q2a := hra.o2
        obtain ⟨f0, f1, f2, f3⟩ := hra.ur.facts hk
        have hgl : g < wr.heap.size := (hr.ur.own.lt g rfl).2
        have hxb := UBox.new (wr.setCell ⟨g, off + k, none⟩ (.int .i64 (u' : Nat))) ⟨op, ca, cb, cc⟩ (Pure.refl _)
        have hsc : (wr.setCell ⟨g, off + k, none⟩ (.int .i64 (u' : Nat))).heap.size = wr.heap.size := by simp
        rw [hsc] at hxb
        have hput := (hr.put (k := k) (v := u') hk).keep hxb.2
        have HS2 := Lib.hid ((Chg.of_set (S := fun k => (Value.slice (some ⟨g, off, none⟩) cs.length cg).ownBlock = some k) wr g (off + k) (.int .i64 (u' : Nat)) (by rfl)).trans (Chg.of_pure hxb.2))
        have HNB : Hid (¬ (Value.slice (some ⟨g, off, none⟩) cs.length cg).ownBlock = some wr.heap.size) := Lib.hid (fun e => by have e2 : g = wr.heap.size := Option.some.inj e; omega)
        have hx2 := hxb.1
        have HX2 := Lib.hid hx2
        have yb := hbx.1.chg (w' := (wr.alloc (.cells #[.int .i64 op, .int .i64 ca, .int .i64 cb, .int .i64 cc] 61)).setCell ⟨g, off + k, none⟩ (.int .i64 (u' : Nat))) (Chg.of_set (S := fun k => (Value.slice (some ⟨g, off, none⟩) cs.length cg).ownBlock = some k) _ g _ _ (by rfl)) HNB.out
        obtain ⟨v0, v1, v2, v3⟩ := yb
        obtain ⟨y0, y1, y2, y3⟩ := hx2
        have HP2 := Lib.hid hput
        have HST := Lib.hid (Hst.out.trans HS2.out)
        have hgn : g ≠ wr.heap.size := by omega
        clear hr hc0 hcok hbx hra hput hxb hsc
        simp only at y0 y1 y2 y3 v0 v1 v2 v3 f0 f1 q0a q2a
        have hblk : ∀ a t1, t' = t1 → Opens a → cs.getD k default = a → Opens (cs.getD k default) := fun a _ _ h e => by rw [e]; exact h
        cases t' with
        | nil => exact absurd Hto.out (by have : Tr.nil.len = 0 := rfl; omega)
        | op cd0 tk =>
          have hce : cd0 = ⟨op, ca, cb, cc⟩ := Hseg.out.op.1.symm.trans Hcd.out
          subst hce
          have HPL := Lib.hid Hok.out.1
          have d11 : (op == 11) = false := by rw [beq_eq_false_iff_ne]; exact HPL.out.2.1
          have d13 : (op == 13) = false := by rw [beq_eq_false_iff_ne]; exact HPL.out.2.2.2.1
          have HL := Lib.hid (Tr.len_op ⟨op, ca, cb, cc⟩ tk)
          clear hblk
          go_wp2_with fail
          refine (icreads_any ⟨op, ca, cb, cc⟩ _ HCOK.out).mono ?_
          rintro e w5 ⟨rfl, hp5⟩
          have HP5 := Lib.hid hp5
          clear y0 y1 y2 y3 v0 v1 v2 v3
          obtain ⟨y0, y1, y2, y3⟩ := HX2.out.pure hp5
          simp only at y0 y1 y2 y3
          obtain ⟨q, Hq⟩ : ∃ q, Hid (wst ⟨op, ca, cb, cc⟩ = q) := ⟨_, rfl⟩
          obtain ⟨r, Hrd⟩ : ∃ r, Hid (rd ⟨op, ca, cb, cc⟩ = r) := ⟨_, rfl⟩
          have hq16 : q < 16 := by rw [← Hq.out]; exact wr_lt HCOK.out
          have hr16 : r < 16 := by rw [← Hrd.out]; exact rd_lt HCOK.out
          rw [Hrd.out]
          obtain ⟨m, Hm⟩ : ∃ m, Hid (r &&& u' = m) := ⟨_, rfl⟩
          have hand : bits .and .i64 (r : Int) (u' : Int) = (m : Int) := by rw [and16 hr16 hu', Hm.out]
          have hor : bits .or .i64 (u' : Int) (q : Int) = ((u' ||| q : Nat) : Int) := or16 hu' hq16
          have hdel : bits .andNot .i64 (u' : Int) (q : Int) = ((del u' q : Nat) : Int) := not16 hu' hq16
          obtain ⟨x1, Hx1⟩ : ∃ x, Hid (u' ||| q = x) := ⟨_, rfl⟩
          obtain ⟨x2, Hx2⟩ : ∃ x, Hid (del u' q = x) := ⟨_, rfl⟩
          rw [Hx1.out] at hor
          rw [Hx2.out] at hdel
          have HU : Hid (uCode ⟨op, ca, cb, cc⟩ u' = if op = 2 ∨ m ≠ r then x2 else x1) := Lib.hid (by unfold uCode; rw [Hq.out, Hrd.out, Hm.out, Hx1.out, Hx2.out])
          have HV16 : Hid (uCode ⟨op, ca, cb, cc⟩ u' < 16) := Lib.hid (uCode_lt HCOK.out hu')
          have HFIN : ∀ w6 (v : Nat), Pure w5 w6 → uCode ⟨op, ca, cb, cc⟩ u' = v → Hid (∃ (t' : Tr) (k2 u'2 : Nat) (live' : Nat → Nat), tk.len = t'.len ∧ ((k2 + t'.len : Nat) : Int) = to ∧ t'.len ≤ t.len ∧ k2 = k + 1 ∧ u'2 = v ∧ u'2 < 16 ∧ t'.Ok ∧ Seg cs k2 t' ∧ UI w0 (.slice (some ⟨b, ob, none⟩) cs.length cA) va vn (.slice (some ⟨g, off, none⟩) cs.length cg) p cs w6 live' ∧ Chg (fun k => (Value.slice (some ⟨g, off, none⟩) cs.length cg).ownBlock = some k) w w6 ∧ (uni t' u'2).1 = (uni t u).1 ∧ lay cs live' k2 (uni t' u'2).2 = lay cs live i (uni t u).2) := fun w6 v h6 hv6 => Lib.hid ⟨tk, k + 1, v, updL live' k u', rfl, by have := Hto.out; have := HL.out; omega, by have := Htl.out; have := HL.out; omega, rfl, rfl, by rw [← hv6]; exact HV16.out, Hok.out.2, Hseg.out.op.2.2, HP2.out.keep (HP5.out.trans h6), HST.out.trans (Chg.of_pure (HP5.out.trans h6)), by rw [← HN1.out, uni_op, hv6], by rw [← HN2.out, uni_op, hv6, lay_cons (by rw [Hcd.out]; exact HPL.out.2.2.1) (by rw [Hcd.out]; exact HPL.out.2.2.2.2)]⟩
          have HF := Lib.hid HFIN
          clear hp5 HFIN q0 q0a q2a f0 f1 c0 c1 c2 c3
          by_cases hbad : op = 2 ∨ m ≠ r
          · have HUV : Hid (uCode ⟨op, ca, cb, cc⟩ u' = x2) := Lib.hid (by rw [HU.out, if_pos hbad])
            by_cases h2 : op = 2
            · have d2 : (op == 2) = true := by rw [beq_iff_eq]; exact h2
              clear hbad h2
              go_wp2_with fail
              refine (iwritten_any ⟨op, ca, cb, cc⟩ _ HCOK.out).mono ?_
              rintro e w6 ⟨rfl, hp6⟩
              rw [Hq.out]
              have HZ := HF.out w6 x2 hp6 HUV.out
              clear hp6
              go_wp2_with fail
              go_roundg tk.len
              case measure => have := Hgk.out; have := HL.out; omega
              case rel =>
                obtain ⟨a1, a2, a3, a4, b1, b2, b3, b4, b5, b6⟩ := HZ.out
                exact ⟨a1, a2, a3, a4, b1, b2, b3, by rw [b4]; go_num, by rw [b5], b6⟩
            · have d2 : (op == 2) = false := by rw [beq_eq_false_iff_ne]; exact h2
              have d3 : ((m : Int) != (r : Int)) = true := by rw [bne_iff_ne]; rcases hbad with h | h; exact absurd h h2; omega
              clear hbad h2
              go_wp2_with fail
              refine (iwritten_any ⟨op, ca, cb, cc⟩ _ HCOK.out).mono ?_
              rintro e w6 ⟨rfl, hp6⟩
              rw [Hq.out]
              have HZ := HF.out w6 x2 hp6 HUV.out
              clear hp6
              go_wp2_with fail
              go_roundg tk.len
              case measure => have := Hgk.out; have := HL.out; omega
              case rel =>
                obtain ⟨a1, a2, a3, a4, b1, b2, b3, b4, b5, b6⟩ := HZ.out
                exact ⟨a1, a2, a3, a4, b1, b2, b3, by rw [b4]; go_num, by rw [b5], b6⟩
          · have HUV : Hid (uCode ⟨op, ca, cb, cc⟩ u' = x1) := Lib.hid (by rw [HU.out, if_neg hbad])
            rw [not_or] at hbad
            have d2 : (op == 2) = false := by rw [beq_eq_false_iff_ne]; exact hbad.1
            have d3 : ((m : Int) != (r : Int)) = false := by have := hbad.2; simp only [ne_eq, Decidable.not_not] at this; simp [this]
            clear hbad
            go_wp2_with fail
            refine (iwritten_any ⟨op, ca, cb, cc⟩ _ HCOK.out).mono ?_
            rintro e w6 ⟨rfl, hp6⟩
            rw [Hq.out]
            have HZ := HF.out w6 x1 hp6 HUV.out
            clear hp6
            go_wp2_with fail
            go_roundg tk.len
            case measure => have := Hgk.out; have := HL.out; omega
            case rel =>
              obtain ⟨a1, a2, a3, a4, b1, b2, b3, b4, b5, b6⟩ := HZ.out
              exact ⟨a1, a2, a3, a4, b1, b2, b3, by rw [b4]; go_num, by rw [b5], b6⟩
        | ite a t1 tk =>
          have hce : (⟨op, ca, cb, cc⟩ : Cd) = cIf a := Hcd.out.symm.trans Hseg.out.ite.1
          have HCE := Lib.hid hce
          have hop : op = 11 := by have := congrArg Cd.op hce; exact this
          subst hop
          have HL := Lib.hid (Tr.len_ite a t1 tk)
          have hend := (end_ite Hok.out Hseg.out).1
          obtain ⟨en, Hen⟩ : ∃ en, Hid (k + 1 + t1.len = en) := ⟨_, rfl⟩
          have hen1 := Hseg.out.ite.2.2.2.1
          rw [Hen.out] at hend hen1
          have hopn : Opens (cs.getD k default) := by rw [Hseg.out.ite.1]; exact opens_if _
          obtain ⟨cn, bo, oo, gb, rfl, hn1, hn2, hbo, hgb, x0, x1, x2⟩ := Hr.out.own hk hopn
          rw [hend] at x2
          simp only at x2
          have X := Lib.hid (And.intro x0 x2)
          have HV16 : Hid (uIf a t1 u' < 16) := Lib.hid (by unfold uIf; split; exact and_lt16 hu'; exact del_lt' hu')
          have hkl : (k : Int) < (cs.length : Int) := by omega
          clear hblk hend x0 x1 x2 hce hopn
          go_wp2_with fail
          refine (ibr_if w0 _ va _ _ p cs HV.out sz HIH.out a t1 tk k u' _ _ (by have := HL.out; have := HSZ.out; have := Htl.out; omega) Hok.out Hseg.out hu' HP2.out).mono ?_
          rintro e w5 ⟨rfl, hu5, hc5⟩
          have H5 := Lib.hid hu5
          have HC5 := Lib.hid (HST.out.trans hc5)
          clear q0 q0a q2a f0 f1 c0 c1 c2 c3 y0 y1 y2 y3 v0 v1 v2 v3
          have q1 := hu5.o1
          have z0 := (hu5.ur.pure.cell _ _ hbo).trans X.out.1
          have z2 := (hu5.ur.pure.cell _ _ hgb).trans X.out.2
          obtain ⟨v, Hv⟩ : ∃ v, Hid (uIf a t1 u' = v) := ⟨_, rfl⟩
          rw [Hv.out]
          clear hu5 hc5
          go_wp2_with fail
          go_roundg tk.len
          case measure => have := Hgk.out; have := HL.out; omega
          case rel =>
            exact ⟨tk, en + 1, v, _, rfl, by have := Hto.out; have := HL.out; have := Hen.out; omega, by have := Htl.out; have := HL.out; omega, by go_num, rfl, by rw [← Hv.out]; exact HV16.out, Hok.out.2.2, by rw [← Hen.out]; exact Hseg.out.ite.2.2.2.2, H5.out, HC5.out, by rw [← HN1.out, uni_ite, Hv.out], by rw [← HN2.out, uni_ite, Hv.out, lay_if Hseg.out (uni_len t1 u'), Hen.out]⟩
        | itee a t1 t2 tk =>
          have hce : (⟨op, ca, cb, cc⟩ : Cd) = cIf a := Hcd.out.symm.trans Hseg.out.itee.1
          have HCE := Lib.hid hce
          have hop : op = 11 := by have := congrArg Cd.op hce; exact this
          subst hop
          have HL := Lib.hid (Tr.len_itee a t1 t2 tk)
          have hend := (end_itee Hok.out Hseg.out).1
          obtain ⟨en, Hen⟩ : ∃ en, Hid (k + 1 + t1.len + 1 + t2.len = en) := ⟨_, rfl⟩
          have hen1 := Hseg.out.itee.2.2.2.2.2.1
          rw [Hen.out] at hend hen1
          have hopn : Opens (cs.getD k default) := by rw [Hseg.out.itee.1]; exact opens_if _
          obtain ⟨cn, bo, oo, gb, rfl, hn1, hn2, hbo, hgb, x0, x1, x2⟩ := Hr.out.own hk hopn
          rw [hend] at x2
          simp only at x2
          have X := Lib.hid (And.intro x0 x2)
          have HV16 : Hid (uIfe a t1 t2 u' < 16) := Lib.hid (by unfold uIfe; split; exact and_lt16 (uni_lt t1 u' Hok.out.2.1 hu'); exact del_lt' hu')
          have hkl : (k : Int) < (cs.length : Int) := by omega
          clear hblk hend x0 x1 x2 hce hopn
          go_wp2_with fail
          refine (ibr_ife w0 _ va _ _ p cs HV.out sz HIH.out a t1 t2 tk k u' _ _ (by have := HL.out; have := HSZ.out; have := Htl.out; omega) (by have := HL.out; have := HSZ.out; have := Htl.out; omega) Hok.out Hseg.out hu' HP2.out).mono ?_
          rintro e w5 ⟨rfl, hu5, hc5⟩
          have H5 := Lib.hid hu5
          have HC5 := Lib.hid (HST.out.trans hc5)
          clear q0 q0a q2a f0 f1 c0 c1 c2 c3 y0 y1 y2 y3 v0 v1 v2 v3
          have q1 := hu5.o1
          have z0 := (hu5.ur.pure.cell _ _ hbo).trans X.out.1
          have z2 := (hu5.ur.pure.cell _ _ hgb).trans X.out.2
          obtain ⟨v, Hv⟩ : ∃ v, Hid (uIfe a t1 t2 u' = v) := ⟨_, rfl⟩
          rw [Hv.out]
          clear hu5 hc5
          go_wp2_with fail
          go_roundg tk.len
          case measure => have := Hgk.out; have := HL.out; omega
          case rel =>
            exact ⟨tk, en + 1, v, _, rfl, by have := Hto.out; have := HL.out; have := Hen.out; omega, by have := Htl.out; have := HL.out; omega, by go_num, rfl, by rw [← Hv.out]; exact HV16.out, Hok.out.2.2.2, by rw [← Hen.out]; exact Hseg.out.itee.2.2.2.2.2.2, H5.out, HC5.out, by rw [← HN1.out, uni_itee, Hv.out], by rw [← HN2.out, uni_itee, Hv.out, lay_ife Hseg.out (uni_len t1 u') (uni_len t2 u'), Hen.out]⟩
        | loop a lb t1 tk =>
          have hce : (⟨op, ca, cb, cc⟩ : Cd) = cLoop a lb := Hcd.out.symm.trans Hseg.out.loop.1
          have HCE := Lib.hid hce
          have hop : op = 13 := by have := congrArg Cd.op hce; exact this
          subst hop
          have HL := Lib.hid (Tr.len_loop a lb t1 tk)
          have hend := (end_loop Hok.out Hseg.out).1
          obtain ⟨en, Hen⟩ : ∃ en, Hid (k + 1 + t1.len = en) := ⟨_, rfl⟩
          have hen1 := Hseg.out.loop.2.2.2.1
          rw [Hen.out] at hend hen1
          have hopn : Opens (cs.getD k default) := by rw [Hseg.out.loop.1]; exact opens_loop _ _
          obtain ⟨cn, bo, oo, gb, rfl, hn1, hn2, hbo, hgb, x0, x1, x2⟩ := Hr.out.own hk hopn
          rw [hend] at x2
          simp only at x2
          have X := Lib.hid (And.intro x0 x2)
          have HV16 : Hid (uLoop a t1 u' < 16) := Lib.hid (by unfold uLoop; split; exact Nat.lt_of_le_of_lt (uHead_le t1 u') hu'; exact del_lt' hu')
          have hkl : (k : Int) < (cs.length : Int) := by omega
          clear hblk hend x0 x1 x2 hce hopn
          go_wp2_with fail
          refine (ilp_any w0 _ va _ _ p cs HV.out sz HIH.out a lb t1 tk k u' _ _ (by have := HL.out; have := HSZ.out; have := Htl.out; omega) Hok.out Hseg.out hu' HP2.out).mono ?_
          rintro e w5 ⟨rfl, hu5, hc5⟩
          have H5 := Lib.hid hu5
          have HC5 := Lib.hid (HST.out.trans hc5)
          clear q0 q0a q2a f0 f1 c0 c1 c2 c3 y0 y1 y2 y3 v0 v1 v2 v3
          have q1 := hu5.o1
          have z0 := (hu5.ur.pure.cell _ _ hbo).trans X.out.1
          have z2 := (hu5.ur.pure.cell _ _ hgb).trans X.out.2
          obtain ⟨v, Hv⟩ : ∃ v, Hid (uLoop a t1 u' = v) := ⟨_, rfl⟩
          rw [Hv.out]
          clear hu5 hc5
          go_wp2_with fail
          go_roundg tk.len
          case measure => have := Hgk.out; have := HL.out; omega
          case rel =>
            exact ⟨tk, en + 1, v, _, rfl, by have := Hto.out; have := HL.out; have := Hen.out; omega, by have := Htl.out; have := HL.out; omega, by go_num, rfl, by rw [← Hv.out]; exact HV16.out, Hok.out.2.2.2, by rw [← Hen.out]; exact Hseg.out.loop.2.2.2.2, H5.out, HC5.out, by rw [← HN1.out, uni_loop, Hv.out], by rw [← HN2.out, uni_loop, Hv.out, lay_loop Hseg.out (uni_len t1 _), Hen.out]⟩

end Go.Proofs.Ytokdfgodmhekmaa

namespace Go.Proofs.Ytokdfgodmhekmaa
open Go.RowKit

/-- The sets of a valid program. -/
def usOf (cs : List Cd) (t : Tr) : List Int := (List.range cs.length).map fun j => ((lay cs (fun _ => 0) 0 (uni t 15).2 j : Nat) : Int)
def UsP (cs : List Cd) (xs : List Int) : Prop := (∀ hv : PValid cs, xs = usOf cs hv.tree.choose) ∧ (¬ PValid cs → xs = [])
theorem UsP.unique {cs : List Cd} {xs ys : List Int} (h : UsP cs xs) (k : UsP cs ys) : xs = ys := by
  by_cases hv : PValid cs
  · rw [h.1 hv, k.1 hv]
  · rw [h.2 hv, k.2 hv]
theorem us_val (cs : List Cd) (t : Tr) : (usOf cs t).map (Value.int .i64) = (List.range cs.length).map fun j => .int .i64 (lay cs (fun _ => 0) 0 (uni t 15).2 j : Nat) := by
  unfold usOf
  simp [List.map_map, Function.comp_def]
theorem us_zeros (n : Nat) : zeros [.int .i64 0] n = (List.range n).map fun j => Value.int .i64 (((fun _ => 0 : Nat → Nat) j : Nat) : Int) := by
  apply List.ext_getElem?
  intro j
  by_cases hj : j < n
  · rw [zeros_get _ _ _ (by simpa using hj)]; simp [hj, Nat.mod_one]
  · rw [List.getElem?_eq_none (by simp [zeros, madeCells]; omega), List.getElem?_eq_none (by simp; omega)]

set_option maxHeartbeats 2000000 in
theorem sus_any (v : Value) (cs : List Cd) (w : World) (h : Codes w v cs) (hlen : cs.length ≤ 1048576) :
    Calls Try.prog 73 #[v] w (ResInts (UsP cs) w) := by
  have H := Lib.hid h
  obtain ⟨A, c, rfl, hnc, hcm⟩ := h.form
  clear h
  by_cases hv : PValid cs
  · have HV := Lib.hid hv
    have hsmall := hv.2.1
    have HO0 : Hid (OwnO (w.alloc (.cells #[] 3)) w.heap.size 3 1 (.slice (some ⟨w.heap.size, 0, none⟩) 0 0) 0 []) := Lib.hid (OwnO.empty_lit (Nat.le_refl _))
    clear hv
    go_enter Try.func73, Try.ntmps73
    go_wp2_with fail
    refine (spv_any _ cs _ (H.out.keep (Pure.alloc (Pure.refl _) _)) hlen true (by simp [HV.out])).mono ?_
    rintro e w1 ⟨rfl, hp1⟩
    have hpw1 : Pure w w1 := (Pure.alloc (Pure.refl _) _).trans hp1
    have HOE := Lib.hid (HO0.out.pure hp1)
    have HPW1 := Lib.hid hpw1
    clear hp1
    go_wp2
    go_loopg [4, 3] cs.length (fun gk i q wr => ∃ k : Nat, gk + k = cs.length ∧ i = .int .i64 k ∧ OwnE (.slice (some ⟨w.heap.size, 0, none⟩) 0 0) wr w1.heap.size 3 1 q k ((List.range k).map fun j => Value.int .i64 (((fun _ => 0 : Nat → Nat) j : Nat) : Int)) ∧ Pure w1 wr)
    case atStart => exact ⟨0, rfl, rfl, OwnE.start _ _ _ _ _, Pure.refl _⟩
    case round =>
      obtain ⟨k, hgk, rfl, hq, hp⟩ := hrel
      have Hgk := Lib.hid hgk
      have HQ := Lib.hid hq
      have hkn : k ≤ cs.length := by omega
      have hpw := hpw1.trans hp
      clear hgk hq
      obtain ⟨Aq, cq, rfl⟩ := HQ.out.form
      by_cases hlt : k < cs.length
      · go_wp2_with (at_builtin; go_must (refine wl_append1E elInt rfl _ _ rfl w.heap.size w1.heap.size (.slice Aq k cq) k _ rfl HQ.out wr.heap.size 1 [.int .i64 0] rfl rfl rfl rfl (by decide) (by omega) hp.size ?_); intro q' wq hq' hpq; have HQ' := Lib.hid hq'; have HPQ := Lib.hid (hpq w1 (Nat.le_refl _) hp); clear hq' hpq)
        go_roundg (cs.length - (k + 1))
        case measure => have := Hgk.out; omega
        case rel =>
          refine ⟨k + 1, by have := Hgk.out; omega, by go_num, .inl ?_, HPQ.out⟩
          have := HQ'.out
          rw [List.range_succ, List.map_append]
          exact this
      · have hkl : k = cs.length := by omega
        subst hkl
        have hq := HQ.out.own (HOE.out.pure hp) hpw1.size
        have HUR : Hid (UR w (.slice A cs.length c) (.slice Aq cs.length cq) cs wr (fun _ => 0)) := Lib.hid ⟨hpw, H.out, hq⟩
        have hf := HV.out.tree.choose_spec
        have HF := Lib.hid hf
        obtain ⟨t, Ht⟩ : ∃ t, Hid (HV.out.tree.choose = t) := ⟨_, rfl⟩
        rw [Ht.out] at hf
        have HFT := Lib.hid hf
        have htl : t.len = cs.length := by rw [HFT.out.1]; rfl
        have HTL := Lib.hid htl
        clear hf hq htl
        go_wp2_with fail
        refine (swalk_any w _ _ cs HV.out t.len t 0 15 (fun _ => 0) _ _ _ (Nat.le_refl _) HFT.out.2.1 (Seg.whole HFT.out.1) (by have := HTL.out; omega) (by omega) HUR.out rfl (by have := HTL.out; omega)).mono ?_
        rintro e w3 ⟨rfl, hr3, _⟩
        have HR3 := Lib.hid hr3
        clear hr3
        go_wp2
        go_ret
        exact ⟨_, usOf cs t, rfl, ⟨fun _ => by rw [Ht.out], fun hn => absurd HV.out hn⟩, by simp [usOf]; omega, by rw [us_val]; simp only [usOf, List.length_map, List.length_range]; exact HR3.out.own, HR3.out.pure⟩
  · have HV := Lib.hid hv
    clear hv
    go_enter Try.func73, Try.ntmps73
    go_wp2_with fail
    refine (spv_any _ cs _ (H.out.keep (Pure.alloc (Pure.refl _) _)) hlen false (by simp [HV.out])).mono ?_
    rintro e w1 ⟨rfl, hp1⟩
    have hpw1 : Pure w w1 := (Pure.alloc (Pure.refl _) _).trans hp1
    have HOE : Hid (OwnO w1 w.heap.size 3 1 (.slice (some ⟨w.heap.size, 0, none⟩) 0 0) 0 []) := Lib.hid ((OwnO.empty_lit (Nat.le_refl _)).pure hp1)
    go_wp2
    go_ret
    exact ⟨_, [], rfl, ⟨fun h => absurd h HV.out, fun _ => rfl⟩, by simp, HOE.out, hpw1⟩

set_option maxHeartbeats 2000000 in
theorem ius_ok (v : Value) (cs : List Cd) (w : World) (h : Codes w v cs) (hv : PValid cs) :
    Calls Try.prog 76 #[v] w (ResInts (UsP cs) w) := by
  have H := Lib.hid h
  have HV := Lib.hid hv
  have hsmall := hv.2.1
  obtain ⟨A, c, rfl, hnc, hcm⟩ := h.form
  clear h hv
  go_enter Try.func76, Try.ntmps76
  go_wp2_with fail
  refine (blocks_any _ cs _ H.out hsmall).mono ?_
  rintro e w2 ⟨hp2, hm⟩
  rw [HV.out.2.2] at hm
  obtain ⟨va, vn, rfl, ht⟩ := hm
  have HT := Lib.hid (ht rfl)
  have HP2 := Lib.hid hp2
  obtain ⟨pb, hcn, _, R, hca, _⟩ := ht rfl
  obtain ⟨An, cn, rfl, _, _, _⟩ := hcn
  obtain ⟨Aa, ca, rfl, _, _, _⟩ := hca
  clear ht
  go_wp2_with (at_make; go_must (refine wl_make elInt rfl _ _ rfl w2.heap.size _ _ _ _ cs.length rfl rfl (by omega) (by omega) (by omega) (by omega) (Nat.le_refl _) ?_); intro w3 hown hp3 hsz; have hO := Lib.hid (OwnO.of_own hown); have HP3 := Lib.hid hp3; clear hown)
  have HUI : Hid (UI w2 (.slice A cs.length c) (.slice Aa cs.length ca) (.slice An cs.length cn) (.slice (some ⟨w2.heap.size, 0, none⟩) cs.length cs.length) w3.heap.size cs (w3.alloc (.cells #[.slice A cs.length c, .slice An cs.length cn, .slice (some ⟨w2.heap.size, 0, none⟩) cs.length cs.length] 108)) (fun _ => 0)) := by
    have hlt : w2.heap.size < w3.heap.size := (hO.out.lt _ rfl).2
    refine Lib.hid ⟨⟨HP3.out.alloc _, H.out.keep HP2.out, ?_⟩, HT.out, Nat.le_of_lt hlt, ?_, ?_, ?_, fun e => ?_⟩
    · rw [← us_zeros]; exact hO.out.alloc _
    · simp
    · simp
    · simp
    · have e2 : w2.heap.size = w3.heap.size := Option.some.inj e
      omega
  have hf := HV.out.tree.choose_spec
  obtain ⟨t, Ht⟩ : ∃ t, Hid (HV.out.tree.choose = t) := ⟨_, rfl⟩
  rw [Ht.out] at hf
  have HFT := Lib.hid hf
  have htl : t.len = cs.length := by rw [HFT.out.1]; rfl
  have HTL := Lib.hid htl
  clear hf htl
  refine (irun_any w2 _ (.slice Aa cs.length ca) _ _ _ cs HV.out t.len t 0 15 (fun _ => 0) _ _ _ (Nat.le_refl _) HFT.out.2.1 (Seg.whole HFT.out.1) (by have := HTL.out; omega) (by omega) HUI.out rfl (by have := HTL.out; omega)).mono ?_
  rintro e w4 ⟨rfl, hr4, _⟩
  have HR4 := Lib.hid hr4
  have o2 := hr4.o2
  clear hr4
  go_wp2
  go_ret
  exact ⟨_, usOf cs t, rfl, ⟨fun _ => by rw [Ht.out], fun hn => absurd HV.out hn⟩, by simp [usOf]; omega, by rw [us_val]; simp only [usOf, List.length_map, List.length_range]; exact OwnO.base HR4.out.ur.own HP2.out.size, HP2.out.trans HR4.out.ur.pure⟩

end Go.Proofs.Ytokdfgodmhekmaa

namespace Go.Proofs.Ytokdfgodmhekmaa
open Go.RowKit

section
variable {P : Program} {ops : Array Oper} {Q : Exit → Act → World → Prop} {md : Region.Mode}
def unl (l : Array Bool) : Nat := l.toList.countP (fun b => !b)
theorem countP_set_lt : ∀ (l : List Bool) (i : Nat), l[i]? = some false → (l.set i true).countP (fun b => !b) + 1 = l.countP (fun b => !b)
  | [], _, h => by simp at h
  | b :: r, 0, h => by simp at h; subst h; simp
  | b :: r, i + 1, h => by
    have := countP_set_lt r i (by simpa using h)
    simp only [List.set_cons_succ, List.countP_cons]
    omega
theorem unl_set {l : Array Bool} {i : Nat} (h : l.getD i true = false) : unl (l.setIfInBounds i true) + 1 = unl l := by
  have hs : l.toList[i]? = some false := by
    rw [Array.getD_eq_getD_getElem?] at h
    cases he : l[i]? with
    | none => rw [he] at h; simp at h
    | some b => rw [he] at h; simp at h; subst h; simpa using he
  unfold unl
  rw [Array.toList_setIfInBounds]
  exact countP_set_lt _ _ hs
theorem unl_pos {l : Array Bool} {i : Nat} (h : l.getD i true = false) : 0 < unl l := by have := unl_set h; omega

/-- Inv holds at the region's head; each operation that may come next keeps it: so it holds behind all of them. -/
theorem any_inv (Inv : Array Bool → Act → World → Prop) (hend : ∀ l a w, Inv l a w → Region.ready md ops l = [] → Q .normal a w)
    (hstep : ∀ l a w i o, Inv l a w → ops[i]? = some o → l.getD i true = false → (∀ e ∈ o.after, Region.binds md e = true → l.getD e.on false = true) → wpList P ops (thenK Q fun b u => Inv (l.setIfInBounds i true) b u) [o] a w) :
    ∀ (f : Nat) (l : Array Bool) (a : Act) (w : World), Inv l a w → unl l ≤ f → wpAny P md ops Q f l a w
  | 0, l, a, w, h, hf => by
    have hr : Region.ready md ops l = [] := by
      rw [List.eq_nil_iff_forall_not_mem]
      intro i hi
      have := unl_pos (mem_ready.1 hi).1
      omega
    exact ⟨hr, hend l a w h hr⟩
  | f + 1, l, a, w, h, hf => by
    refine ⟨fun hr => hend l a w h hr, fun i hi => ?_⟩
    obtain ⟨h1, o, ho, h2⟩ := mem_ready.1 hi
    refine wpOp_mono (fun b u hb => any_inv Inv hend hstep f _ b u hb (by have := unl_set h1; omega)) (wpOp_of_one ho (hstep l a w i o h ho h1 h2))
theorem unl_start (n : Nat) : unl (Array.replicate n false) = n := by simp [unl, List.countP_replicate]
def backB (ops : Array Oper) : Bool := (List.range ops.size).all fun i => ((ops[i]?).map fun o => o.after.all fun e => decide (e.on < i)).getD true
/-- When nothing may come next, all are through. -/
theorem ready_nil {l : Array Bool} (hb : backB ops = true) (hl : l.size = ops.size) (h : Region.ready md ops l = []) : ∀ i, i < ops.size → l.getD i false = true := by
  intro i
  induction i using Nat.strongRecOn with
  | ind i ih =>
    intro hi
    cases hv : l.getD i false with
    | true => rfl
    | false =>
      have hn : l.getD i true = false := by
        rw [Array.getD_eq_getD_getElem?] at hv ⊢
        have : i < l.size := by omega
        simp [this] at hv ⊢; exact hv
      have ho : ops[i]? = some ops[i] := Array.getElem?_eq_getElem hi
      have hmem : i ∈ Region.ready md ops l := mem_ready.2 ⟨hn, _, ho, fun e he _ => by
        have hbi := (List.all_eq_true.1 hb) i (List.mem_range.2 hi)
        rw [ho] at hbi
        simp only [Option.map_some, Option.getD_some] at hbi
        have := (Array.all_eq_true_iff_forall_mem.1 hbi) e he
        simp at this
        exact ih e.on this (by omega)⟩
      rw [h] at hmem; cases hmem
theorem region_inv {id : Nat} {a : Act} {w : World} {l : List Oper} (hm : P.follows .mixedOrders = true) (Inv : Array Bool → Act → World → Prop) (h0 : Inv (Array.replicate l.length false) a w.drew)
    (hend : ∀ l' a w, Inv l' a w → Region.ready .any l.toArray l' = [] → Q .normal a w)
    (hstep : ∀ l' a w i o, Inv l' a w → l.toArray[i]? = some o → l'.getD i true = false → (∀ e ∈ o.after, Region.binds .any e = true → l'.getD e.on false = true) → wpList P l.toArray (thenK Q fun b u => Inv (l'.setIfInBounds i true) b u) [o] a w) :
    (Code.region id l.toArray true).wp P Q a w :=
  wp_region_any hm (any_inv Inv hend hstep _ _ _ _ h0 (by rw [unl_start]; simp))
theorem getD_setB (l : Array Bool) (i j : Nat) (h : (l.setIfInBounds i true).getD j false = true) : l.getD j false = true ∨ i = j := by
  rw [Array.getD_eq_getD_getElem?, Array.getElem?_setIfInBounds] at h
  split at h
  · right; assumption
  · left; rw [Array.getD_eq_getD_getElem?]; exact h
end

end Go.Proofs.Ytokdfgodmhekmaa

namespace Go.Proofs.Ytokdfgodmhekmaa
open Go.RowKit

def foldPut : Act → List Oper → List Value → Act
  | a, o :: r, v :: vs => foldPut (a.put o.dst v) r vs
  | a, _, _ => a
def nowhere : Exit → Act → World → Prop := fun _ _ _ => False
def PureOps (P : Program) (ops : Array Oper) (S : World → Prop) (aF : Act) : List Oper → List Value → Prop
  | o :: r, v :: vs => (∀ u, S u → wpList P ops (thenK nowhere fun b u' => S u' ∧ b = aF.put o.dst v) [o] aF u) ∧ PureOps P ops S aF r vs
  | _, _ => True
def dsts (l : List Oper) : List Tmp := l.filterMap (·.dst)
def looksB (ops : Array Oper) : Bool := (List.range ops.size).all fun i => ((ops[i]?).map fun o => (o.looksAt ops).all fun t => (List.range ops.size).all fun j => ((ops[j]?).map fun o' => o'.dst != some t || o.after.any fun e => e.on == j && Region.binds .any e).getD true).getD true
def pureB (l : List Oper) : Bool := Region.noSelect l.toArray && looksB l.toArray && decide (dsts l).Nodup
def sizeB (a : Act) (l : List Oper) : Bool := (dsts l).all fun d => decide (d < a.tmps.size)

theorem put_size (a : Act) (d : Option Tmp) (v : Value) : (a.put d v).tmps.size = a.tmps.size := by
  cases d <;> simp [Act.put]
theorem put_def (a : Act) (d : Option Tmp) (v : Value) : (a.put d v).defers = a.defers := by
  cases d <;> rfl
theorem foldPut_size : ∀ (l : List Oper) (vs : List Value) (a : Act), (foldPut a l vs).tmps.size = a.tmps.size
  | [], _, _ => rfl
  | _ :: _, [], _ => rfl
  | o :: r, v :: vs, a => by
    show (foldPut (a.put o.dst v) r vs).tmps.size = _
    rw [foldPut_size r vs, put_size]
theorem foldPut_def : ∀ (l : List Oper) (vs : List Value) (a : Act), (foldPut a l vs).defers = a.defers
  | [], _, _ => rfl
  | _ :: _, [], _ => rfl
  | o :: r, v :: vs, a => by
    show (foldPut (a.put o.dst v) r vs).defers = _
    rw [foldPut_def r vs, put_def]
theorem put_get_ne (a : Act) {d : Option Tmp} {t : Tmp} (v : Value) (h : d ≠ some t) : (a.put d v).tmps[t]? = a.tmps[t]? := by
  cases d with
  | none => rfl
  | some d => simp [Act.put, Array.getElem?_setIfInBounds_ne (show d ≠ t from fun e => h (by rw [e]))]
theorem put_get_same (a : Act) {t : Tmp} (v : Value) (h : t < a.tmps.size) : (a.put (some t) v).tmps[t]? = some v := by
  simp [Act.put, Array.getElem?_setIfInBounds_self_of_lt h]
theorem foldPut_keep : ∀ (l : List Oper) (vs : List Value) (a : Act) (t : Tmp), t ∉ dsts l → (foldPut a l vs).tmps[t]? = a.tmps[t]?
  | [], _, _, _, _ => rfl
  | _ :: _, [], _, _, _ => rfl
  | o :: r, v :: vs, a, t, h => by
    show (foldPut (a.put o.dst v) r vs).tmps[t]? = _
    have h1 : o.dst ≠ some t := fun e => h (by unfold dsts; exact List.mem_filterMap.2 ⟨o, by simp, e⟩)
    have h2 : t ∉ dsts r := fun e => h (by
      unfold dsts at e ⊢
      obtain ⟨x, hx, he⟩ := List.mem_filterMap.1 e
      exact List.mem_filterMap.2 ⟨x, by simp [hx], he⟩)
    rw [foldPut_keep r vs _ t h2, put_get_ne a v h1]
theorem foldPut_hit : ∀ (l : List Oper) (vs : List Value) (a : Act) (j : Nat) (o : Oper) (v : Value) (t : Tmp), (dsts l).Nodup → l[j]? = some o → vs[j]? = some v → o.dst = some t → t < a.tmps.size → (foldPut a l vs).tmps[t]? = some v
  | [], _, _, j, _, _, _, _, h, _, _, _ => by simp at h
  | _ :: _, [], _, j, _, _, _, _, _, h, _, _ => by simp at h
  | o :: r, v :: vs, a, 0, o', v', t, hn, h1, h2, h3, h4 => by
    simp at h1 h2
    subst h1 h2
    have e : dsts (o :: r) = t :: dsts r := by unfold dsts; simp [h3]
    rw [e] at hn
    show (foldPut (a.put o.dst v) r vs).tmps[t]? = _
    rw [foldPut_keep r vs _ t (List.nodup_cons.1 hn).1, h3, put_get_same a v h4]
  | o :: r, v :: vs, a, j + 1, o', v', t, hn, h1, h2, h3, h4 => by
    have hn' : (dsts r).Nodup := by
      unfold dsts at hn ⊢
      cases hd : o.dst with
      | none => simpa [hd] using hn
      | some d => simp [hd] at hn; exact hn.2
    exact foldPut_hit r vs (a.put o.dst v) j o' v' t hn' (by simpa using h1) (by simpa using h2) h3 (by rw [put_size]; exact h4)
theorem PureOps.get {P : Program} {ops : Array Oper} {S : World → Prop} {aF : Act} : ∀ {l : List Oper} {vs : List Value} {j : Nat} {o : Oper} {v : Value}, PureOps P ops S aF l vs → l[j]? = some o → vs[j]? = some v → ∀ u, S u → wpList P ops (thenK nowhere fun b u' => S u' ∧ b = aF.put o.dst v) [o] aF u
  | [], _, _, _, _, _, h, _ => by simp at h
  | _ :: _, [], _, _, _, _, _, h => by simp at h
  | _ :: _, _ :: _, 0, _, _, hp, h1, h2 => by
    simp at h1 h2; subst h1 h2; exact hp.1
  | _ :: _, _ :: _, j + 1, _, _, hp, h1, h2 => PureOps.get hp.2 (by simpa using h1) (by simpa using h2)
theorem put_inj {aF a : Act} {d : Option Tmp} {x v : Value} (hd : ∀ t, d = some t → t < aF.tmps.size) (h : aF.put d x = aF.put d v) : a.put d x = a.put d v := by
  cases d with
  | none => rfl
  | some t =>
    have h1 := put_get_same aF x (hd t rfl)
    rw [h, put_get_same aF v (hd t rfl)] at h1
    injection h1 with h1
    rw [h1]
theorem transfer {P : Program} {ops : Array Oper} {S : World → Prop} {Q : Exit → Act → World → Prop} {K : Act → World → Prop} {o : Oper} {a aF : Act} {v : Value} {u : World} (he : execOp a.eval o = execOp aF.eval o)
    (hw : Region.wanted o (yielded ops a.tmps) = Region.wanted o (yielded ops aF.tmps)) (hd : ∀ t, o.dst = some t → t < aF.tmps.size) (h : wpList P ops (thenK nowhere fun b u' => S u' ∧ b = aF.put o.dst v) [o] aF u)
    (hK : ∀ u', S u' → K (a.put o.dst v) u') : wpList P ops (thenK Q K) [o] a u := by
  unfold wpList at h ⊢
  rw [hw]
  split
  · rename_i hwt
    rw [if_pos hwt] at h
    rcases h with h | ⟨_, b, u', h2⟩
    · left
      unfold Oper.wp at h ⊢
      rw [he]
      generalize (execOp aF.eval o).run P u = r at h
      cases r with
      | ok n w' =>
        cases n with
        | value x => obtain ⟨h1, h2⟩ := h; show K _ _; rw [put_inj hd h2]; exact hK _ h1
        | skip => obtain ⟨h1, h2⟩ := h; show K _ _; rw [put_inj hd h2]; exact hK _ h1
        | defer d =>
          obtain ⟨_, h2⟩ := h
          exfalso
          have := congrArg Act.defers h2
          rw [put_def, put_def] at this
          exact absurd (congrArg List.length this) (by simp)
        | enter f xs =>
          refine Calls.mono h fun e w'' k => ?_
          cases e with
          | returned x => obtain ⟨h1, h2⟩ := k; show K _ _; rw [put_inj hd h2]; exact hK _ h1
          | panicked c => exact (k : False).elim
          | outgrown => obtain ⟨_, _, k⟩ := k; exact (k : False).elim
        | row r xs =>
          refine Rows.mono h fun x w'' k => ?_
          obtain ⟨h1, h2⟩ := k; show K _ _; rw [put_inj hd h2]; exact hK _ h1
        | _ => exact (h : False).elim
      | halt x w' => cases x <;> exact (h : False).elim
    · exact (h2 : False).elim
  · rename_i hwt
    rw [if_neg hwt] at h
    obtain ⟨h1, h2⟩ := h
    show K _ _
    rw [put_inj hd h2]
    exact hK _ h1
theorem eval_eq {a aF : Act} {x : Operand} (h : ∀ t, x = .tmp t → a.tmps[t]? = aF.tmps[t]?) : a.eval x = aF.eval x := by
  cases x with
  | tmp t => simp [Act.eval, h t rfl]
  | _ => rfl
theorem wanted_eq {ops : Array Oper} {o : Oper} {a aF : Act} (h : ∀ t ∈ o.looksAt ops, a.tmps[t]? = aF.tmps[t]?) : Region.wanted o (yielded ops a.tmps) = Region.wanted o (yielded ops aF.tmps) := by
  unfold Region.wanted
  cases hg : o.guard with
  | none => rfl
  | some gw =>
    obtain ⟨g, want⟩ := gw
    have hy : yielded ops a.tmps g = yielded ops aF.tmps g := by
      unfold yielded
      cases ht : (ops[g]?).bind (·.dst) with
      | none => rfl
      | some t =>
        have := h t (by simp [Oper.looksAt, hg, ht])
        simp only [Option.bind_some, this]
    simp only [hy]
theorem looksB_spec {ops : Array Oper} (h : looksB ops = true) {i j : Nat} {o o' : Oper} {t : Tmp} (ho : ops[i]? = some o) (ht : t ∈ o.looksAt ops) (ho' : ops[j]? = some o') (hd : o'.dst = some t) : ∃ e ∈ o.after, e.on = j ∧ Region.binds .any e = true := by
  have hi := (Array.getElem?_eq_some_iff.1 ho).1
  have hj := (Array.getElem?_eq_some_iff.1 ho').1
  have h1 := (List.all_eq_true.1 h) i (List.mem_range.2 hi)
  rw [ho] at h1
  simp only [Option.map_some, Option.getD_some] at h1
  have h2 := (List.all_eq_true.1 ((List.all_eq_true.1 h1) t ht)) j (List.mem_range.2 hj)
  rw [ho'] at h2
  simp only [Option.map_some, Option.getD_some, hd, bne_self_eq_false, Bool.false_or] at h2
  obtain ⟨k, hk, h3⟩ := Array.any_eq_true.1 h2
  simp only [Bool.and_eq_true, beq_iff_eq] at h3
  exact ⟨o.after[k], Array.getElem_mem hk, h3⟩

theorem getD_setS' (l : Array Bool) (i j : Nat) (h : (l.setIfInBounds i true).getD j false = true) (hij : i ≠ j) : l.getD j false = true := (getD_setB l i j h).resolve_right hij

theorem region_pure {P : Program} {id : Nat} {Q : Exit → Act → World → Prop} {a : Act} {w : World} {l : List Oper} (vals : List Value) (S : World → Prop) (hm : P.follows .mixedOrders = true) (hB : pureB l = true) (hl : vals.length = l.length) (hz : sizeB a l = true)
    (hS : S w.drew) (hops : PureOps P l.toArray S (foldPut a l vals) l vals) (hend : ∀ u, S u → Q .normal (foldPut a l vals) u) (hback : backB l.toArray = true) : (Code.region id l.toArray true).wp P Q a w := by
  simp only [pureB, Bool.and_eq_true, decide_eq_true_eq] at hB
  obtain ⟨⟨hsel, hlook⟩, hnd⟩ := hB
  have hsz : ∀ o ∈ l, ∀ t, o.dst = some t → t < a.tmps.size := fun o ho t ht => by
    have := (List.all_eq_true.1 hz) t (List.mem_filterMap.2 ⟨o, ho, ht⟩)
    simpa using this
  have hval : ∀ j o, l[j]? = some o → ∃ v, vals[j]? = some v := fun j o ho => by
    have : j < vals.length := by have := (List.getElem?_eq_some_iff.1 ho).1; omega
    exact ⟨vals[j], List.getElem?_eq_getElem this⟩
  refine region_inv hm (fun l' b u => S u ∧ b.defers = a.defers ∧ b.tmps.size = a.tmps.size ∧ l'.size = l.length ∧ (∀ j o t, l[j]? = some o → o.dst = some t → l'.getD j false = true → b.tmps[t]? = (foldPut a l vals).tmps[t]?) ∧ ∀ t, t ∉ dsts l → b.tmps[t]? = (foldPut a l vals).tmps[t]?) ?_ ?_ ?_
  · refine ⟨hS, rfl, rfl, by simp, fun j o t _ _ h => ?_, fun t ht => (foldPut_keep l vals a t ht).symm⟩
    rw [Array.getD_eq_getD_getElem?] at h
    by_cases hj : j < l.length
    · simp [hj] at h
    · simp [hj] at h
  · rintro l' b u ⟨h1, h2, h3, h4, h5, h6⟩ hr
    have hall := ready_nil hback (by simpa using h4) hr
    have : b = foldPut a l vals := by
      have ht : b.tmps = (foldPut a l vals).tmps := by
        apply Array.ext_getElem?
        intro t
        by_cases ht : t ∈ dsts l
        · obtain ⟨o, ho, hd⟩ := List.mem_filterMap.1 ht
          obtain ⟨j, hj, rfl⟩ := List.getElem_of_mem ho
          exact h5 j l[j] t (List.getElem?_eq_getElem hj) hd (hall j (by simpa using hj))
        · exact h6 t ht
      have hd : b.defers = (foldPut a l vals).defers := by rw [h2, foldPut_def]
      cases b
      cases hF : foldPut a l vals
      rw [hF] at ht hd
      simp only at ht hd
      rw [ht, hd]
    rw [this]
    exact hend u h1
  · rintro l' b u i o ⟨h1, h2, h3, h4, h5, h6⟩ ho hun hdep
    have ho' : l[i]? = some o := by simpa using ho
    obtain ⟨v, hv⟩ := hval i o ho'
    have hlooks : ∀ t ∈ o.looksAt l.toArray, b.tmps[t]? = (foldPut a l vals).tmps[t]? := fun t ht => by
      by_cases hd : t ∈ dsts l
      · obtain ⟨oj, hoj, hdj⟩ := List.mem_filterMap.1 hd
        obtain ⟨j, hj, rfl⟩ := List.getElem_of_mem hoj
        obtain ⟨e, he, e1, e2⟩ := looksB_spec hlook ho ht (show l.toArray[j]? = some l[j] by simp [hj]) hdj
        exact h5 j _ t (List.getElem?_eq_getElem hj) hdj (by rw [← e1]; exact hdep e he e2)
      · exact h6 t hd
    refine transfer (execOp_congr o (fun cs c => Region.noSelect_spec hsel i o cs c ho) fun x hx => eval_eq fun t ht => hlooks t ?_) (wanted_eq hlooks) (fun t ht => by rw [foldPut_size]; exact hsz o (List.mem_of_getElem? ho') t ht) (PureOps.get hops ho' hv u h1) fun u' hu' => ?_
    · subst ht
      exact List.mem_append_left _ (List.mem_filterMap.2 ⟨.tmp t, by simpa using hx, rfl⟩)
    · refine ⟨hu', by rw [put_def, h2], by rw [put_size, h3], by simpa using h4, fun j oj t hj hdj hlj => ?_, fun t ht => ?_⟩
      · by_cases hij : i = j
        · subst hij
          rw [ho'] at hj
          injection hj with hj
          subst hj
          have hlt := hsz o (List.mem_of_getElem? ho') t hdj
          rw [foldPut_hit l vals a i o v t hnd ho' hv hdj hlt, hdj, put_get_same b v (by rw [h3]; exact hlt)]
        · by_cases hdd : o.dst = some t
          · exfalso
            have hlt := hsz o (List.mem_of_getElem? ho') t hdd
            -- two operations with the same slot
            have : ∀ (l : List Oper) (i j : Nat) (x y : Oper), (dsts l).Nodup → l[i]? = some x → l[j]? = some y → x.dst = some t → y.dst = some t → i = j := by
              intro l
              induction l with
              | nil => intro i j x y _ h; simp at h
              | cons z r ih =>
                intro i j x y hn hx hy dx dy
                have hn' : (dsts r).Nodup := by
                  unfold dsts at hn ⊢
                  cases hd : z.dst with
                  | none => simpa [hd] using hn
                  | some d => simp [hd] at hn; exact hn.2
                have hz0 : z.dst = some t → t ∉ dsts r := fun e => by
                  have : dsts (z :: r) = t :: dsts r := by unfold dsts; simp [e]
                  rw [this] at hn
                  exact (List.nodup_cons.1 hn).1
                cases i with
                | zero =>
                  cases j with
                  | zero => rfl
                  | succ j =>
                    simp at hx hy; subst hx
                    exact absurd (List.mem_filterMap.2 ⟨y, List.mem_of_getElem? hy, dy⟩) (hz0 dx)
                | succ i =>
                  cases j with
                  | zero =>
                    simp at hx hy; subst hy
                    exact absurd (List.mem_filterMap.2 ⟨x, List.mem_of_getElem? hx, dx⟩) (hz0 dy)
                  | succ j => rw [ih i j x y hn' (by simpa using hx) (by simpa using hy) dx dy]
            exact hij (this l i j o oj hnd ho' hj hdd hdj)
          · rw [put_get_ne b v hdd]
            exact h5 j oj t hj hdj (getD_setS' l' i j hlj hij)
      · have hdd : o.dst ≠ some t := fun e => ht (List.mem_filterMap.2 ⟨o, List.mem_of_getElem? ho', e⟩)
        rw [put_get_ne b v hdd]
        exact h6 t ht

end Go.Proofs.Ytokdfgodmhekmaa
