/- Uniform registers, as the reference finds them: the walk through a program. Uniform registers, as the program finds them: what a range writes, a block. Uniform registers, as the program finds them: a block, by the walk inside it. No condition. -/
import Derived.Test.YtokdfgodmhekmaaKad
import Derived.Test.YtokdfgodmhekmaaKbb
import Derived.Test.YtokdfgodmhekmaaKca

namespace Go.Proofs.Ytokdfgodmhekmaa
open Go.RowKit

/-- The table under way, in a block of the walk's own. -/
structure UR (w0 : World) (vl vo : Value) (cs : List Cd) (w : World) (live : Nat → Nat) : Prop where
  pure : Pure w0 w
  codes : Codes w0 vl cs
  own : OwnO w w0.heap.size 3 1 vo cs.length ((List.range cs.length).map fun j => .int .i64 (live j : Nat))
section
variable {w0 w w' : World} {vl vo : Value} {cs : List Cd} {live : Nat → Nat}
theorem UR.keep (h : UR w0 vl vo cs w live) (hp : Pure w w') : UR w0 vl vo cs w' live := ⟨h.pure.trans hp, h.codes, h.own.pure hp⟩
theorem UR.put {g off c k v : Nat} (h : UR w0 vl (.slice (some ⟨g, off, none⟩) cs.length c) cs w live) (hk : k < cs.length) :
    UR w0 vl (.slice (some ⟨g, off, none⟩) cs.length c) cs (w.setCell ⟨g, off + k, none⟩ (.int .i64 (v : Nat))) (updL live k v) := by
  refine ⟨Pure.setCell h.pure (h.own.lt g rfl).1 _, h.codes, ?_⟩
  have hs := h.own.stored k (.int .i64 (v : Nat))
  have e : ((List.range cs.length).map fun j => Value.int .i64 (live j : Nat)).set k (.int .i64 (v : Nat)) = (List.range cs.length).map fun j => Value.int .i64 (updL live k v j : Nat) := by
    apply List.ext_getElem?
    intro j
    by_cases hj : j < cs.length
    · by_cases hjk : j = k
      · subst hjk
        rw [List.getElem?_set_self (by simpa using hj)]
        simp [hj, updL]
      · rw [List.getElem?_set_ne (by omega)]
        simp [hj, updL, hjk]
    · rw [List.getElem?_eq_none (by simp; omega), List.getElem?_eq_none (by simp; omega)]
  rw [← e]
  exact hs
theorem UR.facts {g off c k : Nat} (h : UR w0 vl (.slice (some ⟨g, off, none⟩) cs.length c) cs w live) (hk : k < cs.length) :
    w.cell? ⟨g, off + k, none⟩ = some (.int .i64 (live k : Nat)) ∧ w.frozen? ⟨g, off + k, none⟩ = false ∧ w0.heap.size ≤ g ∧ g < w.heap.size := by
  have h1 := h.own.cell k (by omega)
  rw [List.getElem?_map, List.getElem?_range hk] at h1
  exact ⟨h1, h.own.frozen _, (h.own.lt g rfl).1, (h.own.lt g rfl).2⟩
end
/-- A code in a block of its own. -/
structure UBox (w : World) (g : Nat) (c : Cd) : Prop where
  c0 : w.cell? ⟨g, 0, none⟩ = some (.int .i64 c.op)
  c1 : w.cell? ⟨g, 1, none⟩ = some (.int .i64 c.a)
  c2 : w.cell? ⟨g, 2, none⟩ = some (.int .i64 c.b)
  c3 : w.cell? ⟨g, 3, none⟩ = some (.int .i64 c.c)
theorem UBox.lt {w : World} {g : Nat} {c : Cd} (h : UBox w g c) : g < w.heap.size := World.block_lt_of_cell? _ _ h.1
theorem UBox.chg {S : Nat → Prop} {w w' : World} {g : Nat} {c : Cd} (h : UBox w g c) (hc : Chg S w w') (hn : ¬ S g) : UBox w' g c :=
  ⟨(hc.cell h.lt hn).trans h.1, (hc.cell h.lt hn).trans h.2, (hc.cell h.lt hn).trans h.3, (hc.cell h.lt hn).trans h.4⟩
theorem UBox.pure {w w' : World} {g : Nat} {c : Cd} (h : UBox w g c) (hp : Pure w w') : UBox w' g c := h.chg (S := fun _ => False) (Chg.of_pure hp) id
theorem UBox.new (w : World) (c : Cd) {w' : World} (hp : Pure (w.alloc (.cells #[.int .i64 c.op, .int .i64 c.a, .int .i64 c.b, .int .i64 c.c] 61)) w') : UBox w' w.heap.size c ∧ Pure w w' := by
  obtain ⟨h0, h1, h2, h3, h4⟩ := boxed hp
  exact ⟨⟨h0, h1, h2, h3⟩, h4⟩

def UWPost (w0 : World) (vl vo : Value) (cs : List Cd) (t : Tr) (i u : Nat) (live : Nat → Nat) (w : World) (e : Ending) (w' : World) : Prop :=
  e = .returned (.int .i64 ((uni t u).1 : Nat)) ∧ UR w0 vl vo cs w' (lay cs live i (uni t u).2) ∧ Chg (fun k => vo.ownBlock = some k) w w'

theorem Tr.len_zero' {t : Tr} (h : t.len = 0) : t = .nil := by
  cases t
  · rfl
  · rw [Tr.len_op] at h; omega
  · rw [Tr.len_ite] at h; omega
  · rw [Tr.len_itee] at h; omega
  · rw [Tr.len_loop] at h; omega

set_option maxHeartbeats 2000000 in
set_option maxRecDepth 100000 in
theorem swalk_nil (w0 : World) (vl vo : Value) (cs : List Cd) (i u : Nat) (live : Nat → Nat) (w : World) (fr to : Int) (hrun : UR w0 vl vo cs w live) (hfr : fr = (i : Nat)) (hto : to = (i : Nat)) :
    Calls Try.prog 92 #[vl, .int .i64 fr, .int .i64 to, .int .i64 (u : Nat), vo] w (UWPost w0 vl vo cs .nil i u live w) := by
  have HR := Lib.hid hrun
  subst hfr hto
  clear hrun
  go_enter Try.func92, Try.ntmps92
  go_wp2_with fail
  go_loopg [11, 3] 0 (fun gk i' u' wr => i' = .int .i64 i ∧ u' = .int .i64 u ∧ wr = w)
  case atStart => exact ⟨rfl, rfl, rfl⟩
  case round =>
    obtain ⟨rfl, rfl, rfl⟩ := hrel
    go_wp2_with fail
    go_ret
    exact ⟨rfl, by rw [uni_nil, lay_nil]; exact HR.out, Chg.refl _ _⟩

set_option maxHeartbeats 8000000 in
set_option maxRecDepth 100000 in
theorem swalk_any (w0 : World) (vl vo : Value) (cs : List Cd) (hv : PValid cs) : ∀ (sz : Nat) (t : Tr) (i u : Nat) (live : Nat → Nat) (w : World) (fr to : Int), t.len ≤ sz → t.Ok → Seg cs i t → i + t.len ≤ cs.length → u < 16 →
    UR w0 vl vo cs w live → fr = (i : Nat) → to = ((i + t.len : Nat) : Int) →
    Calls Try.prog 92 #[vl, .int .i64 fr, .int .i64 to, .int .i64 (u : Nat), vo] w (UWPost w0 vl vo cs t i u live w) := by
  intro sz
  induction sz with
  | zero =>
    intro t i u live w fr to hsz hok hseg hic hu hrun hfr hto
    obtain rfl := Tr.len_zero' (show t.len = 0 by omega)
    exact swalk_nil w0 vl vo cs i u live w fr to hrun hfr hto
  | succ sz ih =>
    intro t i u live w fr to hsz hok hseg hic hu hrun hfr hto
    by_cases htz : t.len = 0
    · obtain rfl := Tr.len_zero' htz
      exact swalk_nil w0 vl vo cs i u live w fr to hrun hfr hto
    subst hfr
    obtain ⟨g, off, cg, rfl, hg1, hg2, hg3, hg4⟩ := hrun.own.formSome (by omega)
    obtain ⟨A, cA, rfl, hnc, hcm⟩ := hrun.codes.form
    have HIH := Lib.hid ih
    have HV := Lib.hid hv
    have HTO := Lib.hid hto
    have HR := Lib.hid hrun
    have HSEG := Lib.hid hseg
    have HOK := Lib.hid hok
    have HSZ := Lib.hid hsz
    have HUL := Lib.hid hu
    have hsmall := hv.2.1
    have htoc : to ≤ (cs.length : Int) := by rw [hto]; exact_mod_cast hic
    clear ih hv hto hrun hseg hok hsz hic hu htz hg4
    go_enter Try.func92, Try.ntmps92
    go_wp2_with fail
    go_loopg [11, 3] t.len (fun gk kk uu wr => ∃ (t' : Tr) (k u' : Nat) (live' : Nat → Nat), gk = t'.len ∧ ((k + t'.len : Nat) : Int) = to ∧ t'.len ≤ t.len ∧ kk = .int .i64 k ∧ uu = .int .i64 u' ∧ u' < 16 ∧ t'.Ok ∧ Seg cs k t' ∧ UR w0 (.slice A cs.length cA) (.slice (some ⟨g, off, none⟩) cs.length cg) cs wr live' ∧ Chg (fun k => (Value.slice (some ⟨g, off, none⟩) cs.length cg).ownBlock = some k) w wr ∧ (uni t' u').1 = (uni t u).1 ∧ lay cs live' k (uni t' u').2 = lay cs live i (uni t u).2)
    case atStart => exact ⟨t, i, u, live, rfl, HTO.out.symm, Nat.le_refl _, rfl, rfl, HUL.out, HOK.out, HSEG.out, HR.out, Chg.refl _ _, rfl, rfl⟩
    case round =>
      clear HR HSEG HOK HTO HUL
      obtain ⟨t', k, u', live', hgk, hto, htl, rfl, rfl, hu', hok, hseg, hr, hst, hn1, hn2⟩ := hrel
      have Hgk := Lib.hid hgk
      have Hto := Lib.hid hto
      have Htl := Lib.hid htl
      have Hok := Lib.hid hok
      have Hseg := Lib.hid hseg
      have Hr := Lib.hid hr
      have Hst := Lib.hid hst
      have HN1 := Lib.hid hn1
      have HN2 := Lib.hid hn2
      clear hgk hto htl hok hseg hst hn1 hn2
      by_cases hlt : (k : Int) < to
      case neg =>
        have hz : t' = .nil := Tr.len_zero' (by have := Hto.out; omega)
        subst hz
        have Hfin : Hid ((uni t u).1 = u') := Lib.hid (by rw [← HN1.out]; rfl)
        have Hfin2 : Hid (lay cs live i (uni t u).2 = live') := Lib.hid (by rw [← HN2.out, uni_nil, lay_nil])
        clear hr
        go_wp2_with fail
        go_ret
        exact ⟨by rw [Hfin.out]; rfl, by rw [Hfin2.out]; exact Hr.out, Hst.out⟩
      case pos =>
        have hk : k < cs.length := by omega
        obtain ⟨f0, f1, f2, f3⟩ := hr.facts hk
        obtain ⟨b, ob, rfl, hb, hc⟩ := hr.codes.at_ hk
        have hbg : b ≠ g := by omega
        obtain ⟨cd, Hcd⟩ : ∃ cd, Hid (cs.getD k default = cd) := ⟨_, rfl⟩
        rw [Hcd.out] at hc
        have HP1 := Lib.hid (hr.put (k := k) (v := u') hk)
        have hc' := hc.keep HP1.out.pure hb
        obtain ⟨c0, c1, c2, c3⟩ := hc'
        have hcok : CdOk cd := by rw [← Hcd.out]; exact HV.out.1 _ (cdOk_mem hk)
        have HCOK := Lib.hid hcok
        obtain ⟨op, ca, cb, cc⟩ := cd
        simp only at c0 c1 c2 c3
        have hg4 : g < wr.heap.size := f3
        have HCW : Hid (Chg (fun k => (Value.slice (some ⟨g, off, none⟩) cs.length cg).ownBlock = some k) wr (wr.setCell ⟨g, off + k, none⟩ (.int .i64 (u' : Nat)))) := Lib.hid (Chg.of_set wr g _ _ (by rfl))
        have hxb := (UBox.new (wr.setCell ⟨g, off + k, none⟩ (.int .i64 (u' : Nat))) ⟨op, ca, cb, cc⟩ (Pure.refl _))
        have hsc : (wr.setCell ⟨g, off + k, none⟩ (.int .i64 (u' : Nat))).heap.size = wr.heap.size := by simp
        rw [hsc] at hxb
        have HXB := Lib.hid hxb
        obtain ⟨y0, y1, y2, y3⟩ := HXB.out.1
        have HNB : Hid (¬ (Value.slice (some ⟨g, off, none⟩) cs.length cg).ownBlock = some wr.heap.size) := Lib.hid (fun e => by have e2 : g = wr.heap.size := Option.some.inj e; omega)
        clear hr hc hcok hxb hsc
        simp only at y0 y1 y2 y3
        go_wp2_with fail
        obtain ⟨B, HB⟩ : ∃ B, Hid (decide (Opens ⟨op, ca, cb, cc⟩) = B) := ⟨_, rfl⟩
        refine (l4Opens_any ⟨op, ca, cb, cc⟩ _ B (by rw [← HB.out]; simp)).mono ?_
        rintro e w4 ⟨rfl, hp4⟩
        have HX4 := Lib.hid (HXB.out.1.pure hp4)
        have H4 := Lib.hid (HP1.out.keep (HXB.out.2.trans hp4))
        have HS4 : Hid (Chg (fun k => (Value.slice (some ⟨g, off, none⟩) cs.length cg).ownBlock = some k) w w4) := Lib.hid (Hst.out.trans (HCW.out.trans (Chg.of_pure (HXB.out.2.trans hp4))))
        clear y0 y1 y2 y3 c0 c1 c2 c3 hp4 f0 f1
        obtain ⟨y0, y1, y2, y3⟩ := HX4.out
        have hby := HX4.out.lt
        simp only at y0 y1 y2 y3
        cases t' with
        | nil => exact absurd Hto.out (by have : Tr.nil.len = 0 := rfl; omega)
        | op c0 tk =>
          have hce : c0 = ⟨op, ca, cb, cc⟩ := Hseg.out.op.1.symm.trans Hcd.out
          subst hce
          have HPL := Lib.hid Hok.out.1
          have hB : B = false := by rw [← HB.out]; have h := HPL.out; exact decide_eq_false (by rintro (h1 | h1); exact h.2.1 h1; exact h.2.2.2.1 h1)
          subst hB
          have HL := Lib.hid (Tr.len_op ⟨op, ca, cb, cc⟩ tk)
          go_wp2_with fail
          refine (scode_any ⟨op, ca, cb, cc⟩ u' _ HCOK.out hu').mono ?_
          rintro e w5 ⟨rfl, hp5⟩
          have HP5 := Lib.hid hp5
          obtain ⟨v, Hv⟩ : ∃ v, Hid (uCode ⟨op, ca, cb, cc⟩ u' = v) := ⟨_, rfl⟩
          have HV16 : Hid (v < 16) := Lib.hid (by rw [← Hv.out]; exact uCode_lt HCOK.out hu')
          rw [Hv.out]
          clear hp5
          go_wp2_with fail
          go_roundg tk.len
          case measure => have := Hgk.out; have := HL.out; omega
          case rel =>
            exact ⟨tk, k + 1, v, updL live' k u', rfl, by have := Hto.out; have := HL.out; omega, by have := Htl.out; have := HL.out; omega, by go_num, rfl, HV16.out, Hok.out.2, Hseg.out.op.2.2, H4.out.keep HP5.out, HS4.out.trans (Chg.of_pure HP5.out), by rw [← HN1.out, uni_op, Hv.out], by rw [← HN2.out, uni_op, Hv.out, lay_cons (by rw [Hcd.out]; exact HPL.out.2.2.1) (by rw [Hcd.out]; exact HPL.out.2.2.2.2)]⟩
        | ite a t1 tk =>
          have hce : (⟨op, ca, cb, cc⟩ : Cd) = cIf a := Hcd.out.symm.trans Hseg.out.ite.1
          injection hce with e1 e2 e3 e4
          subst e1 e2 e3 e4
          have hB : B = true := by rw [← HB.out]; exact decide_eq_true (.inl rfl)
          subst hB
          obtain ⟨ha0, ha3⟩ := Hok.out.1
          obtain ⟨an, rfl⟩ := Int.eq_ofNat_of_zero_le ha0
          have han : an < 4 := by omega
          have hend := (end_ite Hok.out Hseg.out).1
          obtain ⟨en, Hen⟩ : ∃ en, Hid (k + 1 + t1.len = en) := ⟨_, rfl⟩
          rw [Hen.out] at hend
          have HL := Lib.hid (Tr.len_ite (an : Int) t1 tk)
          have hen1 : en < cs.length := by rw [← Hen.out]; exact Hseg.out.ite.2.2.2.1
          have hkn : k < en := by have := Hen.out; omega
          go_wp2_with fail
          refine (l4End_any _ cs k _ _ (H4.out.codes.keep H4.out.pure) (by omega) hk hend).mono ?_
          rintro e w5 ⟨rfl, hp5⟩
          clear hend y0 y1 y2 y3
          have HX5 := Lib.hid (HX4.out.pure hp5)
          have H5 := Lib.hid (H4.out.keep hp5)
          have HS5 := Lib.hid (HS4.out.trans (Chg.of_pure hp5))
          obtain ⟨y0, y1, y2, y3⟩ := HX5.out
          have hby5 := HX5.out.lt
          simp only at y0 y1 y2 y3
          clear hp5
          go_wp2_with fail
          refine (HIH.out t1 (k + 1) u' (updL live' k u') _ _ _ (by have := HL.out; have := HSZ.out; have := Htl.out; omega) Hok.out.2.1 Hseg.out.ite.2.1 (by have := Hen.out; omega) hu' H5.out (by omega) (by have := Hen.out; omega)).mono ?_
          rintro e w6 ⟨rfl, hr6, hs6⟩
          have H6 := Lib.hid hr6
          have HS6 := Lib.hid (HS5.out.trans hs6)
          clear y0 y1 y2 y3
          have HX6 := Lib.hid (HX5.out.chg hs6 HNB.out)
          obtain ⟨y0, y1, y2, y3⟩ := HX6.out
          have hby6 := HX6.out.lt
          simp only at y0 y1 y2 y3
          clear hr6 hs6
          obtain ⟨m, Hm⟩ : ∃ m, Hid ((uni t1 u').1 = m) := ⟨_, rfl⟩
          have hm16 : m < 16 := by rw [← Hm.out]; exact uni_lt t1 u' Hok.out.2.1 hu'
          rw [Hm.out]
          obtain ⟨x, Hx⟩ : ∃ x, Hid (u' &&& m = x) := ⟨_, rfl⟩
          have hand : bits .and .i64 (u' : Int) (m : Int) = (x : Int) := by rw [and16 hu' hm16, Hx.out]
          have hnn := digit_nonneg u' an
          have hbit := digit_eq0 u' an
          have HUI : Hid (uIf (an : Int) t1 u' = if u'.testBit an then x else del u' (writ t1)) := Lib.hid (by unfold uIf; rw [Int.toNat_natCast, Hm.out, Hx.out])
          obtain ⟨D, HD⟩ : ∃ D, Hid (u'.testBit an = D) := ⟨_, rfl⟩
          rw [HD.out] at hbit HUI
          cases D
          · have hbit' : (((u' : Int) / 2 ^ an) % 2 == 0) = true := hbit
            have hwr : wrTo cs (k + 1) t1.len = writ t1 := wrTo_tree t1 _ Hseg.out.ite.2.1
            obtain ⟨q, Hq⟩ : ∃ q, Hid (writ t1 = q) := ⟨_, rfl⟩
            have hq16 : q < 16 := by rw [← Hq.out]; exact writ_lt t1 Hok.out.2.1
            rw [Hq.out] at hwr
            have HWR := Lib.hid hwr
            obtain ⟨v, Hv⟩ : ∃ v, Hid (del u' q = v) := ⟨_, rfl⟩
            have hdel : bits .andNot .i64 (u' : Int) (q : Int) = (v : Int) := by rw [not16 hu' hq16]; exact congrArg _ Hv.out
            have HV16 : Hid (v < 16) := Lib.hid (by rw [← Hv.out]; exact del_lt' hu')
            have HUI2 : Hid (uIf (an : Int) t1 u' = v) := Lib.hid (by rw [HUI.out, Hq.out, Hv.out]; rfl)
            clear hbit hwr
            go_wp2_with fail
            refine (swritten_any _ cs (k + 1) t1.len _ _ _ (H6.out.codes.keep H6.out.pure) HV.out.1 (by have := Hen.out; omega) (by omega) (by omega) (by have := Hen.out; omega)).mono ?_
            rintro e w7 ⟨rfl, hp7⟩
            rw [HWR.out]
            have HP7 := Lib.hid hp7
            clear hp7
            go_wp2_with fail
            go_roundg tk.len
            case measure => have := Hgk.out; have := HL.out; omega
            case rel =>
              exact ⟨tk, en + 1, v, _, rfl, by have := Hto.out; have := HL.out; have := Hen.out; omega, by have := Htl.out; have := HL.out; omega, by go_num, rfl, HV16.out, Hok.out.2.2, by rw [← Hen.out]; exact Hseg.out.ite.2.2.2.2, H6.out.keep HP7.out, HS6.out.trans (Chg.of_pure HP7.out), by rw [← HN1.out, uni_ite, HUI2.out], by rw [← HN2.out, uni_ite, HUI2.out, lay_if Hseg.out (uni_len t1 u'), Hen.out]⟩
          · have hbit' : (((u' : Int) / 2 ^ an) % 2 == 0) = false := hbit
            have HUI2 : Hid (uIf (an : Int) t1 u' = x) := Lib.hid (by rw [HUI.out]; rfl)
            have HX16 : Hid (x < 16) := Lib.hid (by rw [← Hx.out]; exact and_lt16 hu')
            clear hbit
            go_wp2_with fail
            go_roundg tk.len
            case measure => have := Hgk.out; have := HL.out; omega
            case rel =>
              exact ⟨tk, en + 1, x, _, rfl, by have := Hto.out; have := HL.out; have := Hen.out; omega, by have := Htl.out; have := HL.out; omega, by go_num, rfl, HX16.out, Hok.out.2.2, by rw [← Hen.out]; exact Hseg.out.ite.2.2.2.2, H6.out, HS6.out, by rw [← HN1.out, uni_ite, HUI2.out], by rw [← HN2.out, uni_ite, HUI2.out, lay_if Hseg.out (uni_len t1 u'), Hen.out]⟩
        | itee a t1 t2 tk =>
          have hce : (⟨op, ca, cb, cc⟩ : Cd) = cIf a := Hcd.out.symm.trans Hseg.out.itee.1
          injection hce with e1 e2 e3 e4
          subst e1 e2 e3 e4
          have hB : B = true := by rw [← HB.out]; exact decide_eq_true (.inl rfl)
          subst hB
          obtain ⟨ha0, ha3⟩ := Hok.out.1
          obtain ⟨an, rfl⟩ := Int.eq_ofNat_of_zero_le ha0
          have han : an < 4 := by omega
          have hend := (end_itee Hok.out Hseg.out).1
          obtain ⟨on, Hon⟩ : ∃ on, Hid (k + 1 + t1.len = on) := ⟨_, rfl⟩
          obtain ⟨en, Hen⟩ : ∃ en, Hid (k + 1 + t1.len + 1 + t2.len = en) := ⟨_, rfl⟩
          rw [Hen.out, Hon.out] at hend
          have HL := Lib.hid (Tr.len_itee (an : Int) t1 t2 tk)
          have hen1 : en < cs.length := by rw [← Hen.out]; exact Hseg.out.itee.2.2.2.2.2.1
          have hon1 : on < en := by have := Hen.out; have := Hon.out; omega
          have hkn : k < on := by have := Hon.out; omega
          go_wp2_with fail
          refine (l4End_any _ cs k _ _ (H4.out.codes.keep H4.out.pure) (by omega) hk hend).mono ?_
          rintro e w5 ⟨rfl, hp5⟩
          clear hend y0 y1 y2 y3
          have HX5 := Lib.hid (HX4.out.pure hp5)
          have H5 := Lib.hid (H4.out.keep hp5)
          have HS5 := Lib.hid (HS4.out.trans (Chg.of_pure hp5))
          obtain ⟨y0, y1, y2, y3⟩ := HX5.out
          have hby5 := HX5.out.lt
          simp only at y0 y1 y2 y3
          clear hp5
          go_wp2_with fail
          refine (HIH.out t1 (k + 1) u' (updL live' k u') _ _ _ (by have := HL.out; have := HSZ.out; have := Htl.out; omega) Hok.out.2.1 Hseg.out.itee.2.1 (by have := Hon.out; omega) hu' H5.out (by omega) (by have := Hon.out; omega)).mono ?_
          rintro e w6 ⟨rfl, hr6, hs6⟩
          have H6 := Lib.hid hr6
          have HS6 := Lib.hid (HS5.out.trans hs6)
          clear y0 y1 y2 y3
          have HX6 := Lib.hid (HX5.out.chg hs6 HNB.out)
          clear hr6 hs6
          obtain ⟨m, Hm⟩ : ∃ m, Hid ((uni t1 u').1 = m) := ⟨_, rfl⟩
          have hm16 : m < 16 := by rw [← Hm.out]; exact uni_lt t1 u' Hok.out.2.1 hu'
          rw [Hm.out]
          go_wp2_with fail
          refine (HIH.out t2 (on + 1) u' (lay cs (updL live' k u') (k + 1) (uni t1 u').2) _ _ _ (by have := HL.out; have := HSZ.out; have := Htl.out; omega) Hok.out.2.2.1 (by rw [← Hon.out]; exact Hseg.out.itee.2.2.2.1) (by have := Hon.out; have := Hen.out; omega) hu' H6.out (by omega) (by have := Hon.out; have := Hen.out; omega)).mono ?_
          rintro e w7 ⟨rfl, hr7, hs7⟩
          have H7 := Lib.hid hr7
          have HS7 := Lib.hid (HS6.out.trans hs7)
          have HX7 := Lib.hid (HX6.out.chg hs7 HNB.out)
          clear hr7 hs7
          obtain ⟨y0, y1, y2, y3⟩ := HX7.out
          have hby7 := HX7.out.lt
          simp only at y0 y1 y2 y3
          obtain ⟨m2, Hm2⟩ : ∃ m, Hid ((uni t2 u').1 = m) := ⟨_, rfl⟩
          have hm216 : m2 < 16 := by rw [← Hm2.out]; exact uni_lt t2 u' Hok.out.2.2.1 hu'
          rw [Hm2.out]
          obtain ⟨x, Hx⟩ : ∃ x, Hid (m &&& m2 = x) := ⟨_, rfl⟩
          have hand : bits .and .i64 (m : Int) (m2 : Int) = (x : Int) := by rw [and16 hm16 hm216, Hx.out]
          have hnn := digit_nonneg u' an
          have hbit := digit_eq0 u' an
          have HUI : Hid (uIfe (an : Int) t1 t2 u' = if u'.testBit an then x else del u' (writ t1 ||| writ t2)) := Lib.hid (by unfold uIfe; rw [Int.toNat_natCast, Hm.out, Hm2.out, Hx.out])
          obtain ⟨D, HD⟩ : ∃ D, Hid (u'.testBit an = D) := ⟨_, rfl⟩
          rw [HD.out] at hbit HUI
          cases D
          · have hbit' : (((u' : Int) / 2 ^ an) % 2 == 0) = true := hbit
            have hwr : wrTo cs (k + 1) (t1.len + (t2.len + 1)) = writ t1 ||| writ t2 := by
              obtain ⟨_, q2, q3, q4, _⟩ := Hseg.out.itee
              rw [wrTo_add, wrTo_tree t1 _ q2, wrTo_head, q3, wrTo_tree t2 _ q4, wst_zero (.inr (.inl rfl)), Nat.zero_or]
            obtain ⟨q, Hq⟩ : ∃ q, Hid (writ t1 ||| writ t2 = q) := ⟨_, rfl⟩
            have hq16 : q < 16 := by rw [← Hq.out]; exact or_lt (writ_lt t1 Hok.out.2.1) (writ_lt t2 Hok.out.2.2.1)
            rw [Hq.out] at hwr
            have HWR := Lib.hid hwr
            obtain ⟨v, Hv⟩ : ∃ v, Hid (del u' q = v) := ⟨_, rfl⟩
            have hdel : bits .andNot .i64 (u' : Int) (q : Int) = (v : Int) := by rw [not16 hu' hq16]; exact congrArg _ Hv.out
            have HV16 : Hid (v < 16) := Lib.hid (by rw [← Hv.out]; exact del_lt' hu')
            have HUI2 : Hid (uIfe (an : Int) t1 t2 u' = v) := Lib.hid (by rw [HUI.out, Hq.out, Hv.out]; rfl)
            clear hbit hwr
            go_wp2_with fail
            refine (swritten_any _ cs (k + 1) (t1.len + (t2.len + 1)) _ _ _ (H7.out.codes.keep H7.out.pure) HV.out.1 (by have := Hen.out; omega) (by omega) (by omega) (by have := Hen.out; omega)).mono ?_
            rintro e w8 ⟨rfl, hp8⟩
            rw [HWR.out]
            have HP8 := Lib.hid hp8
            clear hp8
            go_wp2_with fail
            go_roundg tk.len
            case measure => have := Hgk.out; have := HL.out; omega
            case rel =>
              exact ⟨tk, en + 1, v, _, rfl, by have := Hto.out; have := HL.out; have := Hen.out; omega, by have := Htl.out; have := HL.out; omega, by go_num, rfl, HV16.out, Hok.out.2.2.2, by rw [← Hen.out]; exact Hseg.out.itee.2.2.2.2.2.2, H7.out.keep HP8.out, HS7.out.trans (Chg.of_pure HP8.out), by rw [← HN1.out, uni_itee, HUI2.out], by rw [← HN2.out, uni_itee, HUI2.out, lay_ife Hseg.out (uni_len t1 u') (uni_len t2 u'), Hen.out, Hon.out]⟩
          · have hbit' : (((u' : Int) / 2 ^ an) % 2 == 0) = false := hbit
            have HUI2 : Hid (uIfe (an : Int) t1 t2 u' = x) := Lib.hid (by rw [HUI.out]; rfl)
            have HX16 : Hid (x < 16) := Lib.hid (by rw [← Hx.out]; exact and_lt16 hm16)
            clear hbit
            go_wp2_with fail
            go_roundg tk.len
            case measure => have := Hgk.out; have := HL.out; omega
            case rel =>
              exact ⟨tk, en + 1, x, _, rfl, by have := Hto.out; have := HL.out; have := Hen.out; omega, by have := Htl.out; have := HL.out; omega, by go_num, rfl, HX16.out, Hok.out.2.2.2, by rw [← Hen.out]; exact Hseg.out.itee.2.2.2.2.2.2, H7.out, HS7.out, by rw [← HN1.out, uni_itee, HUI2.out], by rw [← HN2.out, uni_itee, HUI2.out, lay_ife Hseg.out (uni_len t1 u') (uni_len t2 u'), Hen.out, Hon.out]⟩
        | loop a lb t1 tk =>
          have hce : (⟨op, ca, cb, cc⟩ : Cd) = cLoop a lb := Hcd.out.symm.trans Hseg.out.loop.1
          injection hce with e1 e2 e3 e4
          subst e1 e2 e3 e4
          have hB : B = true := by rw [← HB.out]; exact decide_eq_true (.inr rfl)
          subst hB
          obtain ⟨ha0, ha3⟩ := Hok.out.1
          obtain ⟨an, rfl⟩ := Int.eq_ofNat_of_zero_le ha0
          have han : an < 4 := by omega
          have hend := (end_loop Hok.out Hseg.out).1
          obtain ⟨en, Hen⟩ : ∃ en, Hid (k + 1 + t1.len = en) := ⟨_, rfl⟩
          rw [Hen.out] at hend
          have HL := Lib.hid (Tr.len_loop (an : Int) cb t1 tk)
          have hen1 : en < cs.length := by rw [← Hen.out]; exact Hseg.out.loop.2.2.2.1
          have hkn : k < en := by have := Hen.out; omega
          go_wp2_with fail
          refine (l4End_any _ cs k _ _ (H4.out.codes.keep H4.out.pure) (by omega) hk hend).mono ?_
          rintro e w5 ⟨rfl, hp5⟩
          clear hend y0 y1 y2 y3
          have HX5 := Lib.hid (HX4.out.pure hp5)
          have H5 := Lib.hid (H4.out.keep hp5)
          have HS5 := Lib.hid (HS4.out.trans (Chg.of_pure hp5))
          obtain ⟨y0, y1, y2, y3⟩ := HX5.out
          have hby5 := HX5.out.lt
          simp only at y0 y1 y2 y3
          clear hp5
          go_wp2_with fail
          refine (HIH.out t1 (k + 1) u' (updL live' k u') _ _ _ (by have := HL.out; have := HSZ.out; have := Htl.out; omega) Hok.out.2.2.1 Hseg.out.loop.2.1 (by have := Hen.out; omega) hu' H5.out (by omega) (by have := Hen.out; omega)).mono ?_
          rintro e w6 ⟨rfl, hr6, hs6⟩
          have H6 := Lib.hid hr6
          have HS6 := Lib.hid (HS5.out.trans hs6)
          clear y0 y1 y2 y3
          have HX6 := Lib.hid (HX5.out.chg hs6 HNB.out)
          clear hr6 hs6
          obtain ⟨gb, Hgb⟩ : ∃ gb, Hid (wr.heap.size = gb) := ⟨_, rfl⟩
          rw [Hgb.out]
          go_wp2_with fail
          go_loopg [17, 16] u' (fun g2 ee hh wq => ∃ h : Nat, g2 = h ∧ ee = .int .i64 ((uni t1 h).1 : Nat) ∧ hh = .int .i64 (h : Nat) ∧ h < 16 ∧ uHead t1 h = uHead t1 u' ∧ UR w0 (.slice (some ⟨b, ob, none⟩) cs.length cA) (.slice (some ⟨g, off, none⟩) cs.length cg) cs wq (lay cs (updL live' k u') (k + 1) (uni t1 h).2) ∧ Chg (fun k => (Value.slice (some ⟨g, off, none⟩) cs.length cg).ownBlock = some k) w wq ∧ UBox wq gb ⟨13, an, cb, 0⟩)
          case atStart => exact ⟨u', rfl, rfl, rfl, hu', rfl, H6.out, HS6.out, by rw [← Hgb.out]; exact HX6.out⟩
          case round =>
            obtain ⟨h, hg2e, rfl, rfl, hh16, hhd, hrq, hsq, hxq⟩ := hrel
            have Hg2 := Lib.hid hg2e
            have HHD := Lib.hid hhd
            have HRQ := Lib.hid hrq
            have HSQ := Lib.hid hsq
            have HXQ := Lib.hid hxq
            clear hg2e hhd hrq hsq hxq H6 HS6 HX6
            obtain ⟨m, Hm⟩ : ∃ m, Hid ((uni t1 h).1 = m) := ⟨_, rfl⟩
            have hm16 : m < 16 := by rw [← Hm.out]; exact uni_lt t1 h Hok.out.2.2.1 hh16
            rw [Hm.out]
            obtain ⟨x, Hx⟩ : ∃ x, Hid (uTurn t1 h = x) := ⟨_, rfl⟩
            have hand1 : bits .and .i64 (m : Int) (h : Int) = (x : Int) := by rw [and16 hm16 hh16, Nat.and_comm, ← Hm.out]; exact congrArg _ Hx.out
            have hand2 : bits .and .i64 (h : Int) (m : Int) = (x : Int) := by rw [and16 hh16 hm16, ← Hm.out]; exact congrArg _ Hx.out
            have hxle : x ≤ h := by rw [← Hx.out]; exact uTurn_le t1 h
            by_cases hxh : x = h
            · subst hxh
              have hne : ((x : Int) != (x : Int)) = false := by simp
              have hfix : uHead t1 u' = x := by rw [← HHD.out]; exact uHead_stop Hx.out
              have HFIX := Lib.hid hfix
              obtain ⟨y0, y1, y2, y3⟩ := HXQ.out
              have hbyq := HXQ.out.lt
              simp only at y0 y1 y2 y3
              clear hfix
              have hnn := digit_nonneg x an
              have hbit := digit_eq0 x an
              have HUI : Hid (uLoop (an : Int) t1 u' = if x.testBit an then x else del u' (writ t1)) := Lib.hid (by unfold uLoop; rw [Int.toNat_natCast, HFIX.out])
              obtain ⟨D, HD⟩ : ∃ D, Hid (x.testBit an = D) := ⟨_, rfl⟩
              rw [HD.out] at hbit HUI
              cases D
              · have hbit' : (((x : Int) / 2 ^ an) % 2 == 0) = true := hbit
                have hwr : wrTo cs (k + 1) t1.len = writ t1 := wrTo_tree t1 _ Hseg.out.loop.2.1
                obtain ⟨q, Hq⟩ : ∃ q, Hid (writ t1 = q) := ⟨_, rfl⟩
                have hq16 : q < 16 := by rw [← Hq.out]; exact writ_lt t1 Hok.out.2.2.1
                rw [Hq.out] at hwr
                have HWR := Lib.hid hwr
                obtain ⟨v, Hv⟩ : ∃ v, Hid (del u' q = v) := ⟨_, rfl⟩
                have hdel : bits .andNot .i64 (u' : Int) (q : Int) = (v : Int) := by rw [not16 hu' hq16]; exact congrArg _ Hv.out
                have HV16 : Hid (v < 16) := Lib.hid (by rw [← Hv.out]; exact del_lt' hu')
                have HUI2 : Hid (uLoop (an : Int) t1 u' = v) := Lib.hid (by rw [HUI.out, Hq.out, Hv.out]; rfl)
                clear hbit hwr
                go_wp2_with fail
                refine (swritten_any _ cs (k + 1) t1.len _ _ _ (HRQ.out.codes.keep HRQ.out.pure) HV.out.1 (by have := Hen.out; omega) (by omega) (by omega) (by have := Hen.out; omega)).mono ?_
                rintro e w7 ⟨rfl, hp7⟩
                rw [HWR.out]
                have HP7 := Lib.hid hp7
                clear hp7
                go_wp2_with fail
                go_roundg tk.len
                case measure => have := Hgk.out; have := HL.out; omega
                case rel =>
                  exact ⟨tk, en + 1, v, _, rfl, by have := Hto.out; have := HL.out; have := Hen.out; omega, by have := Htl.out; have := HL.out; omega, by go_num, rfl, HV16.out, Hok.out.2.2.2, by rw [← Hen.out]; exact Hseg.out.loop.2.2.2.2, HRQ.out.keep HP7.out, HSQ.out.trans (Chg.of_pure HP7.out), by rw [← HN1.out, uni_loop, HUI2.out], by rw [← HN2.out, uni_loop, HUI2.out, lay_loop Hseg.out (uni_len t1 _), Hen.out, HFIX.out]⟩
              · have hbit' : (((x : Int) / 2 ^ an) % 2 == 0) = false := hbit
                have HUI2 : Hid (uLoop (an : Int) t1 u' = x) := Lib.hid (by rw [HUI.out]; rfl)
                clear hbit
                go_wp2_with fail
                go_roundg tk.len
                case measure => have := Hgk.out; have := HL.out; omega
                case rel =>
                  exact ⟨tk, en + 1, x, _, rfl, by have := Hto.out; have := HL.out; have := Hen.out; omega, by have := Htl.out; have := HL.out; omega, by go_num, rfl, hh16, Hok.out.2.2.2, by rw [← Hen.out]; exact Hseg.out.loop.2.2.2.2, HRQ.out, HSQ.out, by rw [← HN1.out, uni_loop, HUI2.out], by rw [← HN2.out, uni_loop, HUI2.out, lay_loop Hseg.out (uni_len t1 _), Hen.out, HFIX.out]⟩
            · have hne : ((x : Int) != (h : Int)) = true := by rw [bne_iff_ne]; omega
              have hx16 : x < 16 := by omega
              have hlt2 : x < h := by omega
              clear hxh
              go_wp2_with fail
              refine (HIH.out t1 (k + 1) x _ _ _ _ (by have := HL.out; have := HSZ.out; have := Htl.out; omega) Hok.out.2.2.1 Hseg.out.loop.2.1 (by have := Hen.out; omega) hx16 HRQ.out (by omega) (by have := Hen.out; omega)).mono ?_
              rintro e w7 ⟨rfl, hr7, hs7⟩
              rw [lay_lay cs _ _ (by rw [uni_len, uni_len])] at hr7
              have H7 := Lib.hid hr7
              have HS7 := Lib.hid (HSQ.out.trans hs7)
              have HX7 := Lib.hid (HXQ.out.chg hs7 (by rw [← Hgb.out]; exact HNB.out))
              clear hr7 hs7
              go_wp2_with fail
              go_roundg x
              case measure => have := Hg2.out; omega
              case rel => exact ⟨x, rfl, rfl, rfl, hx16, by rw [← Hx.out, uHead_turn t1 hh16, HHD.out], H7.out, HS7.out, HX7.out⟩

end Go.Proofs.Ytokdfgodmhekmaa

namespace Go.Proofs.Ytokdfgodmhekmaa
open Go.RowKit

/-- The table under way, with the object that the program keeps. -/
structure UI (w0 : World) (vl va vn vo : Value) (p : Nat) (cs : List Cd) (w : World) (live : Nat → Nat) : Prop where
  ur : UR w0 vl vo cs w live
  tabs : Tabs w0 va vn cs
  lo : w0.heap.size ≤ p
  o0 : w.cell? ⟨p, 0, none⟩ = some vl
  o1 : w.cell? ⟨p, 1, none⟩ = some vn
  o2 : w.cell? ⟨p, 2, none⟩ = some vo
  ne : ¬ vo.ownBlock = some p
section
variable {w0 w w' : World} {vl va vn vo : Value} {p : Nat} {cs : List Cd} {live : Nat → Nat}
theorem UI.lt (h : UI w0 vl va vn vo p cs w live) : p < w.heap.size := World.block_lt_of_cell? _ _ h.o0
theorem UI.keep (h : UI w0 vl va vn vo p cs w live) (hp : Pure w w') : UI w0 vl va vn vo p cs w' live :=
  ⟨h.ur.keep hp, h.tabs, h.lo, (hp.cell _ _ h.lt).trans h.o0, (hp.cell _ _ h.lt).trans h.o1, (hp.cell _ _ h.lt).trans h.o2, h.ne⟩
theorem UI.put {g off c k v : Nat} (h : UI w0 vl va vn (.slice (some ⟨g, off, none⟩) cs.length c) p cs w live) (hk : k < cs.length) :
    UI w0 vl va vn (.slice (some ⟨g, off, none⟩) cs.length c) p cs (w.setCell ⟨g, off + k, none⟩ (.int .i64 (v : Nat))) (updL live k v) := by
  have hc : Chg (fun k => (Value.slice (some ⟨g, off, none⟩) cs.length c).ownBlock = some k) w (w.setCell ⟨g, off + k, none⟩ (.int .i64 (v : Nat))) := Chg.of_set w g _ _ (by rfl)
  exact ⟨h.ur.put hk, h.tabs, h.lo, (hc.cell h.lt h.ne).trans h.o0, (hc.cell h.lt h.ne).trans h.o1, (hc.cell h.lt h.ne).trans h.o2, h.ne⟩
end

set_option maxHeartbeats 1000000 in
theorem iwritin_any (w0 : World) (vl va vn vo : Value) (p : Nat) (cs : List Cd) (live : Nat → Nat) (i n : Nat) (w : World) (fr to : Int) (h : UI w0 vl va vn vo p cs w live) (hv : ∀ c ∈ cs, CdOk c) (hn0 : 0 < n) (hn : i + n ≤ cs.length) (hs : cs.length ≤ 64) (hfr : fr = (i : Nat)) (hto : to = ((i + n : Nat) : Int)) :
    Calls Try.prog 125 #[.pointer (some ⟨p, 0, none⟩), .int .i64 fr, .int .i64 to] w fun e w' => e = .returned (.int .i64 (wrTo cs i n : Nat)) ∧ Pure w w' := by
  have H := Lib.hid h
  have HV := Lib.hid hv
  obtain ⟨A, cA, rfl, hnc, hcm⟩ := h.ur.codes.form
  obtain ⟨b, o, rfl, hb, _⟩ := h.ur.codes.at_ (k := i) (by omega)
  have hbw : b < w.heap.size := Nat.lt_of_lt_of_le hb h.ur.pure.size
  have q0 := h.o0
  obtain ⟨en, Hen⟩ : ∃ en, Hid (i + n = en) := ⟨_, rfl⟩
  subst hfr hto
  rw [Hen.out]
  have hie : i < en := by have := Hen.out; omega
  have hel : en ≤ cs.length := by have := Hen.out; omega
  have hz1 : ¬ ((cA : Int) - (i : Int) = 0) := by omega
  have hz2 : ¬ (cA - i = 0) := by omega
  have hz3 : ¬ (cA = i) := by omega
  have hz4 : ¬ ((cA : Int) = (i : Int)) := by omega
  clear h hv
  go_enter Try.func125, Try.ntmps125
  go_wp2_with fail
  go_loopg [18, 7] n (fun gk kk s wr => ∃ j : Nat, gk + j = n ∧ kk = .int .i64 (j : Nat) ∧ s = .int .i64 (wrTo cs i j : Nat) ∧ Pure w wr)
  case atStart => exact ⟨0, rfl, rfl, rfl, Pure.refl _⟩
  case round =>
    obtain ⟨j, hgk, rfl, rfl, hp⟩ := hrel
    have Hgk := Lib.hid hgk
    have hjn : j ≤ n := by omega
    clear hgk
    by_cases hj : j < n
    · obtain ⟨b2, o2, hbe, _, hc⟩ := H.out.ur.codes.at_ (k := i + j) (by omega)
      injection hbe with hbe
      injection hbe with e1 e2
      subst e1 e2
      obtain ⟨cd, Hcd⟩ : ∃ cd, Hid (cs.getD (i + j) default = cd) := ⟨_, rfl⟩
      rw [Hcd.out] at hc
      have hok : CdOk cd := by rw [← Hcd.out]; exact HV.out _ (cdOk_mem (by omega))
      have HOK := Lib.hid hok
      rw [show o + (i + j) * 4 = o + i * 4 + j * 4 by omega] at hc
      obtain ⟨q0', q1, q2, q3⟩ := hc.keep (H.out.ur.pure.trans hp) hb
      obtain ⟨s, Hs⟩ : ∃ s, Hid (wrTo cs i j = s) := ⟨_, rfl⟩
      rw [Hs.out]
      have hs16 : s < 16 := by rw [← Hs.out]; exact wrTo_lt HV.out i j (by omega)
      obtain ⟨op, ca, cb, cc⟩ := cd
      simp only at q0' q1 q2 q3
      have hx := UBox.new wr ⟨op, ca, cb, cc⟩ (Pure.refl _)
      obtain ⟨y0, y1, y2, y3⟩ := hx.1
      have hpx := Lib.hid (hp.trans hx.2)
      simp only at y0 y1 y2 y3
      obtain ⟨x, Hx⟩ : ∃ x, Hid (wst ⟨op, ca, cb, cc⟩ = x) := ⟨_, rfl⟩
      have hx16 : x < 16 := by rw [← Hx.out]; exact wr_lt hok
      have hnext : wrTo cs i (j + 1) = s ||| x := by
        show wrTo cs i j ||| wst (cs.getD (i + j) default) = _
        rw [Hs.out, Hcd.out, Hx.out]
      have Hnext := Lib.hid hnext
      have hor : bits .or .i64 (s : Int) (x : Int) = ((s ||| x : Nat) : Int) := or16 hs16 hx16
      obtain ⟨z, Hz⟩ : ∃ z, Hid (s ||| x = z) := ⟨_, rfl⟩
      rw [Hz.out] at hor
      have hkn : (j : Int) < (en : Int) - (i : Int) := by have := Hen.out; omega
      clear hnext hc hok hx hp
      go_wp2_with fail
      refine (iwritten_any ⟨op, ca, cb, cc⟩ _ HOK.out).mono ?_
      rintro e w3 ⟨rfl, hp3⟩
      rw [Hx.out]
      have hpp := hpx.out.trans hp3
      go_wp2
      go_roundg (n - (j + 1))
      case measure => have := Hgk.out; omega
      case rel => exact ⟨j + 1, by have := Hgk.out; omega, by go_num, by rw [Hnext.out, Hz.out], hpp⟩
    · have hjl : j = n := by omega
      subst hjl
      have hkn : ¬ ((j : Int) < (en : Int) - (i : Int)) := by have := Hen.out; omega
      go_wp2
      go_ret
      exact ⟨rfl, hp⟩

/-- The contract of the walk, for trees up to a length. -/
def RunU (w0 : World) (vl va vn vo : Value) (p : Nat) (cs : List Cd) (sz : Nat) : Prop :=
  ∀ (t : Tr) (i u : Nat) (live : Nat → Nat) (w : World) (fr to : Int), t.len ≤ sz → t.Ok → Seg cs i t → i + t.len ≤ cs.length → u < 16 →
    UI w0 vl va vn vo p cs w live → fr = (i : Nat) → to = ((i + t.len : Nat) : Int) →
    Calls Try.prog 101 #[.pointer (some ⟨p, 0, none⟩), .int .i64 fr, .int .i64 to, .int .i64 (u : Nat)] w
      fun e w' => e = .returned (.int .i64 ((uni t u).1 : Nat)) ∧ UI w0 vl va vn vo p cs w' (lay cs live i (uni t u).2) ∧ Chg (fun k => vo.ownBlock = some k) w w'

end Go.Proofs.Ytokdfgodmhekmaa

namespace Go.Proofs.Ytokdfgodmhekmaa
open Go.RowKit

theorem bit16' : ∀ a : Fin 16, ∀ b : Fin 4, bits .and .i64 ((a.val : Int) / 2 ^ b.val) 1 = if a.val.testBit b.val then 1 else 0 := by decide +kernel
theorem bit16 {a b : Nat} (ha : a < 16) (hb : b < 4) : bits .and .i64 ((a : Int) / 2 ^ b) 1 = if a.testBit b then 1 else 0 := bit16' ⟨a, ha⟩ ⟨b, hb⟩
theorem UI.own {w0 w : World} {vl va vn vo : Value} {p : Nat} {cs : List Cd} {live : Nat → Nat} (h : UI w0 vl va vn vo p cs w live) {k : Nat} (hk : k < cs.length) (ho : Opens (cs.getD k default)) :
    ∃ c bo oo gb, vn = .slice (some ⟨bo, oo, none⟩) cs.length c ∧ cs.length ≤ c ∧ c ≤ 9223372036854775807 ∧ bo < w0.heap.size ∧ gb < w0.heap.size ∧ w0.cell? ⟨bo, oo + k, none⟩ = some (.pointer (some ⟨gb, 0, none⟩)) ∧
      w0.cell? ⟨gb, 1, none⟩ = some (.int .i64 (endAt cs k).2) ∧ w0.cell? ⟨gb, 2, none⟩ = some (.int .i64 (endAt cs k).1) := by
  obtain ⟨A, c, h1, h2, h3, bo, oo, h4, h5, h6, _⟩ := h.tabs.own hk
  obtain ⟨gb, g1, g2, _, g4, g5⟩ := h6 k (by unfold ownOf; rw [if_pos ho]) hk ho
  exact ⟨c, bo, oo, gb, by rw [h1, h4], h2, h3, h5, g2, g1, g4, g5⟩

set_option maxHeartbeats 4000000 in
set_option maxRecDepth 100000 in
theorem ibr_if (w0 : World) (vl va vn vo : Value) (p : Nat) (cs : List Cd) (hv : PValid cs) (sz : Nat) (hrun : RunU w0 vl va vn vo p cs sz) (a : Int) (t1 tk : Tr) (k u : Nat) (live : Nat → Nat) (w : World)
    (hsz : t1.len ≤ sz) (hok : (Tr.ite a t1 tk).Ok) (hseg : Seg cs k (.ite a t1 tk)) (hu : u < 16) (h : UI w0 vl va vn vo p cs w live) :
    Calls Try.prog 115 #[.pointer (some ⟨p, 0, none⟩), .int .i64 (k : Nat), .int .i64 (u : Nat)] w
      fun e w' => e = .returned (.int .i64 (uIf a t1 u : Nat)) ∧ UI w0 vl va vn vo p cs w' (lay cs live (k + 1) (uni t1 u).2) ∧ Chg (fun k => vo.ownBlock = some k) w w' := by
  have HV := Lib.hid hv
  have HRUN := Lib.hid hrun
  have HOK := Lib.hid hok
  have HSEG := Lib.hid hseg
  have H := Lib.hid h
  have hsmall := hv.2.1
  obtain ⟨ha0, ha3⟩ := hok.1
  obtain ⟨an, rfl⟩ := Int.eq_ofNat_of_zero_le ha0
  have han : an < 4 := by omega
  have hend := (end_ite hok hseg).1
  have hen1 := hseg.ite.2.2.2.1
  obtain ⟨en, Hen⟩ : ∃ en, Hid (k + 1 + t1.len = en) := ⟨_, rfl⟩
  rw [Hen.out] at hend hen1
  have hkn : k < en := by have := Hen.out; omega
  have hk : k < cs.length := by omega
  obtain ⟨A, cA, rfl, hnc, hcm⟩ := h.ur.codes.form
  obtain ⟨b, o, rfl, hb, hc⟩ := h.ur.codes.at_ hk
  rw [hseg.ite.1] at hc
  have HC := Lib.hid hc
  obtain ⟨cn, bo, oo, gb, rfl, hn1, hn2, hbo, hgb, x0, x1, x2⟩ := h.own hk (by rw [hseg.ite.1]; exact opens_if _)
  rw [hend] at x1 x2
  have X := Lib.hid (And.intro x0 (And.intro x1 x2))
  have HP0 := Lib.hid h.ur.pure
  have q0 := h.o0
  have q1 := h.o1
  have z0 := (h.ur.pure.cell _ _ hbo).trans x0
  have z1 := (h.ur.pure.cell _ _ hgb).trans x1
  have z2 := (h.ur.pure.cell _ _ hgb).trans x2
  have hkl : (k : Int) < (cs.length : Int) := by omega
  try simp only at z1 z2
  clear hv hrun hok hseg h hend hc x0 x1 x2
  go_enter Try.func115, Try.ntmps115
  go_wp2_with fail
  refine (HRUN.out t1 (k + 1) u live _ _ _ hsz HOK.out.2.1 HSEG.out.ite.2.1 (by have := Hen.out; omega) hu H.out (by omega) (by have := Hen.out; omega)).mono ?_
  rintro e w1 ⟨rfl, hu1, hc1⟩
  have H1 := Lib.hid hu1
  have HC1 := Lib.hid hc1
  have q0' := hu1.o0
  have q1' := hu1.o1
  clear z0 z1 z2 q0 q1
  have z0 := (hu1.ur.pure.cell _ _ hbo).trans X.out.1
  have z1 := (hu1.ur.pure.cell _ _ hgb).trans X.out.2.1
  have z2 := (hu1.ur.pure.cell _ _ hgb).trans X.out.2.2
  obtain ⟨c0, c1, c2, c3⟩ := HC.out.keep hu1.ur.pure hb
  try simp only at z1 z2
  have hca : w1.cell? ⟨b, o + k * 4 + 1, none⟩ = some (.int .i64 (an : Int)) := c1
  clear hu1 hc1 c0 c1 c2 c3
  obtain ⟨m, Hm⟩ : ∃ m, Hid ((uni t1 u).1 = m) := ⟨_, rfl⟩
  have hm16 : m < 16 := by rw [← Hm.out]; exact uni_lt t1 u HOK.out.2.1 hu
  rw [Hm.out]
  obtain ⟨x, Hx⟩ : ∃ x, Hid (u &&& m = x) := ⟨_, rfl⟩
  have hand : bits .and .i64 (m : Int) (u : Int) = (x : Int) := by rw [and16 hm16 hu, Nat.and_comm, Hx.out]
  have HUI : Hid (uIf (an : Int) t1 u = if u.testBit an then x else del u (writ t1)) := Lib.hid (by unfold uIf; rw [Int.toNat_natCast, Hm.out, Hx.out])
  have hbit := bit16 hu han
  obtain ⟨D, HD⟩ : ∃ D, Hid (u.testBit an = D) := ⟨_, rfl⟩
  rw [HD.out] at hbit HUI
  cases D
  · have hbit' : bits .and .i64 ((u : Int) / 2 ^ an) 1 = 0 := hbit
    have hwr : wrTo cs k (t1.len + 1) = writ t1 := by
      rw [wrTo_head, HSEG.out.ite.1, wst_zero (.inl rfl), Nat.zero_or]; exact wrTo_tree t1 _ HSEG.out.ite.2.1
    obtain ⟨q, Hq⟩ : ∃ q, Hid (writ t1 = q) := ⟨_, rfl⟩
    have hq16 : q < 16 := by rw [← Hq.out]; exact writ_lt t1 HOK.out.2.1
    rw [Hq.out] at hwr
    have HWR := Lib.hid hwr
    obtain ⟨v, Hv⟩ : ∃ v, Hid (del u q = v) := ⟨_, rfl⟩
    have hdel : bits .andNot .i64 (u : Int) (q : Int) = (v : Int) := by rw [not16 hu hq16]; exact congrArg _ Hv.out
    have HUI2 : Hid (uIf (an : Int) t1 u = v) := Lib.hid (by rw [HUI.out, Hq.out, Hv.out]; rfl)
    clear hbit hwr
    go_wp2_with fail
    refine (iwritin_any w0 _ va _ vo p cs _ k (t1.len + 1) _ _ _ H1.out HV.out.1 (by omega) (by have := Hen.out; omega) (by omega) rfl (by have := Hen.out; omega)).mono ?_
    rintro e w7 ⟨rfl, hp7⟩
    rw [HWR.out]
    have HP7 := Lib.hid hp7
    clear hp7
    go_wp2_with fail
    go_ret
    exact ⟨by rw [HUI2.out]; rfl, H1.out.keep HP7.out, HC1.out.trans (Chg.of_pure HP7.out)⟩
  · have hbit' : bits .and .i64 ((u : Int) / 2 ^ an) 1 = 1 := hbit
    have HUI2 : Hid (uIf (an : Int) t1 u = x) := Lib.hid (by rw [HUI.out]; rfl)
    clear hbit
    go_wp2_with fail
    go_ret
    exact ⟨by rw [HUI2.out]; rfl, H1.out, HC1.out⟩

set_option maxHeartbeats 4000000 in
set_option maxRecDepth 100000 in
theorem ibr_ife (w0 : World) (vl va vn vo : Value) (p : Nat) (cs : List Cd) (hv : PValid cs) (sz : Nat) (hrun : RunU w0 vl va vn vo p cs sz) (a : Int) (t1 t2 tk : Tr) (k u : Nat) (live : Nat → Nat) (w : World)
    (hsz : t1.len ≤ sz) (hsz2 : t2.len ≤ sz) (hok : (Tr.itee a t1 t2 tk).Ok) (hseg : Seg cs k (.itee a t1 t2 tk)) (hu : u < 16) (h : UI w0 vl va vn vo p cs w live) :
    Calls Try.prog 115 #[.pointer (some ⟨p, 0, none⟩), .int .i64 (k : Nat), .int .i64 (u : Nat)] w
      fun e w' => e = .returned (.int .i64 (uIfe a t1 t2 u : Nat)) ∧ UI w0 vl va vn vo p cs w' (lay cs (lay cs live (k + 1) (uni t1 u).2) (k + 1 + t1.len + 1) (uni t2 u).2) ∧ Chg (fun k => vo.ownBlock = some k) w w' := by
  have HV := Lib.hid hv
  have HRUN := Lib.hid hrun
  have HOK := Lib.hid hok
  have HSEG := Lib.hid hseg
  have H := Lib.hid h
  have hsmall := hv.2.1
  obtain ⟨ha0, ha3⟩ := hok.1
  obtain ⟨an, rfl⟩ := Int.eq_ofNat_of_zero_le ha0
  have han : an < 4 := by omega
  have hend := (end_itee hok hseg).1
  have hen1 := hseg.itee.2.2.2.2.2.1
  obtain ⟨on, Hon⟩ : ∃ on, Hid (k + 1 + t1.len = on) := ⟨_, rfl⟩
  obtain ⟨en, Hen⟩ : ∃ en, Hid (k + 1 + t1.len + 1 + t2.len = en) := ⟨_, rfl⟩
  rw [Hen.out, Hon.out] at hend
  rw [Hen.out] at hen1
  have hon1 : on < en := by have := Hen.out; have := Hon.out; omega
  have hkn : k < on := by have := Hon.out; omega
  have hk : k < cs.length := by omega
  obtain ⟨A, cA, rfl, hnc, hcm⟩ := h.ur.codes.form
  obtain ⟨b, o, rfl, hb, hc⟩ := h.ur.codes.at_ hk
  rw [hseg.itee.1] at hc
  have HC := Lib.hid hc
  obtain ⟨cn, bo, oo, gb, rfl, hn1, hn2, hbo, hgb, x0, x1, x2⟩ := h.own hk (by rw [hseg.itee.1]; exact opens_if _)
  rw [hend] at x1 x2
  have X := Lib.hid (And.intro x0 (And.intro x1 x2))
  have q0 := h.o0
  have q1 := h.o1
  have z0 := (h.ur.pure.cell _ _ hbo).trans x0
  have z1 := (h.ur.pure.cell _ _ hgb).trans x1
  have z2 := (h.ur.pure.cell _ _ hgb).trans x2
  have hkl : (k : Int) < (cs.length : Int) := by omega
  have hon0 : (0 : Int) ≤ (on : Int) := by omega
  try simp only at z1 z2
  clear hv hrun hok hseg h hend hc x0 x1 x2
  go_enter Try.func115, Try.ntmps115
  go_wp2_with fail
  refine (HRUN.out t1 (k + 1) u live _ _ _ hsz HOK.out.2.1 HSEG.out.itee.2.1 (by have := Hon.out; omega) hu H.out (by omega) (by have := Hon.out; omega)).mono ?_
  rintro e w1 ⟨rfl, hu1, hc1⟩
  have H1 := Lib.hid hu1
  have HC1 := Lib.hid hc1
  have q0' := hu1.o0
  have q1' := hu1.o1
  clear z0 z1 z2 q0 q1
  have z0 := (hu1.ur.pure.cell _ _ hbo).trans X.out.1
  have z1 := (hu1.ur.pure.cell _ _ hgb).trans X.out.2.1
  have z2 := (hu1.ur.pure.cell _ _ hgb).trans X.out.2.2
  try simp only at z1 z2
  clear hu1 hc1
  obtain ⟨m, Hm⟩ : ∃ m, Hid ((uni t1 u).1 = m) := ⟨_, rfl⟩
  have hm16 : m < 16 := by rw [← Hm.out]; exact uni_lt t1 u HOK.out.2.1 hu
  rw [Hm.out]
  go_wp2_with fail
  refine region_tail 11 (by kernel_rfl) (by kernel_rfl) ?_
  simp only [List.take_succ_cons, List.take_zero, List.drop_succ_cons, List.drop_zero]
  repeat still_step
  refine wpStill_nil ?_
  go_wp2_with fail
  refine (HRUN.out t2 (on + 1) u (lay cs live (k + 1) (uni t1 u).2) _ _ _ hsz2 HOK.out.2.2.1 (by rw [← Hon.out]; exact HSEG.out.itee.2.2.2.1) (by have := Hon.out; have := Hen.out; omega) hu (H1.out.keep (by exact (by repeat (first | assumption | exact Pure.refl _ | refine Pure.drewN ?_ _ | refine Pure.drew ?_ | refine Pure.alloc ?_ _ | refine Pure.setCell ?_ (by simp <;> omega) _)))) (by omega) (by have := Hon.out; have := Hen.out; omega)).mono ?_
  rintro e w2 ⟨rfl, hu2, hc2⟩
  have H2 := Lib.hid hu2
  have HC2 : Hid (Chg (fun k => vo.ownBlock = some k) w w2) := Lib.hid (HC1.out.trans ((Chg.of_pure (by exact (by repeat (first | assumption | exact Pure.refl _ | refine Pure.drewN ?_ _ | refine Pure.drew ?_ | refine Pure.alloc ?_ _ | refine Pure.setCell ?_ (by simp <;> omega) _)))).trans hc2))
  clear z0 z1 z2 q0' q1'
  have q0' := hu2.o0
  have q1' := hu2.o1
  have z0 := (hu2.ur.pure.cell _ _ hbo).trans X.out.1
  have z1 := (hu2.ur.pure.cell _ _ hgb).trans X.out.2.1
  have z2 := (hu2.ur.pure.cell _ _ hgb).trans X.out.2.2
  obtain ⟨c0, c1, c2, c3⟩ := HC.out.keep hu2.ur.pure hb
  try simp only at z1 z2
  have hca : w2.cell? ⟨b, o + k * 4 + 1, none⟩ = some (.int .i64 (an : Int)) := c1
  clear hu2 hc2 c0 c1 c2 c3
  obtain ⟨m2, Hm2⟩ : ∃ m, Hid ((uni t2 u).1 = m) := ⟨_, rfl⟩
  have hm216 : m2 < 16 := by rw [← Hm2.out]; exact uni_lt t2 u HOK.out.2.2.1 hu
  rw [Hm2.out]
  obtain ⟨x, Hx⟩ : ∃ x, Hid (m &&& m2 = x) := ⟨_, rfl⟩
  have hand : bits .and .i64 (m : Int) (m2 : Int) = (x : Int) := by rw [and16 hm16 hm216, Hx.out]
  have HUI : Hid (uIfe (an : Int) t1 t2 u = if u.testBit an then x else del u (writ t1 ||| writ t2)) := Lib.hid (by unfold uIfe; rw [Int.toNat_natCast, Hm.out, Hm2.out, Hx.out])
  have hbit := bit16 hu han
  obtain ⟨D, HD⟩ : ∃ D, Hid (u.testBit an = D) := ⟨_, rfl⟩
  rw [HD.out] at hbit HUI
  cases D
  · have hbit' : bits .and .i64 ((u : Int) / 2 ^ an) 1 = 0 := hbit
    have hwr : wrTo cs k (t1.len + (t2.len + 1) + 1) = writ t1 ||| writ t2 := by
      obtain ⟨q1, q2, q3, q4, _⟩ := HSEG.out.itee
      rw [wrTo_head, q1, wst_zero (.inl rfl), Nat.zero_or, wrTo_add, wrTo_tree t1 _ q2, wrTo_head, q3, wrTo_tree t2 _ q4, wst_zero (.inr (.inl rfl)), Nat.zero_or]
    obtain ⟨q, Hq⟩ : ∃ q, Hid (writ t1 ||| writ t2 = q) := ⟨_, rfl⟩
    have hq16 : q < 16 := by rw [← Hq.out]; exact or_lt (writ_lt t1 HOK.out.2.1) (writ_lt t2 HOK.out.2.2.1)
    rw [Hq.out] at hwr
    have HWR := Lib.hid hwr
    obtain ⟨v, Hv⟩ : ∃ v, Hid (del u q = v) := ⟨_, rfl⟩
    have hdel : bits .andNot .i64 (u : Int) (q : Int) = (v : Int) := by rw [not16 hu hq16]; exact congrArg _ Hv.out
    have HUI2 : Hid (uIfe (an : Int) t1 t2 u = v) := Lib.hid (by rw [HUI.out, Hq.out, Hv.out]; rfl)
    clear hbit hwr
    go_wp2_with fail
    refine (iwritin_any w0 _ va _ vo p cs _ k (t1.len + (t2.len + 1) + 1) _ _ _ H2.out HV.out.1 (by omega) (by have := Hen.out; omega) (by omega) rfl (by have := Hen.out; omega)).mono ?_
    rintro e w7 ⟨rfl, hp7⟩
    rw [HWR.out]
    have HP7 := Lib.hid hp7
    clear hp7
    go_wp2_with fail
    go_ret
    exact ⟨by rw [HUI2.out]; rfl, by rw [Hon.out]; exact H2.out.keep HP7.out, HC2.out.trans (Chg.of_pure HP7.out)⟩
  · have hbit' : bits .and .i64 ((u : Int) / 2 ^ an) 1 = 1 := hbit
    have HUI2 : Hid (uIfe (an : Int) t1 t2 u = x) := Lib.hid (by rw [HUI.out]; rfl)
    clear hbit
    go_wp2_with fail
    go_ret
    exact ⟨by rw [HUI2.out]; rfl, by rw [Hon.out]; exact H2.out, HC2.out⟩

set_option maxHeartbeats 4000000 in
set_option maxRecDepth 100000 in
theorem ilp_any (w0 : World) (vl va vn vo : Value) (p : Nat) (cs : List Cd) (hv : PValid cs) (sz : Nat) (hrun : RunU w0 vl va vn vo p cs sz) (a lb : Int) (t1 tk : Tr) (k u : Nat) (live : Nat → Nat) (w : World)
    (hsz : t1.len ≤ sz) (hok : (Tr.loop a lb t1 tk).Ok) (hseg : Seg cs k (.loop a lb t1 tk)) (hu : u < 16) (h : UI w0 vl va vn vo p cs w live) :
    Calls Try.prog 116 #[.pointer (some ⟨p, 0, none⟩), .int .i64 (k : Nat), .int .i64 (u : Nat)] w
      fun e w' => e = .returned (.int .i64 (uLoop a t1 u : Nat)) ∧ UI w0 vl va vn vo p cs w' (lay cs live (k + 1) (uni t1 (uHead t1 u)).2) ∧ Chg (fun k => vo.ownBlock = some k) w w' := by
  have HV := Lib.hid hv
  have HRUN := Lib.hid hrun
  have HOK := Lib.hid hok
  have HSEG := Lib.hid hseg
  have H := Lib.hid h
  have hsmall := hv.2.1
  obtain ⟨ha0, ha3⟩ := hok.1
  obtain ⟨an, rfl⟩ := Int.eq_ofNat_of_zero_le ha0
  have han : an < 4 := by omega
  have hend := (end_loop hok hseg).1
  have hen1 := hseg.loop.2.2.2.1
  obtain ⟨en, Hen⟩ : ∃ en, Hid (k + 1 + t1.len = en) := ⟨_, rfl⟩
  rw [Hen.out] at hend hen1
  have hkn : k < en := by have := Hen.out; omega
  have hk : k < cs.length := by omega
  obtain ⟨A, cA, rfl, hnc, hcm⟩ := h.ur.codes.form
  obtain ⟨b, o, rfl, hb, hc⟩ := h.ur.codes.at_ hk
  rw [hseg.loop.1] at hc
  have HC := Lib.hid hc
  obtain ⟨cn, bo, oo, gb, rfl, hn1, hn2, hbo, hgb, x0, x1, x2⟩ := h.own hk (by rw [hseg.loop.1]; exact opens_loop _ _)
  rw [hend] at x1 x2
  have X := Lib.hid (And.intro x0 (And.intro x1 x2))
  have q0 := h.o0
  have q1 := h.o1
  have z0 := (h.ur.pure.cell _ _ hbo).trans x0
  have z1 := (h.ur.pure.cell _ _ hgb).trans x1
  have z2 := (h.ur.pure.cell _ _ hgb).trans x2
  have hkl : (k : Int) < (cs.length : Int) := by omega
  try simp only at z1 z2
  clear hv hrun hok hseg h hend hc x0 x1 x2
  go_enter Try.func116, Try.ntmps116
  go_wp2_with fail
  go_loopg [8] u (fun g2 hh wq => ∃ (h : Nat) (lv : Nat → Nat), g2 = h ∧ hh = .int .i64 (h : Nat) ∧ h < 16 ∧ uHead t1 h = uHead t1 u ∧ UI w0 (.slice (some ⟨b, o, none⟩) cs.length cA) va (.slice (some ⟨bo, oo, none⟩) cs.length cn) vo p cs wq lv ∧ (∀ xs : List Nat, xs.length = t1.len → lay cs lv (k + 1) xs = lay cs live (k + 1) xs) ∧ Chg (fun k => vo.ownBlock = some k) w wq)
  case atStart => exact ⟨u, live, rfl, rfl, hu, rfl, H.out, fun _ _ => rfl, Chg.refl _ _⟩
  case round =>
    obtain ⟨h, lv, hg2e, rfl, hh16, hhd, huq, hlq, hcq⟩ := hrel
    have Hg2 := Lib.hid hg2e
    have HHD := Lib.hid hhd
    have HUQ := Lib.hid huq
    have HLQ := Lib.hid hlq
    have HCQ := Lib.hid hcq
    clear z0 z1 z2 q0 q1
    have z1 := (huq.ur.pure.cell _ _ hgb).trans X.out.2.1
    have z2 := (huq.ur.pure.cell _ _ hgb).trans X.out.2.2
    try simp only at z1 z2
    clear hg2e hhd huq hlq hcq
    go_wp2_with fail
    refine (HRUN.out t1 (k + 1) h lv _ _ _ hsz HOK.out.2.2.1 HSEG.out.loop.2.1 (by have := Hen.out; omega) hh16 HUQ.out (by omega) (by have := Hen.out; omega)).mono ?_
    rintro e w1 ⟨rfl, hu1, hc1⟩
    rw [HLQ.out _ (uni_len t1 h)] at hu1
    have H1 := Lib.hid hu1
    have HC1 := Lib.hid (HCQ.out.trans hc1)
    have q0' := hu1.o0
    have q1' := hu1.o1
    clear z1 z2
    have z0 := (hu1.ur.pure.cell _ _ hbo).trans X.out.1
    have z1 := (hu1.ur.pure.cell _ _ hgb).trans X.out.2.1
    have z2 := (hu1.ur.pure.cell _ _ hgb).trans X.out.2.2
    obtain ⟨c0, c1, c2, c3⟩ := HC.out.keep hu1.ur.pure hb
    try simp only at z1 z2
    have hca : w1.cell? ⟨b, o + k * 4 + 1, none⟩ = some (.int .i64 (an : Int)) := c1
    clear hu1 hc1 c0 c1 c2 c3
    obtain ⟨m, Hm⟩ : ∃ m, Hid ((uni t1 h).1 = m) := ⟨_, rfl⟩
    have hm16 : m < 16 := by rw [← Hm.out]; exact uni_lt t1 h HOK.out.2.2.1 hh16
    rw [Hm.out]
    obtain ⟨x, Hx⟩ : ∃ x, Hid (uTurn t1 h = x) := ⟨_, rfl⟩
    have hand2 : bits .and .i64 (h : Int) (m : Int) = (x : Int) := by rw [and16 hh16 hm16, ← Hm.out]; exact congrArg _ Hx.out
    have hxle : x ≤ h := by rw [← Hx.out]; exact uTurn_le t1 h
    by_cases hxh : x = h
    · subst hxh
      have hfix : uHead t1 u = x := by rw [← HHD.out]; exact uHead_stop Hx.out
      have HFIX := Lib.hid hfix
      clear hfix
      have heq : ((x : Int) == (x : Int)) = true := by simp
      have HUI : Hid (uLoop (an : Int) t1 u = if x.testBit an then x else del u (writ t1)) := Lib.hid (by unfold uLoop; rw [Int.toNat_natCast, HFIX.out])
      have hbit := bit16 hh16 han
      obtain ⟨D, HD⟩ : ∃ D, Hid (x.testBit an = D) := ⟨_, rfl⟩
      rw [HD.out] at hbit HUI
      cases D
      · have hbit' : bits .and .i64 ((x : Int) / 2 ^ an) 1 = 0 := hbit
        have hwr : wrTo cs k (t1.len + 1) = writ t1 := by
          rw [wrTo_head, HSEG.out.loop.1, wst_zero (.inr (.inr (.inl rfl))), Nat.zero_or]; exact wrTo_tree t1 _ HSEG.out.loop.2.1
        obtain ⟨q, Hq⟩ : ∃ q, Hid (writ t1 = q) := ⟨_, rfl⟩
        have hq16 : q < 16 := by rw [← Hq.out]; exact writ_lt t1 HOK.out.2.2.1
        rw [Hq.out] at hwr
        have HWR := Lib.hid hwr
        obtain ⟨v, Hv⟩ : ∃ v, Hid (del u q = v) := ⟨_, rfl⟩
        have hdel : bits .andNot .i64 (u : Int) (q : Int) = (v : Int) := by rw [not16 hu hq16]; exact congrArg _ Hv.out
        have HUI2 : Hid (uLoop (an : Int) t1 u = v) := Lib.hid (by rw [HUI.out, Hq.out, Hv.out]; rfl)
        clear hbit hwr
        go_wp2_with fail
        refine (iwritin_any w0 _ va _ vo p cs _ k (t1.len + 1) _ _ _ H1.out HV.out.1 (by omega) (by have := Hen.out; omega) (by omega) rfl (by have := Hen.out; omega)).mono ?_
        rintro e w7 ⟨rfl, hp7⟩
        rw [HWR.out]
        have HP7 := Lib.hid hp7
        clear hp7
        go_wp2_with fail
        go_ret
        exact ⟨by rw [HUI2.out]; rfl, by rw [HFIX.out]; exact H1.out.keep HP7.out, HC1.out.trans (Chg.of_pure HP7.out)⟩
      · have hbit' : bits .and .i64 ((x : Int) / 2 ^ an) 1 = 1 := hbit
        have HUI2 : Hid (uLoop (an : Int) t1 u = x) := Lib.hid (by rw [HUI.out]; rfl)
        clear hbit
        go_wp2_with fail
        go_ret
        exact ⟨by rw [HUI2.out]; rfl, by rw [HFIX.out]; exact H1.out, HC1.out⟩
    · have heq : ((x : Int) == (h : Int)) = false := by rw [beq_eq_false_iff_ne]; omega
      have hx16 : x < 16 := by omega
      have hlt2 : x < h := by omega
      clear hxh
      go_wp2_with fail
      go_roundg x
      case measure => have := Hg2.out; omega
      case rel => exact ⟨x, _, rfl, rfl, hx16, by rw [← Hx.out, uHead_turn t1 hh16, HHD.out], H1.out, fun xs hxs => lay_lay cs _ _ (by rw [uni_len, hxs]), HC1.out⟩

end Go.Proofs.Ytokdfgodmhekmaa
