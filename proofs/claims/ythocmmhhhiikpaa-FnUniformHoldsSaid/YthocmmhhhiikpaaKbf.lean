/- Uniform registers, as the program finds them: a block, by the walk inside it. Uniform registers, as the program finds them: the walk. The sets of uniform registers: the reference's and the program's. Arguments that came in, opened into the words that the walks use. Arguments of instructions that came in, opened into the words that the walks use. No condition. -/
import Derived.ProofKit
import Derived.OpenShut
import Derived.ChangeOld
import Derived.Deep.Matrix
import Derived.Test.YthocmmhhhiikpaaKaa
import Derived.Test.YthocmmhhhiikpaaKac
import Derived.Test.YthocmmhhhiikpaaKad
import Derived.Test.YthocmmhhhiikpaaKaf
import Derived.Test.YthocmmhhhiikpaaKag
import Derived.Test.YthocmmhhhiikpaaKah
import Derived.Test.YthocmmhhhiikpaaKbe

namespace Go.Proofs.Ythocmmhhhiikpaa
open Go.RowKit

theorem bit16' : ∀ a : Fin 16, ∀ b : Fin 4, bits .and .i64 ((a.val : Int) / 2 ^ b.val) 1 = if a.val.testBit b.val then 1 else 0 := by decide +kernel
theorem bit16 {a b : Nat} (ha : a < 16) (hb : b < 4) : bits .and .i64 ((a : Int) / 2 ^ b) 1 = if a.testBit b then 1 else 0 := bit16' ⟨a, ha⟩ ⟨b, hb⟩
theorem UI.own {w0 w : World} {vl va vn vo : Value} {p : Nat} {cs : List Cd} {live : Nat → Nat} (h : UI w0 vl va vn vo p cs w live) {k : Nat} (hk : k < cs.length) (ho : Opens (cs.getD k default)) :
    ∃ c bo oo gb, vn = .slice (some ⟨bo, oo, none⟩) cs.length c ∧ cs.length ≤ c ∧ c ≤ 9223372036854775807 ∧ bo < w0.heap.size ∧ gb < w0.heap.size ∧ w0.cell? ⟨bo, oo + k, none⟩ = some (.pointer (some ⟨gb, 0, none⟩)) ∧
      w0.cell? ⟨gb, 1, none⟩ = some (.int .i64 (endAt cs k).2) ∧ w0.cell? ⟨gb, 2, none⟩ = some (.int .i64 (endAt cs k).1) := by
  obtain ⟨A, c, h1, h2, h3, bo, oo, h4, h5, h6, _⟩ := h.tabs.own hk
  obtain ⟨gb, g1, g2, _, g4, g5⟩ := h6 k (by unfold ownOf; rw [if_pos ho]) hk ho
  exact ⟨c, bo, oo, gb, by rw [h1, h4], h2, h3, h5, g2, g1, g4, g5⟩

set_option maxHeartbeats 4000000 in
set_option maxRecDepth 100000 in
theorem ibr_if (w0 : World) (vl va vn vo : Value) (p : Nat) (cs : List Cd) (hv : PValid cs) (sz : Nat) (hrun : RunU w0 vl va vn vo p cs sz) (a : Int) (t1 tk : Tr) (k u : Nat) (live : Nat → Nat) (w : World)
    (hsz : t1.len ≤ sz) (hok : (Tr.ite a t1 tk).Ok) (hseg : Seg cs k (.ite a t1 tk)) (hu : u < 16) (h : UI w0 vl va vn vo p cs w live) :
    Calls Try.prog 81 #[.pointer (some ⟨p, 0, none⟩), .int .i64 (k : Nat), .int .i64 (u : Nat)] w
      fun e w' => e = .returned (.int .i64 (uIf a t1 u : Nat)) ∧ UI w0 vl va vn vo p cs w' (lay cs live (k + 1) (uni t1 u).2) ∧ Chg (fun k => vo.ownBlock = some k) w w' := by
  have HV := Lib.hid hv
  have HRUN := Lib.hid hrun
  have HOK := Lib.hid hok
  have HSEG := Lib.hid hseg
  have H := Lib.hid h
  have hsmall := hv.2.1
  obtain ⟨ha0, ha3⟩ := hok.1
  obtain ⟨an, rfl⟩ := Int.eq_ofNat_of_zero_le ha0
  have han : an < 4 := by omega
  have hend := (end_ite hok hseg).1
  have hen1 := hseg.ite.2.2.2.1
  obtain ⟨en, Hen⟩ : ∃ en, Hid (k + 1 + t1.len = en) := ⟨_, rfl⟩
  rw [Hen.out] at hend hen1
  have hkn : k < en := by have := Hen.out; omega
  have hk : k < cs.length := by omega
  obtain ⟨A, cA, rfl, hnc, hcm⟩ := h.ur.codes.form
  obtain ⟨b, o, rfl, hb, hc⟩ := h.ur.codes.at_ hk
  rw [hseg.ite.1] at hc
  have HC := Lib.hid hc
  obtain ⟨cn, bo, oo, gb, rfl, hn1, hn2, hbo, hgb, x0, x1, x2⟩ := h.own hk (by rw [hseg.ite.1]; exact opens_if _)
  rw [hend] at x1 x2
  have X := Lib.hid (And.intro x0 (And.intro x1 x2))
  have HP0 := Lib.hid h.ur.pure
  have q0 := h.o0
  have q1 := h.o1
  have z0 := (h.ur.pure.cell _ _ hbo).trans x0
  have z1 := (h.ur.pure.cell _ _ hgb).trans x1
  have z2 := (h.ur.pure.cell _ _ hgb).trans x2
  have hkl : (k : Int) < (cs.length : Int) := by omega
  try simp only at z1 z2
  clear hv hrun hok hseg h hend hc x0 x1 x2
  go_enter Try.func81, Try.ntmps81
  go_wp2_with fail
  refine (HRUN.out t1 (k + 1) u live _ _ _ hsz HOK.out.2.1 HSEG.out.ite.2.1 (by have := Hen.out; omega) hu H.out (by omega) (by have := Hen.out; omega)).mono ?_
  rintro e w1 ⟨rfl, hu1, hc1⟩
  have H1 := Lib.hid hu1
  have HC1 := Lib.hid hc1
  have q0' := hu1.o0
  have q1' := hu1.o1
  clear z0 z1 z2 q0 q1
  have z0 := (hu1.ur.pure.cell _ _ hbo).trans X.out.1
  have z1 := (hu1.ur.pure.cell _ _ hgb).trans X.out.2.1
  have z2 := (hu1.ur.pure.cell _ _ hgb).trans X.out.2.2
  obtain ⟨c0, c1, c2, c3⟩ := HC.out.keep hu1.ur.pure hb
  try simp only at z1 z2
  have hca : w1.cell? ⟨b, o + k * 4 + 1, none⟩ = some (.int .i64 (an : Int)) := c1
  clear hu1 hc1 c0 c1 c2 c3
  obtain ⟨m, Hm⟩ : ∃ m, Hid ((uni t1 u).1 = m) := ⟨_, rfl⟩
  have hm16 : m < 16 := by rw [← Hm.out]; exact uni_lt t1 u HOK.out.2.1 hu
  rw [Hm.out]
  obtain ⟨x, Hx⟩ : ∃ x, Hid (u &&& m = x) := ⟨_, rfl⟩
  have hand : bits .and .i64 (m : Int) (u : Int) = (x : Int) := by rw [and16 hm16 hu, Nat.and_comm, Hx.out]
  have HUI : Hid (uIf (an : Int) t1 u = if u.testBit an then x else del u (writ t1)) := Lib.hid (by unfold uIf; rw [Int.toNat_natCast, Hm.out, Hx.out])
  have hbit := bit16 hu han
  obtain ⟨D, HD⟩ : ∃ D, Hid (u.testBit an = D) := ⟨_, rfl⟩
  rw [HD.out] at hbit HUI
  cases D
  · have hbit' : bits .and .i64 ((u : Int) / 2 ^ an) 1 = 0 := hbit
    have hwr : wrTo cs k (t1.len + 1) = writ t1 := by
      rw [wrTo_head, HSEG.out.ite.1, wst_zero (.inl rfl), Nat.zero_or]; exact wrTo_tree t1 _ HSEG.out.ite.2.1
    obtain ⟨q, Hq⟩ : ∃ q, Hid (writ t1 = q) := ⟨_, rfl⟩
    have hq16 : q < 16 := by rw [← Hq.out]; exact writ_lt t1 HOK.out.2.1
    rw [Hq.out] at hwr
    have HWR := Lib.hid hwr
    obtain ⟨v, Hv⟩ : ∃ v, Hid (del u q = v) := ⟨_, rfl⟩
    have hdel : bits .andNot .i64 (u : Int) (q : Int) = (v : Int) := by rw [not16 hu hq16]; exact congrArg _ Hv.out
    have HUI2 : Hid (uIf (an : Int) t1 u = v) := Lib.hid (by rw [HUI.out, Hq.out, Hv.out]; rfl)
    clear hbit hwr
    go_wp2_with fail
    refine (iwritin_any w0 _ va _ vo p cs _ k (t1.len + 1) _ _ _ H1.out HV.out.1 (by omega) (by have := Hen.out; omega) (by omega) rfl (by have := Hen.out; omega)).mono ?_
    rintro e w7 ⟨rfl, hp7⟩
    rw [HWR.out]
    have HP7 := Lib.hid hp7
    clear hp7
    go_wp2_with fail
    go_ret
    exact ⟨by rw [HUI2.out]; rfl, H1.out.keep HP7.out, HC1.out.trans (Chg.of_pure HP7.out)⟩
  · have hbit' : bits .and .i64 ((u : Int) / 2 ^ an) 1 = 1 := hbit
    have HUI2 : Hid (uIf (an : Int) t1 u = x) := Lib.hid (by rw [HUI.out]; rfl)
    clear hbit
    go_wp2_with fail
    go_ret
    exact ⟨by rw [HUI2.out]; rfl, H1.out, HC1.out⟩

set_option maxHeartbeats 4000000 in
set_option maxRecDepth 100000 in
theorem ibr_ife (w0 : World) (vl va vn vo : Value) (p : Nat) (cs : List Cd) (hv : PValid cs) (sz : Nat) (hrun : RunU w0 vl va vn vo p cs sz) (a : Int) (t1 t2 tk : Tr) (k u : Nat) (live : Nat → Nat) (w : World)
    (hsz : t1.len ≤ sz) (hsz2 : t2.len ≤ sz) (hok : (Tr.itee a t1 t2 tk).Ok) (hseg : Seg cs k (.itee a t1 t2 tk)) (hu : u < 16) (h : UI w0 vl va vn vo p cs w live) :
    Calls Try.prog 81 #[.pointer (some ⟨p, 0, none⟩), .int .i64 (k : Nat), .int .i64 (u : Nat)] w
      fun e w' => e = .returned (.int .i64 (uIfe a t1 t2 u : Nat)) ∧ UI w0 vl va vn vo p cs w' (lay cs (lay cs live (k + 1) (uni t1 u).2) (k + 1 + t1.len + 1) (uni t2 u).2) ∧ Chg (fun k => vo.ownBlock = some k) w w' := by
  have HV := Lib.hid hv
  have HRUN := Lib.hid hrun
  have HOK := Lib.hid hok
  have HSEG := Lib.hid hseg
  have H := Lib.hid h
  have hsmall := hv.2.1
  obtain ⟨ha0, ha3⟩ := hok.1
  obtain ⟨an, rfl⟩ := Int.eq_ofNat_of_zero_le ha0
  have han : an < 4 := by omega
  have hend := (end_itee hok hseg).1
  have hen1 := hseg.itee.2.2.2.2.2.1
  obtain ⟨on, Hon⟩ : ∃ on, Hid (k + 1 + t1.len = on) := ⟨_, rfl⟩
  obtain ⟨en, Hen⟩ : ∃ en, Hid (k + 1 + t1.len + 1 + t2.len = en) := ⟨_, rfl⟩
  rw [Hen.out, Hon.out] at hend
  rw [Hen.out] at hen1
  have hon1 : on < en := by have := Hen.out; have := Hon.out; omega
  have hkn : k < on := by have := Hon.out; omega
  have hk : k < cs.length := by omega
  obtain ⟨A, cA, rfl, hnc, hcm⟩ := h.ur.codes.form
  obtain ⟨b, o, rfl, hb, hc⟩ := h.ur.codes.at_ hk
  rw [hseg.itee.1] at hc
  have HC := Lib.hid hc
  obtain ⟨cn, bo, oo, gb, rfl, hn1, hn2, hbo, hgb, x0, x1, x2⟩ := h.own hk (by rw [hseg.itee.1]; exact opens_if _)
  rw [hend] at x1 x2
  have X := Lib.hid (And.intro x0 (And.intro x1 x2))
  have q0 := h.o0
  have q1 := h.o1
  have z0 := (h.ur.pure.cell _ _ hbo).trans x0
  have z1 := (h.ur.pure.cell _ _ hgb).trans x1
  have z2 := (h.ur.pure.cell _ _ hgb).trans x2
  have hkl : (k : Int) < (cs.length : Int) := by omega
  have hon0 : (0 : Int) ≤ (on : Int) := by omega
  try simp only at z1 z2
  clear hv hrun hok hseg h hend hc x0 x1 x2
  go_enter Try.func81, Try.ntmps81
  go_wp2_with fail
  refine (HRUN.out t1 (k + 1) u live _ _ _ hsz HOK.out.2.1 HSEG.out.itee.2.1 (by have := Hon.out; omega) hu H.out (by omega) (by have := Hon.out; omega)).mono ?_
  rintro e w1 ⟨rfl, hu1, hc1⟩
  have H1 := Lib.hid hu1
  have HC1 := Lib.hid hc1
  have q0' := hu1.o0
  have q1' := hu1.o1
  clear z0 z1 z2 q0 q1
  have z0 := (hu1.ur.pure.cell _ _ hbo).trans X.out.1
  have z1 := (hu1.ur.pure.cell _ _ hgb).trans X.out.2.1
  have z2 := (hu1.ur.pure.cell _ _ hgb).trans X.out.2.2
  try simp only at z1 z2
  clear hu1 hc1
  obtain ⟨m, Hm⟩ : ∃ m, Hid ((uni t1 u).1 = m) := ⟨_, rfl⟩
  have hm16 : m < 16 := by rw [← Hm.out]; exact uni_lt t1 u HOK.out.2.1 hu
  rw [Hm.out]
  go_wp2_with fail
  refine region_tail 11 (by kernel_rfl) (by kernel_rfl) ?_
  simp only [List.take_succ_cons, List.take_zero, List.drop_succ_cons, List.drop_zero]
  repeat still_step
  refine wpStill_nil ?_
  go_wp2_with fail
  refine (HRUN.out t2 (on + 1) u (lay cs live (k + 1) (uni t1 u).2) _ _ _ hsz2 HOK.out.2.2.1 (by rw [← Hon.out]; exact HSEG.out.itee.2.2.2.1) (by have := Hon.out; have := Hen.out; omega) hu (H1.out.keep (by exact (by repeat (first | assumption | exact Pure.refl _ | refine Pure.drewN ?_ _ | refine Pure.drew ?_ | refine Pure.alloc ?_ _ | refine Pure.setCell ?_ (by simp <;> omega) _)))) (by omega) (by have := Hon.out; have := Hen.out; omega)).mono ?_
  rintro e w2 ⟨rfl, hu2, hc2⟩
  have H2 := Lib.hid hu2
  have HC2 : Hid (Chg (fun k => vo.ownBlock = some k) w w2) := Lib.hid (HC1.out.trans ((Chg.of_pure (by exact (by repeat (first | assumption | exact Pure.refl _ | refine Pure.drewN ?_ _ | refine Pure.drew ?_ | refine Pure.alloc ?_ _ | refine Pure.setCell ?_ (by simp <;> omega) _)))).trans hc2))
  clear z0 z1 z2 q0' q1'
  have q0' := hu2.o0
  have q1' := hu2.o1
  have z0 := (hu2.ur.pure.cell _ _ hbo).trans X.out.1
  have z1 := (hu2.ur.pure.cell _ _ hgb).trans X.out.2.1
  have z2 := (hu2.ur.pure.cell _ _ hgb).trans X.out.2.2
  obtain ⟨c0, c1, c2, c3⟩ := HC.out.keep hu2.ur.pure hb
  try simp only at z1 z2
  have hca : w2.cell? ⟨b, o + k * 4 + 1, none⟩ = some (.int .i64 (an : Int)) := c1
  clear hu2 hc2 c0 c1 c2 c3
  obtain ⟨m2, Hm2⟩ : ∃ m, Hid ((uni t2 u).1 = m) := ⟨_, rfl⟩
  have hm216 : m2 < 16 := by rw [← Hm2.out]; exact uni_lt t2 u HOK.out.2.2.1 hu
  rw [Hm2.out]
  obtain ⟨x, Hx⟩ : ∃ x, Hid (m &&& m2 = x) := ⟨_, rfl⟩
  have hand : bits .and .i64 (m : Int) (m2 : Int) = (x : Int) := by rw [and16 hm16 hm216, Hx.out]
  have HUI : Hid (uIfe (an : Int) t1 t2 u = if u.testBit an then x else del u (writ t1 ||| writ t2)) := Lib.hid (by unfold uIfe; rw [Int.toNat_natCast, Hm.out, Hm2.out, Hx.out])
  have hbit := bit16 hu han
  obtain ⟨D, HD⟩ : ∃ D, Hid (u.testBit an = D) := ⟨_, rfl⟩
  rw [HD.out] at hbit HUI
  cases D
  · have hbit' : bits .and .i64 ((u : Int) / 2 ^ an) 1 = 0 := hbit
    have hwr : wrTo cs k (t1.len + (t2.len + 1) + 1) = writ t1 ||| writ t2 := by
      obtain ⟨q1, q2, q3, q4, _⟩ := HSEG.out.itee
      rw [wrTo_head, q1, wst_zero (.inl rfl), Nat.zero_or, wrTo_add, wrTo_tree t1 _ q2, wrTo_head, q3, wrTo_tree t2 _ q4, wst_zero (.inr (.inl rfl)), Nat.zero_or]
    obtain ⟨q, Hq⟩ : ∃ q, Hid (writ t1 ||| writ t2 = q) := ⟨_, rfl⟩
    have hq16 : q < 16 := by rw [← Hq.out]; exact or_lt (writ_lt t1 HOK.out.2.1) (writ_lt t2 HOK.out.2.2.1)
    rw [Hq.out] at hwr
    have HWR := Lib.hid hwr
    obtain ⟨v, Hv⟩ : ∃ v, Hid (del u q = v) := ⟨_, rfl⟩
    have hdel : bits .andNot .i64 (u : Int) (q : Int) = (v : Int) := by rw [not16 hu hq16]; exact congrArg _ Hv.out
    have HUI2 : Hid (uIfe (an : Int) t1 t2 u = v) := Lib.hid (by rw [HUI.out, Hq.out, Hv.out]; rfl)
    clear hbit hwr
    go_wp2_with fail
    refine (iwritin_any w0 _ va _ vo p cs _ k (t1.len + (t2.len + 1) + 1) _ _ _ H2.out HV.out.1 (by omega) (by have := Hen.out; omega) (by omega) rfl (by have := Hen.out; omega)).mono ?_
    rintro e w7 ⟨rfl, hp7⟩
    rw [HWR.out]
    have HP7 := Lib.hid hp7
    clear hp7
    go_wp2_with fail
    go_ret
    exact ⟨by rw [HUI2.out]; rfl, by rw [Hon.out]; exact H2.out.keep HP7.out, HC2.out.trans (Chg.of_pure HP7.out)⟩
  · have hbit' : bits .and .i64 ((u : Int) / 2 ^ an) 1 = 1 := hbit
    have HUI2 : Hid (uIfe (an : Int) t1 t2 u = x) := Lib.hid (by rw [HUI.out]; rfl)
    clear hbit
    go_wp2_with fail
    go_ret
    exact ⟨by rw [HUI2.out]; rfl, by rw [Hon.out]; exact H2.out, HC2.out⟩

set_option maxHeartbeats 4000000 in
set_option maxRecDepth 100000 in
theorem ilp_any (w0 : World) (vl va vn vo : Value) (p : Nat) (cs : List Cd) (hv : PValid cs) (sz : Nat) (hrun : RunU w0 vl va vn vo p cs sz) (a lb : Int) (t1 tk : Tr) (k u : Nat) (live : Nat → Nat) (w : World)
    (hsz : t1.len ≤ sz) (hok : (Tr.loop a lb t1 tk).Ok) (hseg : Seg cs k (.loop a lb t1 tk)) (hu : u < 16) (h : UI w0 vl va vn vo p cs w live) :
    Calls Try.prog 82 #[.pointer (some ⟨p, 0, none⟩), .int .i64 (k : Nat), .int .i64 (u : Nat)] w
      fun e w' => e = .returned (.int .i64 (uLoop a t1 u : Nat)) ∧ UI w0 vl va vn vo p cs w' (lay cs live (k + 1) (uni t1 (uHead t1 u)).2) ∧ Chg (fun k => vo.ownBlock = some k) w w' := by
  have HV := Lib.hid hv
  have HRUN := Lib.hid hrun
  have HOK := Lib.hid hok
  have HSEG := Lib.hid hseg
  have H := Lib.hid h
  have hsmall := hv.2.1
  obtain ⟨ha0, ha3⟩ := hok.1
  obtain ⟨an, rfl⟩ := Int.eq_ofNat_of_zero_le ha0
  have han : an < 4 := by omega
  have hend := (end_loop hok hseg).1
  have hen1 := hseg.loop.2.2.2.1
  obtain ⟨en, Hen⟩ : ∃ en, Hid (k + 1 + t1.len = en) := ⟨_, rfl⟩
  rw [Hen.out] at hend hen1
  have hkn : k < en := by have := Hen.out; omega
  have hk : k < cs.length := by omega
  obtain ⟨A, cA, rfl, hnc, hcm⟩ := h.ur.codes.form
  obtain ⟨b, o, rfl, hb, hc⟩ := h.ur.codes.at_ hk
  rw [hseg.loop.1] at hc
  have HC := Lib.hid hc
  obtain ⟨cn, bo, oo, gb, rfl, hn1, hn2, hbo, hgb, x0, x1, x2⟩ := h.own hk (by rw [hseg.loop.1]; exact opens_loop _ _)
  rw [hend] at x1 x2
  have X := Lib.hid (And.intro x0 (And.intro x1 x2))
  have q0 := h.o0
  have q1 := h.o1
  have z0 := (h.ur.pure.cell _ _ hbo).trans x0
  have z1 := (h.ur.pure.cell _ _ hgb).trans x1
  have z2 := (h.ur.pure.cell _ _ hgb).trans x2
  have hkl : (k : Int) < (cs.length : Int) := by omega
  try simp only at z1 z2
  clear hv hrun hok hseg h hend hc x0 x1 x2
  go_enter Try.func82, Try.ntmps82
  go_wp2_with fail
  go_loopg [8] u (fun g2 hh wq => ∃ (h : Nat) (lv : Nat → Nat), g2 = h ∧ hh = .int .i64 (h : Nat) ∧ h < 16 ∧ uHead t1 h = uHead t1 u ∧ UI w0 (.slice (some ⟨b, o, none⟩) cs.length cA) va (.slice (some ⟨bo, oo, none⟩) cs.length cn) vo p cs wq lv ∧ (∀ xs : List Nat, xs.length = t1.len → lay cs lv (k + 1) xs = lay cs live (k + 1) xs) ∧ Chg (fun k => vo.ownBlock = some k) w wq)
  case atStart => exact ⟨u, live, rfl, rfl, hu, rfl, H.out, fun _ _ => rfl, Chg.refl _ _⟩
  case round =>
    obtain ⟨h, lv, hg2e, rfl, hh16, hhd, huq, hlq, hcq⟩ := hrel
    have Hg2 := Lib.hid hg2e
    have HHD := Lib.hid hhd
    have HUQ := Lib.hid huq
    have HLQ := Lib.hid hlq
    have HCQ := Lib.hid hcq
    clear z0 z1 z2 q0 q1
    have z1 := (huq.ur.pure.cell _ _ hgb).trans X.out.2.1
    have z2 := (huq.ur.pure.cell _ _ hgb).trans X.out.2.2
    try simp only at z1 z2
    clear hg2e hhd huq hlq hcq
    go_wp2_with fail
    refine (HRUN.out t1 (k + 1) h lv _ _ _ hsz HOK.out.2.2.1 HSEG.out.loop.2.1 (by have := Hen.out; omega) hh16 HUQ.out (by omega) (by have := Hen.out; omega)).mono ?_
    rintro e w1 ⟨rfl, hu1, hc1⟩
    rw [HLQ.out _ (uni_len t1 h)] at hu1
    have H1 := Lib.hid hu1
    have HC1 := Lib.hid (HCQ.out.trans hc1)
    have q0' := hu1.o0
    have q1' := hu1.o1
    clear z1 z2
    have z0 := (hu1.ur.pure.cell _ _ hbo).trans X.out.1
    have z1 := (hu1.ur.pure.cell _ _ hgb).trans X.out.2.1
    have z2 := (hu1.ur.pure.cell _ _ hgb).trans X.out.2.2
    obtain ⟨c0, c1, c2, c3⟩ := HC.out.keep hu1.ur.pure hb
    try simp only at z1 z2
    have hca : w1.cell? ⟨b, o + k * 4 + 1, none⟩ = some (.int .i64 (an : Int)) := c1
    clear hu1 hc1 c0 c1 c2 c3
    obtain ⟨m, Hm⟩ : ∃ m, Hid ((uni t1 h).1 = m) := ⟨_, rfl⟩
    have hm16 : m < 16 := by rw [← Hm.out]; exact uni_lt t1 h HOK.out.2.2.1 hh16
    rw [Hm.out]
    obtain ⟨x, Hx⟩ : ∃ x, Hid (uTurn t1 h = x) := ⟨_, rfl⟩
    have hand2 : bits .and .i64 (h : Int) (m : Int) = (x : Int) := by rw [and16 hh16 hm16, ← Hm.out]; exact congrArg _ Hx.out
    have hxle : x ≤ h := by rw [← Hx.out]; exact uTurn_le t1 h
    by_cases hxh : x = h
    · subst hxh
      have hfix : uHead t1 u = x := by rw [← HHD.out]; exact uHead_stop Hx.out
      have HFIX := Lib.hid hfix
      clear hfix
      have heq : ((x : Int) == (x : Int)) = true := by simp
      have HUI : Hid (uLoop (an : Int) t1 u = if x.testBit an then x else del u (writ t1)) := Lib.hid (by unfold uLoop; rw [Int.toNat_natCast, HFIX.out])
      have hbit := bit16 hh16 han
      obtain ⟨D, HD⟩ : ∃ D, Hid (x.testBit an = D) := ⟨_, rfl⟩
      rw [HD.out] at hbit HUI
      cases D
      · have hbit' : bits .and .i64 ((x : Int) / 2 ^ an) 1 = 0 := hbit
        have hwr : wrTo cs k (t1.len + 1) = writ t1 := by
          rw [wrTo_head, HSEG.out.loop.1, wst_zero (.inr (.inr (.inl rfl))), Nat.zero_or]; exact wrTo_tree t1 _ HSEG.out.loop.2.1
        obtain ⟨q, Hq⟩ : ∃ q, Hid (writ t1 = q) := ⟨_, rfl⟩
        have hq16 : q < 16 := by rw [← Hq.out]; exact writ_lt t1 HOK.out.2.2.1
        rw [Hq.out] at hwr
        have HWR := Lib.hid hwr
        obtain ⟨v, Hv⟩ : ∃ v, Hid (del u q = v) := ⟨_, rfl⟩
        have hdel : bits .andNot .i64 (u : Int) (q : Int) = (v : Int) := by rw [not16 hu hq16]; exact congrArg _ Hv.out
        have HUI2 : Hid (uLoop (an : Int) t1 u = v) := Lib.hid (by rw [HUI.out, Hq.out, Hv.out]; rfl)
        clear hbit hwr
        go_wp2_with fail
        refine (iwritin_any w0 _ va _ vo p cs _ k (t1.len + 1) _ _ _ H1.out HV.out.1 (by omega) (by have := Hen.out; omega) (by omega) rfl (by have := Hen.out; omega)).mono ?_
        rintro e w7 ⟨rfl, hp7⟩
        rw [HWR.out]
        have HP7 := Lib.hid hp7
        clear hp7
        go_wp2_with fail
        go_ret
        exact ⟨by rw [HUI2.out]; rfl, by rw [HFIX.out]; exact H1.out.keep HP7.out, HC1.out.trans (Chg.of_pure HP7.out)⟩
      · have hbit' : bits .and .i64 ((x : Int) / 2 ^ an) 1 = 1 := hbit
        have HUI2 : Hid (uLoop (an : Int) t1 u = x) := Lib.hid (by rw [HUI.out]; rfl)
        clear hbit
        go_wp2_with fail
        go_ret
        exact ⟨by rw [HUI2.out]; rfl, by rw [HFIX.out]; exact H1.out, HC1.out⟩
    · have heq : ((x : Int) == (h : Int)) = false := by rw [beq_eq_false_iff_ne]; omega
      have hx16 : x < 16 := by omega
      have hlt2 : x < h := by omega
      clear hxh
      go_wp2_with fail
      go_roundg x
      case measure => have := Hg2.out; omega
      case rel => exact ⟨x, _, rfl, rfl, hx16, by rw [← Hx.out, uHead_turn t1 hh16, HHD.out], H1.out, fun xs hxs => lay_lay cs _ _ (by rw [uni_len, hxs]), HC1.out⟩

end Go.Proofs.Ythocmmhhhiikpaa

namespace Go.Proofs.Ythocmmhhhiikpaa
open Go.RowKit

set_option maxHeartbeats 2000000 in
set_option maxRecDepth 100000 in
theorem irun_nil (w0 : World) (vl va vn vo : Value) (p : Nat) (cs : List Cd) (i u : Nat) (live : Nat → Nat) (w : World) (fr to : Int) (hrun : UI w0 vl va vn vo p cs w live) (hfr : fr = (i : Nat)) (hto : to = (i : Nat)) :
    Calls Try.prog 59 #[.pointer (some ⟨p, 0, none⟩), .int .i64 fr, .int .i64 to, .int .i64 (u : Nat)] w
      fun e w' => e = .returned (.int .i64 ((uni .nil u).1 : Nat)) ∧ UI w0 vl va vn vo p cs w' (lay cs live i (uni .nil u).2) ∧ Chg (fun k => vo.ownBlock = some k) w w' := by
  have HR := Lib.hid hrun
  subst hfr hto
  clear hrun
  go_enter Try.func59, Try.ntmps59
  go_wp2_with fail
  go_loopg [9, 3] 0 (fun gk i' u' wr => i' = .int .i64 i ∧ u' = .int .i64 u ∧ wr = w)
  case atStart => exact ⟨rfl, rfl, rfl⟩
  case round =>
    obtain ⟨rfl, rfl, rfl⟩ := hrel
    go_wp2_with fail
    go_ret
    exact ⟨rfl, by rw [uni_nil, lay_nil]; exact HR.out, Chg.refl _ _⟩

set_option maxHeartbeats 8000000 in
set_option maxRecDepth 100000 in
theorem irun_any (w0 : World) (vl va vn vo : Value) (p : Nat) (cs : List Cd) (hv : PValid cs) : ∀ sz, RunU w0 vl va vn vo p cs sz := by
  intro sz
  induction sz with
  | zero =>
    intro t i u live w fr to hsz hok hseg hic hu hrun hfr hto
    obtain rfl := Tr.len_zero' (show t.len = 0 by omega)
    exact irun_nil w0 vl va vn vo p cs i u live w fr to hrun hfr hto
  | succ sz ih =>
    intro t i u live w fr to hsz hok hseg hic hu hrun hfr hto
    by_cases htz : t.len = 0
    · obtain rfl := Tr.len_zero' htz
      exact irun_nil w0 vl va vn vo p cs i u live w fr to hrun hfr hto
    subst hfr
    obtain ⟨g, off, cg, rfl, hg1, hg2, hg3, hg4⟩ := hrun.ur.own.formSome (by omega)
    obtain ⟨A, cA, rfl, hnc, hcm⟩ := hrun.ur.codes.form
    have HIH := Lib.hid ih
    have HV := Lib.hid hv
    have HTO := Lib.hid hto
    have HR := Lib.hid hrun
    have HSEG := Lib.hid hseg
    have HOK := Lib.hid hok
    have HSZ := Lib.hid hsz
    have HUL := Lib.hid hu
    have hsmall := hv.2.1
    have htoc : to ≤ (cs.length : Int) := by rw [hto]; exact_mod_cast hic
    have hpg : g ≠ p := fun e => hrun.ne (by rw [e]; rfl)
    clear ih hv hto hrun hseg hok hsz hic hu htz hg4
    go_enter Try.func59, Try.ntmps59
    go_wp2_with fail
    go_loopg [9, 3] t.len (fun gk kk uu wr => ∃ (t' : Tr) (k u' : Nat) (live' : Nat → Nat), gk = t'.len ∧ ((k + t'.len : Nat) : Int) = to ∧ t'.len ≤ t.len ∧ kk = .int .i64 k ∧ uu = .int .i64 u' ∧ u' < 16 ∧ t'.Ok ∧ Seg cs k t' ∧ UI w0 (.slice A cs.length cA) va vn (.slice (some ⟨g, off, none⟩) cs.length cg) p cs wr live' ∧ Chg (fun k => (Value.slice (some ⟨g, off, none⟩) cs.length cg).ownBlock = some k) w wr ∧ (uni t' u').1 = (uni t u).1 ∧ lay cs live' k (uni t' u').2 = lay cs live i (uni t u).2)
    case atStart => exact ⟨t, i, u, live, rfl, HTO.out.symm, Nat.le_refl _, rfl, rfl, HUL.out, HOK.out, HSEG.out, HR.out, Chg.refl _ _, rfl, rfl⟩
    case round =>
      clear HR HSEG HOK HTO HUL
      obtain ⟨t', k, u', live', hgk, hto, htl, rfl, rfl, hu', hok, hseg, hr, hst, hn1, hn2⟩ := hrel
      have Hgk := Lib.hid hgk
      have Hto := Lib.hid hto
      have Htl := Lib.hid htl
      have Hok := Lib.hid hok
      have Hseg := Lib.hid hseg
      have Hr := Lib.hid hr
      have Hst := Lib.hid hst
      have HN1 := Lib.hid hn1
      have HN2 := Lib.hid hn2
      clear hgk hto htl hok hseg hst hn1 hn2
      by_cases hlt : (k : Int) < to
      case neg =>
        have hz : t' = .nil := Tr.len_zero' (by have := Hto.out; omega)
        subst hz
        have Hfin : Hid ((uni t u).1 = u') := Lib.hid (by rw [← HN1.out]; rfl)
        have Hfin2 : Hid (lay cs live i (uni t u).2 = live') := Lib.hid (by rw [← HN2.out, uni_nil, lay_nil])
        clear hr
        go_wp2_with fail
        go_ret
        exact ⟨by rw [Hfin.out]; rfl, by rw [Hfin2.out]; exact Hr.out, Hst.out⟩
      case pos =>
        have hk : k < cs.length := by omega
        obtain ⟨b, ob, rfl, hb, hc0⟩ := hr.ur.codes.at_ hk
        have hc := hc0.keep hr.ur.pure hb
        obtain ⟨cd, Hcd⟩ : ∃ cd, Hid (cs.getD k default = cd) := ⟨_, rfl⟩
        rw [Hcd.out] at hc
        obtain ⟨c0, c1, c2, c3⟩ := hc
        have hcok : CdOk cd := by rw [← Hcd.out]; exact HV.out.1 _ (cdOk_mem hk)
        have HCOK := Lib.hid hcok
        obtain ⟨op, ca, cb, cc⟩ := cd
        simp only at c0 c1 c2 c3
        have q0 := hr.o0
        have hplt := hr.lt
        have hbx := UBox.new wr ⟨op, ca, cb, cc⟩ (Pure.refl _)
        have HBP := Lib.hid hbx.2
        have hra := hr.keep hbx.2
        have q0a := hra.o0
        have q2a := hra.o2
        obtain ⟨f0, f1, f2, f3⟩ := hra.ur.facts hk
        have hgl : g < wr.heap.size := (hr.ur.own.lt g rfl).2
        have hxb := UBox.new (wr.setCell ⟨g, off + k, none⟩ (.int .i64 (u' : Nat))) ⟨op, ca, cb, cc⟩ (Pure.refl _)
        have hsc : (wr.setCell ⟨g, off + k, none⟩ (.int .i64 (u' : Nat))).heap.size = wr.heap.size := by simp
        rw [hsc] at hxb
        have hput := (hr.put (k := k) (v := u') hk).keep hxb.2
        have HS2 := Lib.hid ((Chg.of_set (S := fun k => (Value.slice (some ⟨g, off, none⟩) cs.length cg).ownBlock = some k) wr g (off + k) (.int .i64 (u' : Nat)) (by rfl)).trans (Chg.of_pure hxb.2))
        have HNB : Hid (¬ (Value.slice (some ⟨g, off, none⟩) cs.length cg).ownBlock = some wr.heap.size) := Lib.hid (fun e => by have e2 : g = wr.heap.size := Option.some.inj e; omega)
        have hx2 := hxb.1
        have HX2 := Lib.hid hx2
        have yb := hbx.1.chg (w' := (wr.alloc (.cells #[.int .i64 op, .int .i64 ca, .int .i64 cb, .int .i64 cc] 38)).setCell ⟨g, off + k, none⟩ (.int .i64 (u' : Nat))) (Chg.of_set (S := fun k => (Value.slice (some ⟨g, off, none⟩) cs.length cg).ownBlock = some k) _ g _ _ (by rfl)) HNB.out
        obtain ⟨v0, v1, v2, v3⟩ := yb
        obtain ⟨y0, y1, y2, y3⟩ := hx2
        have HP2 := Lib.hid hput
        have HST := Lib.hid (Hst.out.trans HS2.out)
        have hgn : g ≠ wr.heap.size := by omega
        clear hr hc0 hcok hbx hra hput hxb hsc
        simp only at y0 y1 y2 y3 v0 v1 v2 v3 f0 f1 q0a q2a
        have hblk : ∀ a t1, t' = t1 → Opens a → cs.getD k default = a → Opens (cs.getD k default) := fun a _ _ h e => by rw [e]; exact h
        cases t' with
        | nil => exact absurd Hto.out (by have : Tr.nil.len = 0 := rfl; omega)
        | op cd0 tk =>
          have hce : cd0 = ⟨op, ca, cb, cc⟩ := Hseg.out.op.1.symm.trans Hcd.out
          subst hce
          have HPL := Lib.hid Hok.out.1
          have d11 : (op == 11) = false := by rw [beq_eq_false_iff_ne]; exact HPL.out.2.1
          have d13 : (op == 13) = false := by rw [beq_eq_false_iff_ne]; exact HPL.out.2.2.2.1
          have HL := Lib.hid (Tr.len_op ⟨op, ca, cb, cc⟩ tk)
          clear hblk
          go_wp2_with fail
          refine (icreads_any ⟨op, ca, cb, cc⟩ _ HCOK.out).mono ?_
          rintro e w5 ⟨rfl, hp5⟩
          have HP5 := Lib.hid hp5
          clear y0 y1 y2 y3 v0 v1 v2 v3
          obtain ⟨y0, y1, y2, y3⟩ := HX2.out.pure hp5
          simp only at y0 y1 y2 y3
          obtain ⟨q, Hq⟩ : ∃ q, Hid (wst ⟨op, ca, cb, cc⟩ = q) := ⟨_, rfl⟩
          obtain ⟨r, Hrd⟩ : ∃ r, Hid (rd ⟨op, ca, cb, cc⟩ = r) := ⟨_, rfl⟩
          have hq16 : q < 16 := by rw [← Hq.out]; exact wr_lt HCOK.out
          have hr16 : r < 16 := by rw [← Hrd.out]; exact rd_lt HCOK.out
          rw [Hrd.out]
          obtain ⟨m, Hm⟩ : ∃ m, Hid (r &&& u' = m) := ⟨_, rfl⟩
          have hand : bits .and .i64 (r : Int) (u' : Int) = (m : Int) := by rw [and16 hr16 hu', Hm.out]
          have hor : bits .or .i64 (u' : Int) (q : Int) = ((u' ||| q : Nat) : Int) := or16 hu' hq16
          have hdel : bits .andNot .i64 (u' : Int) (q : Int) = ((del u' q : Nat) : Int) := not16 hu' hq16
          obtain ⟨x1, Hx1⟩ : ∃ x, Hid (u' ||| q = x) := ⟨_, rfl⟩
          obtain ⟨x2, Hx2⟩ : ∃ x, Hid (del u' q = x) := ⟨_, rfl⟩
          rw [Hx1.out] at hor
          rw [Hx2.out] at hdel
          have HU : Hid (uCode ⟨op, ca, cb, cc⟩ u' = if op = 2 ∨ m ≠ r then x2 else x1) := Lib.hid (by unfold uCode; rw [Hq.out, Hrd.out, Hm.out, Hx1.out, Hx2.out])
          have HV16 : Hid (uCode ⟨op, ca, cb, cc⟩ u' < 16) := Lib.hid (uCode_lt HCOK.out hu')
          have HFIN : ∀ w6 (v : Nat), Pure w5 w6 → uCode ⟨op, ca, cb, cc⟩ u' = v → Hid (∃ (t' : Tr) (k2 u'2 : Nat) (live' : Nat → Nat), tk.len = t'.len ∧ ((k2 + t'.len : Nat) : Int) = to ∧ t'.len ≤ t.len ∧ k2 = k + 1 ∧ u'2 = v ∧ u'2 < 16 ∧ t'.Ok ∧ Seg cs k2 t' ∧ UI w0 (.slice (some ⟨b, ob, none⟩) cs.length cA) va vn (.slice (some ⟨g, off, none⟩) cs.length cg) p cs w6 live' ∧ Chg (fun k => (Value.slice (some ⟨g, off, none⟩) cs.length cg).ownBlock = some k) w w6 ∧ (uni t' u'2).1 = (uni t u).1 ∧ lay cs live' k2 (uni t' u'2).2 = lay cs live i (uni t u).2) := fun w6 v h6 hv6 => Lib.hid ⟨tk, k + 1, v, updL live' k u', rfl, by have := Hto.out; have := HL.out; omega, by have := Htl.out; have := HL.out; omega, rfl, rfl, by rw [← hv6]; exact HV16.out, Hok.out.2, Hseg.out.op.2.2, HP2.out.keep (HP5.out.trans h6), HST.out.trans (Chg.of_pure (HP5.out.trans h6)), by rw [← HN1.out, uni_op, hv6], by rw [← HN2.out, uni_op, hv6, lay_cons (by rw [Hcd.out]; exact HPL.out.2.2.1) (by rw [Hcd.out]; exact HPL.out.2.2.2.2)]⟩
          have HF := Lib.hid HFIN
          clear hp5 HFIN q0 q0a q2a f0 f1 c0 c1 c2 c3
          by_cases hbad : op = 2 ∨ m ≠ r
          · have HUV : Hid (uCode ⟨op, ca, cb, cc⟩ u' = x2) := Lib.hid (by rw [HU.out, if_pos hbad])
            by_cases h2 : op = 2
            · have d2 : (op == 2) = true := by rw [beq_iff_eq]; exact h2
              clear hbad h2
              go_wp2_with fail
              refine (iwritten_any ⟨op, ca, cb, cc⟩ _ HCOK.out).mono ?_
              rintro e w6 ⟨rfl, hp6⟩
              rw [Hq.out]
              have HZ := HF.out w6 x2 hp6 HUV.out
              clear hp6
              go_wp2_with fail
              go_roundg tk.len
              case measure => have := Hgk.out; have := HL.out; omega
              case rel =>
                obtain ⟨a1, a2, a3, a4, b1, b2, b3, b4, b5, b6⟩ := HZ.out
                exact ⟨a1, a2, a3, a4, b1, b2, b3, by rw [b4]; go_num, by rw [b5], b6⟩
            · have d2 : (op == 2) = false := by rw [beq_eq_false_iff_ne]; exact h2
              have d3 : ((m : Int) != (r : Int)) = true := by rw [bne_iff_ne]; rcases hbad with h | h; exact absurd h h2; omega
              clear hbad h2
              go_wp2_with fail
              refine (iwritten_any ⟨op, ca, cb, cc⟩ _ HCOK.out).mono ?_
              rintro e w6 ⟨rfl, hp6⟩
              rw [Hq.out]
              have HZ := HF.out w6 x2 hp6 HUV.out
              clear hp6
              go_wp2_with fail
              go_roundg tk.len
              case measure => have := Hgk.out; have := HL.out; omega
              case rel =>
                obtain ⟨a1, a2, a3, a4, b1, b2, b3, b4, b5, b6⟩ := HZ.out
                exact ⟨a1, a2, a3, a4, b1, b2, b3, by rw [b4]; go_num, by rw [b5], b6⟩
          · have HUV : Hid (uCode ⟨op, ca, cb, cc⟩ u' = x1) := Lib.hid (by rw [HU.out, if_neg hbad])
            rw [not_or] at hbad
            have d2 : (op == 2) = false := by rw [beq_eq_false_iff_ne]; exact hbad.1
            have d3 : ((m : Int) != (r : Int)) = false := by have := hbad.2; simp only [ne_eq, Decidable.not_not] at this; simp [this]
            clear hbad
            go_wp2_with fail
            refine (iwritten_any ⟨op, ca, cb, cc⟩ _ HCOK.out).mono ?_
            rintro e w6 ⟨rfl, hp6⟩
            rw [Hq.out]
            have HZ := HF.out w6 x1 hp6 HUV.out
            clear hp6
            go_wp2_with fail
            go_roundg tk.len
            case measure => have := Hgk.out; have := HL.out; omega
            case rel =>
              obtain ⟨a1, a2, a3, a4, b1, b2, b3, b4, b5, b6⟩ := HZ.out
              exact ⟨a1, a2, a3, a4, b1, b2, b3, by rw [b4]; go_num, by rw [b5], b6⟩
        | ite a t1 tk =>
          have hce : (⟨op, ca, cb, cc⟩ : Cd) = cIf a := Hcd.out.symm.trans Hseg.out.ite.1
          have HCE := Lib.hid hce
          have hop : op = 11 := by have := congrArg Cd.op hce; exact this
          subst hop
          have HL := Lib.hid (Tr.len_ite a t1 tk)
          have hend := (end_ite Hok.out Hseg.out).1
          obtain ⟨en, Hen⟩ : ∃ en, Hid (k + 1 + t1.len = en) := ⟨_, rfl⟩
          have hen1 := Hseg.out.ite.2.2.2.1
          rw [Hen.out] at hend hen1
          have hopn : Opens (cs.getD k default) := by rw [Hseg.out.ite.1]; exact opens_if _
          obtain ⟨cn, bo, oo, gb, rfl, hn1, hn2, hbo, hgb, x0, x1, x2⟩ := Hr.out.own hk hopn
          rw [hend] at x2
          simp only at x2
          have X := Lib.hid (And.intro x0 x2)
          have HV16 : Hid (uIf a t1 u' < 16) := Lib.hid (by unfold uIf; split; exact and_lt16 hu'; exact del_lt' hu')
          have hkl : (k : Int) < (cs.length : Int) := by omega
          clear hblk hend x0 x1 x2 hce hopn
          go_wp2_with fail
          refine (ibr_if w0 _ va _ _ p cs HV.out sz HIH.out a t1 tk k u' _ _ (by have := HL.out; have := HSZ.out; have := Htl.out; omega) Hok.out Hseg.out hu' HP2.out).mono ?_
          rintro e w5 ⟨rfl, hu5, hc5⟩
          have H5 := Lib.hid hu5
          have HC5 := Lib.hid (HST.out.trans hc5)
          clear q0 q0a q2a f0 f1 c0 c1 c2 c3 y0 y1 y2 y3 v0 v1 v2 v3
          have q1 := hu5.o1
          have z0 := (hu5.ur.pure.cell _ _ hbo).trans X.out.1
          have z2 := (hu5.ur.pure.cell _ _ hgb).trans X.out.2
          obtain ⟨v, Hv⟩ : ∃ v, Hid (uIf a t1 u' = v) := ⟨_, rfl⟩
          rw [Hv.out]
          clear hu5 hc5
          go_wp2_with fail
          go_roundg tk.len
          case measure => have := Hgk.out; have := HL.out; omega
          case rel =>
            exact ⟨tk, en + 1, v, _, rfl, by have := Hto.out; have := HL.out; have := Hen.out; omega, by have := Htl.out; have := HL.out; omega, by go_num, rfl, by rw [← Hv.out]; exact HV16.out, Hok.out.2.2, by rw [← Hen.out]; exact Hseg.out.ite.2.2.2.2, H5.out, HC5.out, by rw [← HN1.out, uni_ite, Hv.out], by rw [← HN2.out, uni_ite, Hv.out, lay_if Hseg.out (uni_len t1 u'), Hen.out]⟩
        | itee a t1 t2 tk =>
          have hce : (⟨op, ca, cb, cc⟩ : Cd) = cIf a := Hcd.out.symm.trans Hseg.out.itee.1
          have HCE := Lib.hid hce
          have hop : op = 11 := by have := congrArg Cd.op hce; exact this
          subst hop
          have HL := Lib.hid (Tr.len_itee a t1 t2 tk)
          have hend := (end_itee Hok.out Hseg.out).1
          obtain ⟨en, Hen⟩ : ∃ en, Hid (k + 1 + t1.len + 1 + t2.len = en) := ⟨_, rfl⟩
          have hen1 := Hseg.out.itee.2.2.2.2.2.1
          rw [Hen.out] at hend hen1
          have hopn : Opens (cs.getD k default) := by rw [Hseg.out.itee.1]; exact opens_if _
          obtain ⟨cn, bo, oo, gb, rfl, hn1, hn2, hbo, hgb, x0, x1, x2⟩ := Hr.out.own hk hopn
          rw [hend] at x2
          simp only at x2
          have X := Lib.hid (And.intro x0 x2)
          have HV16 : Hid (uIfe a t1 t2 u' < 16) := Lib.hid (by unfold uIfe; split; exact and_lt16 (uni_lt t1 u' Hok.out.2.1 hu'); exact del_lt' hu')
          have hkl : (k : Int) < (cs.length : Int) := by omega
          clear hblk hend x0 x1 x2 hce hopn
          go_wp2_with fail
          refine (ibr_ife w0 _ va _ _ p cs HV.out sz HIH.out a t1 t2 tk k u' _ _ (by have := HL.out; have := HSZ.out; have := Htl.out; omega) (by have := HL.out; have := HSZ.out; have := Htl.out; omega) Hok.out Hseg.out hu' HP2.out).mono ?_
          rintro e w5 ⟨rfl, hu5, hc5⟩
          have H5 := Lib.hid hu5
          have HC5 := Lib.hid (HST.out.trans hc5)
          clear q0 q0a q2a f0 f1 c0 c1 c2 c3 y0 y1 y2 y3 v0 v1 v2 v3
          have q1 := hu5.o1
          have z0 := (hu5.ur.pure.cell _ _ hbo).trans X.out.1
          have z2 := (hu5.ur.pure.cell _ _ hgb).trans X.out.2
          obtain ⟨v, Hv⟩ : ∃ v, Hid (uIfe a t1 t2 u' = v) := ⟨_, rfl⟩
          rw [Hv.out]
          clear hu5 hc5
          go_wp2_with fail
          go_roundg tk.len
          case measure => have := Hgk.out; have := HL.out; omega
          case rel =>
            exact ⟨tk, en + 1, v, _, rfl, by have := Hto.out; have := HL.out; have := Hen.out; omega, by have := Htl.out; have := HL.out; omega, by go_num, rfl, by rw [← Hv.out]; exact HV16.out, Hok.out.2.2.2, by rw [← Hen.out]; exact Hseg.out.itee.2.2.2.2.2.2, H5.out, HC5.out, by rw [← HN1.out, uni_itee, Hv.out], by rw [← HN2.out, uni_itee, Hv.out, lay_ife Hseg.out (uni_len t1 u') (uni_len t2 u'), Hen.out]⟩
        | loop a lb t1 tk =>
          have hce : (⟨op, ca, cb, cc⟩ : Cd) = cLoop a lb := Hcd.out.symm.trans Hseg.out.loop.1
          have HCE := Lib.hid hce
          have hop : op = 13 := by have := congrArg Cd.op hce; exact this
          subst hop
          have HL := Lib.hid (Tr.len_loop a lb t1 tk)
          have hend := (end_loop Hok.out Hseg.out).1
          obtain ⟨en, Hen⟩ : ∃ en, Hid (k + 1 + t1.len = en) := ⟨_, rfl⟩
          have hen1 := Hseg.out.loop.2.2.2.1
          rw [Hen.out] at hend hen1
          have hopn : Opens (cs.getD k default) := by rw [Hseg.out.loop.1]; exact opens_loop _ _
          obtain ⟨cn, bo, oo, gb, rfl, hn1, hn2, hbo, hgb, x0, x1, x2⟩ := Hr.out.own hk hopn
          rw [hend] at x2
          simp only at x2
          have X := Lib.hid (And.intro x0 x2)
          have HV16 : Hid (uLoop a t1 u' < 16) := Lib.hid (by unfold uLoop; split; exact Nat.lt_of_le_of_lt (uHead_le t1 u') hu'; exact del_lt' hu')
          have hkl : (k : Int) < (cs.length : Int) := by omega
          clear hblk hend x0 x1 x2 hce hopn
          go_wp2_with fail
          refine (ilp_any w0 _ va _ _ p cs HV.out sz HIH.out a lb t1 tk k u' _ _ (by have := HL.out; have := HSZ.out; have := Htl.out; omega) Hok.out Hseg.out hu' HP2.out).mono ?_
          rintro e w5 ⟨rfl, hu5, hc5⟩
          have H5 := Lib.hid hu5
          have HC5 := Lib.hid (HST.out.trans hc5)
          clear q0 q0a q2a f0 f1 c0 c1 c2 c3 y0 y1 y2 y3 v0 v1 v2 v3
          have q1 := hu5.o1
          have z0 := (hu5.ur.pure.cell _ _ hbo).trans X.out.1
          have z2 := (hu5.ur.pure.cell _ _ hgb).trans X.out.2
          obtain ⟨v, Hv⟩ : ∃ v, Hid (uLoop a t1 u' = v) := ⟨_, rfl⟩
          rw [Hv.out]
          clear hu5 hc5
          go_wp2_with fail
          go_roundg tk.len
          case measure => have := Hgk.out; have := HL.out; omega
          case rel =>
            exact ⟨tk, en + 1, v, _, rfl, by have := Hto.out; have := HL.out; have := Hen.out; omega, by have := Htl.out; have := HL.out; omega, by go_num, rfl, by rw [← Hv.out]; exact HV16.out, Hok.out.2.2.2, by rw [← Hen.out]; exact Hseg.out.loop.2.2.2.2, H5.out, HC5.out, by rw [← HN1.out, uni_loop, Hv.out], by rw [← HN2.out, uni_loop, Hv.out, lay_loop Hseg.out (uni_len t1 _), Hen.out]⟩

end Go.Proofs.Ythocmmhhhiikpaa

namespace Go.Proofs.Ythocmmhhhiikpaa
open Go.RowKit

/-- The sets of a valid program. -/
def usOf (cs : List Cd) (t : Tr) : List Int := (List.range cs.length).map fun j => ((lay cs (fun _ => 0) 0 (uni t 15).2 j : Nat) : Int)
def UsP (cs : List Cd) (xs : List Int) : Prop := (∀ hv : PValid cs, xs = usOf cs hv.tree.choose) ∧ (¬ PValid cs → xs = [])
theorem UsP.unique {cs : List Cd} {xs ys : List Int} (h : UsP cs xs) (k : UsP cs ys) : xs = ys := by
  by_cases hv : PValid cs
  · rw [h.1 hv, k.1 hv]
  · rw [h.2 hv, k.2 hv]
theorem us_val (cs : List Cd) (t : Tr) : (usOf cs t).map (Value.int .i64) = (List.range cs.length).map fun j => .int .i64 (lay cs (fun _ => 0) 0 (uni t 15).2 j : Nat) := by
  unfold usOf
  simp [List.map_map, Function.comp_def]
theorem us_zeros (n : Nat) : zeros [.int .i64 0] n = (List.range n).map fun j => Value.int .i64 (((fun _ => 0 : Nat → Nat) j : Nat) : Int) := by
  apply List.ext_getElem?
  intro j
  by_cases hj : j < n
  · rw [zeros_get _ _ _ (by simpa using hj)]; simp [hj, Nat.mod_one]
  · rw [List.getElem?_eq_none (by simp [zeros, madeCells]; omega), List.getElem?_eq_none (by simp; omega)]

set_option maxHeartbeats 2000000 in
theorem sus_any (v : Value) (cs : List Cd) (w : World) (h : Codes w v cs) (hlen : cs.length ≤ 1048576) :
    Calls Try.prog 11 #[v] w (ResInts (UsP cs) w) := by
  have H := Lib.hid h
  obtain ⟨A, c, rfl, hnc, hcm⟩ := h.form
  clear h
  by_cases hv : PValid cs
  · have HV := Lib.hid hv
    have hsmall := hv.2.1
    have HO0 : Hid (OwnO (w.alloc (.cells #[] 3)) w.heap.size 3 1 (.slice (some ⟨w.heap.size, 0, none⟩) 0 0) 0 []) := Lib.hid (OwnO.empty_lit (Nat.le_refl _))
    clear hv
    go_enter Try.func11, Try.ntmps11
    go_wp2_with fail
    refine (spv_any _ cs _ (H.out.keep (Pure.alloc (Pure.refl _) _)) hlen true (by simp [HV.out])).mono ?_
    rintro e w1 ⟨rfl, hp1⟩
    have hpw1 : Pure w w1 := (Pure.alloc (Pure.refl _) _).trans hp1
    have HOE := Lib.hid (HO0.out.pure hp1)
    have HPW1 := Lib.hid hpw1
    clear hp1
    go_wp2
    go_loopg [4, 3] cs.length (fun gk i q wr => ∃ k : Nat, gk + k = cs.length ∧ i = .int .i64 k ∧ OwnE (.slice (some ⟨w.heap.size, 0, none⟩) 0 0) wr w1.heap.size 3 1 q k ((List.range k).map fun j => Value.int .i64 (((fun _ => 0 : Nat → Nat) j : Nat) : Int)) ∧ Pure w1 wr)
    case atStart => exact ⟨0, rfl, rfl, OwnE.start _ _ _ _ _, Pure.refl _⟩
    case round =>
      obtain ⟨k, hgk, rfl, hq, hp⟩ := hrel
      have Hgk := Lib.hid hgk
      have HQ := Lib.hid hq
      have hkn : k ≤ cs.length := by omega
      have hpw := hpw1.trans hp
      clear hgk hq
      obtain ⟨Aq, cq, rfl⟩ := HQ.out.form
      by_cases hlt : k < cs.length
      · go_wp2_with (at_builtin; go_must (refine wl_append1E elInt rfl _ _ rfl w.heap.size w1.heap.size (.slice Aq k cq) k _ rfl HQ.out wr.heap.size 1 [.int .i64 0] rfl rfl rfl rfl (by decide) (by omega) hp.size ?_); intro q' wq hq' hpq; have HQ' := Lib.hid hq'; have HPQ := Lib.hid (hpq w1 (Nat.le_refl _) hp); clear hq' hpq)
        go_roundg (cs.length - (k + 1))
        case measure => have := Hgk.out; omega
        case rel =>
          refine ⟨k + 1, by have := Hgk.out; omega, by go_num, .inl ?_, HPQ.out⟩
          have := HQ'.out
          rw [List.range_succ, List.map_append]
          exact this
      · have hkl : k = cs.length := by omega
        subst hkl
        have hq := HQ.out.own (HOE.out.pure hp) hpw1.size
        have HUR : Hid (UR w (.slice A cs.length c) (.slice Aq cs.length cq) cs wr (fun _ => 0)) := Lib.hid ⟨hpw, H.out, hq⟩
        have hf := HV.out.tree.choose_spec
        have HF := Lib.hid hf
        obtain ⟨t, Ht⟩ : ∃ t, Hid (HV.out.tree.choose = t) := ⟨_, rfl⟩
        rw [Ht.out] at hf
        have HFT := Lib.hid hf
        have htl : t.len = cs.length := by rw [HFT.out.1]; rfl
        have HTL := Lib.hid htl
        clear hf hq htl
        go_wp2_with fail
        refine (swalk_any w _ _ cs HV.out t.len t 0 15 (fun _ => 0) _ _ _ (Nat.le_refl _) HFT.out.2.1 (Seg.whole HFT.out.1) (by have := HTL.out; omega) (by omega) HUR.out rfl (by have := HTL.out; omega)).mono ?_
        rintro e w3 ⟨rfl, hr3, _⟩
        have HR3 := Lib.hid hr3
        clear hr3
        go_wp2
        go_ret
        exact ⟨_, usOf cs t, rfl, ⟨fun _ => by rw [Ht.out], fun hn => absurd HV.out hn⟩, by simp [usOf]; omega, by rw [us_val]; simp only [usOf, List.length_map, List.length_range]; exact HR3.out.own, HR3.out.pure⟩
  · have HV := Lib.hid hv
    clear hv
    go_enter Try.func11, Try.ntmps11
    go_wp2_with fail
    refine (spv_any _ cs _ (H.out.keep (Pure.alloc (Pure.refl _) _)) hlen false (by simp [HV.out])).mono ?_
    rintro e w1 ⟨rfl, hp1⟩
    have hpw1 : Pure w w1 := (Pure.alloc (Pure.refl _) _).trans hp1
    have HOE : Hid (OwnO w1 w.heap.size 3 1 (.slice (some ⟨w.heap.size, 0, none⟩) 0 0) 0 []) := Lib.hid ((OwnO.empty_lit (Nat.le_refl _)).pure hp1)
    go_wp2
    go_ret
    exact ⟨_, [], rfl, ⟨fun h => absurd h HV.out, fun _ => rfl⟩, by simp, HOE.out, hpw1⟩

set_option maxHeartbeats 2000000 in
theorem ius_ok (v : Value) (cs : List Cd) (w : World) (h : Codes w v cs) (hv : PValid cs) :
    Calls Try.prog 37 #[v] w (ResInts (UsP cs) w) := by
  have H := Lib.hid h
  have HV := Lib.hid hv
  have hsmall := hv.2.1
  obtain ⟨A, c, rfl, hnc, hcm⟩ := h.form
  clear h hv
  go_enter Try.func37, Try.ntmps37
  go_wp2_with fail
  refine (blocks_any _ cs _ H.out hsmall).mono ?_
  rintro e w2 ⟨hp2, hm⟩
  rw [HV.out.2.2] at hm
  obtain ⟨va, vn, rfl, ht⟩ := hm
  have HT := Lib.hid (ht rfl)
  have HP2 := Lib.hid hp2
  obtain ⟨pb, hcn, _, R, hca, _⟩ := ht rfl
  obtain ⟨An, cn, rfl, _, _, _⟩ := hcn
  obtain ⟨Aa, ca, rfl, _, _, _⟩ := hca
  clear ht
  go_wp2_with (at_make; go_must (refine wl_make elInt rfl _ _ rfl w2.heap.size _ _ _ _ cs.length rfl rfl (by omega) (by omega) (by omega) (by omega) (Nat.le_refl _) ?_); intro w3 hown hp3 hsz; have hO := Lib.hid (OwnO.of_own hown); have HP3 := Lib.hid hp3; clear hown)
  have HUI : Hid (UI w2 (.slice A cs.length c) (.slice Aa cs.length ca) (.slice An cs.length cn) (.slice (some ⟨w2.heap.size, 0, none⟩) cs.length cs.length) w3.heap.size cs (w3.alloc (.cells #[.slice A cs.length c, .slice An cs.length cn, .slice (some ⟨w2.heap.size, 0, none⟩) cs.length cs.length] 87)) (fun _ => 0)) := by
    have hlt : w2.heap.size < w3.heap.size := (hO.out.lt _ rfl).2
    refine Lib.hid ⟨⟨HP3.out.alloc _, H.out.keep HP2.out, ?_⟩, HT.out, Nat.le_of_lt hlt, ?_, ?_, ?_, fun e => ?_⟩
    · rw [← us_zeros]; exact hO.out.alloc _
    · simp
    · simp
    · simp
    · have e2 : w2.heap.size = w3.heap.size := Option.some.inj e
      omega
  have hf := HV.out.tree.choose_spec
  obtain ⟨t, Ht⟩ : ∃ t, Hid (HV.out.tree.choose = t) := ⟨_, rfl⟩
  rw [Ht.out] at hf
  have HFT := Lib.hid hf
  have htl : t.len = cs.length := by rw [HFT.out.1]; rfl
  have HTL := Lib.hid htl
  clear hf htl
  refine (irun_any w2 _ (.slice Aa cs.length ca) _ _ _ cs HV.out t.len t 0 15 (fun _ => 0) _ _ _ (Nat.le_refl _) HFT.out.2.1 (Seg.whole HFT.out.1) (by have := HTL.out; omega) (by omega) HUI.out rfl (by have := HTL.out; omega)).mono ?_
  rintro e w4 ⟨rfl, hr4, _⟩
  have HR4 := Lib.hid hr4
  have o2 := hr4.o2
  clear hr4
  go_wp2
  go_ret
  exact ⟨_, usOf cs t, rfl, ⟨fun _ => by rw [Ht.out], fun hn => absurd HV.out hn⟩, by simp [usOf]; omega, by rw [us_val]; simp only [usOf, List.length_map, List.length_range]; exact OwnO.base HR4.out.ur.own HP2.out.size, HP2.out.trans HR4.out.ur.pure⟩

set_option maxHeartbeats 1000000 in
theorem ius_any (v : Value) (cs : List Cd) (w : World) (h : Codes w v cs) (hlen : cs.length ≤ 1048576) :
    Calls Try.prog 13 #[v] w (ResInts (UsP cs) w) := by
  have H := Lib.hid h
  obtain ⟨A, c, rfl, hnc, hcm⟩ := h.form
  clear h
  by_cases hv : PValid cs
  · have HV := Lib.hid hv
    clear hv
    go_enter Try.func13, Try.ntmps13
    go_wp2_with fail
    refine (ipv_any _ cs _ H.out hlen true (by simp [HV.out])).mono ?_
    rintro e w1 ⟨rfl, hp1⟩
    go_wp2_with fail
    refine (ius_ok _ cs _ (H.out.keep hp1) HV.out).mono ?_
    rintro e w2 ⟨v2, xs, rfl, h1, h2, h3, h4⟩
    have H1 := Lib.hid h1; clear h1
    have HO : Hid (OwnO w2 w.heap.size 3 1 v2 xs.length (xs.map (.int .i64))) := Lib.hid (OwnO.base h3 hp1.size)
    have hp := hp1.trans h4
    clear h3
    go_wp2
    go_ret
    exact ⟨_, _, rfl, H1.out, h2, HO.out, hp⟩
  · have HV := Lib.hid hv
    clear hv
    go_enter Try.func13, Try.ntmps13
    go_wp2_with fail
    refine (ipv_any _ cs _ H.out hlen false (by simp [HV.out])).mono ?_
    rintro e w1 ⟨rfl, hp1⟩
    go_wp2
    go_ret
    exact ⟨_, [], rfl, ⟨fun h => absurd h HV.out, fun _ => rfl⟩, by simp, OwnO.of_own (World.ownsRow_nil _ _ _ _), hp1⟩

end Go.Proofs.Ythocmmhhhiikpaa

namespace Go.Proofs.Ythocmmhhhiikpaa
open Go.ChangeShapes Go.WideShapes Go.ChangeAt Go.RowKit Go.Deep

theorem own_knob : ownKnob Try.prog.godebug = none := by kernel_rfl
theorem laid_out : laidOutB Try.prog = true := by kernel_rfl

theorem addr_form {w : World} {a : Addr} {v : Value} (h : w.cell? a = some v) : ∃ b o, a = ⟨b, o, none⟩ := by
  obtain ⟨b, o, s⟩ := a
  have := World.cell?_spot h
  simp only at this
  subst this
  exact ⟨b, o, rfl⟩
theorem block_of_cell {w : World} {b o : Nat} {v : Value} (h : w.cell? ⟨b, o, none⟩ = some v) : b < w.heap.size := World.block_lt_of_cell? w ⟨b, o, none⟩ h

theorem Cells.of_addr {w : World} {a : Addr} {len cap s : Nat} {f : Nat → Value} (hs : 0 < s) (h1 : len ≤ cap) (h2 : cap ≤ maxLen) (hc : ∀ j, j < len * s → w.cell? (a.add j) = some (f j)) : Cells w (.slice (some a) len cap) len s f := by
  refine ⟨_, cap, rfl, h1, by unfold maxLen at h2; omega, fun hn => ?_⟩
  have h0 := hc 0 (Nat.mul_pos hn hs)
  obtain ⟨b, o, rfl⟩ := addr_form (show w.cell? a = some (f 0) by simpa [Addr.add] using h0)
  refine ⟨b, o, rfl, block_of_cell (show w.cell? ⟨b, o, none⟩ = some (f 0) by simpa [Addr.add] using h0), fun j hj => ?_⟩
  rw [← add_mid]; exact hc j hj

section
variable {H : Type} {enc : TypeId × Value → H} {W : World} {base : Nat} {held : Bool}

theorem ints_open {fuel : Nat} {cs : List Value} {x : DataW H × List MemPlace} (h : DataW.trod enc Try.prog W base (fun _ => true) held fuel 24 cs = some x) : ∃ v xs, cs = [v] ∧ Ints W v xs ∧ xs.length * 8 ≤ maxLen * 8 := by
  rcases open_ints Try.underlying24 Try.underlying3 (by kernel_rfl) h with ⟨hcs, _⟩ | ⟨a, len, cap, zs, hcs, _, hl, hm, hz, _, hcell, hwz⟩
  · exact ⟨_, [], hcs, ⟨none, 0, rfl, by simp, by omega, fun h => absurd h (by simp)⟩, by simp⟩
  · simp only [if_true] at hz
    refine ⟨_, zs.take len, hcs, ?_, by simp; have := hm; omega⟩
    have hlen : (zs.take len).length = len := by simp; omega
    unfold Ints
    rw [hlen]
    refine Cells.of_addr (by omega) hl hm fun j hj => ?_
    rw [hcell j (by omega)]
    have : j < len := by omega
    simp [List.getD_eq_getElem?_getD, this]

theorem introws_open {fuel : Nat} {cs : List Value} {x : DataW H × List MemPlace} (h : DataW.trod enc Try.prog W base (fun _ => true) held fuel 61 cs = some x) : ∃ v xss, cs = [v] ∧ IntRows W v xss := by
  rcases open_int_rows Try.underlying61 Try.underlying24 Try.underlying3 (by kernel_rfl) (by kernel_rfl) h with ⟨hcs, _⟩ | ⟨a, len, cap, A, L, C, Z, hcs, _, hl, hm, _, hr⟩
  · exact ⟨_, [], hcs, ⟨none, 0, rfl, by simp, by omega, fun h => absurd h (by simp)⟩⟩
  · refine ⟨_, (List.range len).map fun r => (Z r).take (L r), hcs, ?_⟩
    have hlen : ((List.range len).map fun r => (Z r).take (L r)).length = len := by simp
    refine ⟨some a, cap, by rw [hlen], by rw [hlen]; exact hl, by unfold maxLen at hm; omega, fun hn => ?_⟩
    rw [hlen] at hn
    have h0 := (hr 0 (by omega)).1
    obtain ⟨b, o, rfl⟩ := addr_form (show W.cell? a = _ by simpa [Addr.add] using h0)
    refine ⟨b, o, rfl, block_of_cell (show W.cell? ⟨b, o, none⟩ = _ by simpa [Addr.add] using h0), fun k hk => ?_⟩
    rw [hlen] at hk
    obtain ⟨c1, c2, c3, c4, c5, c6, c7⟩ := hr k (by omega)
    refine ⟨_, by rw [← add_mid]; exact c1, ?_⟩
    have hrow : ((List.range len).map fun r => (Z r).take (L r)).getD k [] = (Z k).take (L k) := by simp [List.getD_eq_getElem?_getD, hk]
    rw [hrow]
    have hl2 : ((Z k).take (L k)).length = L k := by simp; omega
    unfold Ints
    rw [hl2]
    cases hA : A k with
    | none =>
      have := c6 hA
      exact ⟨none, C k, rfl, by omega, by unfold maxLen at c3; omega, fun h => absurd h (by omega)⟩
    | some a' =>
      refine Cells.of_addr (by omega) c2 c3 fun j hj => ?_
      rw [(c7 a' hA).2 j (by omega)]
      have : j < L k := by omega
      simp [List.getD_eq_getElem?_getD, this]
end
end Go.Proofs.Ythocmmhhhiikpaa

namespace Go.Proofs.Ythocmmhhhiikpaa
open Go.ChangeShapes Go.WideShapes Go.ChangeAt Go.RowKit Go.Deep

section
variable {H : Type} {enc : TypeId × Value → H} {W : World} {base : Nat} {held : Bool}

set_option maxRecDepth 100000 in
theorem codes_open {fuel : Nat} {cs : List Value} {x : DataW H × List MemPlace} (h : DataW.trod enc Try.prog W base (fun _ => true) held fuel 22 cs = some x) : ∃ v xs, cs = [v] ∧ Codes W v xs := by
  rcases open_slice Try.underlying22 h with ⟨hcs, _⟩ | ⟨a, len, cap, m, n, D, Pl, hcs, _, hl, hm, hmm, _, hx⟩
  · exact ⟨_, [], hcs, ⟨none, 0, rfl, by simp, by omega, fun h => absurd h (by simp)⟩⟩
  · simp only [if_true] at hmm
    subst hmm
    have c67 : Try.prog.cellsOf 51 = 4 := by kernel_rfl
    have c3 : Try.prog.cellsOf 3 = 1 := by kernel_rfl
    have each : ∀ i, i < m → ∃ c : Cd, W.cell? (a.add (i * 4)) = some (.int .i64 c.op) ∧ W.cell? (a.add (i * 4 + 1)) = some (.int .i64 c.a) ∧ W.cell? (a.add (i * 4 + 2)) = some (.int .i64 c.b) ∧ W.cell? (a.add (i * 4 + 3)) = some (.int .i64 c.c) := by
      intro i hi
      obtain ⟨cs', h1, h2⟩ := hx i hi
      rw [c67] at h1
      obtain ⟨_, hlen, hcell⟩ := World.cells?_some h1
      obtain ⟨xs, k, hk, hxy, _, hxl, hf⟩ := DataW.trod_struct Try.underlying51 h2
      match cs', hlen with
      | [v0, v1, v2, v3], _ =>
        have g0 := hf 0 _ rfl
        have g1 := hf 1 _ rfl
        have g2 := hf 2 _ rfl
        have g3 := hf 3 _ rfl
        have e0 := hcell 0 (by omega)
        have e1 := hcell 1 (by omega)
        have e2 := hcell 2 (by omega)
        have e3 := hcell 3 (by omega)
        rw [add_add] at e0 e1 e2 e3
        match xs, hxl with
        | [y0, y1, y2, y3], _ =>
          simp [c3] at g0 g1 g2 g3
          obtain ⟨z0, hz0, _⟩ := DataW.trod_int Try.underlying3 g0
          obtain ⟨z1, hz1, _⟩ := DataW.trod_int Try.underlying3 g1
          obtain ⟨z2, hz2, _⟩ := DataW.trod_int Try.underlying3 g2
          obtain ⟨z3, hz3, _⟩ := DataW.trod_int Try.underlying3 g3
          simp only [List.cons.injEq, and_true] at hz0 hz1 hz2 hz3
          subst hz0 hz1 hz2 hz3
          exact ⟨⟨z0, z1, z2, z3⟩, by simpa using e0, by simpa using e1, by simpa using e2, by simpa using e3⟩
    obtain ⟨q, hq⟩ := choose_lt each
    refine ⟨_, (List.range len).map q, hcs, ?_⟩
    have hlen : ((List.range len).map q).length = len := by simp
    unfold Codes
    rw [hlen]
    refine Cells.of_addr (by omega) hl hm fun j hj => ?_
    have hj4 : j / 4 < len := by omega
    have hd : ((List.range len).map q).getD (j / 4) default = q (j / 4) := by simp [List.getD_eq_getElem?_getD, hj4]
    obtain ⟨a0, a1, a2, a3⟩ := hq (j / 4) (by omega)
    unfold cdf
    rw [hd]
    have hm4 : j % 4 < 4 := Nat.mod_lt _ (by decide)
    have hsplit : j = j / 4 * 4 + j % 4 := by omega
    clear hd
    generalize j / 4 = p at *
    generalize j % 4 = r at *
    subst hsplit
    match r, hm4 with
    | 0, _ => exact a0
    | 1, _ => exact a1
    | 2, _ => exact a2
    | 3, _ => exact a3
end
end Go.Proofs.Ythocmmhhhiikpaa
