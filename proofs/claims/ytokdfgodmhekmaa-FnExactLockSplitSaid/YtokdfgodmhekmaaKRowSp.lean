/- The law FnExactLockSplit, whole: the program's split step is the reference's. No condition. -/
import Derived.Test.YtokdfgodmhekmaaKbd
import Derived.Test.YtokdfgodmhekmaaKbe

namespace Go.Proofs.Ytokdfgodmhekmaa
open Go.RowKit

set_option maxHeartbeats 4000000 in
theorem law_FnExactLockSplit_of (v : Value) (cs : List Cd) (a : Int) (vm : Value) (mem : List Int) (w : World) (h : Codes w v cs) (hm : Ints w vm mem) (x y : Int) (b : Bool) (hq : spl2 (splA cs a mem) = .tuple #[.agg #[.int .i64 x, .int .i64 y], .bool b]) :
    Calls Try.prog 6 #[v, .int .i64 a, vm] w fun e w' => e = .returned (.bool true) ∧ Pure w w' := by
  have HQ := Lib.hid hq
  clear hq
  have hbb : (b != b) = false := by simp
  have H := Lib.hid h
  have HM := Lib.hid hm
  obtain ⟨A, c, rfl, hnc, hcm⟩ := h.form
  obtain ⟨Am, cm, rfl, hmc, hmcm, _⟩ := hm
  clear h
  by_cases hbig : 1048576 < (mem.length : Int)
  · go_enter Try.func6, Try.ntmps6
    go_wp2
    go_ret
    exact ⟨rfl, Pure.refl _⟩
  have hml : mem.length ≤ 1048576 := by omega
  go_enter Try.func6, Try.ntmps6
  go_wp2_with fail
  refine (szCodeS_any _ _ _ _ H.out (by omega) (by omega)).mono ?_
  rintro e w' ⟨rfl, rfl⟩
  by_cases h0 : (1048576 : Int) < cs.length
  · rw [if_pos h0]
    go_wp2
    go_ret
    exact ⟨rfl, Pure.refl _⟩
  rw [if_neg h0]
  have hlen : cs.length ≤ 1048576 := by omega
  have hge : ¬ ((1048576 : Int) - cs.length < 0) := by omega
  clear h0
  go_wp2_with fail
  refine (toCodeS_any _ cs _ H.out hlen).mono ?_
  rintro e w1 ⟨v1, rfl, hv1, hp1⟩
  have HV1 := Lib.hid hv1; clear hv1
  have hq1 := hp1
  go_wp2_with fail
  refine (toIntS_any _ mem _ (HM.out.keep hq1) (by omega)).mono ?_
  rintro e w2 ⟨v2, rfl, hv2, hp2⟩
  have HV2 := Lib.hid hv2; clear hv2
  have hq2 := hq1.trans hp2
  go_wp2_with fail
  refine (sspl_any _ _ cs a mem _ ((codes_of_own HV1.out).keep hp2) (ints_of_row HV2.out) hlen hml).mono ?_
  rintro e w3 ⟨rfl, hp3⟩
  have hq3 := hq2.trans hp3
  rw [HQ.out]
  have hp4 : Pure w3 (w3.alloc (.cells #[.int .i64 x, .int .i64 y] 44)) := by exact (by repeat (first | assumption | exact Pure.refl _ | refine Pure.drewN ?_ _ | refine Pure.drew ?_ | refine Pure.alloc ?_ _ | refine Pure.setCell ?_ (by simp <;> omega) _))
  have hq4 := hq3.trans hp4
  go_wp2_with fail
  refine (toCodeS_any _ cs _ (H.out.keep hq4) hlen).mono ?_
  rintro e w5 ⟨v5, rfl, hv5, hp5⟩
  have HV5 := Lib.hid hv5; clear hv5
  have hq5 := hq4.trans hp5
  go_wp2_with fail
  refine (toIntS_any _ mem _ (HM.out.keep hq5) (by omega)).mono ?_
  rintro e w6 ⟨v6, rfl, hv6, hp6⟩
  have HV6 := Lib.hid hv6; clear hv6
  have hq6 := hq5.trans hp6
  go_wp2_with fail
  refine (ispl_any _ _ cs a mem _ ((codes_of_own HV5.out).keep hp6) (ints_of_row HV6.out) hlen hml).mono ?_
  rintro e w7 ⟨rfl, hp7⟩
  have hq7 := hq6.trans hp7
  rw [HQ.out]
  have hqG := hq7
  obtain ⟨zr0, zr1⟩ := box_facts (show Pure (w3.alloc (.cells #[.int .i64 x, .int .i64 y] 44)) (w7.alloc (.cells #[.int .i64 x, .int .i64 y] 44)) from Pure.trans ((hp5.trans hp6).trans hp7) (by exact (by repeat (first | assumption | exact Pure.refl _ | refine Pure.drewN ?_ _ | refine Pure.drew ?_ | refine Pure.alloc ?_ _ | refine Pure.setCell ?_ (by simp <;> omega) _))))
  obtain ⟨zg0, zg1⟩ := box_facts (Pure.refl (w7.alloc (.cells #[.int .i64 x, .int .i64 y] 44)))
  go_wp2_with fail
  refine (eqBeat_same x y _).mono ?_
  rintro e w8 ⟨rfl, hpe⟩
  have hp8 : Pure w7 w8 := Pure.trans (by exact (by repeat (first | assumption | exact Pure.refl _ | refine Pure.drewN ?_ _ | refine Pure.drew ?_ | refine Pure.alloc ?_ _ | refine Pure.setCell ?_ (by simp <;> omega) _))) hpe
  have hq8 := hq7.trans hp8
  go_wp2_with fail
  refine (toCodeS_any _ cs _ (H.out.keep hq8) hlen).mono ?_
  rintro e w9 ⟨v9, rfl, hv9, hp9⟩
  have HV9 := Lib.hid hv9; clear hv9
  have hq9 := hq8.trans hp9
  go_wp2_with fail
  refine (eqCodeS_same _ _ cs _ ((codes_of_own HV5.out).keep (((hp6.trans hp7).trans hp8).trans hp9)) (codes_of_own HV9.out)).mono ?_
  rintro e w10 ⟨rfl, hp10⟩
  have hq10 := hq9.trans hp10
  go_wp2_with fail
  refine (toIntS_any _ mem _ (HM.out.keep hq10) (by omega)).mono ?_
  rintro e w11 ⟨v11, rfl, hv11, hp11⟩
  have HV11 := Lib.hid hv11; clear hv11
  have hq11 := hq10.trans hp11
  go_wp2_with fail
  refine (eqIntS_any _ _ mem mem _ ((ints_of_row HV6.out).keep ((((hp7.trans hp8).trans hp9).trans hp10).trans hp11)) (ints_of_row HV11.out) true (by simp)).mono ?_
  rintro e w12 ⟨rfl, hz12⟩
  have hp12 := Pure.of_quiet hz12; clear hz12
  have hq12 := hq11.trans hp12
  go_wp2
  go_ret
  exact ⟨rfl, by have h := hq12; exact (by repeat (first | assumption | exact Pure.refl _ | refine Pure.drewN ?_ _ | refine Pure.drew ?_ | refine Pure.alloc ?_ _ | refine Pure.setCell ?_ (by simp <;> omega) _))⟩

theorem law_FnExactLockSplit (v : Value) (cs : List Cd) (a : Int) (vm : Value) (mem : List Int) (w : World) (h : Codes w v cs) (hm : Ints w vm mem) :
    Calls Try.prog 6 #[v, .int .i64 a, vm] w fun e w' => e = .returned (.bool true) ∧ Pure w w' := by
  cases hsp : splA cs a mem with
  | none => exact law_FnExactLockSplit_of v cs a vm mem w h hm 0 0 false (by rw [hsp]; rfl)
  | some y => exact law_FnExactLockSplit_of v cs a vm mem w h hm y.1 y.2.1 true (by rw [hsp]; rfl)

end Go.Proofs.Ytokdfgodmhekmaa

namespace Go.Proofs.Ytokdfgodmhekmaa.rowFnExactLockSplit
open Go.ChangeShapes Go.WideShapes Go.ChangeAt Go.RowKit Go.Deep

set_option maxRecDepth 100000 in
theorem lifted (os : Os) (started : os.Started) (H : Type) (enc : TypeId × Value → H) :
    ReturnsInHanded {} Try.checked os 6 .any (Rows.fnExactLockSplitSpec.pre6 enc Try.prog Try.f6 Rows.fnExactLockSplitRow.domain false) (Rows.fnExactLockSplitSpec.post enc Try.prog Try.f6 false true false false) := by
  refine returnsInHanded_of_change (C := Try.checked) own_knob started (by kernel_rfl) Try.func6
    (ChangeSpec.witness6 (enc := enc) (C := Try.checked) false ⟨#[], #[.slice none 0 0, .int .i64 0, .slice none 0 0], []⟩ 8 (by kernel_rfl) (by kernel_rfl) (by kernel_rfl) (by kernel_rfl)) ?_
  intro W base args ds gs before hval0 hW hcnd _
  have hval : ∀ (j : Nat) t v, Try.f6.params[j]? = some t → args[j]? = some v → Value.okWide Try.prog W .any base t v := hval0
  have hW' := hW
  obtain ⟨p, q, hA0, hV, rfl, hfz, hnd⟩ := hW
  have hA : DataW.TrodAll enc Try.prog W 0 (fun _ => true) true Try.f6.params.toList args.toList ds p := hA0
  rw [Try.params6] at hA hval
  obtain ⟨v0, vs0, d0, ds0, p0, q0, hargs, rfl, rfl, h0, r0⟩ := trodAll_cons hA
  obtain ⟨v1, vs1, d1, ds1, p1, q1, rfl, rfl, rfl, h1, r1⟩ := trodAll_cons r0
  obtain ⟨v2, vs2, d2, ds2, p2, q2, rfl, rfl, rfl, h2, r2⟩ := trodAll_cons r1
  obtain ⟨rfl, rfl, rfl⟩ := trodAll_nil r2
  obtain rfl : args = #[v0, v1, v2] := by cases args; simp_all
  obtain ⟨rfl, rfl⟩ := trodVars_none hV
  have k0 := h0
  have lt0 : ∀ x ∈ p0, x.block < W.heap.size := by obtain ⟨m, hm⟩ := k0; exact DataW.trod_lt m _ _ _ hm
  obtain ⟨A0, len0, cap0, rfl⟩ := okWide_slice Try.underlying22 (hval 0 22 v0 rfl rfl)
  obtain ⟨x0, w0⟩ : ∃ xs, Codes W (.slice A0 len0 cap0) xs := by
    obtain ⟨fuel, hf⟩ := h0
    obtain ⟨v, xs, hcs, hx⟩ := codes_open hf
    simp [Value.cells] at hcs
    subst hcs
    exact ⟨xs, hx⟩
  obtain ⟨a1, rfl, rfl, rfl, w1⟩ := open_int Try.underlying3 (hval 1 3 v1 rfl rfl) h1
  have k2 := h2
  have lt2 : ∀ x ∈ p2, x.block < W.heap.size := by obtain ⟨m, hm⟩ := k2; exact DataW.trod_lt m _ _ _ hm
  obtain ⟨A2, len2, cap2, rfl⟩ := okWide_slice Try.underlying23 (hval 2 23 v2 rfl rfl)
  obtain ⟨x2, w2⟩ : ∃ xs, Ints W (.slice A2 len2 cap2) xs := by
    obtain ⟨fuel, hf⟩ := h2
    obtain ⟨v, xs, hcs, hx, _⟩ := ints_open hf
    simp [Value.cells] at hcs
    subst hcs
    exact ⟨xs, hx⟩
  clear hA0 hval0
  refine (law_FnExactLockSplit _ x0 a1 _ x2 W w0 w2).mono fun e W' ⟨he, bel⟩ => ?_
  subst he
  have bel' : Below W.heap.size W W' := bel
  exact ⟨_, rfl, _, _, _, [], _, [], hW', trodAll_mk1 (shut_bool Try.underlying4 _), (trodAll_cons_mk (Below.trod laid_out (by kernel_rfl) (of_decide_eq_true (by kernel_rfl)) k0 bel' lt0) (trodAll_cons_mk (shut_int Try.underlying3 w1) (trodAll_cons_mk (Below.trod laid_out (by kernel_rfl) (of_decide_eq_true (by kernel_rfl)) k2 bel' lt2) trodAll_mk0))), rfl, bel'.frame _, fun h => by cases h⟩

theorem proved : Rows.FnExactLockSplitSaid :=
  OpenClaim.holds_of_wide 6 Try.f6 rfl rfl rfl rfl rfl rfl rfl ⟨rfl, rfl, rfl, rfl, rfl⟩ rfl rfl rfl rfl rfl (by kernel_rfl) Try.func6 (by kernel_rfl)
    (of_decide_eq_true (by kernel_rfl)) (by unfold Func.isWrapper; rw [if_neg (of_decide_eq_false (by kernel_rfl))]; exact ⟨rfl, rfl⟩)
    (fun os started H enc _ => lifted os started H enc)

end Go.Proofs.Ytokdfgodmhekmaa.rowFnExactLockSplit
