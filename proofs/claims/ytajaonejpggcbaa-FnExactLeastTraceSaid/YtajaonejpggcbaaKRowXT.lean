/- The law FnExactLeastTrace, whole: The program's steps are the reference's. No condition. -/
import Derived.Test.YtajaonejpggcbaaKbe
import Derived.Test.YtajaonejpggcbaaKca
import Derived.Test.YtajaonejpggcbaaKea

namespace Go.Proofs.Ytajaonejpggcbaa
open Go.RowKit

set_option maxHeartbeats 4000000 in
theorem law_FnExactLeastTrace (v : Value) (cs : List Cd) (a : Int) (vm : Value) (mem : List Int) (w : World) (h : Codes w v cs) (hm : Ints w vm mem) :
    Calls Try.prog 5 #[v, .int .i64 a, vm] w fun e w' => e = .returned (.bool true) ∧ Pure w w' := by
  have H := Lib.hid h
  have HM := Lib.hid hm
  obtain ⟨A, c, rfl, hnc, hcm⟩ := h.form
  obtain ⟨Am, cm, rfl, hmc, hmcm, _⟩ := hm
  clear h
  by_cases hbig : 1048576 < (mem.length : Int)
  · go_enter Try.func5, Try.ntmps5
    go_wp2
    go_ret
    exact ⟨rfl, Pure.refl _⟩
  have hml : mem.length ≤ 1048576 := by omega
  go_enter Try.func5, Try.ntmps5
  go_wp2_with fail
  refine (szCodeS_any _ _ _ _ H.out (by omega) (by omega)).mono ?_
  rintro e w' ⟨rfl, rfl⟩
  by_cases h0 : (1048576 : Int) < cs.length
  · rw [if_pos h0]
    go_wp2
    go_ret
    exact ⟨rfl, Pure.refl _⟩
  rw [if_neg h0]
  have hlen : cs.length ≤ 1048576 := by omega
  have hge : ¬ ((1048576 : Int) - cs.length < 0) := by omega
  clear h0
  have hll : (leastH cs a mem).length ≤ 1048576 := by have := leastH_len8 (cs := cs) (a := a) (mem := mem); omega
  have HLL := Lib.hid hll; clear hll
  go_wp2_with fail
  refine (toCodeS_any _ cs _ H.out hlen).mono ?_
  rintro e w1 ⟨v1, rfl, hv1, hp1⟩
  have HV1 := Lib.hid hv1; clear hv1
  have hq1 := hp1
  go_wp2_with fail
  refine (toIntS_any _ mem _ (HM.out.keep hq1) (by omega)).mono ?_
  rintro e w2 ⟨v2, rfl, hv2, hp2⟩
  have HV2 := Lib.hid hv2; clear hv2
  have hq2 := hq1.trans hp2
  go_wp2_with fail
  refine (sltrace_any _ _ cs a mem _ ((codes_of_own HV1.out).keep hp2) (ints_of_row HV2.out) hlen hml).mono ?_
  rintro e w3 ⟨r3, rfl, ho3, hp3⟩
  have HO3 := Lib.hid ho3; clear ho3
  have hq3 := hq2.trans hp3
  go_wp2_with fail
  refine (toCodeS_any _ cs _ (H.out.keep hq3) hlen).mono ?_
  rintro e w4 ⟨v4, rfl, hv4, hp4⟩
  have HV4 := Lib.hid hv4; clear hv4
  have hq4 := hq3.trans hp4
  go_wp2_with fail
  refine (toIntS_any _ mem _ (HM.out.keep hq4) (by omega)).mono ?_
  rintro e w5 ⟨v5, rfl, hv5, hp5⟩
  have HV5 := Lib.hid hv5; clear hv5
  have hq5 := hq4.trans hp5
  go_wp2_with fail
  refine (iltraceH_any _ _ cs a mem _ ((codes_of_own HV4.out).keep hp5) (ints_of_row HV5.out) hlen hml).mono ?_
  rintro e w6 ⟨r6, rfl, ho6, hp6⟩
  have HO6 := Lib.hid ho6; clear ho6
  have hq6 := hq5.trans hp6
  go_wp2_with fail
  refine (eqBeatS_same _ _ (leastH cs a mem) _ (Flat.of_own (HO6.out.pure (Pure.refl _))) (Flat.of_own (HO3.out.pure (((hp4.trans hp5).trans hp6))))).mono ?_
  rintro e w7 ⟨rfl, hp7⟩
  have hq7 := hq6.trans hp7
  go_wp2_with fail
  refine (toCodeS_any _ cs _ (H.out.keep hq7) hlen).mono ?_
  rintro e w8 ⟨v8, rfl, hv8, hp8⟩
  have HV8 := Lib.hid hv8; clear hv8
  have hq8 := hq7.trans hp8
  go_wp2_with fail
  refine (eqCodeS_same _ _ cs _ ((codes_of_own HV4.out).keep (((hp5.trans hp6).trans hp7).trans hp8)) (codes_of_own HV8.out)).mono ?_
  rintro e w9 ⟨rfl, hp9⟩
  have hq9 := hq8.trans hp9
  go_wp2_with fail
  refine (toIntS_any _ mem _ (HM.out.keep hq9) (by omega)).mono ?_
  rintro e w10 ⟨v10, rfl, hv10, hp10⟩
  have HV10 := Lib.hid hv10; clear hv10
  have hq10 := hq9.trans hp10
  go_wp2_with fail
  refine (eqIntS_any _ _ mem mem _ ((ints_of_row HV5.out).keep ((((hp6.trans hp7).trans hp8).trans hp9).trans hp10)) (ints_of_row HV10.out) true (by simp)).mono ?_
  rintro e w11 ⟨rfl, hz11⟩
  have hp11 := Pure.of_quiet hz11; clear hz11
  have hq11 := hq10.trans hp11
  go_wp2_with fail
  refine (markCodeS_any _ _ _ _ _ _ (HV4.out.pure ((((((hp5.trans hp6).trans hp7).trans hp8).trans hp9).trans hp10).trans hp11)) (by omega) (by omega) (by omega)).mono ?_
  rintro e w12 ⟨rfl, hg12⟩
  have HG12 := Lib.hid hg12; clear hg12
  have hq12 : Pure w w12 := Pure.grown hq11 HG12.out (fun g hg => Nat.le_trans hq3.size (HV4.out.lt g hg).1)
  have HR12 := Lib.hid ((HO3.out.pure (((((((hp4.trans hp5).trans hp6).trans hp7).trans hp8).trans hp9).trans hp10).trans hp11)).kept HG12.out (own_apart HO3.out HV4.out (Nat.le_refl _)))
  have HY12 := Lib.hid (((OwnO.of_own' HV5.out).pure (((((hp6.trans hp7).trans hp8).trans hp9).trans hp10).trans hp11)).kept HG12.out (own_apart' HV4.out (OwnO.of_own' HV5.out) (Nat.le_refl _)))
  have HN12 := Lib.hid ((HO6.out.pure ((((hp7.trans hp8).trans hp9).trans hp10).trans hp11)).kept HG12.out (own_apart' HV4.out HO6.out (hp5.size)))
  have hge1 : ¬ ((1 : Int) + 4 * cs.length < 0) := by omega
  go_wp2_with fail
  refine (markIntS_any _ _ _ _ _ _ HY12.out (by omega) (by omega) (by omega)).mono ?_
  rintro e w13 ⟨rfl, _, hg13⟩
  have HG13 := Lib.hid hg13; clear hg13
  have hq13 : Pure w w13 := Pure.grown hq12 HG13.out (fun g hg => Nat.le_trans hq4.size ((OwnO.of_own' HV5.out).lt g hg).1)
  have HR13 := Lib.hid (HR12.out.kept HG13.out (own_apart HO3.out (OwnO.of_own' HV5.out) (hp4.size)))
  have HN13 := Lib.hid (HN12.out.kept HG13.out (own_apart' (OwnO.of_own' HV5.out) HO6.out (Nat.le_refl _)))
  have hge2 : ¬ ((1 : Int) + 4 * cs.length + mem.length < 0) := by omega
  go_wp2_with fail
  refine (eqBeatS_same _ _ (leastH cs a mem) _ (Flat.of_own HN13.out) (Flat.of_own HR13.out)).mono ?_
  rintro e w14 ⟨rfl, hp14⟩
  have hq14 := hq13.trans hp14
  have hll := HLL.out
  go_wp2_with fail
  refine (markBeatS_any _ _ _ _ _ _ (HN13.out.pure hp14) (by omega) (by omega) (by omega)).mono ?_
  rintro e w15 ⟨rfl, hm15, hg15⟩
  have HG15 := Lib.hid hg15; clear hg15
  have HM15 := Lib.hid hm15; clear hm15
  have hq15 : Pure w w15 := Pure.grown hq14 HG15.out (fun g hg => Nat.le_trans hq5.size (HO6.out.lt g hg).1)
  have HR15 := Lib.hid ((HR13.out.pure hp14).kept HG15.out (own_apart HO3.out HO6.out (hp4.trans hp5).size))
  have hge3 : ¬ ((1 : Int) + 2 * ((leastH cs a mem).length : Nat) < 0) := by omega
  have hd3 : ((1 : Int) + 2 * ((leastH cs a mem).length : Nat) != 1 + 2 * ((leastH cs a mem).length : Nat)) = false := by simp
  go_wp2_with fail
  refine (heldBeatS_any _ _ _ _ (Flat.of_own HM15.out) (by omega) (by omega) (by omega)).mono ?_
  rintro e w16 ⟨rfl, hp16⟩
  have hq16 := hq15.trans hp16
  go_wp2_with fail
  refine (toCodeS_any _ cs _ (H.out.keep hq16) hlen).mono ?_
  rintro e w17 ⟨v17, rfl, hv17, hp17⟩
  have HV17 := Lib.hid hv17; clear hv17
  have hq17 := hq16.trans hp17
  go_wp2_with fail
  refine (toIntS_any _ mem _ (HM.out.keep hq17) (by omega)).mono ?_
  rintro e w18 ⟨v18, rfl, hv18, hp18⟩
  have HV18 := Lib.hid hv18; clear hv18
  have hq18 := hq17.trans hp18
  go_wp2_with fail
  refine (iltraceH_any _ _ cs a mem _ ((codes_of_own HV17.out).keep hp18) (ints_of_row HV18.out) hlen hml).mono ?_
  rintro e w19 ⟨r19, rfl, ho19, hp19⟩
  have HO19 := Lib.hid ho19; clear ho19
  have hq19 := hq18.trans hp19
  go_wp2_with fail
  refine (eqBeatS_same _ _ (leastH cs a mem) _ (Flat.of_own HO19.out) (Flat.of_own (HR15.out.pure (((hp16.trans hp17).trans hp18).trans hp19)))).mono ?_
  rintro e w20 ⟨rfl, hp20⟩
  have hq20 := hq19.trans hp20
  go_wp2_with fail
  refine (heldBeatS_any _ _ _ _ (Flat.of_own (HM15.out.pure ((((hp16.trans hp17).trans hp18).trans hp19).trans hp20))) (by omega) (by omega) (by omega)).mono ?_
  rintro e w21 ⟨rfl, hp21⟩
  have hq21 := hq20.trans hp21
  go_wp2
  go_ret
  exact ⟨rfl, by have h := hq21; exact (by repeat (first | assumption | exact Pure.refl _ | refine Pure.drewN ?_ _ | refine Pure.drew ?_ | refine Pure.alloc ?_ _ | refine Pure.setCell ?_ (by simp <;> omega) _))⟩

end Go.Proofs.Ytajaonejpggcbaa

namespace Go.Proofs.Ytajaonejpggcbaa.rowFnExactLeastTrace
open Go.ChangeShapes Go.WideShapes Go.ChangeAt Go.RowKit Go.Deep

set_option maxRecDepth 100000 in
theorem lifted (os : Os) (started : os.Started) (H : Type) (enc : TypeId × Value → H) :
    ReturnsInHanded {} Try.checked os 5 .any (Rows.fnExactLeastTraceSpec.pre6 enc Try.prog Try.f5 Rows.fnExactLeastTraceRow.domain false) (Rows.fnExactLeastTraceSpec.post enc Try.prog Try.f5 false true false false) := by
  refine returnsInHanded_of_change (C := Try.checked) own_knob started (by kernel_rfl) Try.func5
    (ChangeSpec.witness6 (enc := enc) (C := Try.checked) false ⟨#[], #[.slice none 0 0, .int .i64 0, .slice none 0 0], []⟩ 8 (by kernel_rfl) (by kernel_rfl) (by kernel_rfl) (by kernel_rfl)) ?_
  intro W base args ds gs before hval0 hW hcnd _
  have hval : ∀ (j : Nat) t v, Try.f5.params[j]? = some t → args[j]? = some v → Value.okWide Try.prog W .any base t v := hval0
  have hW' := hW
  obtain ⟨p, q, hA0, hV, rfl, hfz, hnd⟩ := hW
  have hA : DataW.TrodAll enc Try.prog W 0 (fun _ => true) true Try.f5.params.toList args.toList ds p := hA0
  rw [Try.params5] at hA hval
  obtain ⟨v0, vs0, d0, ds0, p0, q0, hargs, rfl, rfl, h0, r0⟩ := trodAll_cons hA
  obtain ⟨v1, vs1, d1, ds1, p1, q1, rfl, rfl, rfl, h1, r1⟩ := trodAll_cons r0
  obtain ⟨v2, vs2, d2, ds2, p2, q2, rfl, rfl, rfl, h2, r2⟩ := trodAll_cons r1
  obtain ⟨rfl, rfl, rfl⟩ := trodAll_nil r2
  obtain rfl : args = #[v0, v1, v2] := by cases args; simp_all
  obtain ⟨rfl, rfl⟩ := trodVars_none hV
  have k0 := h0
  have lt0 : ∀ x ∈ p0, x.block < W.heap.size := by obtain ⟨m, hm⟩ := k0; exact DataW.trod_lt m _ _ _ hm
  obtain ⟨A0, len0, cap0, rfl⟩ := okWide_slice Try.underlying26 (hval 0 26 v0 rfl rfl)
  obtain ⟨x0, w0⟩ : ∃ xs, Codes W (.slice A0 len0 cap0) xs := by
    obtain ⟨fuel, hf⟩ := h0
    obtain ⟨v, xs, hcs, hx⟩ := codes_open hf
    simp [Value.cells] at hcs
    subst hcs
    exact ⟨xs, hx⟩
  obtain ⟨a1, rfl, rfl, rfl, w1⟩ := open_int Try.underlying3 (hval 1 3 v1 rfl rfl) h1
  have k2 := h2
  have lt2 : ∀ x ∈ p2, x.block < W.heap.size := by obtain ⟨m, hm⟩ := k2; exact DataW.trod_lt m _ _ _ hm
  obtain ⟨A2, len2, cap2, rfl⟩ := okWide_slice Try.underlying23 (hval 2 23 v2 rfl rfl)
  obtain ⟨x2, w2⟩ : ∃ xs, Ints W (.slice A2 len2 cap2) xs := by
    obtain ⟨fuel, hf⟩ := h2
    obtain ⟨v, xs, hcs, hx, _⟩ := ints_open hf
    simp [Value.cells] at hcs
    subst hcs
    exact ⟨xs, hx⟩
  clear hA0 hval0
  refine (law_FnExactLeastTrace _ x0 a1 _ x2 W w0 w2).mono fun e W' ⟨he, bel⟩ => ?_
  subst he
  have bel' : Below W.heap.size W W' := bel
  exact ⟨_, rfl, _, _, _, [], _, [], hW', trodAll_mk1 (shut_bool Try.underlying4 _), (trodAll_cons_mk (Below.trod laid_out (by kernel_rfl) (of_decide_eq_true (by kernel_rfl)) k0 bel' lt0) (trodAll_cons_mk (shut_int Try.underlying3 w1) (trodAll_cons_mk (Below.trod laid_out (by kernel_rfl) (of_decide_eq_true (by kernel_rfl)) k2 bel' lt2) trodAll_mk0))), rfl, bel'.frame _, fun h => by cases h⟩

theorem proved : Rows.FnExactLeastTraceSaid :=
  OpenClaim.holds_of_wide 5 Try.f5 rfl rfl rfl rfl rfl rfl rfl ⟨rfl, rfl, rfl, rfl, rfl⟩ rfl rfl rfl rfl rfl (by kernel_rfl) Try.func5 (by kernel_rfl)
    (of_decide_eq_true (by kernel_rfl)) (by unfold Func.isWrapper; rw [if_neg (of_decide_eq_false (by kernel_rfl))]; exact ⟨rfl, rfl⟩)
    (fun os started H enc _ => lifted os started H enc)

end Go.Proofs.Ytajaonejpggcbaa.rowFnExactLeastTrace
