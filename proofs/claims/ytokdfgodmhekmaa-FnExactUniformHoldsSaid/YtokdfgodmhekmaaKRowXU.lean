/- The law FnExactUniformHolds, whole: The program's is the reference's. No condition. -/
import Derived.Test.YtokdfgodmhekmaaKab
import Derived.Test.YtokdfgodmhekmaaKac
import Derived.Test.YtokdfgodmhekmaaKbe
import Derived.Test.YtokdfgodmhekmaaKcf
import Derived.Test.YtokdfgodmhekmaaKch

namespace Go.Proofs.Ytokdfgodmhekmaa
open Go.RowKit

set_option maxHeartbeats 4000000 in
theorem law_FnExactUniformHolds (v : Value) (cs : List Cd) (a : Int) (vm : Value) (mem : List Int) (w : World) (h : Codes w v cs) (hm : Ints w vm mem) :
    Calls Try.prog 14 #[v, .int .i64 a, vm] w fun e w' => e = .returned (.bool true) ∧ Pure w w' := by
  have H := Lib.hid h
  have HM := Lib.hid hm
  obtain ⟨A, c, rfl, hnc, hcm⟩ := h.form
  obtain ⟨Am, cm, rfl, hmc, hmcm, _⟩ := hm
  clear h
  by_cases hbig : 1048576 < (mem.length : Int)
  · go_enter Try.func14, Try.ntmps14
    go_wp2
    go_ret
    exact ⟨rfl, Pure.refl _⟩
  have hml : mem.length ≤ 1048576 := by omega
  go_enter Try.func14, Try.ntmps14
  go_wp2_with fail
  refine (szCodeS_any _ _ _ _ H.out (by omega) (by omega)).mono ?_
  rintro e w' ⟨rfl, rfl⟩
  by_cases h0 : (1048576 : Int) < cs.length
  · rw [if_pos h0]
    go_wp2
    go_ret
    exact ⟨rfl, Pure.refl _⟩
  rw [if_neg h0]
  have hlen : cs.length ≤ 1048576 := by omega
  have hge : ¬ ((1048576 : Int) - cs.length < 0) := by omega
  clear h0
  obtain ⟨bb, hbb⟩ : ∃ bb : Bool, bb = true ↔ RunOk cs a mem := by classical exact ⟨decide (RunOk cs a mem), by simp⟩
  have HBB := Lib.hid hbb
  clear hbb
  have hd : (bb != bb) = false := by simp
  go_wp2_with fail
  refine (toCodeS_any _ cs _ H.out hlen).mono ?_
  rintro e w1 ⟨v1, rfl, hv1, hp1⟩
  have HV1 := Lib.hid hv1; clear hv1
  have hq1 := hp1
  go_wp2_with fail
  refine (toIntS_any _ mem _ (HM.out.keep hq1) (by omega)).mono ?_
  rintro e w2 ⟨v2, rfl, hv2, hp2⟩
  have HV2 := Lib.hid hv2; clear hv2
  have hq2 := hq1.trans hp2
  go_wp2_with fail
  refine (sunih_any _ _ cs a mem _ ((codes_of_own HV1.out).keep hp2) (ints_of_row HV2.out) hlen hml bb HBB.out).mono ?_
  rintro e w3 ⟨rfl, hp3⟩
  have hq3 := hq2.trans hp3
  go_wp2_with fail
  refine (toCodeS_any _ cs _ (H.out.keep hq3) hlen).mono ?_
  rintro e w4 ⟨v4, rfl, hv4, hp4⟩
  have HV4 := Lib.hid hv4; clear hv4
  have hq4 := hq3.trans hp4
  go_wp2_with fail
  refine (toIntS_any _ mem _ (HM.out.keep hq4) (by omega)).mono ?_
  rintro e w5 ⟨v5, rfl, hv5, hp5⟩
  have HV5 := Lib.hid hv5; clear hv5
  have hq5 := hq4.trans hp5
  go_wp2_with fail
  refine (iunih_any _ _ cs a mem _ ((codes_of_own HV4.out).keep hp5) (ints_of_row HV5.out) hlen hml bb HBB.out).mono ?_
  rintro e w6 ⟨rfl, hp6⟩
  have hq6 := hq5.trans hp6
  go_wp2_with fail
  refine (toCodeS_any _ cs _ (H.out.keep hq6) hlen).mono ?_
  rintro e w7 ⟨v7, rfl, hv7, hp7⟩
  have HV7 := Lib.hid hv7; clear hv7
  have hq7 := hq6.trans hp7
  go_wp2_with fail
  refine (eqCodeS_same _ _ cs _ ((codes_of_own HV4.out).keep ((hp5.trans hp6).trans hp7)) (codes_of_own HV7.out)).mono ?_
  rintro e w8 ⟨rfl, hp8⟩
  have hq8 := hq7.trans hp8
  go_wp2_with fail
  refine (toIntS_any _ mem _ (HM.out.keep hq8) (by omega)).mono ?_
  rintro e w9 ⟨v9, rfl, hv9, hp9⟩
  have HV9 := Lib.hid hv9; clear hv9
  have hq9 := hq8.trans hp9
  go_wp2_with fail
  refine (eqIntS_any _ _ mem mem _ ((ints_of_row HV5.out).keep (((hp6.trans hp7).trans hp8).trans hp9)) (ints_of_row HV9.out) true (by simp)).mono ?_
  rintro e w10 ⟨rfl, hz10⟩
  have hp10 := Pure.of_quiet hz10; clear hz10
  have hq10 := hq9.trans hp10
  go_wp2
  go_ret
  exact ⟨rfl, by have h := hq10; exact (by repeat (first | assumption | exact Pure.refl _ | refine Pure.drewN ?_ _ | refine Pure.drew ?_ | refine Pure.alloc ?_ _ | refine Pure.setCell ?_ (by simp <;> omega) _))⟩

end Go.Proofs.Ytokdfgodmhekmaa

namespace Go.Proofs.Ytokdfgodmhekmaa.rowFnExactUniformHolds
open Go.ChangeShapes Go.WideShapes Go.ChangeAt Go.RowKit Go.Deep

set_option maxRecDepth 100000 in
theorem lifted (os : Os) (started : os.Started) (H : Type) (enc : TypeId × Value → H) :
    ReturnsInHanded {} Try.checked os 14 .any (Rows.fnExactUniformHoldsSpec.pre6 enc Try.prog Try.f14 Rows.fnExactUniformHoldsRow.domain false) (Rows.fnExactUniformHoldsSpec.post enc Try.prog Try.f14 false true false false) := by
  refine returnsInHanded_of_change (C := Try.checked) own_knob started (by kernel_rfl) Try.func14
    (ChangeSpec.witness6 (enc := enc) (C := Try.checked) false ⟨#[], #[.slice none 0 0, .int .i64 0, .slice none 0 0], []⟩ 8 (by kernel_rfl) (by kernel_rfl) (by kernel_rfl) (by kernel_rfl)) ?_
  intro W base args ds gs before hval0 hW hcnd _
  have hval : ∀ (j : Nat) t v, Try.f14.params[j]? = some t → args[j]? = some v → Value.okWide Try.prog W .any base t v := hval0
  have hW' := hW
  obtain ⟨p, q, hA0, hV, rfl, hfz, hnd⟩ := hW
  have hA : DataW.TrodAll enc Try.prog W 0 (fun _ => true) true Try.f14.params.toList args.toList ds p := hA0
  rw [Try.params14] at hA hval
  obtain ⟨v0, vs0, d0, ds0, p0, q0, hargs, rfl, rfl, h0, r0⟩ := trodAll_cons hA
  obtain ⟨v1, vs1, d1, ds1, p1, q1, rfl, rfl, rfl, h1, r1⟩ := trodAll_cons r0
  obtain ⟨v2, vs2, d2, ds2, p2, q2, rfl, rfl, rfl, h2, r2⟩ := trodAll_cons r1
  obtain ⟨rfl, rfl, rfl⟩ := trodAll_nil r2
  obtain rfl : args = #[v0, v1, v2] := by cases args; simp_all
  obtain ⟨rfl, rfl⟩ := trodVars_none hV
  have k0 := h0
  have lt0 : ∀ x ∈ p0, x.block < W.heap.size := by obtain ⟨m, hm⟩ := k0; exact DataW.trod_lt m _ _ _ hm
  obtain ⟨A0, len0, cap0, rfl⟩ := okWide_slice Try.underlying22 (hval 0 22 v0 rfl rfl)
  obtain ⟨x0, w0⟩ : ∃ xs, Codes W (.slice A0 len0 cap0) xs := by
    obtain ⟨fuel, hf⟩ := h0
    obtain ⟨v, xs, hcs, hx⟩ := codes_open hf
    simp [Value.cells] at hcs
    subst hcs
    exact ⟨xs, hx⟩
  obtain ⟨a1, rfl, rfl, rfl, w1⟩ := open_int Try.underlying3 (hval 1 3 v1 rfl rfl) h1
  have k2 := h2
  have lt2 : ∀ x ∈ p2, x.block < W.heap.size := by obtain ⟨m, hm⟩ := k2; exact DataW.trod_lt m _ _ _ hm
  obtain ⟨A2, len2, cap2, rfl⟩ := okWide_slice Try.underlying23 (hval 2 23 v2 rfl rfl)
  obtain ⟨x2, w2⟩ : ∃ xs, Ints W (.slice A2 len2 cap2) xs := by
    obtain ⟨fuel, hf⟩ := h2
    obtain ⟨v, xs, hcs, hx, _⟩ := ints_open hf
    simp [Value.cells] at hcs
    subst hcs
    exact ⟨xs, hx⟩
  clear hA0 hval0
  refine (law_FnExactUniformHolds _ x0 a1 _ x2 W w0 w2).mono fun e W' ⟨he, bel⟩ => ?_
  subst he
  have bel' : Below W.heap.size W W' := bel
  exact ⟨_, rfl, _, _, _, [], _, [], hW', trodAll_mk1 (shut_bool Try.underlying4 _), (trodAll_cons_mk (Below.trod laid_out (by kernel_rfl) (of_decide_eq_true (by kernel_rfl)) k0 bel' lt0) (trodAll_cons_mk (shut_int Try.underlying3 w1) (trodAll_cons_mk (Below.trod laid_out (by kernel_rfl) (of_decide_eq_true (by kernel_rfl)) k2 bel' lt2) trodAll_mk0))), rfl, bel'.frame _, fun h => by cases h⟩

theorem proved : Rows.FnExactUniformHoldsSaid :=
  OpenClaim.holds_of_wide 14 Try.f14 rfl rfl rfl rfl rfl rfl rfl ⟨rfl, rfl, rfl, rfl, rfl⟩ rfl rfl rfl rfl rfl (by kernel_rfl) Try.func14 (by kernel_rfl)
    (of_decide_eq_true (by kernel_rfl)) (by unfold Func.isWrapper; rw [if_neg (of_decide_eq_false (by kernel_rfl))]; exact ⟨rfl, rfl⟩)
    (fun os started H enc _ => lifted os started H enc)

end Go.Proofs.Ytokdfgodmhekmaa.rowFnExactUniformHolds
