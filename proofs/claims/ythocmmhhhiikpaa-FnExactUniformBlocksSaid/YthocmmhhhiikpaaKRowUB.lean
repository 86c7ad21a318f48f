/- The law FnExactUniformBlocks, whole: the program's UniformBlocks gives what the reference's gives, for all arguments. No condition. -/
import Derived.Test.YthocmmhhhiikpaaKag
import Derived.Test.YthocmmhhhiikpaaKbf
import Derived.Test.YthocmmhhhiikpaaKbg

namespace Go.Proofs.Ythocmmhhhiikpaa
open Go.RowKit

set_option maxHeartbeats 1000000 in
theorem law_FnExactUniformBlocks (v : Value) (cs : List Cd) (w : World) (h : Codes w v cs) :
    Calls Try.prog 4 #[v] w fun e w' => e = .returned (.bool true) ∧ Pure w w' := by
  have H := Lib.hid h
  obtain ⟨A, c, rfl, hnc, hcm⟩ := h.form
  clear h
  go_enter Try.func4, Try.ntmps4
  go_wp2_with fail
  refine (szCodeS_any _ _ _ _ H.out (by omega) (by omega)).mono ?_
  rintro e w' ⟨rfl, rfl⟩
  by_cases h0 : (1048576 : Int) < cs.length
  · rw [if_pos h0]
    go_wp2
    go_ret
    exact ⟨rfl, Pure.refl _⟩
  rw [if_neg h0]
  have hlen : cs.length ≤ 1048576 := by omega
  have hge : ¬ ((1048576 : Int) - cs.length < 0) := by omega
  clear h0
  go_wp2_with fail
  refine (toCodeS_any _ cs _ H.out hlen).mono ?_
  rintro e w1 ⟨v1, rfl, hv1, hp1⟩
  have HV1 := Lib.hid hv1; clear hv1
  have hqw1 := hp1
  go_wp2_with fail
  refine (sub_any _ cs _ (codes_of_own HV1.out) hlen).mono ?_
  rintro e w2 ⟨v2, xs2, rfl, px2, hl2, ho2, hp2⟩
  have PX2 := Lib.hid px2; clear px2
  have HL2 := Lib.hid hl2; clear hl2
  have HO2 := Lib.hid ho2; clear ho2
  have hqw2 := hqw1.trans hp2
  go_wp2_with fail
  refine (toCodeS_any _ cs _ (H.out.keep hqw2) hlen).mono ?_
  rintro e w3 ⟨v3, rfl, hv3, hp3⟩
  have HV3 := Lib.hid hv3; clear hv3
  have hqw3 := hqw2.trans hp3
  go_wp2_with fail
  refine (iub_any _ cs _ (codes_of_own HV3.out) hlen).mono ?_
  rintro e w4 ⟨v4, ys4, rfl, px4, hl4, ho4, hp4⟩
  have HO4 := Lib.hid ho4; clear ho4
  obtain rfl : xs2 = ys4 := UbP.unique PX2.out px4
  clear px4
  clear hl4
  have hn : xs2.length ≤ 1048576 := HL2.out
  have hqw4 := hqw3.trans hp4
  go_wp2_with fail
  refine (eqIntS_any _ _ xs2 xs2 _ (Ints.of_ownO' HO4.out) ((Ints.of_ownO' HO2.out).keep (hp3.trans hp4)) true (by simp)).mono ?_
  rintro e w5 ⟨rfl, hz5⟩
  have hp5 := Pure.of_quiet hz5; clear hz5
  have hqw5 := hqw4.trans hp5
  go_wp2_with fail
  refine (toCodeS_any _ cs _ (H.out.keep hqw5) hlen).mono ?_
  rintro e w6 ⟨v6, rfl, hv6, hp6⟩
  have HV6 := Lib.hid hv6; clear hv6
  have hqw6 := hqw5.trans hp6
  go_wp2_with fail
  refine (eqCodeS_same _ _ cs _ ((codes_of_own HV3.out).keep ((hp4.trans hp5).trans hp6)) (codes_of_own HV6.out)).mono ?_
  rintro e w7 ⟨rfl, hp7⟩
  have hqw7 := hqw6.trans hp7
  go_wp2_with fail
  refine (markCodeS_any _ _ _ _ _ _ (HV3.out.pure (((hp4.trans hp5).trans hp6).trans hp7)) (by omega) (by omega) (by omega)).mono ?_
  rintro e w8 ⟨rfl, hg8⟩
  have HG8 := Lib.hid hg8; clear hg8
  have hqw8 : Pure w w8 := Pure.grown hqw7 HG8.out (fun g hg => Nat.le_trans hqw2.size (HV3.out.lt g hg).1)
  have HI2 : Hid (Ints w8 v2 xs2) := Lib.hid (Ints.other ((Ints.of_ownO' HO2.out).keep ((((hp3.trans hp4).trans hp5).trans hp6).trans hp7)) HG8.out (own_apart HO2.out HV3.out (Nat.le_refl _)))
  have HJ4 : Hid (OwnO w8 w3.heap.size 3 1 v4 xs2.length (xs2.map (.int .i64))) := Lib.hid ((HO4.out.pure ((hp5.trans hp6).trans hp7)).kept HG8.out (own_apart' HV3.out HO4.out (Nat.le_refl _)))
  have hge1 : ¬ ((1 : Int) + 4 * cs.length < 0) := by omega
  go_wp2_with fail
  refine (eqIntS_any _ _ xs2 xs2 _ (Ints.of_ownO' HJ4.out) HI2.out true (by simp)).mono ?_
  rintro e w9 ⟨rfl, hz9⟩
  have hp9 := Pure.of_quiet hz9; clear hz9
  have hqw9 := hqw8.trans hp9
  go_wp2_with fail
  refine (markIntS_any _ _ _ _ _ _ (HJ4.out.pure hp9) (by omega) (by omega) (by omega)).mono ?_
  rintro e w10 ⟨rfl, hm10, hg10⟩
  have HG10 := Lib.hid hg10; clear hg10
  have HM10 := Lib.hid hm10; clear hm10
  have hqw10 : Pure w w10 := Pure.grown hqw9 HG10.out (fun g hg => Nat.le_trans hqw3.size (HO4.out.lt g hg).1)
  have HI10 : Hid (Ints w10 v2 xs2) := Lib.hid (Ints.other (HI2.out.keep hp9) HG10.out (own_apart HO2.out HO4.out hp3.size))
  have hge2 : ¬ ((1 : Int) + xs2.length < 0) := by omega
  have hd2 : ((1 : Int) + xs2.length != 1 + xs2.length) = false := by simp
  go_wp2_with fail
  refine (heldIntS_any _ _ _ _ (ints_marked HM10.out) (by omega) (by omega) (by omega)).mono ?_
  rintro e w11 ⟨rfl, hp11⟩
  have hqw11 := hqw10.trans hp11
  go_wp2_with fail
  refine (toCodeS_any _ cs _ (H.out.keep hqw11) hlen).mono ?_
  rintro e w12 ⟨v12, rfl, hv12, hp12⟩
  have HV12 := Lib.hid hv12; clear hv12
  have hqw12 := hqw11.trans hp12
  go_wp2_with fail
  refine (iub_any _ cs _ (codes_of_own HV12.out) hlen).mono ?_
  rintro e w13 ⟨v13, ys13, rfl, px13, hl13, ho13, hp13⟩
  obtain rfl : xs2 = ys13 := UbP.unique PX2.out px13
  have HO13 := Lib.hid ho13; clear ho13 px13 hl13
  have hqw13 := hqw12.trans hp13
  go_wp2_with fail
  refine (eqIntS_any _ _ xs2 xs2 _ (Ints.of_ownO' HO13.out) (HI10.out.keep ((hp11.trans hp12).trans hp13)) true (by simp)).mono ?_
  rintro e w14 ⟨rfl, hz14⟩
  have hp14 := Pure.of_quiet hz14; clear hz14
  have hqw14 := hqw13.trans hp14
  go_wp2_with fail
  refine (heldIntS_any _ _ _ _ ((ints_marked HM10.out).keep (((hp11.trans hp12).trans hp13).trans hp14)) (by omega) (by omega) (by omega)).mono ?_
  rintro e w15 ⟨rfl, hp15⟩
  have hqw15 := hqw14.trans hp15
  go_wp2
  go_ret
  exact ⟨rfl, hqw15⟩


end Go.Proofs.Ythocmmhhhiikpaa

namespace Go.Proofs.Ythocmmhhhiikpaa.rowFnExactUniformBlocks
open Go.ChangeShapes Go.WideShapes Go.ChangeAt Go.RowKit Go.Deep

set_option maxRecDepth 100000 in
theorem lifted (os : Os) (started : os.Started) (H : Type) (enc : TypeId × Value → H) :
    ReturnsInHanded {} Try.checked os 4 .any (Rows.fnExactUniformBlocksSpec.pre6 enc Try.prog Try.f4 Rows.fnExactUniformBlocksRow.domain false) (Rows.fnExactUniformBlocksSpec.post enc Try.prog Try.f4 false true false false) := by
  refine returnsInHanded_of_change (C := Try.checked) own_knob started (by kernel_rfl) Try.func4
    (ChangeSpec.witness6 (enc := enc) (C := Try.checked) false ⟨#[], #[.slice none 0 0], []⟩ 8 (by kernel_rfl) (by kernel_rfl) (by kernel_rfl) (by kernel_rfl)) ?_
  intro W base args ds gs before hval0 hW hcnd _
  have hval : ∀ (j : Nat) t v, Try.f4.params[j]? = some t → args[j]? = some v → Value.okWide Try.prog W .any base t v := hval0
  have hW' := hW
  obtain ⟨p, q, hA0, hV, rfl, hfz, hnd⟩ := hW
  have hA : DataW.TrodAll enc Try.prog W 0 (fun _ => true) true Try.f4.params.toList args.toList ds p := hA0
  rw [Try.params4] at hA hval
  obtain ⟨v0, vs0, d0, ds0, p0, q0, hargs, rfl, rfl, h0, r0⟩ := trodAll_cons hA
  obtain ⟨rfl, rfl, rfl⟩ := trodAll_nil r0
  obtain rfl : args = #[v0] := by cases args; simp_all
  obtain ⟨rfl, rfl⟩ := trodVars_none hV
  have k0 := h0
  have lt0 : ∀ x ∈ p0, x.block < W.heap.size := by obtain ⟨m, hm⟩ := k0; exact DataW.trod_lt m _ _ _ hm
  obtain ⟨A0, len0, cap0, rfl⟩ := okWide_slice Try.underlying22 (hval 0 22 v0 rfl rfl)
  obtain ⟨x0, w0⟩ : ∃ xs, Codes W (.slice A0 len0 cap0) xs := by
    obtain ⟨fuel, hf⟩ := h0
    obtain ⟨v, xs, hcs, hx⟩ := codes_open hf
    simp [Value.cells] at hcs
    subst hcs
    exact ⟨xs, hx⟩
  clear hA0 hval0
  refine (law_FnExactUniformBlocks _ x0 W w0).mono fun e W' ⟨he, bel⟩ => ?_
  subst he
  have bel' : Below W.heap.size W W' := bel
  exact ⟨_, rfl, _, _, _, [], _, [], hW', trodAll_mk1 (shut_bool Try.underlying4 _), (trodAll_cons_mk (Below.trod laid_out (by kernel_rfl) (of_decide_eq_true (by kernel_rfl)) k0 bel' lt0) trodAll_mk0), rfl, bel'.frame _, fun h => by cases h⟩

theorem proved : Rows.FnExactUniformBlocksSaid :=
  OpenClaim.holds_of_wide 4 Try.f4 rfl rfl rfl rfl rfl rfl rfl ⟨rfl, rfl, rfl, rfl, rfl⟩ rfl rfl rfl rfl rfl (by kernel_rfl) Try.func4 (by kernel_rfl)
    (of_decide_eq_true (by kernel_rfl)) (by unfold Func.isWrapper; rw [if_neg (of_decide_eq_false (by kernel_rfl))]; exact ⟨rfl, rfl⟩)
    (fun os started H enc _ => lifted os started H enc)

end Go.Proofs.Ythocmmhhhiikpaa.rowFnExactUniformBlocks
