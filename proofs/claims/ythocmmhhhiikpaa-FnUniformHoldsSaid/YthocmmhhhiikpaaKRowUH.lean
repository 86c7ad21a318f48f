/- The law FnUniformHolds, whole: Uniform registers are uniform. No condition. -/
import Derived.Test.YthocmmhhhiikpaaKbj
import Derived.Test.YthocmmhhhiikpaaKcd
import Derived.Test.YthocmmhhhiikpaaKcf
import Derived.Test.YthocmmhhhiikpaaKch

namespace Go.Proofs.Ythocmmhhhiikpaa
open Go.RowKit

set_option maxHeartbeats 4000000 in
set_option maxRecDepth 100000 in
theorem law_FnUniformHolds (v : Value) (bs : List Int) (w : World) (h : Bytes w v bs) :
    Calls Try.prog 9 #[v] w fun e w' => e = .returned (.bool true) ∧ Pure w w' := by
  have H := Lib.hid h
  obtain ⟨A, c, rfl, hnc, hcm⟩ := h.form
  clear h
  by_cases hbig : (bs.length : Int) > 1048576
  · go_enter Try.func9, Try.ntmps9
    go_wp2
    go_ret
    exact ⟨rfl, Pure.refl _⟩
  go_enter Try.func9, Try.ntmps9
  go_wp2_with fail
  refine (draw_DrawUniformHolds _ bs _ H.out (by omega)).mono ?_
  rintro e w1 ⟨vl, cs, a, vm, mem, rfl, ha0, ha9, hl, hm, hcl, hml, hp1⟩
  have HC := Lib.hid hl
  have HM := Lib.hid hm
  have HP1 := Lib.hid hp1
  obtain ⟨Ac, cc, rfl, hcc1, hcc2⟩ := hl.form
  obtain ⟨Am, cm, rfl⟩ := hm.form
  clear hl hm hp1
  obtain ⟨bb, hbb⟩ : ∃ bb : Bool, bb = true ↔ RunOk cs a mem := by classical exact ⟨decide (RunOk cs a mem), by simp⟩
  have HBB := Lib.hid hbb
  have hd : (bb != bb) = false := by simp
  have hd2 : (bb == bb) = true := by simp
  clear hbb
  go_wp2_with fail
  refine (iunih_any _ _ cs a mem _ HC.out HM.out (by omega) (by omega) bb HBB.out).mono ?_
  rintro e w2 ⟨rfl, hp2⟩
  have HP2 := Lib.hid hp2
  clear hp2
  go_wp2_with fail
  refine (sunih_any _ _ cs a mem _ (HC.out.keep HP2.out) (HM.out.keep HP2.out) (by omega) (by omega) bb HBB.out).mono ?_
  rintro e w3 ⟨rfl, hp3⟩
  have HP3 := Lib.hid (HP2.out.trans hp3)
  clear hp3
  go_wp2_with fail
  refine (runs_any _ _ cs a mem _ (HC.out.keep HP3.out) (HM.out.keep HP3.out) (by omega) (by omega) bb HBB.out).mono ?_
  rintro e w4 ⟨rfl, hp4⟩
  have HP4 := Lib.hid (HP3.out.trans hp4)
  clear hp4
  go_wp2_with fail
  refine (alive_any _).mono ?_
  rintro e w5 ⟨rfl, hp5⟩
  go_wp2
  go_ret
  exact ⟨rfl, (HP1.out.trans HP4.out).trans hp5⟩

end Go.Proofs.Ythocmmhhhiikpaa

namespace Go.Proofs.Ythocmmhhhiikpaa.rowFnUniformHolds
open Go.ChangeShapes Go.WideShapes Go.ChangeAt Go.RowKit Go.Deep

set_option maxRecDepth 100000 in
theorem lifted (os : Os) (started : os.Started) (H : Type) (enc : TypeId × Value → H) :
    ReturnsInHanded {} Try.checked os 9 .any (Rows.fnUniformHoldsSpec.pre6 enc Try.prog Try.f9 Rows.fnUniformHoldsRow.domain false) (Rows.fnUniformHoldsSpec.post enc Try.prog Try.f9 false true false false) := by
  refine returnsInHanded_of_change (C := Try.checked) own_knob started (by kernel_rfl) Try.func9
    (ChangeSpec.witness6 (enc := enc) (C := Try.checked) false ⟨#[], #[.slice none 0 0], []⟩ 8 (by kernel_rfl) (by kernel_rfl) (by kernel_rfl) (by kernel_rfl)) ?_
  intro W base args ds gs before hval0 hW hcnd _
  have hval : ∀ (j : Nat) t v, Try.f9.params[j]? = some t → args[j]? = some v → Value.okWide Try.prog W .any base t v := hval0
  have hW' := hW
  obtain ⟨p, q, hA0, hV, rfl, hfz, hnd⟩ := hW
  have hA : DataW.TrodAll enc Try.prog W 0 (fun _ => true) true Try.f9.params.toList args.toList ds p := hA0
  rw [Try.params9] at hA hval
  obtain ⟨v0, vs0, d0, ds0, p0, q0, hargs, rfl, rfl, h0, r0⟩ := trodAll_cons hA
  obtain ⟨rfl, rfl, rfl⟩ := trodAll_nil r0
  obtain rfl : args = #[v0] := by cases args; simp_all
  obtain ⟨rfl, rfl⟩ := trodVars_none hV
  have k0 := h0
  have lt0 : ∀ x ∈ p0, x.block < W.heap.size := by obtain ⟨m, hm⟩ := k0; exact DataW.trod_lt m _ _ _ hm
  obtain ⟨A0, len0, cap0, rfl⟩ := okWide_slice Try.underlying33 (hval 0 33 v0 rfl rfl)
  obtain ⟨x0, w0⟩ : ∃ xs, Bytes W (.slice A0 len0 cap0) xs := by
    obtain ⟨fuel, hf⟩ := h0
    obtain ⟨v, xs, hcs, hx⟩ := bytes_open hf
    simp [Value.cells] at hcs
    subst hcs
    exact ⟨xs, hx⟩
  clear hA0 hval0
  refine (law_FnUniformHolds _ x0 W w0).mono fun e W' ⟨he, bel⟩ => ?_
  subst he
  have bel' : Below W.heap.size W W' := bel
  exact ⟨_, rfl, _, _, _, [], _, [], hW', trodAll_mk1 (shut_bool Try.underlying4 _), (trodAll_cons_mk (Below.trod laid_out (by kernel_rfl) (of_decide_eq_true (by kernel_rfl)) k0 bel' lt0) trodAll_mk0), rfl, bel'.frame _, fun h => by cases h⟩

theorem proved : Rows.FnUniformHoldsSaid :=
  OpenClaim.holds_of_wide 9 Try.f9 rfl rfl rfl rfl rfl rfl rfl ⟨rfl, rfl, rfl, rfl, rfl⟩ rfl rfl rfl rfl rfl (by kernel_rfl) Try.func9 (by kernel_rfl)
    (of_decide_eq_true (by kernel_rfl)) (by unfold Func.isWrapper; rw [if_neg (of_decide_eq_false (by kernel_rfl))]; exact ⟨rfl, rfl⟩)
    (fun os started H enc _ => lifted os started H enc)

end Go.Proofs.Ythocmmhhhiikpaa.rowFnUniformHolds
