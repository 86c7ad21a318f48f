/- The law FnRaceApart, whole: Lanes with cells of their own do not race. No condition. -/
import Derived.Test.YtonmndojlnohcaaKca
import Derived.Test.YtonmndojlnohcaaKcc
import Derived.Test.YtonmndojlnohcaaKcd

namespace Go.Proofs.Ytonmndojlnohcaa
open Go.RowKit

set_option maxHeartbeats 4000000 in
set_option maxRecDepth 100000 in
theorem law_FnRaceApart (v : Value) (bs : List Int) (w : World) (h : Bytes w v bs) :
    Calls Try.prog 7 #[v] w fun e w' => e = .returned (.bool true) ∧ Pure w w' := by
  have H := Lib.hid h
  obtain ⟨A, c, rfl, hnc, hcm⟩ := h.form
  clear h
  by_cases hbig : (bs.length : Int) > 1048576
  · go_enter Try.func7, Try.ntmps7
    go_wp2
    go_ret
    exact ⟨rfl, Pure.refl _⟩
  go_enter Try.func7, Try.ntmps7
  go_wp2_with fail
  refine (draw_DrawRaceFree _ bs _ H.out (by omega)).mono ?_
  rintro e w1 ⟨vl, cs, a, vm, mem, rfl, ha0, ha9, hl, hm, hcl, hml, hp1⟩
  have HM := Lib.hid hm
  have HP1 := Lib.hid hp1
  obtain ⟨Ac, cc, rfl, hcc1, hcc2⟩ := hl.form
  obtain ⟨Am, cm, rfl⟩ := hm.form
  clear hl hm hp1
  have HB := Lib.hid (heap_alloc_new w1 (.cells (raC.flatMap cdCells).toArray 31))
  have HPB := Lib.hid (show Pure w1 (w1.alloc (.cells (raC.flatMap cdCells).toArray 31)) from (by repeat (first | assumption | exact Pure.refl _ | refine Pure.drewN ?_ _ | refine Pure.drew ?_ | refine Pure.alloc ?_ _ | refine Pure.setCell ?_ (by simp <;> omega) _)))
  obtain ⟨wb, Hwb⟩ : ∃ wb, Hid (w1.alloc (.cells (raC.flatMap cdCells).toArray 31) = wb) := ⟨_, Lib.hid rfl⟩
  rw [Hwb.out] at HB HPB
  have HC := Lib.hid (codes_lit (n := 2) HB.out rfl (by decide))
  obtain ⟨q, Hq⟩ : ∃ q, Hid (freeA raC a mem = q) := ⟨_, Lib.hid rfl⟩
  go_wp2_with fail
  show Calls _ _ _ (w1.alloc (.cells (raC.flatMap cdCells).toArray 31)) _
  rw [Hwb.out]
  refine (irf_any _ _ raC a mem _ HC.out (HM.out.keep HPB.out) (by decide) (by omega)).mono ?_
  rintro e w2 ⟨rfl, hp2⟩
  rw [Hq.out]
  have HP2 := Lib.hid (HPB.out.trans hp2)
  have HC2 := Lib.hid (HC.out.keep hp2)
  clear hp2
  go_wp2_with fail
  refine (srf_any _ _ raC a mem _ HC2.out (HM.out.keep HP2.out) (by decide) (by omega)).mono ?_
  rintro e w3 ⟨rfl, hp3⟩
  rw [Hq.out]
  have hqq : (q != q) = false := by simp
  have HP3 := Lib.hid (HP2.out.trans hp3)
  have HC3 := Lib.hid (HC2.out.keep hp3)
  clear hp3
  by_cases hok : RunOk raC a mem
  · obtain ⟨n, rfl, hn1, hn8⟩ := lanes_nat hok.2.1
    have hq1 : q = decide (n ≤ mem.length) := by rw [← Hq.out]; exact ra_free hok
    have HOK := Lib.hid hok
    clear hok
    go_wp2_with fail
    refine (runs_any _ _ raC n mem _ HC3.out (HM.out.keep HP3.out) (by decide) (by omega) true (by simp only [true_iff]; exact HOK.out)).mono ?_
    rintro e w4 ⟨rfl, hp4⟩
    have HP4 := Lib.hid (HP3.out.trans hp4)
    clear hp4
    by_cases h1 : n ≤ mem.length
    · have hqb : q = true := by rw [hq1]; exact decide_eq_true h1
      subst hqb
      have ht : (n : Int) ≤ (mem.length : Int) := by omega
      clear hq1
      go_wp2_with fail
      refine (alive_any _).mono ?_
      rintro e w5 ⟨rfl, hp5⟩
      go_wp2
      go_ret
      exact ⟨rfl, (HP1.out.trans HP4.out).trans hp5⟩
    · have hqb : q = false := by rw [hq1]; exact decide_eq_false h1
      subst hqb
      have ht : ¬ (n : Int) ≤ (mem.length : Int) := by omega
      clear hq1
      go_wp2_with fail
      refine (alive_any _).mono ?_
      rintro e w5 ⟨rfl, hp5⟩
      go_wp2
      go_ret
      exact ⟨rfl, (HP1.out.trans HP4.out).trans hp5⟩
  · have HOK := Lib.hid hok
    clear hok
    go_wp2_with fail
    refine (runs_any _ _ raC a mem _ HC3.out (HM.out.keep HP3.out) (by decide) (by omega) false (by simp [HOK.out])).mono ?_
    rintro e w4 ⟨rfl, hp4⟩
    have HP4 := Lib.hid (HP3.out.trans hp4)
    clear hp4
    go_wp2_with fail
    refine (alive_any _).mono ?_
    rintro e w5 ⟨rfl, hp5⟩
    go_wp2
    go_ret
    exact ⟨rfl, (HP1.out.trans HP4.out).trans hp5⟩

end Go.Proofs.Ytonmndojlnohcaa

namespace Go.Proofs.Ytonmndojlnohcaa.rowFnRaceApart
open Go.ChangeShapes Go.WideShapes Go.ChangeAt Go.RowKit Go.Deep

set_option maxRecDepth 100000 in
theorem lifted (os : Os) (started : os.Started) (H : Type) (enc : TypeId × Value → H) :
    ReturnsInHanded {} Try.checked os 7 .any (Rows.fnRaceApartSpec.pre6 enc Try.prog Try.f7 Rows.fnRaceApartRow.domain false) (Rows.fnRaceApartSpec.post enc Try.prog Try.f7 false true false false) := by
  refine returnsInHanded_of_change (C := Try.checked) own_knob started (by kernel_rfl) Try.func7
    (ChangeSpec.witness6 (enc := enc) (C := Try.checked) false ⟨#[], #[.slice none 0 0], []⟩ 8 (by kernel_rfl) (by kernel_rfl) (by kernel_rfl) (by kernel_rfl)) ?_
  intro W base args ds gs before hval0 hW hcnd _
  have hval : ∀ (j : Nat) t v, Try.f7.params[j]? = some t → args[j]? = some v → Value.okWide Try.prog W .any base t v := hval0
  have hW' := hW
  obtain ⟨p, q, hA0, hV, rfl, hfz, hnd⟩ := hW
  have hA : DataW.TrodAll enc Try.prog W 0 (fun _ => true) true Try.f7.params.toList args.toList ds p := hA0
  rw [Try.params7] at hA hval
  obtain ⟨v0, vs0, d0, ds0, p0, q0, hargs, rfl, rfl, h0, r0⟩ := trodAll_cons hA
  obtain ⟨rfl, rfl, rfl⟩ := trodAll_nil r0
  obtain rfl : args = #[v0] := by cases args; simp_all
  obtain ⟨rfl, rfl⟩ := trodVars_none hV
  have k0 := h0
  have lt0 : ∀ x ∈ p0, x.block < W.heap.size := by obtain ⟨m, hm⟩ := k0; exact DataW.trod_lt m _ _ _ hm
  obtain ⟨A0, len0, cap0, rfl⟩ := okWide_slice Try.underlying22 (hval 0 22 v0 rfl rfl)
  obtain ⟨x0, w0⟩ : ∃ xs, Bytes W (.slice A0 len0 cap0) xs := by
    obtain ⟨fuel, hf⟩ := h0
    obtain ⟨v, xs, hcs, hx⟩ := bytes_open hf
    simp [Value.cells] at hcs
    subst hcs
    exact ⟨xs, hx⟩
  clear hA0 hval0
  refine (law_FnRaceApart _ x0 W w0).mono fun e W' ⟨he, bel⟩ => ?_
  subst he
  have bel' : Below W.heap.size W W' := bel
  exact ⟨_, rfl, _, _, _, [], _, [], hW', trodAll_mk1 (shut_bool Try.underlying4 _), (trodAll_cons_mk (Below.trod laid_out (by kernel_rfl) (of_decide_eq_true (by kernel_rfl)) k0 bel' lt0) trodAll_mk0), rfl, bel'.frame _, fun h => by cases h⟩

theorem proved : Rows.FnRaceApartSaid :=
  OpenClaim.holds_of_wide 7 Try.f7 rfl rfl rfl rfl rfl rfl rfl ⟨rfl, rfl, rfl, rfl, rfl⟩ rfl rfl rfl rfl rfl (by kernel_rfl) Try.func7 (by kernel_rfl)
    (of_decide_eq_true (by kernel_rfl)) (by unfold Func.isWrapper; rw [if_neg (of_decide_eq_false (by kernel_rfl))]; exact ⟨rfl, rfl⟩)
    (fun os started H enc _ => lifted os started H enc)

end Go.Proofs.Ytonmndojlnohcaa.rowFnRaceApart
