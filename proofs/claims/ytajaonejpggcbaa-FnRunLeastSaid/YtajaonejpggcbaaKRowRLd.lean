/- The law FnRunLeast, whole: The least place first is lockstep. No condition. -/
import Derived.Test.YtajaonejpggcbaaKbj
import Derived.Test.YtajaonejpggcbaaKca
import Derived.Test.YtajaonejpggcbaaKea

namespace Go.Proofs.Ytajaonejpggcbaa
open Go.RowKit

theorem leastMem_small {cs : List Cd} {a : Int} {mem : List Int} (hml : mem.length ≤ 33) : (leastMem cs a mem).length ≤ 1048576 := by have := leastMem_len (cs := cs) (a := a) (mem := mem); omega

set_option maxHeartbeats 4000000 in
set_option maxRecDepth 100000 in
theorem law_FnRunLeast (v : Value) (bs : List Int) (w : World) (h : Bytes w v bs) :
    Calls Try.prog 8 #[v] w fun e w' => e = .returned (.bool true) ∧ Pure w w' := by
  have H := Lib.hid h
  obtain ⟨A, c, rfl, hnc, hcm⟩ := h.form
  clear h
  by_cases hbig : (bs.length : Int) > 1048576
  · go_enter Try.func8, Try.ntmps8
    go_wp2
    go_ret
    exact ⟨rfl, Pure.refl _⟩
  go_enter Try.func8, Try.ntmps8
  go_wp2_with fail
  refine (draw_DrawRunLeast _ bs _ H.out (by omega)).mono ?_
  rintro e w1 ⟨vl, cs, a, vm, mem, rfl, ha0, ha9, hl, hm, hcl, hml, hp1⟩
  have HC := Lib.hid hl
  have HM := Lib.hid hm
  have HP1 := Lib.hid hp1
  obtain ⟨Ac, cc, rfl, hcc1, hcc2⟩ := hl.form
  obtain ⟨Am, cm, rfl⟩ := hm.form
  clear hl hm hp1
  obtain ⟨mx, Hmx⟩ : ∃ mx, Hid (leastMem cs a mem = mx) := ⟨_, Lib.hid rfl⟩
  have hmx : mx.length ≤ 1048576 := by rw [← Hmx.out]; exact leastMem_small hml
  have hil := irleast_any (.slice Ac cs.length cc) (.slice Am mem.length cm) cs a mem w1 HC.out HM.out (by omega) (by omega)
  rw [Hmx.out] at hil
  have HIL := Lib.hid hil
  clear hil
  go_wp2_with fail
  refine HIL.out.mono ?_
  rintro e w2 ⟨v2, rfl, ho2, hp2⟩
  have hi2 : Ints w2 v2 mx := ints_ownJ ho2
  have HO2 := Lib.hid hi2
  have HP2 := Lib.hid hp2
  obtain ⟨A2, c2, rfl⟩ := hi2.form
  clear ho2 hp2 hi2
  have hsl := srleast_any (.slice Ac cs.length cc) (.slice Am mem.length cm) cs a mem w2 (HC.out.keep HP2.out) (HM.out.keep HP2.out) (by omega) (by omega)
  rw [Hmx.out] at hsl
  have HSL := Lib.hid hsl
  clear hsl
  go_wp2_with fail
  refine HSL.out.mono ?_
  rintro e w3 ⟨v3, rfl, ho3, hp3⟩
  have hi3 : Ints w3 v3 mx := ints_ownJ ho3
  have HO3 := Lib.hid hi3
  obtain ⟨A3, c3, rfl⟩ := hi3.form
  have HO23 := Lib.hid (Cells.keep HO2.out hp3)
  have HP3 := Lib.hid (HP2.out.trans hp3)
  clear ho3 hp3 hi3
  go_wp2_with fail
  refine (sameInts_same _ _ mx _ HO23.out HO3.out hmx).mono ?_
  rintro e w4 ⟨rfl, hp4⟩
  have HP4 := Lib.hid (HP3.out.trans hp4)
  have HO24 := Lib.hid (Cells.keep HO23.out hp4)
  clear hp4
  by_cases hok : RunOk cs a mem
  · have HOK := Lib.hid hok
    obtain ⟨n, rfl, hn1, hn8⟩ := lanes_nat hok.2.1
    have hlm : mx.length = mem.length := by rw [← Hmx.out, leastMem_ok hok]; simp
    have hm1 := hok.2.2.1.1
    have HEQ : Hid (wholeA cs n mem = true → memA cs n mem = mx) := Lib.hid fun h => by rw [← Hmx.out]; exact (leastMem_lock hok (nosp_whole hok h)).symm
    have hl0 : ((mx.length : Int) == 0) = false := by rw [beq_eq_false_iff_ne]; omega
    have hlq : ((mx.length : Int) == (mem.length : Int)) = true := by rw [beq_iff_eq]; omega
    obtain ⟨wh, Hwh⟩ : ∃ wh, Hid (wholeA cs n mem = wh) := ⟨_, Lib.hid rfl⟩
    obtain ⟨my, Hmy⟩ : ∃ my, Hid (memA cs n mem = my) := ⟨_, Lib.hid rfl⟩
    rw [Hwh.out, Hmy.out] at HEQ
    clear hok hm1 hlm
    have hrl := irl_any (.slice Ac cs.length cc) (.slice Am mem.length cm) cs n mem w4 (HC.out.keep HP4.out) (HM.out.keep HP4.out) (by omega) (by omega)
    unfold RLP at hrl
    rw [Hwh.out, Hmy.out] at hrl
    have HRL := Lib.hid hrl
    clear hrl
    go_wp2_with fail
    refine HRL.out.mono ?_
    rintro e w5 ⟨v5, rfl, ho5, hp5⟩
    have HI5 : Hid (Ints w5 v5 my) := Lib.hid (ints_ownJ ho5)
    have HP5 := Lib.hid (HP4.out.trans hp5)
    have HO25 := Lib.hid (Cells.keep HO24.out hp5)
    clear ho5 hp5
    cases wh
    · go_wp2
      go_ret
      exact ⟨rfl, HP1.out.trans HP5.out⟩
    · have e : my = mx := HEQ.out rfl
      subst e
      go_wp2_with fail
      refine (sameInts_same _ _ my _ HO25.out HI5.out hmx).mono ?_
      rintro e w6 ⟨rfl, hp6⟩
      go_wp2
      go_ret
      exact ⟨rfl, (HP1.out.trans HP5.out).trans hp6⟩
  · have hl0 : mx = [] := by rw [← Hmx.out]; exact leastMem_no hok
    subst hl0
    clear hok
    go_wp2_with fail
    refine (alive_any _).mono ?_
    rintro e w8 ⟨rfl, hp8⟩
    go_wp2
    go_ret
    exact ⟨rfl, (HP1.out.trans HP4.out).trans hp8⟩

end Go.Proofs.Ytajaonejpggcbaa

namespace Go.Proofs.Ytajaonejpggcbaa.rowFnRunLeast
open Go.ChangeShapes Go.WideShapes Go.ChangeAt Go.RowKit Go.Deep

set_option maxRecDepth 100000 in
theorem lifted (os : Os) (started : os.Started) (H : Type) (enc : TypeId × Value → H) :
    ReturnsInHanded {} Try.checked os 8 .any (Rows.fnRunLeastSpec.pre6 enc Try.prog Try.f8 Rows.fnRunLeastRow.domain false) (Rows.fnRunLeastSpec.post enc Try.prog Try.f8 false true false false) := by
  refine returnsInHanded_of_change (C := Try.checked) own_knob started (by kernel_rfl) Try.func8
    (ChangeSpec.witness6 (enc := enc) (C := Try.checked) false ⟨#[], #[.slice none 0 0], []⟩ 8 (by kernel_rfl) (by kernel_rfl) (by kernel_rfl) (by kernel_rfl)) ?_
  intro W base args ds gs before hval0 hW hcnd _
  have hval : ∀ (j : Nat) t v, Try.f8.params[j]? = some t → args[j]? = some v → Value.okWide Try.prog W .any base t v := hval0
  have hW' := hW
  obtain ⟨p, q, hA0, hV, rfl, hfz, hnd⟩ := hW
  have hA : DataW.TrodAll enc Try.prog W 0 (fun _ => true) true Try.f8.params.toList args.toList ds p := hA0
  rw [Try.params8] at hA hval
  obtain ⟨v0, vs0, d0, ds0, p0, q0, hargs, rfl, rfl, h0, r0⟩ := trodAll_cons hA
  obtain ⟨rfl, rfl, rfl⟩ := trodAll_nil r0
  obtain rfl : args = #[v0] := by cases args; simp_all
  obtain ⟨rfl, rfl⟩ := trodVars_none hV
  have k0 := h0
  have lt0 : ∀ x ∈ p0, x.block < W.heap.size := by obtain ⟨m, hm⟩ := k0; exact DataW.trod_lt m _ _ _ hm
  obtain ⟨A0, len0, cap0, rfl⟩ := okWide_slice Try.underlying50 (hval 0 50 v0 rfl rfl)
  obtain ⟨x0, w0⟩ : ∃ xs, Bytes W (.slice A0 len0 cap0) xs := by
    obtain ⟨fuel, hf⟩ := h0
    obtain ⟨v, xs, hcs, hx⟩ := bytes_open hf
    simp [Value.cells] at hcs
    subst hcs
    exact ⟨xs, hx⟩
  clear hA0 hval0
  refine (law_FnRunLeast _ x0 W w0).mono fun e W' ⟨he, bel⟩ => ?_
  subst he
  have bel' : Below W.heap.size W W' := bel
  exact ⟨_, rfl, _, _, _, [], _, [], hW', trodAll_mk1 (shut_bool Try.underlying4 _), (trodAll_cons_mk (Below.trod laid_out (by kernel_rfl) (of_decide_eq_true (by kernel_rfl)) k0 bel' lt0) trodAll_mk0), rfl, bel'.frame _, fun h => by cases h⟩

theorem proved : Rows.FnRunLeastSaid :=
  OpenClaim.holds_of_wide 8 Try.f8 rfl rfl rfl rfl rfl rfl rfl ⟨rfl, rfl, rfl, rfl, rfl⟩ rfl rfl rfl rfl rfl (by kernel_rfl) Try.func8 (by kernel_rfl)
    (of_decide_eq_true (by kernel_rfl)) (by unfold Func.isWrapper; rw [if_neg (of_decide_eq_false (by kernel_rfl))]; exact ⟨rfl, rfl⟩)
    (fun os started H enc _ => lifted os started H enc)

end Go.Proofs.Ytajaonejpggcbaa.rowFnRunLeast
