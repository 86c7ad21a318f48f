/- The law FnLeastOne, whole: One lane alone has one way. No condition. -/
import Derived.Test.YtajaonejpggcbaaKbj
import Derived.Test.YtajaonejpggcbaaKca
import Derived.Test.YtajaonejpggcbaaKea

namespace Go.Proofs.Ytajaonejpggcbaa
open Go.RowKit

theorem leastH_lock {cs : List Cd} {n : Nat} {mem : List Int} (hok : RunOk cs n mem) (hn : NoSp cs n (lockOf cs n mem).H) : beatsL (leastH cs n mem) = beatsL (lockA cs n mem).H ∧ (leastH cs n mem).length = (lockA cs n mem).H.length := by
  have h := (least_lock hok hn).2
  rw [lockA_ok hok, leastH_beats, leastH_len, h]
  refine ⟨?_, by simp⟩
  unfold beatsC beatsL
  rw [List.flatMap_map]

set_option maxHeartbeats 4000000 in
set_option maxRecDepth 100000 in
theorem law_FnLeastTrace (v : Value) (bs : List Int) (w : World) (h : Bytes w v bs) :
    Calls Try.prog 9 #[v] w fun e w' => e = .returned (.bool true) ∧ Pure w w' := by
  have H := Lib.hid h
  obtain ⟨A, c, rfl, hnc, hcm⟩ := h.form
  clear h
  by_cases hbig : (bs.length : Int) > 1048576
  · go_enter Try.func9, Try.ntmps9
    go_wp2
    go_ret
    exact ⟨rfl, Pure.refl _⟩
  go_enter Try.func9, Try.ntmps9
  go_wp2_with fail
  refine (draw_DrawLeastTrace _ bs _ H.out (by omega)).mono ?_
  rintro e w1 ⟨vl, cs, a, vm, mem, rfl, ha0, ha9, hl, hm, hcl, hml, hp1⟩
  have HC := Lib.hid hl
  have HM := Lib.hid hm
  have HP1 := Lib.hid hp1
  obtain ⟨Ac, cc, rfl, hcc1, hcc2⟩ := hl.form
  obtain ⟨Am, cm, rfl⟩ := hm.form
  clear hl hm hp1
  obtain ⟨hx, Hhx⟩ : ∃ hx, Hid (leastH cs a mem = hx) := ⟨_, Lib.hid rfl⟩
  have hil := iltraceH_any (.slice Ac cs.length cc) (.slice Am mem.length cm) cs a mem w1 HC.out HM.out (by omega) (by omega)
  rw [Hhx.out] at hil
  have HIL := Lib.hid hil
  clear hil
  go_wp2_with fail
  refine HIL.out.mono ?_
  rintro e w2 ⟨v2, rfl, ho2, hp2⟩
  have HO2 := Lib.hid (Flat.of_own ho2)
  have HP2 := Lib.hid hp2
  obtain ⟨A2, c2, rfl⟩ := ho2.form
  clear ho2 hp2
  have hsl := sltrace_any (.slice Ac cs.length cc) (.slice Am mem.length cm) cs a mem w2 (HC.out.keep HP2.out) (HM.out.keep HP2.out) (by omega) (by omega)
  rw [Hhx.out] at hsl
  have HSL := Lib.hid hsl
  clear hsl
  go_wp2_with fail
  refine HSL.out.mono ?_
  rintro e w3 ⟨v3, rfl, ho3, hp3⟩
  have HO3 := Lib.hid (Flat.of_own ho3)
  have HO23 := Lib.hid (HO2.out.keep hp3)
  have HP3 := Lib.hid (HP2.out.trans hp3)
  clear ho3 hp3
  go_wp2_with fail
  refine (sameBeats_same _ _ hx _ HO23.out HO3.out).mono ?_
  rintro e w4 ⟨rfl, hp4⟩
  have HP4 := Lib.hid (HP3.out.trans hp4)
  have HO24 := Lib.hid (HO23.out.keep hp4)
  clear hp4
  by_cases hok : RunOk cs a mem
  · have HOK := Lib.hid hok
    obtain ⟨n, rfl, hn1, hn8⟩ := lanes_nat hok.2.1
    have HEQ : Hid (wholeA cs n mem = true → beatsL hx = beatsL (lockA cs n mem).H ∧ hx.length = (lockA cs n mem).H.length) := Lib.hid fun h => by rw [← Hhx.out]; exact leastH_lock hok (nosp_whole hok h)
    obtain ⟨wh, Hwh⟩ : ∃ wh, Hid (wholeA cs n mem = wh) := ⟨_, Lib.hid rfl⟩
    rw [Hwh.out] at HEQ
    clear hok
    go_wp2_with fail
    refine (runs_any _ _ cs n mem _ (HC.out.keep HP4.out) (HM.out.keep HP4.out) (by omega) (by omega) true (by simp only [true_iff]; exact HOK.out)).mono ?_
    rintro e w5 ⟨rfl, hp5⟩
    have HP5 := Lib.hid (HP4.out.trans hp5)
    have HO25 := Lib.hid (HO24.out.keep hp5)
    clear hp5
    have hrl := irl_any (.slice Ac cs.length cc) (.slice Am mem.length cm) cs n mem w5 (HC.out.keep HP5.out) (HM.out.keep HP5.out) (by omega) (by omega)
    unfold RLP at hrl
    rw [Hwh.out] at hrl
    have HRL := Lib.hid hrl
    clear hrl
    go_wp2_with fail
    refine HRL.out.mono ?_
    rintro e w6 ⟨v6, rfl, ho6, hp6⟩
    have HP6 := Lib.hid (HP5.out.trans hp6)
    have HO26 := Lib.hid (HO25.out.keep hp6)
    clear ho6 hp6
    cases wh
    · go_wp2
      go_ret
      exact ⟨rfl, HP1.out.trans HP6.out⟩
    · obtain ⟨q1, q2⟩ := HEQ.out rfl
      have HQ1 := Lib.hid q1
      have HQ2 := Lib.hid q2
      clear q1 q2
      go_wp2_with fail
      refine (itra_any _ _ cs n mem _ (HC.out.keep HP6.out) (HM.out.keep HP6.out) (by omega) (by omega)).mono ?_
      rintro e w7 ⟨r7, rfl, ho7, hp7⟩
      have HO7 := Lib.hid (Flat.of_own ho7)
      have HO27 := Lib.hid (HO26.out.keep hp7)
      have HP7 := Lib.hid (HP6.out.trans hp7)
      clear ho7 hp7
      go_wp2_with fail
      refine (sameBeats_same _ _ (lockA cs n mem).H _ (by rw [← HQ1.out, ← HQ2.out]; exact HO27.out) HO7.out).mono ?_
      rintro e w8 ⟨rfl, hp8⟩
      go_wp2
      go_ret
      exact ⟨rfl, (HP1.out.trans HP7.out).trans hp8⟩
  · have HOK := Lib.hid hok
    have hl0 : hx = [] := by rw [← Hhx.out]; unfold leastH; rw [leastA_no hok]; rfl
    subst hl0
    clear hok
    go_wp2_with fail
    refine (runs_any _ _ cs a mem _ (HC.out.keep HP4.out) (HM.out.keep HP4.out) (by omega) (by omega) false (by simp only [Bool.false_eq_true, false_iff]; exact HOK.out)).mono ?_
    rintro e w5 ⟨rfl, hp5⟩
    go_wp2_with fail
    refine (alive_any _).mono ?_
    rintro e w8 ⟨rfl, hp8⟩
    go_wp2
    go_ret
    exact ⟨rfl, ((HP1.out.trans HP4.out).trans hp5).trans hp8⟩

end Go.Proofs.Ytajaonejpggcbaa

namespace Go.Proofs.Ytajaonejpggcbaa
open Go.RowKit

set_option maxHeartbeats 4000000 in
set_option maxRecDepth 100000 in
theorem law_FnLeastOne (v : Value) (bs : List Int) (w : World) (h : Bytes w v bs) :
    Calls Try.prog 7 #[v] w fun e w' => e = .returned (.bool true) ∧ Pure w w' := by
  have H := Lib.hid h
  obtain ⟨A, c, rfl, hnc, hcm⟩ := h.form
  clear h
  by_cases hbig : (bs.length : Int) > 1048576
  · go_enter Try.func7, Try.ntmps7
    go_wp2
    go_ret
    exact ⟨rfl, Pure.refl _⟩
  go_enter Try.func7, Try.ntmps7
  go_wp2_with fail
  refine (draw_DrawLeastTrace _ bs _ H.out (by omega)).mono ?_
  rintro e w1 ⟨vl, cs, a, vm, mem, rfl, ha0, ha9, hl, hm, hcl, hml, hp1⟩
  have HC := Lib.hid hl
  have HM := Lib.hid hm
  have HP1 := Lib.hid hp1
  obtain ⟨Ac, cc, rfl, hcc1, hcc2⟩ := hl.form
  obtain ⟨Am, cm, rfl⟩ := hm.form
  clear hl hm hp1
  obtain ⟨hx, Hhx⟩ : ∃ hx, Hid (leastH cs 1 mem = hx) := ⟨_, Lib.hid rfl⟩
  have hil := iltraceH_any (.slice Ac cs.length cc) (.slice Am mem.length cm) cs 1 mem w1 HC.out HM.out (by omega) (by omega)
  rw [Hhx.out] at hil
  have HIL := Lib.hid hil
  clear hil
  go_wp2_with fail
  refine HIL.out.mono ?_
  rintro e w2 ⟨v2, rfl, ho2, hp2⟩
  have HO2 := Lib.hid (Flat.of_own ho2)
  have HP2 := Lib.hid hp2
  obtain ⟨A2, c2, rfl⟩ := ho2.form
  clear ho2 hp2
  have hsl := sltrace_any (.slice Ac cs.length cc) (.slice Am mem.length cm) cs 1 mem w2 (HC.out.keep HP2.out) (HM.out.keep HP2.out) (by omega) (by omega)
  rw [Hhx.out] at hsl
  have HSL := Lib.hid hsl
  clear hsl
  go_wp2_with fail
  refine HSL.out.mono ?_
  rintro e w3 ⟨v3, rfl, ho3, hp3⟩
  have HO3 := Lib.hid (Flat.of_own ho3)
  have HO23 := Lib.hid (HO2.out.keep hp3)
  have HP3 := Lib.hid (HP2.out.trans hp3)
  clear ho3 hp3
  go_wp2_with fail
  refine (sameBeats_same _ _ hx _ HO23.out HO3.out).mono ?_
  rintro e w4 ⟨rfl, hp4⟩
  have HP4 := Lib.hid (HP3.out.trans hp4)
  have HO24 := Lib.hid (HO23.out.keep hp4)
  clear hp4
  by_cases hok : RunOk cs a mem
  · have HOK := Lib.hid hok
    obtain ⟨n, rfl, hn1, hn8⟩ := lanes_nat hok.2.1
    have h1 : RunOk cs ((1 : Nat) : Int) mem := one_ok hok
    have heq := leastH_lock h1 (one_nosp h1)
    rw [show leastH cs ((1 : Nat) : Int) mem = hx from Hhx.out] at heq
    have HEQ := Lib.hid heq
    clear hok h1 heq
    go_wp2_with fail
    refine (runs_any _ _ cs n mem _ (HC.out.keep HP4.out) (HM.out.keep HP4.out) (by omega) (by omega) true (by simp only [true_iff]; exact HOK.out)).mono ?_
    rintro e w5 ⟨rfl, hp5⟩
    have HP5 := Lib.hid (HP4.out.trans hp5)
    have HO25 := Lib.hid (HO24.out.keep hp5)
    clear hp5
    go_wp2_with fail
    refine (itra_any _ _ cs ((1 : Nat) : Int) mem _ (HC.out.keep HP5.out) (HM.out.keep HP5.out) (by omega) (by omega)).mono ?_
    rintro e w7 ⟨r7, rfl, ho7, hp7⟩
    have HO7 := Lib.hid (Flat.of_own ho7)
    have HO27 := Lib.hid (HO25.out.keep hp7)
    have HP7 := Lib.hid (HP5.out.trans hp7)
    clear ho7 hp7
    go_wp2_with fail
    refine (sameBeats_same _ _ (lockA cs ((1 : Nat) : Int) mem).H _ (by rw [← HEQ.out.1, ← HEQ.out.2]; exact HO27.out) HO7.out).mono ?_
    rintro e w8 ⟨rfl, hp8⟩
    go_wp2_with fail
    refine (alive_any _).mono ?_
    rintro e w9 ⟨rfl, hp9⟩
    go_wp2
    go_ret
    exact ⟨rfl, ((HP1.out.trans HP7.out).trans hp8).trans hp9⟩
  · have HOK := Lib.hid hok
    clear hok
    go_wp2_with fail
    refine (runs_any _ _ cs a mem _ (HC.out.keep HP4.out) (HM.out.keep HP4.out) (by omega) (by omega) false (by simp only [Bool.false_eq_true, false_iff]; exact HOK.out)).mono ?_
    rintro e w5 ⟨rfl, hp5⟩
    go_wp2_with fail
    refine (alive_any _).mono ?_
    rintro e w8 ⟨rfl, hp8⟩
    go_wp2
    go_ret
    exact ⟨rfl, ((HP1.out.trans HP4.out).trans hp5).trans hp8⟩

end Go.Proofs.Ytajaonejpggcbaa

namespace Go.Proofs.Ytajaonejpggcbaa.rowFnLeastOne
open Go.ChangeShapes Go.WideShapes Go.ChangeAt Go.RowKit Go.Deep

set_option maxRecDepth 100000 in
theorem lifted (os : Os) (started : os.Started) (H : Type) (enc : TypeId × Value → H) :
    ReturnsInHanded {} Try.checked os 7 .any (Rows.fnLeastOneSpec.pre6 enc Try.prog Try.f7 Rows.fnLeastOneRow.domain false) (Rows.fnLeastOneSpec.post enc Try.prog Try.f7 false true false false) := by
  refine returnsInHanded_of_change (C := Try.checked) own_knob started (by kernel_rfl) Try.func7
    (ChangeSpec.witness6 (enc := enc) (C := Try.checked) false ⟨#[], #[.slice none 0 0], []⟩ 8 (by kernel_rfl) (by kernel_rfl) (by kernel_rfl) (by kernel_rfl)) ?_
  intro W base args ds gs before hval0 hW hcnd _
  have hval : ∀ (j : Nat) t v, Try.f7.params[j]? = some t → args[j]? = some v → Value.okWide Try.prog W .any base t v := hval0
  have hW' := hW
  obtain ⟨p, q, hA0, hV, rfl, hfz, hnd⟩ := hW
  have hA : DataW.TrodAll enc Try.prog W 0 (fun _ => true) true Try.f7.params.toList args.toList ds p := hA0
  rw [Try.params7] at hA hval
  obtain ⟨v0, vs0, d0, ds0, p0, q0, hargs, rfl, rfl, h0, r0⟩ := trodAll_cons hA
  obtain ⟨rfl, rfl, rfl⟩ := trodAll_nil r0
  obtain rfl : args = #[v0] := by cases args; simp_all
  obtain ⟨rfl, rfl⟩ := trodVars_none hV
  have k0 := h0
  have lt0 : ∀ x ∈ p0, x.block < W.heap.size := by obtain ⟨m, hm⟩ := k0; exact DataW.trod_lt m _ _ _ hm
  obtain ⟨A0, len0, cap0, rfl⟩ := okWide_slice Try.underlying50 (hval 0 50 v0 rfl rfl)
  obtain ⟨x0, w0⟩ : ∃ xs, Bytes W (.slice A0 len0 cap0) xs := by
    obtain ⟨fuel, hf⟩ := h0
    obtain ⟨v, xs, hcs, hx⟩ := bytes_open hf
    simp [Value.cells] at hcs
    subst hcs
    exact ⟨xs, hx⟩
  clear hA0 hval0
  refine (law_FnLeastOne _ x0 W w0).mono fun e W' ⟨he, bel⟩ => ?_
  subst he
  have bel' : Below W.heap.size W W' := bel
  exact ⟨_, rfl, _, _, _, [], _, [], hW', trodAll_mk1 (shut_bool Try.underlying4 _), (trodAll_cons_mk (Below.trod laid_out (by kernel_rfl) (of_decide_eq_true (by kernel_rfl)) k0 bel' lt0) trodAll_mk0), rfl, bel'.frame _, fun h => by cases h⟩

theorem proved : Rows.FnLeastOneSaid :=
  OpenClaim.holds_of_wide 7 Try.f7 rfl rfl rfl rfl rfl rfl rfl ⟨rfl, rfl, rfl, rfl, rfl⟩ rfl rfl rfl rfl rfl (by kernel_rfl) Try.func7 (by kernel_rfl)
    (of_decide_eq_true (by kernel_rfl)) (by unfold Func.isWrapper; rw [if_neg (of_decide_eq_false (by kernel_rfl))]; exact ⟨rfl, rfl⟩)
    (fun os started H enc _ => lifted os started H enc)

end Go.Proofs.Ytajaonejpggcbaa.rowFnLeastOne
