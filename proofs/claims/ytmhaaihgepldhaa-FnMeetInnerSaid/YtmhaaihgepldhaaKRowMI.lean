/- The law FnMeetInner, whole: Inner lanes meet first No condition. -/
import Derived.Test.YtmhaaihgepldhaaKbd
import Derived.Test.YtmhaaihgepldhaaKbi

namespace Go.Proofs.Ytmhaaihgepldhaa
open Go.RowKit

set_option maxHeartbeats 4000000 in
set_option maxRecDepth 100000 in
theorem law_FnMeetInner (v : Value) (bs : List Int) (w : World) (h : Bytes w v bs) :
    Calls Try.prog 9 #[v] w fun e w' => e = .returned (.bool true) ∧ Pure w w' := by
  have H := Lib.hid h
  obtain ⟨A, c, rfl, hnc, hcm⟩ := h.form
  clear h
  by_cases hbig : (bs.length : Int) > 1048576
  · go_enter Try.func9, Try.ntmps9
    go_wp2
    go_ret
    exact ⟨rfl, Pure.refl _⟩
  go_enter Try.func9, Try.ntmps9
  go_wp2_with fail
  refine (draw_DrawMeetPlace _ bs _ H.out (by omega)).mono ?_
  rintro e w1 ⟨vl, cs, a, rfl, ha1, ha2, hl, hcl, hp1⟩
  have HC := Lib.hid hl
  have HP1 := Lib.hid hp1
  obtain ⟨Ac, cc, rfl, hcc1, hcc2⟩ := hl.form
  clear hl hp1
  go_wp2_with fail
  refine (imp_any _ cs a _ HC.out (by omega)).mono ?_
  rintro e w2 ⟨r, rfl, hr, hp2⟩
  have HR := Lib.hid hr
  have HP2 := Lib.hid hp2
  clear hr hp2
  go_wp2_with fail
  refine (smp_any _ cs a _ (HC.out.keep HP2.out) (by omega)).mono ?_
  rintro e w3 ⟨r', rfl, hr', hp3⟩
  have HP3 := Lib.hid (HP2.out.trans hp3)
  obtain rfl : r = r' := by
    by_cases ho : OpensAt cs a
    · exact IsNP.unique (HR.out.1 ho) (hr'.1 ho)
    · rw [HR.out.2 ho, hr'.2 ho]
  have hrr : (r != r) = false := by simp
  clear hr' hp3
  go_wp2_with fail
  refine (iba_any _ cs a _ (HC.out.keep HP3.out) (by omega)).mono ?_
  rintro e w4 ⟨rfl, hp4⟩
  have HP4 := Lib.hid (HP3.out.trans hp4)
  clear hp4
  by_cases ho : OpensAt cs a
  · obtain ⟨E, hE, hE2, hEl, hout⟩ := meet_is ho (HR.out.1 ho)
    subst hE
    have hn : ¬ ((E : Int) + 1 < 0) := by omega
    clear ho hE2 HR
    rcases hout with hout | ⟨b, E', hb, hob, hbl, hE', hlt, hEl'⟩
    · rw [hout]
      go_wp2_with fail
      refine (galive_any _).mono ?_
      rintro e w9 ⟨rfl, hp9⟩
      go_wp2
      go_ret
      exact ⟨rfl, (HP1.out.trans HP4.out).trans hp9⟩
    · rw [hb]
      have HOB := Lib.hid hob
      have hbn : ¬ ((b : Int) < 0) := by omega
      clear hob hb
      go_wp2_with fail
      refine (ibe_any _ cs b _ (HC.out.keep HP4.out) (by omega)).mono ?_
      rintro e w5 ⟨x, y, rfl, hx1, _, hp5⟩
      have HP5 := Lib.hid (HP4.out.trans hp5)
      have hxE := hx1 HOB.out
      rw [Int.toNat_natCast, hE'] at hxE
      subst hxE
      clear hp5 hx1
      have hle : decide ((E : Int) + 1 ≤ (E' : Int)) = true := by rw [decide_eq_true_iff]; omega
      have hle0 : decide (E + 1 ≤ E') = true := by rw [decide_eq_true_iff]; omega
      have hle1 : decide (E < E') = true := by rw [decide_eq_true_iff]; omega
      go_wp2_with fail
      refine (imp_any _ cs b _ (HC.out.keep HP5.out) (by omega)).mono ?_
      rintro e w6 ⟨r6, rfl, hr6, hp6⟩
      obtain ⟨E6, hE6, hE62, _⟩ := meet_is HOB.out (hr6.1 HOB.out)
      rw [Int.toNat_natCast, hE'] at hE62
      have he : (E6 : Int) = (E' : Int) := hE62.symm
      rw [he] at hE6
      subst hE6
      have hlt2 : decide ((E : Int) + 1 < (E' : Int) + 1) = true := by rw [decide_eq_true_iff]; omega
      have HP6 := Lib.hid (HP5.out.trans hp6)
      clear hr6 hE62 he hp6
      go_wp2
      go_ret
      exact ⟨rfl, HP1.out.trans HP6.out⟩
  · have hr := HR.out.2 ho
    subst hr
    obtain ⟨ar, Har⟩ : ∃ ar, Hid (aroundA cs a = ar) := ⟨_, Lib.hid rfl⟩
    rw [Har.out]
    clear ho HR
    go_wp2_with fail
    refine (galive_any _).mono ?_
    rintro e w9 ⟨rfl, hp9⟩
    go_wp2
    go_ret
    exact ⟨rfl, (HP1.out.trans HP4.out).trans hp9⟩

end Go.Proofs.Ytmhaaihgepldhaa

namespace Go.Proofs.Ytmhaaihgepldhaa.rowFnMeetInner
open Go.ChangeShapes Go.WideShapes Go.ChangeAt Go.RowKit Go.Deep

set_option maxRecDepth 100000 in
theorem lifted (os : Os) (started : os.Started) (H : Type) (enc : TypeId × Value → H) :
    ReturnsInHanded {} Try.checked os 9 .any (Rows.fnMeetInnerSpec.pre6 enc Try.prog Try.f9 Rows.fnMeetInnerRow.domain false) (Rows.fnMeetInnerSpec.post enc Try.prog Try.f9 false true false false) := by
  refine returnsInHanded_of_change (C := Try.checked) own_knob started (by kernel_rfl) Try.func9
    (ChangeSpec.witness6 (enc := enc) (C := Try.checked) false ⟨#[], #[.slice none 0 0], []⟩ 8 (by kernel_rfl) (by kernel_rfl) (by kernel_rfl) (by kernel_rfl)) ?_
  intro W base args ds gs before hval0 hW hcnd _
  have hval : ∀ (j : Nat) t v, Try.f9.params[j]? = some t → args[j]? = some v → Value.okWide Try.prog W .any base t v := hval0
  have hW' := hW
  obtain ⟨p, q, hA0, hV, rfl, hfz, hnd⟩ := hW
  have hA : DataW.TrodAll enc Try.prog W 0 (fun _ => true) true Try.f9.params.toList args.toList ds p := hA0
  rw [Try.params9] at hA hval
  obtain ⟨v0, vs0, d0, ds0, p0, q0, hargs, rfl, rfl, h0, r0⟩ := trodAll_cons hA
  obtain ⟨rfl, rfl, rfl⟩ := trodAll_nil r0
  obtain rfl : args = #[v0] := by cases args; simp_all
  obtain ⟨rfl, rfl⟩ := trodVars_none hV
  have k0 := h0
  have lt0 : ∀ x ∈ p0, x.block < W.heap.size := by obtain ⟨m, hm⟩ := k0; exact DataW.trod_lt m _ _ _ hm
  obtain ⟨A0, len0, cap0, rfl⟩ := okWide_slice Try.underlying35 (hval 0 35 v0 rfl rfl)
  obtain ⟨x0, w0⟩ : ∃ xs, Bytes W (.slice A0 len0 cap0) xs := by
    obtain ⟨fuel, hf⟩ := h0
    obtain ⟨v, xs, hcs, hx⟩ := bytes_open hf
    simp [Value.cells] at hcs
    subst hcs
    exact ⟨xs, hx⟩
  clear hA0 hval0
  refine (law_FnMeetInner _ x0 W w0).mono fun e W' ⟨he, bel⟩ => ?_
  subst he
  have bel' : Below W.heap.size W W' := bel
  exact ⟨_, rfl, _, _, _, [], _, [], hW', trodAll_mk1 (shut_bool Try.underlying4 _), (trodAll_cons_mk (Below.trod laid_out (by kernel_rfl) (of_decide_eq_true (by kernel_rfl)) k0 bel' lt0) trodAll_mk0), rfl, bel'.frame _, fun h => by cases h⟩

theorem proved : Rows.FnMeetInnerSaid :=
  OpenClaim.holds_of_wide 9 Try.f9 rfl rfl rfl rfl rfl rfl rfl ⟨rfl, rfl, rfl, rfl, rfl⟩ rfl rfl rfl rfl rfl (by kernel_rfl) Try.func9 (by kernel_rfl)
    (of_decide_eq_true (by kernel_rfl)) (by unfold Func.isWrapper; rw [if_neg (of_decide_eq_false (by kernel_rfl))]; exact ⟨rfl, rfl⟩)
    (fun os started H enc _ => lifted os started H enc)

end Go.Proofs.Ytmhaaihgepldhaa.rowFnMeetInner
