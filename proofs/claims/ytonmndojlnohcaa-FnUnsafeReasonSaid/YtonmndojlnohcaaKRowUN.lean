/- The law FnUnsafeReason, whole: The reasons are exclusive. No condition. -/
import Derived.Test.YtonmndojlnohcaaKca
import Derived.Test.YtonmndojlnohcaaKcc

namespace Go.Proofs.Ytonmndojlnohcaa
open Go.RowKit

theorem split_some {cs : List Cd} {a : Int} {mem : List Int} (h : RunOk cs a mem) : (splA cs a mem).isSome = !wholeA cs a mem := by
  unfold wholeA
  simp [h]

set_option maxHeartbeats 4000000 in
set_option maxRecDepth 100000 in
theorem law_FnUnsafeReason (v : Value) (bs : List Int) (w : World) (h : Bytes w v bs) :
    Calls Try.prog 11 #[v] w fun e w' => e = .returned (.bool true) ∧ Pure w w' := by
  have H := Lib.hid h
  obtain ⟨A, c, rfl, hnc, hcm⟩ := h.form
  clear h
  by_cases hbig : (bs.length : Int) > 1048576
  · go_enter Try.func11, Try.ntmps11
    go_wp2
    go_ret
    exact ⟨rfl, Pure.refl _⟩
  go_enter Try.func11, Try.ntmps11
  go_wp2_with fail
  refine (draw_DrawUnsafeReason _ bs _ H.out (by omega)).mono ?_
  rintro e w1 ⟨vl, cs, a, vm, mem, rfl, ha0, ha9, hl, hm, hcl, hml, hp1⟩
  have HC := Lib.hid hl
  have HM := Lib.hid hm
  have HP1 := Lib.hid hp1
  obtain ⟨Ac, cc, rfl, hcc1, hcc2⟩ := hl.form
  obtain ⟨Am, cm, rfl⟩ := hm.form
  clear hl hm hp1
  obtain ⟨r, Hr⟩ : ∃ r, Hid (reasonA cs a mem = r) := ⟨_, Lib.hid rfl⟩
  obtain ⟨s, Hs⟩ : ∃ s, Hid (safeA cs a mem = s) := ⟨_, Lib.hid rfl⟩
  obtain ⟨x, y, sp, Hsp⟩ : ∃ (x y : Int) (sp : Bool), Hid (spl2 (splA cs a mem) = .tuple #[.agg #[.int .i64 x, .int .i64 y], .bool sp] ∧ sp = (splA cs a mem).isSome) := by
    cases splA cs a mem with
    | none => exact ⟨0, 0, false, Lib.hid ⟨rfl, rfl⟩⟩
    | some z => exact ⟨z.1, z.2.1, true, Lib.hid ⟨rfl, rfl⟩⟩
  obtain ⟨B, hB⟩ : ∃ B : Bool, B = true ↔ RunOk cs a mem := by
    by_cases hp : RunOk cs a mem
    · exact ⟨true, by simp [hp]⟩
    · exact ⟨false, by simp [hp]⟩
  have HB := Lib.hid hB
  clear hB
  have hcases : (B = false ∧ r = 1 ∧ s = false ∧ sp = false) ∨ (B = true ∧ r = 2 ∧ s = false ∧ sp = true) ∨ (B = true ∧ r = 3 ∧ s = false ∧ sp = false) ∨ (B = true ∧ r = 0 ∧ s = true ∧ sp = false) := by
    have hr := Hr.out
    have hs := Hs.out
    have hsp := Hsp.out.2
    by_cases hok : RunOk cs a mem
    · have hb : B = true := HB.out.2 hok
      rw [split_some hok] at hsp
      unfold reasonA at hr
      unfold safeA at hs
      rw [if_pos hok] at hr
      cases hw : wholeA cs a mem
      · rw [hw] at hr hs hsp
        exact .inr (.inl ⟨hb, by rw [← hr]; rfl, by rw [← hs]; rfl, hsp⟩)
      · rw [hw] at hr hs hsp
        cases hf : freeA cs a mem
        · rw [hf] at hr hs
          exact .inr (.inr (.inl ⟨hb, by rw [← hr]; rfl, by rw [← hs]; rfl, hsp⟩))
        · rw [hf] at hr hs
          exact .inr (.inr (.inr ⟨hb, by rw [← hr]; rfl, by rw [← hs]; rfl, hsp⟩))
    · have hb : B = false := by
        cases hB : B
        · rfl
        · exact absurd (HB.out.1 hB) hok
      unfold reasonA at hr
      rw [if_neg hok] at hr
      have h1 : splA cs a mem = none := by unfold splA; rw [lockA_no hok]; rfl
      have h2 : safeA cs a mem = false := by unfold safeA; rw [wholeA_no hok]; rfl
      exact .inl ⟨hb, hr.symm, by rw [← hs, h2], by rw [hsp, h1]; rfl⟩
  go_wp2_with fail
  refine (ireason_any _ _ cs a mem _ HC.out HM.out (by omega) (by omega)).mono ?_
  rintro e w2 ⟨rfl, hp2⟩
  rw [Hr.out]
  have HP2 := Lib.hid hp2
  clear hp2
  go_wp2_with fail
  refine (sreason_any _ _ cs a mem _ (HC.out.keep HP2.out) (HM.out.keep HP2.out) (by omega) (by omega)).mono ?_
  rintro e w3 ⟨rfl, hp3⟩
  rw [Hr.out]
  have hrr : (r != r) = false := by simp
  have HP3 := Lib.hid (HP2.out.trans hp3)
  clear hp3
  go_wp2_with fail
  refine (ispl_any _ _ cs a mem _ (HC.out.keep HP3.out) (HM.out.keep HP3.out) (by omega) (by omega)).mono ?_
  rintro e w4 ⟨rfl, hp4⟩
  rw [Hsp.out.1]
  have HP4 := Lib.hid (HP3.out.trans hp4)
  clear hp4 hrr
  rcases hcases with ⟨hb, rfl, rfl, rfl⟩ | ⟨hb, rfl, rfl, rfl⟩ | ⟨hb, rfl, rfl, rfl⟩ | ⟨hb, rfl, rfl, rfl⟩
  · go_wp2_with fail
    refine (isafe_any _ _ cs a mem _ (HC.out.keep (HP4.out.trans (by exact (by repeat (first | assumption | exact Pure.refl _ | refine Pure.drewN ?_ _ | refine Pure.drew ?_ | refine Pure.alloc ?_ _ | refine Pure.setCell ?_ (by simp <;> omega) _))))) (HM.out.keep (HP4.out.trans (by exact (by repeat (first | assumption | exact Pure.refl _ | refine Pure.drewN ?_ _ | refine Pure.drew ?_ | refine Pure.alloc ?_ _ | refine Pure.setCell ?_ (by simp <;> omega) _))))) (by omega) (by omega)).mono ?_
    rintro e w5 ⟨rfl, hp5⟩
    rw [Hs.out]
    have HP5 := Lib.hid ((HP4.out.trans (by exact (by repeat (first | assumption | exact Pure.refl _ | refine Pure.drewN ?_ _ | refine Pure.drew ?_ | refine Pure.alloc ?_ _ | refine Pure.setCell ?_ (by simp <;> omega) _)))).trans hp5)
    clear hp5
    go_wp2_with fail
    refine (runs_any _ _ cs a mem _ (HC.out.keep HP5.out) (HM.out.keep HP5.out) (by omega) (by omega) false (hb ▸ HB.out)).mono ?_
    rintro e w6 ⟨rfl, hp6⟩
    have HP6 := Lib.hid (HP5.out.trans hp6)
    clear hp6
    go_wp2_with fail
    refine (alive_any _).mono ?_
    rintro e w7 ⟨rfl, hp7⟩
    go_wp2
    go_ret
    exact ⟨rfl, (HP1.out.trans HP6.out).trans hp7⟩
  · go_wp2_with fail
    refine (isafe_any _ _ cs a mem _ (HC.out.keep (HP4.out.trans (by exact (by repeat (first | assumption | exact Pure.refl _ | refine Pure.drewN ?_ _ | refine Pure.drew ?_ | refine Pure.alloc ?_ _ | refine Pure.setCell ?_ (by simp <;> omega) _))))) (HM.out.keep (HP4.out.trans (by exact (by repeat (first | assumption | exact Pure.refl _ | refine Pure.drewN ?_ _ | refine Pure.drew ?_ | refine Pure.alloc ?_ _ | refine Pure.setCell ?_ (by simp <;> omega) _))))) (by omega) (by omega)).mono ?_
    rintro e w5 ⟨rfl, hp5⟩
    rw [Hs.out]
    have HP5 := Lib.hid ((HP4.out.trans (by exact (by repeat (first | assumption | exact Pure.refl _ | refine Pure.drewN ?_ _ | refine Pure.drew ?_ | refine Pure.alloc ?_ _ | refine Pure.setCell ?_ (by simp <;> omega) _)))).trans hp5)
    clear hp5
    go_wp2_with fail
    refine (runs_any _ _ cs a mem _ (HC.out.keep HP5.out) (HM.out.keep HP5.out) (by omega) (by omega) true (hb ▸ HB.out)).mono ?_
    rintro e w6 ⟨rfl, hp6⟩
    have HP6 := Lib.hid (HP5.out.trans hp6)
    clear hp6
    go_wp2_with fail
    refine (alive_any _).mono ?_
    rintro e w7 ⟨rfl, hp7⟩
    go_wp2
    go_ret
    exact ⟨rfl, (HP1.out.trans HP6.out).trans hp7⟩
  · go_wp2_with fail
    refine (isafe_any _ _ cs a mem _ (HC.out.keep (HP4.out.trans (by exact (by repeat (first | assumption | exact Pure.refl _ | refine Pure.drewN ?_ _ | refine Pure.drew ?_ | refine Pure.alloc ?_ _ | refine Pure.setCell ?_ (by simp <;> omega) _))))) (HM.out.keep (HP4.out.trans (by exact (by repeat (first | assumption | exact Pure.refl _ | refine Pure.drewN ?_ _ | refine Pure.drew ?_ | refine Pure.alloc ?_ _ | refine Pure.setCell ?_ (by simp <;> omega) _))))) (by omega) (by omega)).mono ?_
    rintro e w5 ⟨rfl, hp5⟩
    rw [Hs.out]
    have HP5 := Lib.hid ((HP4.out.trans (by exact (by repeat (first | assumption | exact Pure.refl _ | refine Pure.drewN ?_ _ | refine Pure.drew ?_ | refine Pure.alloc ?_ _ | refine Pure.setCell ?_ (by simp <;> omega) _)))).trans hp5)
    clear hp5
    go_wp2_with fail
    refine (runs_any _ _ cs a mem _ (HC.out.keep HP5.out) (HM.out.keep HP5.out) (by omega) (by omega) true (hb ▸ HB.out)).mono ?_
    rintro e w6 ⟨rfl, hp6⟩
    have HP6 := Lib.hid (HP5.out.trans hp6)
    clear hp6
    go_wp2_with fail
    refine (alive_any _).mono ?_
    rintro e w7 ⟨rfl, hp7⟩
    go_wp2
    go_ret
    exact ⟨rfl, (HP1.out.trans HP6.out).trans hp7⟩
  · go_wp2_with fail
    refine (isafe_any _ _ cs a mem _ (HC.out.keep (HP4.out.trans (by exact (by repeat (first | assumption | exact Pure.refl _ | refine Pure.drewN ?_ _ | refine Pure.drew ?_ | refine Pure.alloc ?_ _ | refine Pure.setCell ?_ (by simp <;> omega) _))))) (HM.out.keep (HP4.out.trans (by exact (by repeat (first | assumption | exact Pure.refl _ | refine Pure.drewN ?_ _ | refine Pure.drew ?_ | refine Pure.alloc ?_ _ | refine Pure.setCell ?_ (by simp <;> omega) _))))) (by omega) (by omega)).mono ?_
    rintro e w5 ⟨rfl, hp5⟩
    rw [Hs.out]
    have HP5 := Lib.hid ((HP4.out.trans (by exact (by repeat (first | assumption | exact Pure.refl _ | refine Pure.drewN ?_ _ | refine Pure.drew ?_ | refine Pure.alloc ?_ _ | refine Pure.setCell ?_ (by simp <;> omega) _)))).trans hp5)
    clear hp5
    go_wp2_with fail
    refine (runs_any _ _ cs a mem _ (HC.out.keep HP5.out) (HM.out.keep HP5.out) (by omega) (by omega) true (hb ▸ HB.out)).mono ?_
    rintro e w6 ⟨rfl, hp6⟩
    have HP6 := Lib.hid (HP5.out.trans hp6)
    clear hp6
    go_wp2_with fail
    refine (alive_any _).mono ?_
    rintro e w7 ⟨rfl, hp7⟩
    go_wp2
    go_ret
    exact ⟨rfl, (HP1.out.trans HP6.out).trans hp7⟩

end Go.Proofs.Ytonmndojlnohcaa

namespace Go.Proofs.Ytonmndojlnohcaa.rowFnUnsafeReason
open Go.ChangeShapes Go.WideShapes Go.ChangeAt Go.RowKit Go.Deep

set_option maxRecDepth 100000 in
theorem lifted (os : Os) (started : os.Started) (H : Type) (enc : TypeId × Value → H) :
    ReturnsInHanded {} Try.checked os 11 .any (Rows.fnUnsafeReasonSpec.pre6 enc Try.prog Try.f11 Rows.fnUnsafeReasonRow.domain false) (Rows.fnUnsafeReasonSpec.post enc Try.prog Try.f11 false true false false) := by
  refine returnsInHanded_of_change (C := Try.checked) own_knob started (by kernel_rfl) Try.func11
    (ChangeSpec.witness6 (enc := enc) (C := Try.checked) false ⟨#[], #[.slice none 0 0], []⟩ 8 (by kernel_rfl) (by kernel_rfl) (by kernel_rfl) (by kernel_rfl)) ?_
  intro W base args ds gs before hval0 hW hcnd _
  have hval : ∀ (j : Nat) t v, Try.f11.params[j]? = some t → args[j]? = some v → Value.okWide Try.prog W .any base t v := hval0
  have hW' := hW
  obtain ⟨p, q, hA0, hV, rfl, hfz, hnd⟩ := hW
  have hA : DataW.TrodAll enc Try.prog W 0 (fun _ => true) true Try.f11.params.toList args.toList ds p := hA0
  rw [Try.params11] at hA hval
  obtain ⟨v0, vs0, d0, ds0, p0, q0, hargs, rfl, rfl, h0, r0⟩ := trodAll_cons hA
  obtain ⟨rfl, rfl, rfl⟩ := trodAll_nil r0
  obtain rfl : args = #[v0] := by cases args; simp_all
  obtain ⟨rfl, rfl⟩ := trodVars_none hV
  have k0 := h0
  have lt0 : ∀ x ∈ p0, x.block < W.heap.size := by obtain ⟨m, hm⟩ := k0; exact DataW.trod_lt m _ _ _ hm
  obtain ⟨A0, len0, cap0, rfl⟩ := okWide_slice Try.underlying22 (hval 0 22 v0 rfl rfl)
  obtain ⟨x0, w0⟩ : ∃ xs, Bytes W (.slice A0 len0 cap0) xs := by
    obtain ⟨fuel, hf⟩ := h0
    obtain ⟨v, xs, hcs, hx⟩ := bytes_open hf
    simp [Value.cells] at hcs
    subst hcs
    exact ⟨xs, hx⟩
  clear hA0 hval0
  refine (law_FnUnsafeReason _ x0 W w0).mono fun e W' ⟨he, bel⟩ => ?_
  subst he
  have bel' : Below W.heap.size W W' := bel
  exact ⟨_, rfl, _, _, _, [], _, [], hW', trodAll_mk1 (shut_bool Try.underlying4 _), (trodAll_cons_mk (Below.trod laid_out (by kernel_rfl) (of_decide_eq_true (by kernel_rfl)) k0 bel' lt0) trodAll_mk0), rfl, bel'.frame _, fun h => by cases h⟩

theorem proved : Rows.FnUnsafeReasonSaid :=
  OpenClaim.holds_of_wide 11 Try.f11 rfl rfl rfl rfl rfl rfl rfl ⟨rfl, rfl, rfl, rfl, rfl⟩ rfl rfl rfl rfl rfl (by kernel_rfl) Try.func11 (by kernel_rfl)
    (of_decide_eq_true (by kernel_rfl)) (by unfold Func.isWrapper; rw [if_neg (of_decide_eq_false (by kernel_rfl))]; exact ⟨rfl, rfl⟩)
    (fun os started H enc _ => lifted os started H enc)

end Go.Proofs.Ytonmndojlnohcaa.rowFnUnsafeReason
