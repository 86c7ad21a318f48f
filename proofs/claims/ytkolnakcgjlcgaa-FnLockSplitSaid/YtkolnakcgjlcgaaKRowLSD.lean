/- The law FnLockSplit, whole: split barriers are barriers. No condition. -/
import Derived.Test.YtkolnakcgjlcgaaKbg
import Derived.Test.YtkolnakcgjlcgaaKbh
import Derived.Test.YtkolnakcgjlcgaaKbj

namespace Go.Proofs.Ytkolnakcgjlcgaa
open Go.RowKit

/-- The step that splits a barrier. -/
theorem splA_some {cs : List Cd} {a : Int} {mem : List Int} {y : Nat × Nat × (Nat → Nat → Int)} (h : splA cs a mem = some y) :
    ∃ n : Nat, a = n ∧ 1 ≤ n ∧ n ≤ 8 ∧ RunOk cs n mem ∧ y.1 < cs.length ∧ (cs.getD y.1 default).op = 10 ∧ 0 < y.2.1 ∧ y.2.1 < 2 ^ n - 1 := by
  unfold splA at h
  have h1 := List.find?_some h
  have h2 := List.mem_of_find?_eq_some h
  obtain ⟨hin, hok⟩ := lockA_in y h2
  obtain ⟨n, rfl, hn1, hn8⟩ := lanes_nat hok.2.1
  have e : ((n : Int)).toNat = n := by omega
  rw [e] at h1 hin
  unfold splBad at h1
  simp only [Bool.and_eq_true, decide_eq_true_eq, Bool.not_eq_true', decide_eq_false_iff_not] at h1
  have h3 := hin.2.2.1
  have h4 := hin.2.2.2
  exact ⟨n, rfl, hn1, hn8, hok, hin.2.1, h1.1, by omega, by have := h1.2; omega⟩
theorem wholeA_bool {cs : List Cd} {a : Int} {mem : List Int} {B : Bool} (hB : B = true ↔ RunOk cs a mem) : wholeA cs a mem = (B && (splA cs a mem).isNone) := by
  by_cases h : RunOk cs a mem
  · rw [hB.2 h]; unfold wholeA; simp [h]
  · have : B = false := by
      cases hb : B
      · rfl
      · exact absurd (hB.1 hb) h
    rw [this, wholeA_no h]; rfl

set_option maxHeartbeats 4000000 in
set_option maxRecDepth 100000 in
theorem law_FnLockSplit (v : Value) (bs : List Int) (w : World) (h : Bytes w v bs) :
    Calls Try.prog 5 #[v] w fun e w' => e = .returned (.bool true) ∧ Pure w w' := by
  have H := Lib.hid h
  obtain ⟨A, c, rfl, hnc, hcm⟩ := h.form
  clear h
  by_cases hbig : (bs.length : Int) > 1048576
  · go_enter Try.func5, Try.ntmps5
    go_wp2
    go_ret
    exact ⟨rfl, Pure.refl _⟩
  go_enter Try.func5, Try.ntmps5
  go_wp2_with fail
  refine (draw_DrawLockSplit _ bs _ H.out (by omega)).mono ?_
  rintro e w1 ⟨vl, cs, a, vm, mem, rfl, ha0, ha9, hl, hm, hcl, hml, hp1⟩
  have HC := Lib.hid hl
  have HM := Lib.hid hm
  have HP1 := Lib.hid hp1
  obtain ⟨Ac, cc, rfl, hcc1, hcc2⟩ := hl.form
  obtain ⟨Am, cm, rfl⟩ := hm.form
  clear hl hm hp1
  have hsome := @splA_some cs a mem
  obtain ⟨BO, hBO⟩ : ∃ B : Bool, B = true ↔ RunOk cs a mem := by classical exact ⟨decide (RunOk cs a mem), by simp⟩
  have HBO := Lib.hid hBO
  have HNO : Hid (BO = false → splA cs a mem = none) := Lib.hid fun h => by
    have hno : ¬ RunOk cs a mem := fun h2 => by rw [hBO.2 h2] at h; cases h
    unfold splA; rw [lockA_no hno]; rfl
  have HWB : Hid (wholeA cs a mem = (BO && (splA cs a mem).isNone)) := Lib.hid (wholeA_bool hBO)
  clear hBO
  cases hsp : splA cs a mem with
  | none =>
    have HQ : Hid (spl2 (splA cs a mem) = .tuple #[.agg #[.int .i64 0, .int .i64 0], .bool false]) := Lib.hid (by rw [hsp]; rfl)
    have HWB2 : Hid (wholeA cs a mem = BO) := Lib.hid (by rw [HWB.out, hsp]; simp)
    clear hsp hsome
    go_wp2_with fail
    refine (ispl_any _ _ cs a mem _ HC.out HM.out (by omega) (by omega)).mono ?_
    rintro e w2 ⟨rfl, hp2⟩
    rw [HQ.out]
    have HP2 : Hid (Pure w1 (w2.alloc (.cells #[.int .i64 (0 : Int), .int .i64 (0 : Int)] 33))) := Lib.hid (hp2.trans (by exact (by repeat (first | assumption | exact Pure.refl _ | refine Pure.drewN ?_ _ | refine Pure.drew ?_ | refine Pure.alloc ?_ _ | refine Pure.setCell ?_ (by simp <;> omega) _))))
    go_wp2_with fail
    refine (sspl_any _ _ cs a mem _ (HC.out.keep HP2.out) (HM.out.keep HP2.out) (by omega) (by omega)).mono ?_
    rintro e w3 ⟨rfl, hp3⟩
    rw [HQ.out]
    have HP3 : Hid (Pure (w2.alloc (.cells #[.int .i64 (0 : Int), .int .i64 (0 : Int)] 33)) (w3.alloc (.cells #[.int .i64 (0 : Int), .int .i64 (0 : Int)] 33))) := Lib.hid (hp3.trans (by exact (by repeat (first | assumption | exact Pure.refl _ | refine Pure.drewN ?_ _ | refine Pure.drew ?_ | refine Pure.alloc ?_ _ | refine Pure.setCell ?_ (by simp <;> omega) _))))
    obtain ⟨zr0, zr1⟩ := box_facts HP3.out
    obtain ⟨zg0, zg1⟩ := box_facts (Pure.refl (w3.alloc (.cells #[.int .i64 (0 : Int), .int .i64 (0 : Int)] 33)))
    have HP14b : Hid (Pure w1 (w3.alloc (.cells #[.int .i64 (0 : Int), .int .i64 (0 : Int)] 33))) := Lib.hid (HP2.out.trans HP3.out)
    have HP14 : Hid (Pure w (w3.alloc (.cells #[.int .i64 (0 : Int), .int .i64 (0 : Int)] 33))) := Lib.hid (HP1.out.trans HP14b.out)
    go_wp2_with fail
    refine (runs_any _ _ cs a mem _ (HC.out.keep HP14b.out) (HM.out.keep HP14b.out) (by omega) (by omega) BO HBO.out).mono ?_
    rintro e w4 ⟨rfl, hp4⟩
    have zr0' := keepPc hp4 zr0
    have zr1' := keepPc hp4 zr1
    clear zr0 zr1 zg0 zg1
    cases BO
    · go_wp2_with fail
      refine (alive_any _).mono ?_
      rintro e w5 ⟨rfl, hp5⟩
      go_wp2
      go_ret
      exact ⟨rfl, by have h1 := HP14.out; have h2 := h1.trans hp4; have h3 := h2.trans hp5; exact (by repeat (first | assumption | exact Pure.refl _ | refine Pure.drewN ?_ _ | refine Pure.drew ?_ | refine Pure.alloc ?_ _ | refine Pure.setCell ?_ (by simp <;> omega) _))⟩
    · go_wp2_with fail
      refine (irl_any _ _ cs a mem _ (HC.out.keep (HP14b.out.trans hp4)) (HM.out.keep (HP14b.out.trans hp4)) (by omega) (by omega)).mono ?_
      rintro e w5 ⟨r5, rfl, _, hp5⟩
      rw [HWB2.out]
      have zr0 := keepPc hp5 zr0'
      have zr1 := keepPc hp5 zr1'
      clear zr0' zr1'
      go_wp2
      go_ret
      exact ⟨rfl, by have h1 := HP14.out; have h2 := h1.trans hp4; have h3 := h2.trans hp5; exact (by repeat (first | assumption | exact Pure.refl _ | refine Pure.drewN ?_ _ | refine Pure.drew ?_ | refine Pure.alloc ?_ _ | refine Pure.setCell ?_ (by simp <;> omega) _))⟩
  | some y =>
    obtain ⟨n, rfl, hn1, hn8, hok, hy1, hy2, hy3, hy4⟩ := hsome hsp
    obtain ⟨y0, y1, y2⟩ := y
    simp only at hy1 hy2 hy3 hy4
    have HQ : Hid (spl2 (splA cs n mem) = .tuple #[.agg #[.int .i64 (y0 : Int), .int .i64 (y1 : Int)], .bool true]) := Lib.hid (by rw [hsp]; rfl)
    have HWB2 : Hid (wholeA cs n mem = false) := Lib.hid (by rw [HWB.out, hsp]; simp)
    have hbt : BO = true := HBO.out.2 hok
    subst hbt
    have HY2 := Lib.hid hy2
    have HOK := Lib.hid hok
    clear hsp hsome hy2 hok
    go_wp2_with fail
    refine (ispl_any _ _ cs n mem _ HC.out HM.out (by omega) (by omega)).mono ?_
    rintro e w2 ⟨rfl, hp2⟩
    rw [HQ.out]
    have HP2 : Hid (Pure w1 (w2.alloc (.cells #[.int .i64 (y0 : Int), .int .i64 (y1 : Int)] 33))) := Lib.hid (hp2.trans (by exact (by repeat (first | assumption | exact Pure.refl _ | refine Pure.drewN ?_ _ | refine Pure.drew ?_ | refine Pure.alloc ?_ _ | refine Pure.setCell ?_ (by simp <;> omega) _))))
    go_wp2_with fail
    refine (sspl_any _ _ cs n mem _ (HC.out.keep HP2.out) (HM.out.keep HP2.out) (by omega) (by omega)).mono ?_
    rintro e w3 ⟨rfl, hp3⟩
    rw [HQ.out]
    have HP3 : Hid (Pure (w2.alloc (.cells #[.int .i64 (y0 : Int), .int .i64 (y1 : Int)] 33)) (w3.alloc (.cells #[.int .i64 (y0 : Int), .int .i64 (y1 : Int)] 33))) := Lib.hid (hp3.trans (by exact (by repeat (first | assumption | exact Pure.refl _ | refine Pure.drewN ?_ _ | refine Pure.drew ?_ | refine Pure.alloc ?_ _ | refine Pure.setCell ?_ (by simp <;> omega) _))))
    obtain ⟨zr0, zr1⟩ := box_facts HP3.out
    obtain ⟨zg0, zg1⟩ := box_facts (Pure.refl (w3.alloc (.cells #[.int .i64 (y0 : Int), .int .i64 (y1 : Int)] 33)))
    have HP14b : Hid (Pure w1 (w3.alloc (.cells #[.int .i64 (y0 : Int), .int .i64 (y1 : Int)] 33))) := Lib.hid (HP2.out.trans HP3.out)
    have HP14 : Hid (Pure w (w3.alloc (.cells #[.int .i64 (y0 : Int), .int .i64 (y1 : Int)] 33))) := Lib.hid (HP1.out.trans HP14b.out)
    go_wp2_with fail
    refine (runs_any _ _ cs n mem _ (HC.out.keep HP14b.out) (HM.out.keep HP14b.out) (by omega) (by omega) true (by simp only [true_iff]; exact HOK.out)).mono ?_
    rintro e w4 ⟨rfl, hp4⟩
    have zr0' := keepPc hp4 zr0
    have zr1' := keepPc hp4 zr1
    clear zr0 zr1 zg0 zg1
    go_wp2_with fail
    refine (irl_any _ _ cs n mem _ (HC.out.keep (HP14b.out.trans hp4)) (HM.out.keep (HP14b.out.trans hp4)) (by omega) (by omega)).mono ?_
    rintro e w5 ⟨r5, rfl, _, hp5⟩
    rw [HWB2.out]
    have zr0 := keepPc hp5 zr0'
    have zr1 := keepPc hp5 zr1'
    clear zr0' zr1'
    obtain ⟨b, o, rfl, hb, hat⟩ := HC.out.at_ hy1
    have hat2 := hat.keep ((HP14b.out.trans hp4).trans hp5) hb
    have q0 := hat2.c0
    rw [HY2.out] at q0
    clear hat hat2
    obtain ⟨TT, HT⟩ : ∃ T, Hid (2 ^ n - 1 = T) := ⟨_, Lib.hid rfl⟩
    rw [HT.out] at hy4
    have HMA2 : Hid (∀ u : World, Calls Try.prog 22 #[.int .i64 (n : Int)] u fun e w' => e = .returned (.int .i64 (TT : Int)) ∧ w' = u) := Lib.hid fun u => by
      have := imaskall_any n u hn1 hn8; rw [HT.out] at this; exact this.mono fun e w' h => ⟨h.1, h.2.symm⟩
    have hgt : decide ((y1 : Int) > 0) = true := by simp; omega
    have hlt : decide ((y1 : Int) < (TT : Int)) = true := by simp; omega
    go_wp2
    go_quiet ((go_at_call 22; refine Calls.quiet_of_same (HMA2.out _)))
    go_wp2
    go_ret
    exact ⟨rfl, by have h1 := HP14.out; have h2 := h1.trans hp4; have h3 := h2.trans hp5; exact (by repeat (first | assumption | exact Pure.refl _ | refine Pure.drewN ?_ _ | refine Pure.drew ?_ | refine Pure.alloc ?_ _ | refine Pure.setCell ?_ (by simp <;> omega) _))⟩

end Go.Proofs.Ytkolnakcgjlcgaa

namespace Go.Proofs.Ytkolnakcgjlcgaa.rowFnLockSplit
open Go.ChangeShapes Go.WideShapes Go.ChangeAt Go.RowKit Go.Deep

set_option maxRecDepth 100000 in
theorem lifted (os : Os) (started : os.Started) (H : Type) (enc : TypeId × Value → H) :
    ReturnsInHanded {} Try.checked os 5 .any (Rows.fnLockSplitSpec.pre6 enc Try.prog Try.f5 Rows.fnLockSplitRow.domain false) (Rows.fnLockSplitSpec.post enc Try.prog Try.f5 false true false false) := by
  refine returnsInHanded_of_change (C := Try.checked) own_knob started (by kernel_rfl) Try.func5
    (ChangeSpec.witness6 (enc := enc) (C := Try.checked) false ⟨#[], #[.slice none 0 0], []⟩ 8 (by kernel_rfl) (by kernel_rfl) (by kernel_rfl) (by kernel_rfl)) ?_
  intro W base args ds gs before hval0 hW hcnd _
  have hval : ∀ (j : Nat) t v, Try.f5.params[j]? = some t → args[j]? = some v → Value.okWide Try.prog W .any base t v := hval0
  have hW' := hW
  obtain ⟨p, q, hA0, hV, rfl, hfz, hnd⟩ := hW
  have hA : DataW.TrodAll enc Try.prog W 0 (fun _ => true) true Try.f5.params.toList args.toList ds p := hA0
  rw [Try.params5] at hA hval
  obtain ⟨v0, vs0, d0, ds0, p0, q0, hargs, rfl, rfl, h0, r0⟩ := trodAll_cons hA
  obtain ⟨rfl, rfl, rfl⟩ := trodAll_nil r0
  obtain rfl : args = #[v0] := by cases args; simp_all
  obtain ⟨rfl, rfl⟩ := trodVars_none hV
  have k0 := h0
  have lt0 : ∀ x ∈ p0, x.block < W.heap.size := by obtain ⟨m, hm⟩ := k0; exact DataW.trod_lt m _ _ _ hm
  obtain ⟨A0, len0, cap0, rfl⟩ := okWide_slice Try.underlying22 (hval 0 22 v0 rfl rfl)
  obtain ⟨x0, w0⟩ : ∃ xs, Bytes W (.slice A0 len0 cap0) xs := by
    obtain ⟨fuel, hf⟩ := h0
    obtain ⟨v, xs, hcs, hx⟩ := bytes_open hf
    simp [Value.cells] at hcs
    subst hcs
    exact ⟨xs, hx⟩
  clear hA0 hval0
  refine (law_FnLockSplit _ x0 W w0).mono fun e W' ⟨he, bel⟩ => ?_
  subst he
  have bel' : Below W.heap.size W W' := bel
  exact ⟨_, rfl, _, _, _, [], _, [], hW', trodAll_mk1 (shut_bool Try.underlying4 _), (trodAll_cons_mk (Below.trod laid_out (by kernel_rfl) (of_decide_eq_true (by kernel_rfl)) k0 bel' lt0) trodAll_mk0), rfl, bel'.frame _, fun h => by cases h⟩

theorem proved : Rows.FnLockSplitSaid :=
  OpenClaim.holds_of_wide 5 Try.f5 rfl rfl rfl rfl rfl rfl rfl ⟨rfl, rfl, rfl, rfl, rfl⟩ rfl rfl rfl rfl rfl (by kernel_rfl) Try.func5 (by kernel_rfl)
    (of_decide_eq_true (by kernel_rfl)) (by unfold Func.isWrapper; rw [if_neg (of_decide_eq_false (by kernel_rfl))]; exact ⟨rfl, rfl⟩)
    (fun os started H enc _ => lifted os started H enc)

end Go.Proofs.Ytkolnakcgjlcgaa.rowFnLockSplit
