/- The law FnLockOne, whole: One lane alone is in lockstep No condition. -/
import Derived.Test.YtajaonejpggcbaaKbj
import Derived.Test.YtajaonejpggcbaaKca
import Derived.Test.YtajaonejpggcbaaKcj
import Derived.Test.YtajaonejpggcbaaKda

namespace Go.Proofs.Ytajaonejpggcbaa
open Go.RowKit

theorem ints_litL (w : World) (xs : List Int) (t : TypeId) (hl : xs.length ≤ 9223372036854775807) : Ints (w.alloc (.cells (xs.map (.int .i64)).toArray t)) (.slice (some ⟨w.heap.size, 0, none⟩) xs.length xs.length) xs := by
  refine ⟨_, _, rfl, Nat.le_refl _, hl, fun _ => ⟨_, _, rfl, by simp, fun j hj => ?_⟩⟩
  have := cell_of_row (w.alloc (.cells (xs.map (.int .i64)).toArray t)) w.heap.size (0 + j) (xs.map (.int .i64)).toArray t (0, 0) (heap_alloc_new w _)
  rw [this]
  have : j < xs.length := by omega
  simp [List.getD_eq_getElem?_getD, this]
theorem ord_00 : OrdOk [0, 0] 1 := by
  refine ⟨by decide, by decide, by decide, fun j hj => ?_, fun l hl => ⟨0, by decide, ?_⟩⟩
  · have : j = 0 ∨ j = 1 := by simp at hj; omega
    rcases this with rfl | rfl <;> decide
  · have : l = 0 := by omega
    subst this; rfl

set_option maxHeartbeats 4000000 in
set_option maxRecDepth 100000 in
theorem law_FnLockOne (v : Value) (bs : List Int) (w : World) (h : Bytes w v bs) :
    Calls Try.prog 12 #[v] w fun e w' => e = .returned (.bool true) ∧ Pure w w' := by
  have H := Lib.hid h
  obtain ⟨A, c, rfl, hnc, hcm⟩ := h.form
  clear h
  by_cases hbig : (bs.length : Int) > 1048576
  · go_enter Try.func12, Try.ntmps12
    go_wp2
    go_ret
    exact ⟨rfl, Pure.refl _⟩
  go_enter Try.func12, Try.ntmps12
  go_wp2_with fail
  refine (draw_DrawRunLock _ bs _ H.out (by omega)).mono ?_
  rintro e w1 ⟨vl, cs, a, vm, mem, rfl, ha0, ha9, hl, hm, hcl, hml, hp1⟩
  have HC := Lib.hid hl
  have HM := Lib.hid hm
  have HP1 := Lib.hid hp1
  obtain ⟨Ac, cc, rfl, hcc1, hcc2⟩ := hl.form
  obtain ⟨Am, cm, rfl⟩ := hm.form
  clear hl hm hp1
  go_wp2_with fail
  refine (irl_any _ _ cs 1 mem _ HC.out HM.out (by omega) (by omega)).mono ?_
  obtain ⟨wh, Hwh⟩ : ∃ wh, Hid (wholeA cs 1 mem = wh) := ⟨_, Lib.hid rfl⟩
  obtain ⟨mx, Hmx⟩ : ∃ mx, Hid (memA cs 1 mem = mx) := ⟨_, Lib.hid rfl⟩
  have hmx := memA_smallJ (cs := cs) (a := 1) hml
  rw [Hmx.out] at hmx
  rintro e w2 ⟨v2, rfl, ho2, hp2⟩
  have hi2 : Ints w2 v2 mx := Hmx.out ▸ ints_ownJ ho2
  have HO2 := Lib.hid hi2
  have HP2 := Lib.hid hp2
  obtain ⟨A2, c2, rfl⟩ := hi2.form
  rw [Hwh.out]
  clear ho2 hp2 hi2
  go_wp2_with fail
  refine (srl_any _ _ cs 1 mem _ (HC.out.keep HP2.out) (HM.out.keep HP2.out) (by omega) (by omega)).mono ?_
  rintro e w3 ⟨v3, rfl, ho3, hp3⟩
  have hi3 : Ints w3 v3 mx := Hmx.out ▸ ints_ownJ ho3
  have HO3 := Lib.hid hi3
  obtain ⟨A3, c3, rfl⟩ := hi3.form
  rw [Hwh.out]
  have HO23 := Lib.hid (Cells.keep HO2.out hp3)
  have HP3 := Lib.hid (HP2.out.trans hp3)
  clear ho3 hp3 hi3
  have hww : (wh != wh) = false := by simp
  go_wp2_with fail
  refine (sameInts_same _ _ mx _ HO23.out HO3.out hmx).mono ?_
  rintro e w4 ⟨rfl, hp4⟩
  have HP4 := Lib.hid (HP3.out.trans hp4)
  have HO24 := Lib.hid (Cells.keep HO23.out hp4)
  clear hp4
  by_cases hok : RunOk cs a mem
  · have HOK := Lib.hid hok
    obtain ⟨n, rfl, hn1, hn8⟩ := lanes_nat hok.2.1
    have h1 : RunOk cs ((1 : Nat) : Int) mem := one_ok hok
    have HOK1 := Lib.hid h1
    have hwh : wh = true := by rw [← Hwh.out]; exact one_whole h1
    have HMX : Hid ((List.range mem.length).map (lockOf cs 1 mem).M = mx) := Lib.hid (by rw [← Hmx.out]; exact (memA_ok h1).symm)
    subst hwh
    clear hok h1
    go_wp2_with fail
    refine (runs_any _ _ cs n mem _ (HC.out.keep HP4.out) (HM.out.keep HP4.out) (by omega) (by omega) true (by simp only [true_iff]; exact HOK.out)).mono ?_
    rintro e w5 ⟨rfl, hp5⟩
    have HP5 := Lib.hid (HP4.out.trans hp5)
    have HO25 := Lib.hid (Cells.keep HO24.out hp5)
    have HL2 := Lib.hid (ints_litL w5 [0, 0] 3 (by simp))
    have HPA := Lib.hid (show Pure w5 (w5.alloc (.cells #[.int .i64 0, .int .i64 0] 3)) from (by repeat (first | assumption | exact Pure.refl _ | refine Pure.drewN ?_ _ | refine Pure.drew ?_ | refine Pure.alloc ?_ _ | refine Pure.setCell ?_ (by simp <;> omega) _)))
    clear hp5
    go_wp2_with fail
    refine (irunord_any _ _ _ cs 1 mem [0, 0] _ (HC.out.keep (HP5.out.trans HPA.out)) (HM.out.keep (HP5.out.trans HPA.out)) HL2.out HOK1.out ord_00 (lockOf cs 1 mem).M (fun N hd => order_same HOK1.out (one_nosp HOK1.out) (one_free HOK1.out) (turn_lt ord_00) hd)).mono ?_
    rintro e w6 ⟨v6, rfl, hi6, hp6⟩
    rw [HMX.out] at hi6
    have HI6 := Lib.hid hi6
    have HP6 := Lib.hid ((HP5.out.trans HPA.out).trans hp6)
    have HO26 := Lib.hid (Cells.keep HO25.out (HPA.out.trans hp6))
    clear hi6 hp6
    go_wp2_with fail
    refine (sameInts_same _ _ mx _ HI6.out HO26.out hmx).mono ?_
    rintro e w7 ⟨rfl, hp7⟩
    go_wp2_with fail
    refine (alive_any _).mono ?_
    rintro e w8 ⟨rfl, hp8⟩
    go_wp2
    go_ret
    exact ⟨rfl, ((HP1.out.trans HP6.out).trans hp7).trans hp8⟩
  · have HOK := Lib.hid hok
    clear hok
    go_wp2_with fail
    refine (runs_any _ _ cs a mem _ (HC.out.keep HP4.out) (HM.out.keep HP4.out) (by omega) (by omega) false (by simp only [Bool.false_eq_true, false_iff]; exact HOK.out)).mono ?_
    rintro e w5 ⟨rfl, hp5⟩
    go_wp2_with fail
    refine (alive_any _).mono ?_
    rintro e w8 ⟨rfl, hp8⟩
    go_wp2
    go_ret
    exact ⟨rfl, ((HP1.out.trans HP4.out).trans hp5).trans hp8⟩

end Go.Proofs.Ytajaonejpggcbaa

namespace Go.Proofs.Ytajaonejpggcbaa.rowFnLockOne
open Go.ChangeShapes Go.WideShapes Go.ChangeAt Go.RowKit Go.Deep

set_option maxRecDepth 100000 in
theorem lifted (os : Os) (started : os.Started) (H : Type) (enc : TypeId × Value → H) :
    ReturnsInHanded {} Try.checked os 12 .any (Rows.fnLockOneSpec.pre6 enc Try.prog Try.f12 Rows.fnLockOneRow.domain false) (Rows.fnLockOneSpec.post enc Try.prog Try.f12 false true false false) := by
  refine returnsInHanded_of_change (C := Try.checked) own_knob started (by kernel_rfl) Try.func12
    (ChangeSpec.witness6 (enc := enc) (C := Try.checked) false ⟨#[], #[.slice none 0 0], []⟩ 8 (by kernel_rfl) (by kernel_rfl) (by kernel_rfl) (by kernel_rfl)) ?_
  intro W base args ds gs before hval0 hW hcnd _
  have hval : ∀ (j : Nat) t v, Try.f12.params[j]? = some t → args[j]? = some v → Value.okWide Try.prog W .any base t v := hval0
  have hW' := hW
  obtain ⟨p, q, hA0, hV, rfl, hfz, hnd⟩ := hW
  have hA : DataW.TrodAll enc Try.prog W 0 (fun _ => true) true Try.f12.params.toList args.toList ds p := hA0
  rw [Try.params12] at hA hval
  obtain ⟨v0, vs0, d0, ds0, p0, q0, hargs, rfl, rfl, h0, r0⟩ := trodAll_cons hA
  obtain ⟨rfl, rfl, rfl⟩ := trodAll_nil r0
  obtain rfl : args = #[v0] := by cases args; simp_all
  obtain ⟨rfl, rfl⟩ := trodVars_none hV
  have k0 := h0
  have lt0 : ∀ x ∈ p0, x.block < W.heap.size := by obtain ⟨m, hm⟩ := k0; exact DataW.trod_lt m _ _ _ hm
  obtain ⟨A0, len0, cap0, rfl⟩ := okWide_slice Try.underlying50 (hval 0 50 v0 rfl rfl)
  obtain ⟨x0, w0⟩ : ∃ xs, Bytes W (.slice A0 len0 cap0) xs := by
    obtain ⟨fuel, hf⟩ := h0
    obtain ⟨v, xs, hcs, hx⟩ := bytes_open hf
    simp [Value.cells] at hcs
    subst hcs
    exact ⟨xs, hx⟩
  clear hA0 hval0
  refine (law_FnLockOne _ x0 W w0).mono fun e W' ⟨he, bel⟩ => ?_
  subst he
  have bel' : Below W.heap.size W W' := bel
  exact ⟨_, rfl, _, _, _, [], _, [], hW', trodAll_mk1 (shut_bool Try.underlying4 _), (trodAll_cons_mk (Below.trod laid_out (by kernel_rfl) (of_decide_eq_true (by kernel_rfl)) k0 bel' lt0) trodAll_mk0), rfl, bel'.frame _, fun h => by cases h⟩

theorem proved : Rows.FnLockOneSaid :=
  OpenClaim.holds_of_wide 12 Try.f12 rfl rfl rfl rfl rfl rfl rfl ⟨rfl, rfl, rfl, rfl, rfl⟩ rfl rfl rfl rfl rfl (by kernel_rfl) Try.func12 (by kernel_rfl)
    (of_decide_eq_true (by kernel_rfl)) (by unfold Func.isWrapper; rw [if_neg (of_decide_eq_false (by kernel_rfl))]; exact ⟨rfl, rfl⟩)
    (fun os started H enc _ => lifted os started H enc)

end Go.Proofs.Ytajaonejpggcbaa.rowFnLockOne
