/- The law FnStoresPrivate, whole: Private stores are safe. No condition. -/
import Derived.Test.YtonmndojlnohcaaKbj
import Derived.Test.YtonmndojlnohcaaKca
import Derived.Test.YtonmndojlnohcaaKch

namespace Go.Proofs.Ytonmndojlnohcaa
open Go.RowKit

theorem ints_litS (w : World) (xs : List Int) (t : TypeId) (hl : xs.length ≤ 9223372036854775807) : Ints (w.alloc (.cells (xs.map (.int .i64)).toArray t)) (.slice (some ⟨w.heap.size, 0, none⟩) xs.length xs.length) xs := by
  refine ⟨_, _, rfl, Nat.le_refl _, hl, fun _ => ⟨_, _, rfl, by simp, fun j hj => ?_⟩⟩
  have := cell_of_row (w.alloc (.cells (xs.map (.int .i64)).toArray t)) w.heap.size (0 + j) (xs.map (.int .i64)).toArray t (0, 0) (heap_alloc_new w _)
  rw [this]
  have : j < xs.length := by omega
  simp [List.getD_eq_getElem?_getD, this]
theorem mem_98765 : ([9, 8, 7, 6, 5] : List Int).length = 5 ∧ (1 ≤ ([9, 8, 7, 6, 5] : List Int).length ∧ ([9, 8, 7, 6, 5] : List Int).length ≤ 32) ∧ ∀ x ∈ ([9, 8, 7, 6, 5] : List Int), Word x := by
  refine ⟨rfl, ⟨by decide, by decide⟩, fun x hx => ?_⟩
  unfold Word
  simp only [List.mem_cons, List.not_mem_nil, or_false] at hx
  omega

set_option maxHeartbeats 4000000 in
set_option maxRecDepth 100000 in
theorem law_FnStoresPrivate (v : Value) (bs : List Int) (w : World) (h : Bytes w v bs) :
    Calls Try.prog 10 #[v] w fun e w' => e = .returned (.bool true) ∧ Pure w w' := by
  have H := Lib.hid h
  obtain ⟨A, c, rfl, hnc, hcm⟩ := h.form
  clear h
  by_cases hbig : (bs.length : Int) > 1048576
  · go_enter Try.func10, Try.ntmps10
    go_wp2
    go_ret
    exact ⟨rfl, Pure.refl _⟩
  go_enter Try.func10, Try.ntmps10
  go_wp2_with fail
  refine (draw_DrawStoresPrivate _ bs _ H.out (by omega)).mono ?_
  rintro e w1 ⟨vl, cs, rfl, hl, hcl, hp1⟩
  have HC := Lib.hid hl
  have HP1 := Lib.hid hp1
  obtain ⟨Ac, cc, rfl, hcc1, hcc2⟩ := hl.form
  clear hl hp1
  obtain ⟨bb, hbb⟩ : ∃ bb : Bool, bb = true ↔ SPriv cs := by classical exact ⟨decide (SPriv cs), by simp⟩
  have HBB := Lib.hid hbb
  have hd : (bb != bb) = false := by simp
  clear hbb
  go_wp2_with fail
  refine (iprv_any _ cs _ HC.out (by omega) bb HBB.out).mono ?_
  rintro e w2 ⟨rfl, hp2⟩
  have HP2 := Lib.hid hp2
  clear hp2
  go_wp2_with fail
  refine (sprv_any _ cs _ (HC.out.keep HP2.out) (by omega) bb HBB.out).mono ?_
  rintro e w3 ⟨rfl, hp3⟩
  have HP3 := Lib.hid (HP2.out.trans hp3)
  clear hp3
  cases bb
  · by_cases hv : PValid cs
    · have HV := Lib.hid hv
      have HN : Hid (¬ (countTo cs 8 cs.length = 0 ∧ countTo cs 9 cs.length = 0)) := Lib.hid (fun h => by
        have := HBB.out.2 ⟨HV.out, pr_none h.1 h.2⟩
        cases this)
      have hc8 := countTo_le cs 8 cs.length
      have hc9 := countTo_le cs 9 cs.length
      obtain ⟨n8, H8⟩ : ∃ n8, Hid (countTo cs 8 cs.length = n8) := ⟨_, Lib.hid rfl⟩
      obtain ⟨n9, H9⟩ : ∃ n9, Hid (countTo cs 9 cs.length = n9) := ⟨_, Lib.hid rfl⟩
      rw [H8.out] at hc8 HN
      rw [H9.out] at hc9 HN
      have hn : 0 < n9 + n8 := by have := HN.out; omega
      clear hv
      go_wp2_with fail
      refine (spv_any _ cs _ (HC.out.keep HP3.out) (by omega) true (by simp only [true_iff]; exact HV.out)).mono ?_
      rintro e w4 ⟨rfl, hp4⟩
      have HP4 := Lib.hid (HP3.out.trans hp4)
      clear hp4
      go_wp2_with fail
      refine (icount_any _ cs 9 _ (HC.out.keep HP4.out) HV.out).mono ?_
      rintro e w5 ⟨rfl, hp5⟩
      have HP5 := Lib.hid (HP4.out.trans hp5)
      clear hp5
      rw [H9.out]
      go_wp2_with fail
      refine (icount_any _ cs 8 _ (HC.out.keep HP5.out) HV.out).mono ?_
      rintro e w6 ⟨rfl, hp6⟩
      have HP6 := Lib.hid (HP5.out.trans hp6)
      clear hp6
      rw [H8.out]
      have hz : decide ((n9 : Int) + (n8 : Int) > 0) = true := by rw [decide_eq_true_iff]; omega
      go_wp2
      go_ret
      exact ⟨ret_bool (by simp only [] <;> omega), HP1.out.trans HP6.out⟩
    · have HV := Lib.hid hv
      clear hv
      go_wp2_with fail
      refine (spv_any _ cs _ (HC.out.keep HP3.out) (by omega) false (by simp only [Bool.false_eq_true, false_iff]; exact HV.out)).mono ?_
      rintro e w4 ⟨rfl, hp4⟩
      go_wp2
      go_ret
      exact ⟨rfl, (HP1.out.trans HP3.out).trans hp4⟩
  · have HSP : Hid (SPriv cs) := Lib.hid (HBB.out.1 rfl)
    have HOK : Hid (RunOk cs ((5 : Nat) : Int) [9, 8, 7, 6, 5]) := Lib.hid ⟨HSP.out.1, ⟨by decide, by decide⟩, mem_98765.2.1, mem_98765.2.2⟩
    have HFR : Hid (freeA cs ((5 : Nat) : Int) [9, 8, 7, 6, 5] = true) := Lib.hid (priv_free HSP.out HOK.out (by decide))
    have HPA := Lib.hid (show Pure w3 (w3.alloc (.cells #[.int .i64 9, .int .i64 8, .int .i64 7, .int .i64 6, .int .i64 5] 3)) from (by repeat (first | assumption | exact Pure.refl _ | refine Pure.drewN ?_ _ | refine Pure.drew ?_ | refine Pure.alloc ?_ _ | refine Pure.setCell ?_ (by simp <;> omega) _)))
    have HLI : Hid (Ints (w3.alloc (.cells #[.int .i64 9, .int .i64 8, .int .i64 7, .int .i64 6, .int .i64 5] 3)) (.slice (some ⟨w3.heap.size, 0, none⟩) 5 5) [9, 8, 7, 6, 5]) := Lib.hid (ints_litS w3 [9, 8, 7, 6, 5] 3 (by decide))
    have HP3A := Lib.hid (HP3.out.trans HPA.out)
    go_wp2_with fail
    have hrf := irf_any (.slice Ac cs.length cc) (.slice (some ⟨w3.heap.size, 0, none⟩) 5 5) cs ((5 : Nat) : Int) [9, 8, 7, 6, 5] (w3.alloc (.cells #[.int .i64 9, .int .i64 8, .int .i64 7, .int .i64 6, .int .i64 5] 3)) (HC.out.keep HP3A.out) HLI.out (by omega) (by decide)
    rw [HFR.out] at hrf
    refine hrf.mono ?_
    rintro e w4 ⟨rfl, hp4⟩
    have HP4 := Lib.hid (HP3A.out.trans hp4)
    clear hp4 hrf
    go_wp2_with fail
    refine (icount_any _ cs 8 _ (HC.out.keep HP4.out) HSP.out.1).mono ?_
    rintro e w5 ⟨rfl, hp5⟩
    have HP5 := Lib.hid (HP4.out.trans hp5)
    clear hp5
    rw [pr_count HSP.out.2]
    go_wp2_with fail
    refine (alive_any _).mono ?_
    rintro e w8 ⟨rfl, hp8⟩
    go_wp2
    go_ret
    exact ⟨rfl, (HP1.out.trans HP5.out).trans hp8⟩

end Go.Proofs.Ytonmndojlnohcaa

namespace Go.Proofs.Ytonmndojlnohcaa.rowFnStoresPrivate
open Go.ChangeShapes Go.WideShapes Go.ChangeAt Go.RowKit Go.Deep

set_option maxRecDepth 100000 in
theorem lifted (os : Os) (started : os.Started) (H : Type) (enc : TypeId × Value → H) :
    ReturnsInHanded {} Try.checked os 10 .any (Rows.fnStoresPrivateSpec.pre6 enc Try.prog Try.f10 Rows.fnStoresPrivateRow.domain false) (Rows.fnStoresPrivateSpec.post enc Try.prog Try.f10 false true false false) := by
  refine returnsInHanded_of_change (C := Try.checked) own_knob started (by kernel_rfl) Try.func10
    (ChangeSpec.witness6 (enc := enc) (C := Try.checked) false ⟨#[], #[.slice none 0 0], []⟩ 8 (by kernel_rfl) (by kernel_rfl) (by kernel_rfl) (by kernel_rfl)) ?_
  intro W base args ds gs before hval0 hW hcnd _
  have hval : ∀ (j : Nat) t v, Try.f10.params[j]? = some t → args[j]? = some v → Value.okWide Try.prog W .any base t v := hval0
  have hW' := hW
  obtain ⟨p, q, hA0, hV, rfl, hfz, hnd⟩ := hW
  have hA : DataW.TrodAll enc Try.prog W 0 (fun _ => true) true Try.f10.params.toList args.toList ds p := hA0
  rw [Try.params10] at hA hval
  obtain ⟨v0, vs0, d0, ds0, p0, q0, hargs, rfl, rfl, h0, r0⟩ := trodAll_cons hA
  obtain ⟨rfl, rfl, rfl⟩ := trodAll_nil r0
  obtain rfl : args = #[v0] := by cases args; simp_all
  obtain ⟨rfl, rfl⟩ := trodVars_none hV
  have k0 := h0
  have lt0 : ∀ x ∈ p0, x.block < W.heap.size := by obtain ⟨m, hm⟩ := k0; exact DataW.trod_lt m _ _ _ hm
  obtain ⟨A0, len0, cap0, rfl⟩ := okWide_slice Try.underlying22 (hval 0 22 v0 rfl rfl)
  obtain ⟨x0, w0⟩ : ∃ xs, Bytes W (.slice A0 len0 cap0) xs := by
    obtain ⟨fuel, hf⟩ := h0
    obtain ⟨v, xs, hcs, hx⟩ := bytes_open hf
    simp [Value.cells] at hcs
    subst hcs
    exact ⟨xs, hx⟩
  clear hA0 hval0
  refine (law_FnStoresPrivate _ x0 W w0).mono fun e W' ⟨he, bel⟩ => ?_
  subst he
  have bel' : Below W.heap.size W W' := bel
  exact ⟨_, rfl, _, _, _, [], _, [], hW', trodAll_mk1 (shut_bool Try.underlying4 _), (trodAll_cons_mk (Below.trod laid_out (by kernel_rfl) (of_decide_eq_true (by kernel_rfl)) k0 bel' lt0) trodAll_mk0), rfl, bel'.frame _, fun h => by cases h⟩

theorem proved : Rows.FnStoresPrivateSaid :=
  OpenClaim.holds_of_wide 10 Try.f10 rfl rfl rfl rfl rfl rfl rfl ⟨rfl, rfl, rfl, rfl, rfl⟩ rfl rfl rfl rfl rfl (by kernel_rfl) Try.func10 (by kernel_rfl)
    (of_decide_eq_true (by kernel_rfl)) (by unfold Func.isWrapper; rw [if_neg (of_decide_eq_false (by kernel_rfl))]; exact ⟨rfl, rfl⟩)
    (fun os started H enc _ => lifted os started H enc)

end Go.Proofs.Ytonmndojlnohcaa.rowFnStoresPrivate
