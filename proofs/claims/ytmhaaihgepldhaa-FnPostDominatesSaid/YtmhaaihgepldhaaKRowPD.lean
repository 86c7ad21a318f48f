/- The law FnPostDominates, whole: Post-dominators lie on all ways. No condition. -/
import Derived.Test.YtmhaaihgepldhaaKbd
import Derived.Test.YtmhaaihgepldhaaKcd

namespace Go.Proofs.Ytmhaaihgepldhaa
open Go.RowKit

set_option maxHeartbeats 4000000 in
set_option maxRecDepth 100000 in
theorem law_FnPostDominates (v : Value) (bs : List Int) (w : World) (h : Bytes w v bs) :
    Calls Try.prog 5 #[v] w fun e w' => e = .returned (.bool true) ∧ Pure w w' := by
  have H := Lib.hid h
  obtain ⟨A0, c0, rfl, hnc, hcm⟩ := h.form
  clear h
  by_cases hbig : (bs.length : Int) > 1048576
  · go_enter Try.func5, Try.ntmps5
    go_wp2
    go_ret
    exact ⟨rfl, Pure.refl _⟩
  go_enter Try.func5, Try.ntmps5
  go_wp2_with fail
  refine (draw_DrawPostDominates _ bs _ H.out (by omega)).mono ?_
  rintro e w1 ⟨A, c, xss, a, b, en, rfl, hx, hn1, hn65, ha1, ha2, hb1, hb2, he1, he2, hp1⟩
  have HX := Lib.hid hx
  have HP1 := Lib.hid hp1
  clear hx hp1
  obtain ⟨B, hB⟩ := pd_bool xss a b en
  have HB := Lib.hid hB
  clear hB
  go_wp2_with fail
  refine (ipda_any _ xss _ _ _ _ HX.out B HB.out).mono ?_
  rintro e w2 ⟨rfl, hp2⟩
  have HP2 := Lib.hid hp2
  clear hp2
  go_wp2_with fail
  refine (spda_any _ xss _ _ _ _ (HX.out.keep HP2.out) B HB.out).mono ?_
  rintro e w3 ⟨rfl, hp3⟩
  have HP3 := Lib.hid (HP2.out.trans hp3)
  clear hp3
  by_cases hG : GValid xss
  · have HG := Lib.hid hG
    clear hG
    by_cases hin : 0 ≤ a ∧ a < xss.length
    · obtain ⟨hin1, hin2⟩ := hin
      have HIA : Hid (InG xss a) := Lib.hid ⟨hin1, by omega⟩
      have HIE : Hid (InG xss en) := Lib.hid ⟨he1, by omega⟩
      have hna : ¬ a < 0 := by omega
      have hna2 : ¬ a ≥ (xss.length : Int) := by omega
      obtain ⟨D, hD⟩ := pd_bool xss a en en
      have HD := Lib.hid hD
      have hDR : D = true ↔ RC xss (-1) a en := by
        rw [hD]
        exact ⟨fun h => PD.end_.1 h.2.2.2.2, fun h => ⟨HG.out, HIA.out, HIE.out, HIE.out, PD.end_.2 h⟩⟩
      have HDR := Lib.hid hDR
      clear hD hDR
      cases B
      all_goals
        go_wp2_with fail
        refine (gv_any _ _ _ (HX.out.keep HP3.out) true (by simp [HG.out])).mono ?_
        rintro e w4 ⟨rfl, n4, rfl⟩
        have HP4 := Lib.hid (HP3.out.trans (show Pure w3 (w3.drewN n4) from (by repeat (first | assumption | exact Pure.refl _ | refine Pure.drewN ?_ _ | refine Pure.drew ?_ | refine Pure.alloc ?_ _ | refine Pure.setCell ?_ (by simp <;> omega) _))))
        go_wp2_with fail
        refine (igr_in _ xss _ _ (HX.out.keep HP4.out) HG.out HIA.out).mono ?_
        intro e w5 hr
        obtain ⟨rb, ro, rc, rfl, hcell, hrb, hp5⟩ := hr.at_ en HIE.out D HDR.out
        obtain ⟨en', hen'⟩ : ∃ en' : Nat, en = en' := ⟨en.toNat, by omega⟩
        subst hen'
        rw [Int.toNat_natCast] at hcell
        have HP5 := Lib.hid (HP4.out.trans hp5)
        have HIP : Hid (∀ u, Pure w5 u → Calls Try.prog 24 #[.slice A xss.length c, .int .i64 a, .int .i64 (en' : Nat), .int .i64 (en' : Nat)] u fun e w' => e = .returned (.bool D) ∧ Pure u w') := Lib.hid fun u hu => ipda_any _ xss _ _ _ _ (HX.out.keep (HP5.out.trans hu)) D HD.out
        have hDD : (D != D) = false := by simp
        have hge : ¬ ((en' : Nat) : Int) ≥ (xss.length : Int) := by omega
        have hge2 : Hid (decide (((en' : Nat) : Int) ≥ (xss.length : Int)) = false) := Lib.hid (decide_eq_false hge)
        have hge3 : Hid (decide ((xss.length : Int) ≤ ((en' : Nat) : Int)) = false) := Lib.hid (decide_eq_false hge)
        have hge4 : Hid (decide (xss.length ≤ en') = false) := Lib.hid (decide_eq_false (by omega))
        clear hr hp5
        go_wp2
        refine region_pure [.int .i64 (en' : Nat), .slice (some ⟨rb, ro, none⟩) xss.length rc, .int .i64 xss.length, .bool false, .bool false, .slice A xss.length c, .int .i64 a, .int .i64 (en' : Nat), .int .i64 (en' : Nat), .bool D, .slice (some ⟨rb, ro, none⟩) xss.length rc, .int .i64 (en' : Nat), .pointer (some ⟨rb, ro + en', none⟩), .bool D, .bool false, .bool false] (Pure w5) (by kernel_rfl) (by kernel_rfl) rfl (by kernel_rfl) (Pure.drew (Pure.refl _)) ?_ ?_ (by kernel_rfl)
        · simp only [foldPut, Act.put, List.setIfInBounds_toArray, List.set_cons_succ, List.set_cons_zero]
          refine ⟨fun u hu => ?_, fun u hu => ?_, fun u hu => ?_, fun u hu => ?_, fun u hu => ?_, fun u hu => ?_, fun u hu => ?_, fun u hu => ?_, fun u hu => ?_, fun u hu => ?_, fun u hu => ?_, fun u hu => ?_, fun u hu => ?_, fun u hu => ?_, fun u hu => ?_, fun u hu => ?_, trivial⟩
          all_goals
            have hcell := keepPc hu hcell
            go_wp2_with (go_at_call 24; refine (HIP.out _ hu).mono ?_; rintro e w6 ⟨rfl, hp6⟩; have hu := hu.trans hp6)
            first | exact ⟨by assumption, rfl⟩ | exact ⟨by assumption, by rw [hge2.out]⟩ | exact ⟨by assumption, by rw [hge3.out]⟩ | exact ⟨by assumption, by rw [hge4.out]⟩
        intro u hu
        have HU := Lib.hid (HP5.out.trans hu)
        simp only [foldPut, Act.put, List.setIfInBounds_toArray, List.set_cons_succ, List.set_cons_zero]
        clear hu HIP hcell
        go_wp2
      · go_loopg [9] xss.length (fun gk i wr => ∃ k : Nat, gk + k = xss.length ∧ i = .int .i64 k ∧ Pure w1 wr)
        case atStart => exact ⟨0, rfl, rfl, HU.out⟩
        case round =>
          obtain ⟨k, hgk, rfl, hp⟩ := hrel
          by_cases hlt : k < xss.length
          · go_wp2
            go_ret
            exact ⟨rfl, HP1.out.trans hp⟩
          · go_wp2
            go_ret
            exact ⟨rfl, HP1.out.trans hp⟩
      · go_loopg [9] xss.length (fun gk i wr => ∃ k : Nat, gk + k = xss.length ∧ i = .int .i64 k ∧ Pure w1 wr)
        case atStart => exact ⟨0, rfl, rfl, HU.out⟩
        case round =>
          obtain ⟨k, hgk, rfl, hp⟩ := hrel
          have Hgk := Lib.hid hgk
          have HP := Lib.hid hp
          have hkn : k ≤ xss.length := by omega
          clear hgk hp
          by_cases hlt : k < xss.length
          · by_cases h9 : (xss.length : Int) ≤ 9
            · obtain ⟨E, hE⟩ := pd_bool xss b k en'
              have HE := Lib.hid hE
              clear hE
              cases E
              · go_wp2_with fail
                refine (ipda_any _ xss _ _ _ _ (HX.out.keep HP.out) false HE.out).mono ?_
                rintro e w7 ⟨rfl, hp7⟩
                go_wp2
                go_roundg (xss.length - (k + 1))
                case measure => have := Hgk.out; omega
                case rel => exact ⟨k + 1, by have := Hgk.out; omega, by go_num, HP.out.trans hp7⟩
              · go_wp2_with fail
                refine (ipda_any _ xss _ _ _ _ (HX.out.keep HP.out) true (by simp only [true_iff]; exact HE.out.1 (by trivial))).mono ?_
                rintro e w7 ⟨rfl, hp7⟩
                have HP7 := Lib.hid (HP.out.trans hp7)
                clear hp7
                go_wp2_with fail
                refine (ipda_any _ xss _ _ _ _ (HX.out.keep HP7.out) true (by
                  have h1 := HB.out.1 (by trivial)
                  have h2 := HE.out.1 (by trivial)
                  simp only [true_iff]
                  exact ⟨h1.1, h1.2.1, h2.2.2.1, h1.2.2.2.1, h1.2.2.2.2.trans h2.2.2.2.2⟩)).mono ?_
                rintro e w8 ⟨rfl, hp8⟩
                go_wp2
                go_roundg (xss.length - (k + 1))
                case measure => have := Hgk.out; omega
                case rel => exact ⟨k + 1, by have := Hgk.out; omega, by go_num, HP7.out.trans hp8⟩
            · go_wp2
              go_ret
              exact ⟨rfl, HP1.out.trans HP.out⟩
          · go_wp2
            go_ret
            exact ⟨rfl, HP1.out.trans HP.out⟩
    · have hb : B = false := by
        cases hb : B
        · rfl
        · have := (HB.out.1 hb).2.1
          exact absurd ⟨this.1, by have := this.2; omega⟩ hin
      subst hb
      by_cases ha0 : a < 0
      · clear hin
        go_wp2_with fail
        refine (gv_any _ _ _ (HX.out.keep HP3.out) true (by simp [HG.out])).mono ?_
        rintro e w4 ⟨rfl, n4, rfl⟩
        go_wp2_with fail
        refine (galive_any _).mono ?_
        rintro e w5 ⟨rfl, hp5⟩
        go_wp2
        go_ret
        exact ⟨rfl, (HP1.out.trans (HP3.out.trans (show Pure w3 (w3.drewN n4) from (by repeat (first | assumption | exact Pure.refl _ | refine Pure.drewN ?_ _ | refine Pure.drew ?_ | refine Pure.alloc ?_ _ | refine Pure.setCell ?_ (by simp <;> omega) _))))).trans hp5⟩
      · have hge : a ≥ (xss.length : Int) := by omega
        clear hin
        go_wp2_with fail
        refine (gv_any _ _ _ (HX.out.keep HP3.out) true (by simp [HG.out])).mono ?_
        rintro e w4 ⟨rfl, n4, rfl⟩
        go_wp2_with fail
        refine (galive_any _).mono ?_
        rintro e w5 ⟨rfl, hp5⟩
        go_wp2
        go_ret
        exact ⟨rfl, (HP1.out.trans (HP3.out.trans (show Pure w3 (w3.drewN n4) from (by repeat (first | assumption | exact Pure.refl _ | refine Pure.drewN ?_ _ | refine Pure.drew ?_ | refine Pure.alloc ?_ _ | refine Pure.setCell ?_ (by simp <;> omega) _))))).trans hp5⟩
  · have hb : B = false := by
      cases hb : B
      · rfl
      · exact absurd (HB.out.1 hb).1 hG
    subst hb
    have HG := Lib.hid hG
    clear hG
    go_wp2_with fail
    refine (gv_any _ _ _ (HX.out.keep HP3.out) false (by simp [HG.out])).mono ?_
    rintro e w4 ⟨rfl, n4, rfl⟩
    go_wp2_with fail
    refine (galive_any _).mono ?_
    rintro e w5 ⟨rfl, hp5⟩
    go_wp2
    go_ret
    exact ⟨rfl, (HP1.out.trans (HP3.out.trans (show Pure w3 (w3.drewN n4) from (by repeat (first | assumption | exact Pure.refl _ | refine Pure.drewN ?_ _ | refine Pure.drew ?_ | refine Pure.alloc ?_ _ | refine Pure.setCell ?_ (by simp <;> omega) _))))).trans hp5⟩

end Go.Proofs.Ytmhaaihgepldhaa

namespace Go.Proofs.Ytmhaaihgepldhaa.rowFnPostDominates
open Go.ChangeShapes Go.WideShapes Go.ChangeAt Go.RowKit Go.Deep

set_option maxRecDepth 100000 in
theorem lifted (os : Os) (started : os.Started) (H : Type) (enc : TypeId × Value → H) :
    ReturnsInHanded {} Try.checked os 5 .any (Rows.fnPostDominatesSpec.pre6 enc Try.prog Try.f5 Rows.fnPostDominatesRow.domain false) (Rows.fnPostDominatesSpec.post enc Try.prog Try.f5 false true false false) := by
  refine returnsInHanded_of_change (C := Try.checked) own_knob started (by kernel_rfl) Try.func5
    (ChangeSpec.witness6 (enc := enc) (C := Try.checked) false ⟨#[], #[.slice none 0 0], []⟩ 8 (by kernel_rfl) (by kernel_rfl) (by kernel_rfl) (by kernel_rfl)) ?_
  intro W base args ds gs before hval0 hW hcnd _
  have hval : ∀ (j : Nat) t v, Try.f5.params[j]? = some t → args[j]? = some v → Value.okWide Try.prog W .any base t v := hval0
  have hW' := hW
  obtain ⟨p, q, hA0, hV, rfl, hfz, hnd⟩ := hW
  have hA : DataW.TrodAll enc Try.prog W 0 (fun _ => true) true Try.f5.params.toList args.toList ds p := hA0
  rw [Try.params5] at hA hval
  obtain ⟨v0, vs0, d0, ds0, p0, q0, hargs, rfl, rfl, h0, r0⟩ := trodAll_cons hA
  obtain ⟨rfl, rfl, rfl⟩ := trodAll_nil r0
  obtain rfl : args = #[v0] := by cases args; simp_all
  obtain ⟨rfl, rfl⟩ := trodVars_none hV
  have k0 := h0
  have lt0 : ∀ x ∈ p0, x.block < W.heap.size := by obtain ⟨m, hm⟩ := k0; exact DataW.trod_lt m _ _ _ hm
  obtain ⟨A0, len0, cap0, rfl⟩ := okWide_slice Try.underlying35 (hval 0 35 v0 rfl rfl)
  obtain ⟨x0, w0⟩ : ∃ xs, Bytes W (.slice A0 len0 cap0) xs := by
    obtain ⟨fuel, hf⟩ := h0
    obtain ⟨v, xs, hcs, hx⟩ := bytes_open hf
    simp [Value.cells] at hcs
    subst hcs
    exact ⟨xs, hx⟩
  clear hA0 hval0
  refine (law_FnPostDominates _ x0 W w0).mono fun e W' ⟨he, bel⟩ => ?_
  subst he
  have bel' : Below W.heap.size W W' := bel
  exact ⟨_, rfl, _, _, _, [], _, [], hW', trodAll_mk1 (shut_bool Try.underlying4 _), (trodAll_cons_mk (Below.trod laid_out (by kernel_rfl) (of_decide_eq_true (by kernel_rfl)) k0 bel' lt0) trodAll_mk0), rfl, bel'.frame _, fun h => by cases h⟩

theorem proved : Rows.FnPostDominatesSaid :=
  OpenClaim.holds_of_wide 5 Try.f5 rfl rfl rfl rfl rfl rfl rfl ⟨rfl, rfl, rfl, rfl, rfl⟩ rfl rfl rfl rfl rfl (by kernel_rfl) Try.func5 (by kernel_rfl)
    (of_decide_eq_true (by kernel_rfl)) (by unfold Func.isWrapper; rw [if_neg (of_decide_eq_false (by kernel_rfl))]; exact ⟨rfl, rfl⟩)
    (fun os started H enc _ => lifted os started H enc)

end Go.Proofs.Ytmhaaihgepldhaa.rowFnPostDominates
