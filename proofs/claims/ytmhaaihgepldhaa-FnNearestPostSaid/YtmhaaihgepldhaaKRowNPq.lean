/- The law FnNearestPost, whole: Nearest post-dominators come first. No condition. -/
import Derived.Test.YtmhaaihgepldhaaKbd
import Derived.Test.YtmhaaihgepldhaaKcd

namespace Go.Proofs.Ytmhaaihgepldhaa
open Go.RowKit

set_option maxHeartbeats 4000000 in
set_option maxRecDepth 100000 in
theorem law_FnNearestPost (v : Value) (bs : List Int) (w : World) (h : Bytes w v bs) :
    Calls Try.prog 6 #[v] w fun e w' => e = .returned (.bool true) ∧ Pure w w' := by
  have H := Lib.hid h
  obtain ⟨A0, c0, rfl, hnc, hcm⟩ := h.form
  clear h
  by_cases hbig : (bs.length : Int) > 1048576
  · go_enter Try.func6, Try.ntmps6
    go_wp2
    go_ret
    exact ⟨rfl, Pure.refl _⟩
  go_enter Try.func6, Try.ntmps6
  go_wp2_with fail
  refine (draw_DrawNearestPost _ bs _ H.out (by omega)).mono ?_
  rintro e w1 ⟨A, c, xss, a, en, rfl, hx, hn1, hn65, ha1, ha2, he1, he2, hp1⟩
  have HX := Lib.hid hx
  have HP1 := Lib.hid hp1
  clear hx hp1
  go_wp2_with fail
  refine (inp_any _ xss _ _ _ HX.out).mono ?_
  rintro e w2 ⟨r, rfl, hr, hp2⟩
  have HR := Lib.hid hr
  have HP2 := Lib.hid hp2
  clear hr hp2
  go_wp2_with fail
  refine (snp_any _ xss _ _ _ (HX.out.keep HP2.out)).mono ?_
  rintro e w3 ⟨r2, rfl, hr2, hp3⟩
  have e42 : r2 = r := by
    by_cases hall : GValid xss ∧ InG xss a ∧ InG xss en
    · exact (hr2.1 hall).unique (HR.out.1 hall)
    · rw [hr2.2 hall, HR.out.2 hall]
  subst e42
  have HP3 := Lib.hid (HP2.out.trans hp3)
  have hdd : (r2 != r2) = false := by simp
  clear hr2 hp3
  by_cases hr0 : r2 < 0
  · have hm1 : r2 = -1 := by
      by_cases hall : GValid xss ∧ InG xss a ∧ InG xss en
      · rcases HR.out.1 hall with h | h
        · exact h.1
        · have := h.1.1.1; omega
      · exact HR.out.2 hall
    subst hm1
    go_wp2_with fail
    refine (galive_any _).mono ?_
    rintro e w4 ⟨rfl, hp4⟩
    go_wp2
    go_ret
    exact ⟨rfl, (HP1.out.trans HP3.out).trans hp4⟩
  · have hall : GValid xss ∧ InG xss a ∧ InG xss en := Classical.byContradiction fun hn => by
      have := HR.out.2 hn
      omega
    obtain ⟨hG, hIA, hIE⟩ := hall
    have hgd := (HR.out.1 ⟨hG, hIA, hIE⟩).good (by omega)
    have HGD := Lib.hid hgd
    have HG := Lib.hid hG; have HIA := Lib.hid hIA; have HIE := Lib.hid hIE
    have hrl : r2 < (xss.length : Int) := by have := hgd.1.2; omega
    have hne : (r2 != a) = true := by rw [bne_iff_ne]; exact hgd.2.1
    have HNE := Lib.hid hne
    have HNA := Lib.hid hgd.2.1
    clear hgd hG hIA hIE hne
    go_wp2
    go_loopg [7] xss.length (fun gk i wr => ∃ k : Nat, gk + k = xss.length ∧ i = .int .i64 k ∧ Pure w1 wr)
    case atStart => exact ⟨0, rfl, rfl, HP3.out⟩
    case round =>
      obtain ⟨k, hgk, rfl, hp⟩ := hrel
      have Hgk := Lib.hid hgk
      have HP := Lib.hid hp
      have hkn : k ≤ xss.length := by omega
      clear hgk hp
      by_cases hlt : k < xss.length
      · by_cases hka : (k : Int) = a
        · have hd : ((k : Int) != a) = false := by rw [bne_eq_false_iff_eq]; exact hka
          have HKA := Lib.hid hka
          clear hka
          go_wp2
          go_roundg (xss.length - (k + 1))
          case measure => have := Hgk.out; omega
          case rel => exact ⟨k + 1, by have := Hgk.out; omega, by go_num, HP.out⟩
        · have hd : ((k : Int) != a) = true := by rw [bne_iff_ne]; exact hka
          have HKA := Lib.hid hka
          clear hka
          obtain ⟨E, hE⟩ := pd_bool xss a k en
          have HE := Lib.hid hE
          clear hE
          cases E
          · go_wp2_with fail
            refine (ipda_any _ xss _ _ _ _ (HX.out.keep HP.out) false HE.out).mono ?_
            rintro e w7 ⟨rfl, hp7⟩
            go_wp2
            go_roundg (xss.length - (k + 1))
            case measure => have := Hgk.out; omega
            case rel => exact ⟨k + 1, by have := Hgk.out; omega, by go_num, HP.out.trans hp7⟩
          · go_wp2_with fail
            refine (ipda_any _ xss _ _ _ _ (HX.out.keep HP.out) true (by simp only [true_iff]; exact HE.out.1 (by trivial))).mono ?_
            rintro e w7 ⟨rfl, hp7⟩
            have HP7 := Lib.hid (HP.out.trans hp7)
            clear hp7
            go_wp2_with fail
            refine (ipda_any _ xss _ _ _ _ (HX.out.keep HP7.out) true (by
              have h1 := HE.out.1 (by trivial)
              simp only [true_iff]
              exact ⟨HG.out, HGD.out.1, h1.2.2.1, HIE.out, HGD.out.all HG.out HIA.out.1 h1.2.2.1 HKA.out h1.2.2.2.2⟩)).mono ?_
            rintro e w8 ⟨rfl, hp8⟩
            go_wp2
            go_roundg (xss.length - (k + 1))
            case measure => have := Hgk.out; omega
            case rel => exact ⟨k + 1, by have := Hgk.out; omega, by go_num, HP7.out.trans hp8⟩
      · have hne := HNE.out
        go_wp2_with fail
        refine (ipda_any _ xss _ _ _ _ (HX.out.keep HP.out) true (by
          simp only [true_iff]
          exact ⟨HG.out, HIA.out, HGD.out.1, HIE.out, HGD.out.2.2.1⟩)).mono ?_
        rintro e w8 ⟨rfl, hp8⟩
        go_wp2
        go_ret
        exact ⟨rfl, HP1.out.trans (HP.out.trans hp8)⟩

end Go.Proofs.Ytmhaaihgepldhaa

namespace Go.Proofs.Ytmhaaihgepldhaa.rowFnNearestPost
open Go.ChangeShapes Go.WideShapes Go.ChangeAt Go.RowKit Go.Deep

set_option maxRecDepth 100000 in
theorem lifted (os : Os) (started : os.Started) (H : Type) (enc : TypeId × Value → H) :
    ReturnsInHanded {} Try.checked os 6 .any (Rows.fnNearestPostSpec.pre6 enc Try.prog Try.f6 Rows.fnNearestPostRow.domain false) (Rows.fnNearestPostSpec.post enc Try.prog Try.f6 false true false false) := by
  refine returnsInHanded_of_change (C := Try.checked) own_knob started (by kernel_rfl) Try.func6
    (ChangeSpec.witness6 (enc := enc) (C := Try.checked) false ⟨#[], #[.slice none 0 0], []⟩ 8 (by kernel_rfl) (by kernel_rfl) (by kernel_rfl) (by kernel_rfl)) ?_
  intro W base args ds gs before hval0 hW hcnd _
  have hval : ∀ (j : Nat) t v, Try.f6.params[j]? = some t → args[j]? = some v → Value.okWide Try.prog W .any base t v := hval0
  have hW' := hW
  obtain ⟨p, q, hA0, hV, rfl, hfz, hnd⟩ := hW
  have hA : DataW.TrodAll enc Try.prog W 0 (fun _ => true) true Try.f6.params.toList args.toList ds p := hA0
  rw [Try.params6] at hA hval
  obtain ⟨v0, vs0, d0, ds0, p0, q0, hargs, rfl, rfl, h0, r0⟩ := trodAll_cons hA
  obtain ⟨rfl, rfl, rfl⟩ := trodAll_nil r0
  obtain rfl : args = #[v0] := by cases args; simp_all
  obtain ⟨rfl, rfl⟩ := trodVars_none hV
  have k0 := h0
  have lt0 : ∀ x ∈ p0, x.block < W.heap.size := by obtain ⟨m, hm⟩ := k0; exact DataW.trod_lt m _ _ _ hm
  obtain ⟨A0, len0, cap0, rfl⟩ := okWide_slice Try.underlying35 (hval 0 35 v0 rfl rfl)
  obtain ⟨x0, w0⟩ : ∃ xs, Bytes W (.slice A0 len0 cap0) xs := by
    obtain ⟨fuel, hf⟩ := h0
    obtain ⟨v, xs, hcs, hx⟩ := bytes_open hf
    simp [Value.cells] at hcs
    subst hcs
    exact ⟨xs, hx⟩
  clear hA0 hval0
  refine (law_FnNearestPost _ x0 W w0).mono fun e W' ⟨he, bel⟩ => ?_
  subst he
  have bel' : Below W.heap.size W W' := bel
  exact ⟨_, rfl, _, _, _, [], _, [], hW', trodAll_mk1 (shut_bool Try.underlying4 _), (trodAll_cons_mk (Below.trod laid_out (by kernel_rfl) (of_decide_eq_true (by kernel_rfl)) k0 bel' lt0) trodAll_mk0), rfl, bel'.frame _, fun h => by cases h⟩

theorem proved : Rows.FnNearestPostSaid :=
  OpenClaim.holds_of_wide 6 Try.f6 rfl rfl rfl rfl rfl rfl rfl ⟨rfl, rfl, rfl, rfl, rfl⟩ rfl rfl rfl rfl rfl (by kernel_rfl) Try.func6 (by kernel_rfl)
    (of_decide_eq_true (by kernel_rfl)) (by unfold Func.isWrapper; rw [if_neg (of_decide_eq_false (by kernel_rfl))]; exact ⟨rfl, rfl⟩)
    (fun os started H enc _ => lifted os started H enc)

end Go.Proofs.Ytmhaaihgepldhaa.rowFnNearestPost
