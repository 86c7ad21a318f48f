/- The law FnMeetEnd, whole: All lanes come to the end No condition. -/
import Derived.Test.YtmhaaihgepldhaaKbd
import Derived.Test.YtmhaaihgepldhaaKbj

namespace Go.Proofs.Ytmhaaihgepldhaa
open Go.RowKit

set_option maxHeartbeats 4000000 in
set_option maxRecDepth 100000 in
theorem law_FnMeetEnd (v : Value) (bs : List Int) (v' : Value) (bs2 : List Int) (w : World) (h : Bytes w v bs) (h2 : Bytes w v' bs2) :
    Calls Try.prog 7 #[v, v'] w fun e w' => e = .returned (.bool true) ∧ Pure w w' := by
  have H := Lib.hid h
  obtain ⟨A, c, rfl, hnc, hcm⟩ := h.form
  obtain ⟨A', c', rfl, hnc', hcm'⟩ := h2.form
  clear h h2
  by_cases hbig : (bs.length : Int) > 1048576
  · go_enter Try.func7, Try.ntmps7
    go_wp2
    go_ret
    exact ⟨rfl, Pure.refl _⟩
  by_cases hbig2 : (bs2.length : Int) > 1048576
  · go_enter Try.func7, Try.ntmps7
    go_wp2
    go_ret
    exact ⟨rfl, Pure.refl _⟩
  go_enter Try.func7, Try.ntmps7
  go_wp2_with fail
  refine (draw_DrawGraphOf _ bs _ H.out (by omega)).mono ?_
  rintro e w1 ⟨vl, cs, rfl, hl, hcl, hp1⟩
  have HC := Lib.hid hl
  have HP1 := Lib.hid hp1
  obtain ⟨Ac, cc, rfl, hcc1, hcc2⟩ := hl.form
  clear hl hp1
  go_wp2_with fail
  refine (igo_any _ cs _ HC.out (by omega)).mono ?_
  rintro e w2 ⟨v2, xss, rfl, hg, hx, hp2⟩
  have HG := Lib.hid hg
  have HX := Lib.hid hx
  have HP2 := Lib.hid hp2
  obtain ⟨A2, c2, rfl, hg1, hg2, _⟩ := hg
  clear hx hp2
  go_wp2_with fail
  refine (sgo_any _ cs _ (HC.out.keep HP2.out) (by omega)).mono ?_
  rintro e w3 ⟨v3, yss, rfl, hg3, hy, hp3⟩
  obtain rfl : xss = yss := HX.out.unique hy
  have HG3 := Lib.hid hg3
  have HP3 := Lib.hid (HP2.out.trans hp3)
  have HG23 := Lib.hid (HG.out.keep hp3)
  obtain ⟨A3, c3, rfl, _, _, _⟩ := hg3
  clear hy hp3
  have hxl : xss.length ≤ 1048576 ∧ ∀ k, k < xss.length → (xss.getD k []).length ≤ 1048576 := by
    by_cases hv : PValid cs
    · rw [HX.out.1 hv]
      refine ⟨by rw [graph_length]; have := hv.2.1; omega, fun k _ => by have := graph_row_len cs k; omega⟩
    · rw [HX.out.2 hv]; simp
  have HXL := Lib.hid hxl.2
  have hxl1 := hxl.1
  clear hxl
  go_wp2_with fail
  refine (sameRows_same _ _ xss _ HG23.out HG3.out hxl1 HXL.out).mono ?_
  rintro e w4 ⟨rfl, hp4⟩
  have HP4 := Lib.hid (HP3.out.trans hp4)
  have HG4 := Lib.hid (HG23.out.keep hp4)
  clear hp4
  by_cases hv : PValid cs
  · have h40 := hv.2.1
    have HV := Lib.hid hv
    have HE := Lib.hid (HX.out.1 hv)
    have HGL : Hid (xss.length = cs.length + 1) := Lib.hid (by rw [HE.out]; exact graph_length cs)
    clear hv
    by_cases h0 : cs.length = 0
    · have hz : ((xss.length : Int) == 0) = false := by rw [beq_eq_false_iff_ne]; have := HGL.out; omega
      have hz2 : ((cs.length : Int) == 0) = true := by rw [beq_iff_eq]; omega
      go_wp2_with fail
      refine (galive_any _).mono ?_
      rintro e w9 ⟨rfl, hp9⟩
      go_wp2
      go_ret
      exact ⟨rfl, (HP1.out.trans HP4.out).trans hp9⟩
    have hz : ((xss.length : Int) == 0) = false := by rw [beq_eq_false_iff_ne]; have := HGL.out; omega
    have hz2 : ((cs.length : Int) == 0) = false := by rw [beq_eq_false_iff_ne]; omega
    have hmod : (bs2.length : Int).tmod (cs.length : Int) = ((bs2.length % cs.length : Nat) : Int) := by rw [Int.tmod_eq_emod_of_nonneg (by omega)]; norm_cast
    have hml : bs2.length % cs.length < cs.length := Nat.mod_lt _ (by omega)
    obtain ⟨at_, Hat⟩ : ∃ at_, Hid (bs2.length % cs.length = at_) := ⟨_, Lib.hid rfl⟩
    rw [Hat.out] at hmod hml
    have hcn : ¬ ((cs.length : Int) = 0) := by omega
    have HGV : Hid (GValid xss) := Lib.hid (by rw [HE.out]; exact graph_valid HV.out)
    have HIN : Hid (∀ x : Nat, x ≤ cs.length → InG xss x) := Lib.hid fun x hx => ⟨by omega, by rw [HGL.out]; omega⟩
    have HPD1 : Hid (∀ (k : Nat) (u : World), k < cs.length → Pure w4 u → Calls Try.prog 24 #[.slice A2 xss.length c2, .int .i64 (k : Int), .int .i64 (cs.length : Int), .int .i64 (cs.length : Int)] u fun e w' => e = .returned (.bool true) ∧ Pure u w') := Lib.hid fun k u hk hu =>
      ipx_any _ xss k cs.length cs.length u (HG4.out.keep hu) HGV.out (HIN.out k (by omega)) (HIN.out _ (Nat.le_refl _)) (HIN.out _ (Nat.le_refl _)) true (by simp only [true_iff]; rw [HE.out]; exact PD.end_.2 (end_reach HV.out (by omega)))
    obtain ⟨ar, Har⟩ : ∃ ar, Hid (aroundA cs (at_ : Nat) = ar) := ⟨_, Lib.hid rfl⟩
    have HBA : Hid (∀ u : World, Pure w4 u → Calls Try.prog 34 #[.slice Ac cs.length cc, .int .i64 (at_ : Int)] u fun e w' => e = .returned (.int .i64 ar) ∧ Pure u w') := Lib.hid fun u hu => by
      have := iba_any _ cs (at_ : Int) u (HC.out.keep (HP4.out.trans hu)) (by omega)
      rw [Har.out] at this; exact this
    have HPD2 : Hid (∀ (k : Nat) (u : World), k ≤ at_ → ar = -1 → Pure w4 u → Calls Try.prog 24 #[.slice A2 xss.length c2, .int .i64 (k : Int), .int .i64 (at_ : Int), .int .i64 (cs.length : Int)] u fun e w' => e = .returned (.bool true) ∧ Pure u w') := Lib.hid fun k u hk he hu =>
      ipx_any _ xss k at_ cs.length u (HG4.out.keep hu) HGV.out (HIN.out k (by omega)) (HIN.out _ (by omega)) (HIN.out _ (Nat.le_refl _)) true (by
        simp only [true_iff]
        rw [HE.out]
        refine top_posts HV.out hk hml ?_
        have h1 := Har.out
        rw [he] at h1
        unfold aroundA at h1
        rw [if_pos ⟨HV.out, by omega, by omega⟩, Int.toNat_natCast] at h1
        exact h1)
    go_wp2_with fail
    go_loopg [8] cs.length (fun gk i wr => ∃ k : Nat, gk + k = cs.length ∧ i = .int .i64 k ∧ Pure w4 wr)
    case atStart => exact ⟨0, rfl, rfl, Pure.refl _⟩
    case round =>
      obtain ⟨k, hgk, rfl, hp⟩ := hrel
      have Hgk := Lib.hid hgk
      have HP := Lib.hid hp
      have hkn : k ≤ cs.length := by omega
      clear hgk
      by_cases hlt : k < cs.length
      · go_wp2_with fail
        refine (HPD1.out k _ hlt HP.out).mono ?_
        rintro e w5 ⟨rfl, hp5⟩
        have HP5 := Lib.hid (HP.out.trans hp5)
        by_cases hka : k ≤ at_
        · have hd1 : decide ((k : Int) ≤ (at_ : Int)) = true := by rw [decide_eq_true_iff]; omega
          have hd2 : decide (k ≤ at_) = true := by rw [decide_eq_true_iff]; omega
          go_wp2_with fail
          refine (HBA.out _ HP5.out).mono ?_
          rintro e w6 ⟨rfl, hp6⟩
          have HP6 := Lib.hid (HP5.out.trans hp6)
          by_cases har : ar = -1
          · have hq : (ar == -1) = true := by rw [beq_iff_eq]; exact har
            go_wp2_with fail
            refine (HPD2.out k _ hka har HP6.out).mono ?_
            rintro e w7 ⟨rfl, hp7⟩
            have HP7 := Lib.hid (HP6.out.trans hp7)
            go_wp2
            go_roundg (cs.length - (k + 1))
            case measure => have := Hgk.out; omega
            case rel => exact ⟨k + 1, by have := Hgk.out; omega, by go_num, HP7.out⟩
          · have hq : (ar == -1) = false := by rw [beq_eq_false_iff_ne]; exact har
            go_wp2
            go_roundg (cs.length - (k + 1))
            case measure => have := Hgk.out; omega
            case rel => exact ⟨k + 1, by have := Hgk.out; omega, by go_num, HP6.out⟩
        · have hd1 : decide ((k : Int) ≤ (at_ : Int)) = false := by rw [decide_eq_false_iff_not]; omega
          have hd2 : decide (k ≤ at_) = false := by rw [decide_eq_false_iff_not]; omega
          go_wp2
          go_roundg (cs.length - (k + 1))
          case measure => have := Hgk.out; omega
          case rel => exact ⟨k + 1, by have := Hgk.out; omega, by go_num, HP5.out⟩
      · have hkl : k = cs.length := by omega
        subst hkl
        have hpf := HP.out
        go_wp2
        go_ret
        exact ⟨rfl, (HP1.out.trans HP4.out).trans hpf⟩
  · obtain rfl := HX.out.2 hv
    clear hv
    go_wp2_with fail
    refine (galive_any _).mono ?_
    rintro e w9 ⟨rfl, hp9⟩
    go_wp2
    go_ret
    exact ⟨rfl, (HP1.out.trans HP4.out).trans hp9⟩

end Go.Proofs.Ytmhaaihgepldhaa

namespace Go.Proofs.Ytmhaaihgepldhaa.rowFnMeetEnd
open Go.ChangeShapes Go.WideShapes Go.ChangeAt Go.RowKit Go.Deep

set_option maxRecDepth 100000 in
theorem lifted (os : Os) (started : os.Started) (H : Type) (enc : TypeId × Value → H) :
    ReturnsInHanded {} Try.checked os 7 .any (Rows.fnMeetEndSpec.pre6 enc Try.prog Try.f7 Rows.fnMeetEndRow.domain false) (Rows.fnMeetEndSpec.post enc Try.prog Try.f7 false true false false) := by
  refine returnsInHanded_of_change (C := Try.checked) own_knob started (by kernel_rfl) Try.func7
    (ChangeSpec.witness6 (enc := enc) (C := Try.checked) false ⟨#[], #[.slice none 0 0, .slice none 0 0], []⟩ 8 (by kernel_rfl) (by kernel_rfl) (by kernel_rfl) (by kernel_rfl)) ?_
  intro W base args ds gs before hval0 hW hcnd _
  have hval : ∀ (j : Nat) t v, Try.f7.params[j]? = some t → args[j]? = some v → Value.okWide Try.prog W .any base t v := hval0
  have hW' := hW
  obtain ⟨p, q, hA0, hV, rfl, hfz, hnd⟩ := hW
  have hA : DataW.TrodAll enc Try.prog W 0 (fun _ => true) true Try.f7.params.toList args.toList ds p := hA0
  rw [Try.params7] at hA hval
  obtain ⟨v0, vs0, d0, ds0, p0, q0, hargs, rfl, rfl, h0, r0⟩ := trodAll_cons hA
  obtain ⟨v1, vs1, d1, ds1, p1, q1, rfl, rfl, rfl, h1, r1⟩ := trodAll_cons r0
  obtain ⟨rfl, rfl, rfl⟩ := trodAll_nil r1
  obtain rfl : args = #[v0, v1] := by cases args; simp_all
  obtain ⟨rfl, rfl⟩ := trodVars_none hV
  have k0 := h0
  have lt0 : ∀ x ∈ p0, x.block < W.heap.size := by obtain ⟨m, hm⟩ := k0; exact DataW.trod_lt m _ _ _ hm
  obtain ⟨A0, len0, cap0, rfl⟩ := okWide_slice Try.underlying35 (hval 0 35 v0 rfl rfl)
  obtain ⟨x0, w0⟩ : ∃ xs, Bytes W (.slice A0 len0 cap0) xs := by
    obtain ⟨fuel, hf⟩ := h0
    obtain ⟨v, xs, hcs, hx⟩ := bytes_open hf
    simp [Value.cells] at hcs
    subst hcs
    exact ⟨xs, hx⟩
  have k1 := h1
  have lt1 : ∀ x ∈ p1, x.block < W.heap.size := by obtain ⟨m, hm⟩ := k1; exact DataW.trod_lt m _ _ _ hm
  obtain ⟨A1, len1, cap1, rfl⟩ := okWide_slice Try.underlying35 (hval 1 35 v1 rfl rfl)
  obtain ⟨x1, w1⟩ : ∃ xs, Bytes W (.slice A1 len1 cap1) xs := by
    obtain ⟨fuel, hf⟩ := h1
    obtain ⟨v, xs, hcs, hx⟩ := bytes_open hf
    simp [Value.cells] at hcs
    subst hcs
    exact ⟨xs, hx⟩
  clear hA0 hval0
  refine (law_FnMeetEnd _ x0 _ x1 W w0 w1).mono fun e W' ⟨he, bel⟩ => ?_
  subst he
  have bel' : Below W.heap.size W W' := bel
  exact ⟨_, rfl, _, _, _, [], _, [], hW', trodAll_mk1 (shut_bool Try.underlying4 _), (trodAll_cons_mk (Below.trod laid_out (by kernel_rfl) (of_decide_eq_true (by kernel_rfl)) k0 bel' lt0) (trodAll_cons_mk (Below.trod laid_out (by kernel_rfl) (of_decide_eq_true (by kernel_rfl)) k1 bel' lt1) trodAll_mk0)), rfl, bel'.frame _, fun h => by cases h⟩

theorem proved : Rows.FnMeetEndSaid :=
  OpenClaim.holds_of_wide 7 Try.f7 rfl rfl rfl rfl rfl rfl rfl ⟨rfl, rfl, rfl, rfl, rfl⟩ rfl rfl rfl rfl rfl (by kernel_rfl) Try.func7 (by kernel_rfl)
    (of_decide_eq_true (by kernel_rfl)) (by unfold Func.isWrapper; rw [if_neg (of_decide_eq_false (by kernel_rfl))]; exact ⟨rfl, rfl⟩)
    (fun os started H enc _ => lifted os started H enc)

end Go.Proofs.Ytmhaaihgepldhaa.rowFnMeetEnd
