/- The law FnUniformSets, whole: Uniform registers are told for every place No condition. -/
import Derived.Test.YthocmmhhhiikpaaKbj
import Derived.Test.YthocmmhhhiikpaaKca
import Derived.Test.YthocmmhhhiikpaaKcb
import Derived.Test.YthocmmhhhiikpaaKcd

namespace Go.Proofs.Ythocmmhhhiikpaa
open Go.RowKit

set_option maxHeartbeats 4000000 in
set_option maxRecDepth 100000 in
theorem law_FnUniformSets (v : Value) (bs : List Int) (w : World) (h : Bytes w v bs) :
    Calls Try.prog 5 #[v] w fun e w' => e = .returned (.bool true) ∧ Pure w w' := by
  have H := Lib.hid h
  obtain ⟨A, c, rfl, hnc, hcm⟩ := h.form
  clear h
  by_cases hbig : (bs.length : Int) > 1048576
  · go_enter Try.func5, Try.ntmps5
    go_wp2
    go_ret
    exact ⟨rfl, Pure.refl _⟩
  go_enter Try.func5, Try.ntmps5
  go_wp2_with fail
  refine (draw_DrawUniformSets _ bs _ H.out (by omega)).mono ?_
  rintro e w1 ⟨vl, cs, rfl, hl, hcl, hp1⟩
  have HC := Lib.hid hl
  have HP1 := Lib.hid hp1
  obtain ⟨Ac, cc, rfl, hcc1, hcc2⟩ := hl.form
  clear hl hp1
  go_wp2_with fail
  refine (ius_any _ cs _ HC.out (by omega)).mono ?_
  rintro e w2 ⟨v2, xs, rfl, px, hxl, ho2, hp2⟩
  have HPX := Lib.hid px
  have HO2 := Lib.hid ho2
  have HP2 := Lib.hid hp2
  obtain ⟨A2, c2, rfl⟩ := ho2.form
  clear px ho2 hp2
  go_wp2_with fail
  refine (sus_any _ cs _ (HC.out.keep HP2.out) (by omega)).mono ?_
  rintro e w3 ⟨v3, ys, rfl, py, hyl, ho3, hp3⟩
  obtain rfl : xs = ys := UsP.unique HPX.out py
  have HO3 := Lib.hid ho3
  have HP3 := Lib.hid (HP2.out.trans hp3)
  have HO23 := Lib.hid (HO2.out.pure hp3)
  obtain ⟨A3, c3, rfl⟩ := ho3.form
  clear py ho3 hp3 hyl
  go_wp2_with fail
  refine (sameInts_same _ _ xs _ (Ints.of_ownO' HO23.out) (Ints.of_ownO' HO3.out) hxl).mono ?_
  rintro e w4 ⟨rfl, hp4⟩
  have HP4 := Lib.hid (HP3.out.trans hp4)
  have HO24 := Lib.hid (HO23.out.pure hp4)
  clear hp4
  by_cases hv : PValid cs
  · have HV := Lib.hid hv
    have h40 := hv.2.1
    obtain ⟨t, ht1, ht2, _⟩ := hv.tree
    obtain rfl := HPX.out.tree hv ht1 ht2
    have hul := usOf_len cs t
    have hcount : countTo cs 2 cs.length = 0 → ∀ j, j < cs.length → (cs.getD j default).op ≠ 12 → (cs.getD j default).op ≠ 14 → usL cs t j = 15 := fun hz j hj q1 q2 => usL_full ht1 ht2 (count_none (op := 2) hz) hj q1 q2
    have HT2 := Lib.hid ht2
    clear hv ht1 ht2
    go_wp2_with fail
    refine (spv_any _ cs _ (HC.out.keep HP4.out) (by omega) true (by simp [HV.out])).mono ?_
    rintro e w5 ⟨rfl, hp5⟩
    have HP5 := Lib.hid (HP4.out.trans hp5)
    have HO5 := Lib.hid (HO24.out.pure hp5)
    clear hp5
    go_wp2_with fail
    refine (icount_any _ cs 2 _ (HC.out.keep HP5.out) HV.out).mono ?_
    rintro e w6 ⟨rfl, hp6⟩
    have HP6 := Lib.hid (HP5.out.trans hp6)
    have ho6 := HO5.out.pure hp6
    rw [hul] at ho6
    rw [hul] at *
    have HS := Lib.hid (us_sets rfl ho6)
    have HCo := Lib.hid hcount
    clear hp6 ho6 hcount
    obtain ⟨PB, HPB⟩ : ∃ PB, Hid ((((countTo cs 2 cs.length : Nat) : Int) == 0) = PB) := ⟨_, Lib.hid rfl⟩
    have hpb := HPB.out
    go_wp2_with fail
    go_loopg [6, 7] cs.length (fun gk i _ wr => ∃ k : Nat, gk + k = cs.length ∧ i = .int .i64 k ∧ Pure w6 wr)
    case atStart => exact ⟨0, rfl, rfl, Pure.refl _⟩
    case round =>
      obtain ⟨k, hgk, rfl, hp⟩ := hrel
      have Hgk := Lib.hid hgk
      have HP := Lib.hid hp
      have hkn : k ≤ cs.length := by omega
      clear hgk
      by_cases hlt : k < cs.length
      · obtain ⟨b, o, rfl, hb, hc⟩ := (HC.out.keep HP6.out).at_ hlt
        obtain ⟨cd, Hcd⟩ : ∃ cd, Hid (cs.getD k default = cd) := ⟨_, Lib.hid rfl⟩
        rw [Hcd.out] at hc
        obtain ⟨op, ca, cb, cd3⟩ := cd
        obtain ⟨q0, q1, q2, q3⟩ := hc.keep hp hb
        obtain ⟨As, cs', hvs, _, _, h6⟩ := Cells.keep HS.out hp
        injection hvs with e1 e2 e3
        subst e1 e3
        obtain ⟨bs', os, rfl, hbs, hcs⟩ := h6 (by omega)
        have r2 : wr.cell? ⟨bs', os + k, none⟩ = some (.int .i64 (usL cs t k : Nat)) := hcs k (by omega)
        have hu16 := usL_lt (cs := cs) HT2.out k
        clear hc hcs h6 hp q1 q2 q3
        by_cases hn : op = 12 ∨ op = 14
        · have hz : usL cs t k = 0 := usL_none (by rw [Hcd.out]; exact hn)
          rw [hz] at r2
          clear hu16
          rcases hn with rfl | rfl
          all_goals
            cases PB
            all_goals
              go_wp2
              go_roundg (cs.length - (k + 1))
              case measure => have := Hgk.out; omega
              case rel => exact ⟨k + 1, by have := Hgk.out; omega, by go_num, HP.out⟩
        · have d12 : (op == 12) = false := by rw [beq_eq_false_iff_ne]; exact fun e => hn (.inl e)
          have d14 : (op == 14) = false := by rw [beq_eq_false_iff_ne]; exact fun e => hn (.inr e)
          cases PB
          · obtain ⟨u, Hu⟩ : ∃ u, Hid (usL cs t k = u) := ⟨_, Lib.hid rfl⟩
            rw [Hu.out] at r2 hu16
            clear hn
            go_wp2
            go_roundg (cs.length - (k + 1))
            case measure => have := Hgk.out; omega
            case rel => exact ⟨k + 1, by have := Hgk.out; omega, by go_num, HP.out⟩
          · have hz : usL cs t k = 15 := HCo.out (by have := HPB.out; simpa using this) k hlt (by rw [Hcd.out]; exact fun e => hn (.inl e)) (by rw [Hcd.out]; exact fun e => hn (.inr e))
            rw [hz] at r2
            clear hu16 hn
            go_wp2
            go_roundg (cs.length - (k + 1))
            case measure => have := Hgk.out; omega
            case rel => exact ⟨k + 1, by have := Hgk.out; omega, by go_num, HP.out⟩
      · have hkl : k = cs.length := by omega
        subst hkl
        go_wp2
        go_ret
        exact ⟨ret_bool (by simp), (HP1.out.trans HP6.out).trans HP.out⟩
  · have HV := Lib.hid hv
    obtain rfl := HPX.out.2 hv
    clear hv
    go_wp2_with fail
    refine (spv_any _ cs _ (HC.out.keep HP4.out) (by omega) false (by simp [HV.out])).mono ?_
    rintro e w5 ⟨rfl, hp5⟩
    go_wp2_with fail
    refine (alive_any _).mono ?_
    rintro e w9 ⟨rfl, hp9⟩
    go_wp2
    go_ret
    exact ⟨rfl, ((HP1.out.trans HP4.out).trans hp5).trans hp9⟩

end Go.Proofs.Ythocmmhhhiikpaa

namespace Go.Proofs.Ythocmmhhhiikpaa.rowFnUniformSets
open Go.ChangeShapes Go.WideShapes Go.ChangeAt Go.RowKit Go.Deep

set_option maxRecDepth 100000 in
theorem lifted (os : Os) (started : os.Started) (H : Type) (enc : TypeId × Value → H) :
    ReturnsInHanded {} Try.checked os 5 .any (Rows.fnUniformSetsSpec.pre6 enc Try.prog Try.f5 Rows.fnUniformSetsRow.domain false) (Rows.fnUniformSetsSpec.post enc Try.prog Try.f5 false true false false) := by
  refine returnsInHanded_of_change (C := Try.checked) own_knob started (by kernel_rfl) Try.func5
    (ChangeSpec.witness6 (enc := enc) (C := Try.checked) false ⟨#[], #[.slice none 0 0], []⟩ 8 (by kernel_rfl) (by kernel_rfl) (by kernel_rfl) (by kernel_rfl)) ?_
  intro W base args ds gs before hval0 hW hcnd _
  have hval : ∀ (j : Nat) t v, Try.f5.params[j]? = some t → args[j]? = some v → Value.okWide Try.prog W .any base t v := hval0
  have hW' := hW
  obtain ⟨p, q, hA0, hV, rfl, hfz, hnd⟩ := hW
  have hA : DataW.TrodAll enc Try.prog W 0 (fun _ => true) true Try.f5.params.toList args.toList ds p := hA0
  rw [Try.params5] at hA hval
  obtain ⟨v0, vs0, d0, ds0, p0, q0, hargs, rfl, rfl, h0, r0⟩ := trodAll_cons hA
  obtain ⟨rfl, rfl, rfl⟩ := trodAll_nil r0
  obtain rfl : args = #[v0] := by cases args; simp_all
  obtain ⟨rfl, rfl⟩ := trodVars_none hV
  have k0 := h0
  have lt0 : ∀ x ∈ p0, x.block < W.heap.size := by obtain ⟨m, hm⟩ := k0; exact DataW.trod_lt m _ _ _ hm
  obtain ⟨A0, len0, cap0, rfl⟩ := okWide_slice Try.underlying33 (hval 0 33 v0 rfl rfl)
  obtain ⟨x0, w0⟩ : ∃ xs, Bytes W (.slice A0 len0 cap0) xs := by
    obtain ⟨fuel, hf⟩ := h0
    obtain ⟨v, xs, hcs, hx⟩ := bytes_open hf
    simp [Value.cells] at hcs
    subst hcs
    exact ⟨xs, hx⟩
  clear hA0 hval0
  refine (law_FnUniformSets _ x0 W w0).mono fun e W' ⟨he, bel⟩ => ?_
  subst he
  have bel' : Below W.heap.size W W' := bel
  exact ⟨_, rfl, _, _, _, [], _, [], hW', trodAll_mk1 (shut_bool Try.underlying4 _), (trodAll_cons_mk (Below.trod laid_out (by kernel_rfl) (of_decide_eq_true (by kernel_rfl)) k0 bel' lt0) trodAll_mk0), rfl, bel'.frame _, fun h => by cases h⟩

theorem proved : Rows.FnUniformSetsSaid :=
  OpenClaim.holds_of_wide 5 Try.f5 rfl rfl rfl rfl rfl rfl rfl ⟨rfl, rfl, rfl, rfl, rfl⟩ rfl rfl rfl rfl rfl (by kernel_rfl) Try.func5 (by kernel_rfl)
    (of_decide_eq_true (by kernel_rfl)) (by unfold Func.isWrapper; rw [if_neg (of_decide_eq_false (by kernel_rfl))]; exact ⟨rfl, rfl⟩)
    (fun os started H enc _ => lifted os started H enc)

end Go.Proofs.Ythocmmhhhiikpaa.rowFnUniformSets
