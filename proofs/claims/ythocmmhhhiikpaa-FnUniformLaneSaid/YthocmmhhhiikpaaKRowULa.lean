/- The law FnUniformLane, whole: Numbers of lanes are not uniform No condition. -/
import Derived.Test.YthocmmhhhiikpaaKcb
import Derived.Test.YthocmmhhhiikpaaKcd

namespace Go.Proofs.Ythocmmhhhiikpaa
open Go.RowKit

set_option maxHeartbeats 4000000 in
set_option maxRecDepth 100000 in
theorem law_FnUniformLane (v : Value) (bs : List Int) (v' : Value) (bs2 : List Int) (w : World) (h : Bytes w v bs) (h2 : Bytes w v' bs2) :
    Calls Try.prog 6 #[v, v'] w fun e w' => e = .returned (.bool true) ∧ Pure w w' := by
  have H := Lib.hid h
  obtain ⟨A, c, rfl, hnc, hcm⟩ := h.form
  obtain ⟨A', c', rfl, hnc', hcm'⟩ := h2.form
  clear h h2
  by_cases hbig : (bs.length : Int) > 1048576
  · go_enter Try.func6, Try.ntmps6
    go_wp2
    go_ret
    exact ⟨rfl, Pure.refl _⟩
  by_cases hbig2 : (bs2.length : Int) > 1048576
  · go_enter Try.func6, Try.ntmps6
    go_wp2
    go_ret
    exact ⟨rfl, Pure.refl _⟩
  go_enter Try.func6, Try.ntmps6
  go_wp2_with fail
  refine (draw_DrawUniformSets _ bs _ H.out (by omega)).mono ?_
  rintro e w1 ⟨vl, cs, rfl, hl, hcl, hp1⟩
  have HC := Lib.hid hl
  have HP1 := Lib.hid hp1
  obtain ⟨Ac, cc, rfl, hcc1, hcc2⟩ := hl.form
  clear hl hp1
  go_wp2_with fail
  refine (ius_any _ cs _ HC.out (by omega)).mono ?_
  rintro e w2 ⟨v2, xs, rfl, px, hxl, ho2, hp2⟩
  have HPX := Lib.hid px
  have HO2 := Lib.hid ho2
  have HP2 := Lib.hid hp2
  obtain ⟨A2, c2, rfl⟩ := ho2.form
  clear px ho2 hp2
  go_wp2_with fail
  refine (sus_any _ cs _ (HC.out.keep HP2.out) (by omega)).mono ?_
  rintro e w3 ⟨v3, ys, rfl, py, hyl, ho3, hp3⟩
  obtain rfl : xs = ys := UsP.unique HPX.out py
  have HO3 := Lib.hid ho3
  have HP3 := Lib.hid (HP2.out.trans hp3)
  have HO23 := Lib.hid (HO2.out.pure hp3)
  obtain ⟨A3, c3, rfl⟩ := ho3.form
  clear py ho3 hp3 hyl
  go_wp2_with fail
  refine (sameInts_same _ _ xs _ (Ints.of_ownO' HO23.out) (Ints.of_ownO' HO3.out) hxl).mono ?_
  rintro e w4 ⟨rfl, hp4⟩
  have HP4 := Lib.hid (HP3.out.trans hp4)
  clear hp4
  obtain ⟨r, Hr⟩ : ∃ r : Int, Hid ((bs2.length : Int) % 4 = r) := ⟨_, Lib.hid rfl⟩
  have hreg : Reg r := by rw [← Hr.out]; unfold Reg; omega
  by_cases hv : PValid cs
  · have HV := Lib.hid hv
    have h40 := hv.2.1
    obtain ⟨t, ht1, ht2, _⟩ := hv.tree
    have HT1 := Lib.hid ht1
    have HT2 := Lib.hid ht2
    clear hv ht1 ht2
    go_wp2_with fail
    refine (spv_any _ cs _ (HC.out.keep HP4.out) (by omega) true (by simp [HV.out])).mono ?_
    rintro e w5 ⟨rfl, hp5⟩
    have HP5 := Lib.hid (HP4.out.trans hp5)
    clear hp5
    by_cases h37 : cs.length > 37
    · go_wp2_with fail
      refine (alive_any _).mono ?_
      rintro e w9 ⟨rfl, hp9⟩
      go_wp2
      go_ret
      exact ⟨rfl, (HP1.out.trans HP5.out).trans hp9⟩
    have HUV := Lib.hid (ul_valid hreg HV.out (by omega))
    have hus := ul_sets (cs := cs) (t := t) hreg
    obtain ⟨es, Hes⟩ : ∃ es, Hid (ulC r cs = es) := ⟨_, Lib.hid rfl⟩
    have hel : es.length = 3 + cs.length := by rw [← Hes.out]; simp [ulC]; omega
    rw [Hes.out] at hus
    have HUS := Lib.hid hus
    have HL0 := Lib.hid (OwnO.lit (e := 38) (s := 4) (B := w5.heap.size) w5 #[.int .i64 2, .int .i64 r, .int .i64 0, .int .i64 0, .int .i64 1, .int .i64 r, .int .i64 7, .int .i64 0, .int .i64 10, .int .i64 0, .int .i64 0, .int .i64 0] 3 (Nat.le_refl _) (by decide) rfl)
    have HPA := Lib.hid (show Pure w5 (w5.alloc (.cells #[.int .i64 2, .int .i64 r, .int .i64 0, .int .i64 0, .int .i64 1, .int .i64 r, .int .i64 7, .int .i64 0, .int .i64 10, .int .i64 0, .int .i64 0, .int .i64 0] 38)) from (by repeat (first | assumption | exact Pure.refl _ | refine Pure.drewN ?_ _ | refine Pure.drew ?_ | refine Pure.alloc ?_ _ | refine Pure.setCell ?_ (by simp <;> omega) _)))
    have hrr := Hr.out
    clear hus
    go_wp2_with (at_builtin; go_must (refine wl_appendC elCode rfl _ _ rfl w5.heap.size _ 3 _ rfl HL0.out (by decide) _ rfl (cdf cs) cs.length (Cells.keep (Codes.keep HC.out HP5.out) HPA.out) (ur_one cs) (by decide) (by omega) HPA.out.size ?_); intro v6 w6 r1 r2; go_must (obtain ⟨g6, o6, c6, rfl, hc61, hc62, hg6, hgl6⟩ := r1.formSome (by omega)); go_must (have HW6 := Lib.hid (HPA.out.grown r2 (fun k hk => (HL0.out.lt k hk).1))); go_must (have HC6 := Lib.hid (Hes.out ▸ ula_open (r := r) rfl r1 (by simp [ulC]; omega))); clear r1 r2)
    have HP6 := Lib.hid (HP5.out.trans HW6.out)
    refine (ius_any _ es _ HC6.out (by omega)).mono ?_
    rintro e w7 ⟨v7, zs, rfl, pz, hzl, ho7, hp7⟩
    obtain rfl := pz.tree (Hes.out ▸ HUV.out) (Hes.out ▸ ul_flat HT1.out) (ul_ok hreg HT2.out)
    rw [usOf_len] at ho7
    have HS := Lib.hid (us_sets rfl ho7)
    obtain ⟨A7, c7, hf7, hs1, hs2, h7⟩ := HS.out
    subst hf7
    have HP7 := Lib.hid (HP6.out.trans hp7)
    obtain ⟨bs', os, rfl, hbs, hcs⟩ := h7 (by omega)
    have r0 : w7.cell? ⟨bs', os + 0, none⟩ = some (.int .i64 (usL es (ulT r t) 0 : Nat)) := hcs 0 (by omega)
    have r1 : w7.cell? ⟨bs', os + 1, none⟩ = some (.int .i64 (usL es (ulT r t) 1 : Nat)) := hcs 1 (by omega)
    have r2 : w7.cell? ⟨bs', os + 2, none⟩ = some (.int .i64 (usL es (ulT r t) 2 : Nat)) := hcs 2 (by omega)
    rw [HUS.out.1] at r0
    rw [HUS.out.2.1] at r1
    rw [HUS.out.2.2] at r2
    have h4 : r = 0 ∨ r = 1 ∨ r = 2 ∨ r = 3 := by unfold Reg at hreg; omega
    clear h7 hcs ho7 pz hreg hrr
    rw [Nat.add_zero] at r0
    rcases h4 with rfl | rfl | rfl | rfl
    all_goals
      go_wp2_with fail
      go_quiet (fail)
      go_wp2
      go_ret
      exact ⟨ret_bool (by simp), by have h17 := HP1.out.trans HP7.out; exact (by repeat (first | assumption | exact Pure.refl _ | refine Pure.drewN ?_ _ | refine Pure.drew ?_ | refine Pure.alloc ?_ _ | refine Pure.setCell ?_ (by simp <;> omega) _))⟩
  · have HV := Lib.hid hv
    clear hv
    go_wp2_with fail
    refine (spv_any _ cs _ (HC.out.keep HP4.out) (by omega) false (by simp [HV.out])).mono ?_
    rintro e w5 ⟨rfl, hp5⟩
    go_wp2_with fail
    refine (alive_any _).mono ?_
    rintro e w9 ⟨rfl, hp9⟩
    go_wp2
    go_ret
    exact ⟨rfl, ((HP1.out.trans HP4.out).trans hp5).trans hp9⟩

end Go.Proofs.Ythocmmhhhiikpaa

namespace Go.Proofs.Ythocmmhhhiikpaa.rowFnUniformLane
open Go.ChangeShapes Go.WideShapes Go.ChangeAt Go.RowKit Go.Deep

set_option maxRecDepth 100000 in
theorem lifted (os : Os) (started : os.Started) (H : Type) (enc : TypeId × Value → H) :
    ReturnsInHanded {} Try.checked os 6 .any (Rows.fnUniformLaneSpec.pre6 enc Try.prog Try.f6 Rows.fnUniformLaneRow.domain false) (Rows.fnUniformLaneSpec.post enc Try.prog Try.f6 false true false false) := by
  refine returnsInHanded_of_change (C := Try.checked) own_knob started (by kernel_rfl) Try.func6
    (ChangeSpec.witness6 (enc := enc) (C := Try.checked) false ⟨#[], #[.slice none 0 0, .slice none 0 0], []⟩ 8 (by kernel_rfl) (by kernel_rfl) (by kernel_rfl) (by kernel_rfl)) ?_
  intro W base args ds gs before hval0 hW hcnd _
  have hval : ∀ (j : Nat) t v, Try.f6.params[j]? = some t → args[j]? = some v → Value.okWide Try.prog W .any base t v := hval0
  have hW' := hW
  obtain ⟨p, q, hA0, hV, rfl, hfz, hnd⟩ := hW
  have hA : DataW.TrodAll enc Try.prog W 0 (fun _ => true) true Try.f6.params.toList args.toList ds p := hA0
  rw [Try.params6] at hA hval
  obtain ⟨v0, vs0, d0, ds0, p0, q0, hargs, rfl, rfl, h0, r0⟩ := trodAll_cons hA
  obtain ⟨v1, vs1, d1, ds1, p1, q1, rfl, rfl, rfl, h1, r1⟩ := trodAll_cons r0
  obtain ⟨rfl, rfl, rfl⟩ := trodAll_nil r1
  obtain rfl : args = #[v0, v1] := by cases args; simp_all
  obtain ⟨rfl, rfl⟩ := trodVars_none hV
  have k0 := h0
  have lt0 : ∀ x ∈ p0, x.block < W.heap.size := by obtain ⟨m, hm⟩ := k0; exact DataW.trod_lt m _ _ _ hm
  obtain ⟨A0, len0, cap0, rfl⟩ := okWide_slice Try.underlying33 (hval 0 33 v0 rfl rfl)
  obtain ⟨x0, w0⟩ : ∃ xs, Bytes W (.slice A0 len0 cap0) xs := by
    obtain ⟨fuel, hf⟩ := h0
    obtain ⟨v, xs, hcs, hx⟩ := bytes_open hf
    simp [Value.cells] at hcs
    subst hcs
    exact ⟨xs, hx⟩
  have k1 := h1
  have lt1 : ∀ x ∈ p1, x.block < W.heap.size := by obtain ⟨m, hm⟩ := k1; exact DataW.trod_lt m _ _ _ hm
  obtain ⟨A1, len1, cap1, rfl⟩ := okWide_slice Try.underlying33 (hval 1 33 v1 rfl rfl)
  obtain ⟨x1, w1⟩ : ∃ xs, Bytes W (.slice A1 len1 cap1) xs := by
    obtain ⟨fuel, hf⟩ := h1
    obtain ⟨v, xs, hcs, hx⟩ := bytes_open hf
    simp [Value.cells] at hcs
    subst hcs
    exact ⟨xs, hx⟩
  clear hA0 hval0
  refine (law_FnUniformLane _ x0 _ x1 W w0 w1).mono fun e W' ⟨he, bel⟩ => ?_
  subst he
  have bel' : Below W.heap.size W W' := bel
  exact ⟨_, rfl, _, _, _, [], _, [], hW', trodAll_mk1 (shut_bool Try.underlying4 _), (trodAll_cons_mk (Below.trod laid_out (by kernel_rfl) (of_decide_eq_true (by kernel_rfl)) k0 bel' lt0) (trodAll_cons_mk (Below.trod laid_out (by kernel_rfl) (of_decide_eq_true (by kernel_rfl)) k1 bel' lt1) trodAll_mk0)), rfl, bel'.frame _, fun h => by cases h⟩

theorem proved : Rows.FnUniformLaneSaid :=
  OpenClaim.holds_of_wide 6 Try.f6 rfl rfl rfl rfl rfl rfl rfl ⟨rfl, rfl, rfl, rfl, rfl⟩ rfl rfl rfl rfl rfl (by kernel_rfl) Try.func6 (by kernel_rfl)
    (of_decide_eq_true (by kernel_rfl)) (by unfold Func.isWrapper; rw [if_neg (of_decide_eq_false (by kernel_rfl))]; exact ⟨rfl, rfl⟩)
    (fun os started H enc _ => lifted os started H enc)

end Go.Proofs.Ythocmmhhhiikpaa.rowFnUniformLane
