/- The law FnUniformLess, whole: Less uniform beginnings lead to less No condition. -/
import Derived.Test.YthocmmhhhiikpaaKcb
import Derived.Test.YthocmmhhhiikpaaKcd

namespace Go.Proofs.Ythocmmhhhiikpaa
open Go.RowKit

set_option maxHeartbeats 4000000 in
set_option maxRecDepth 100000 in
theorem law_FnUniformLess (v : Value) (bs : List Int) (v' : Value) (bs2 : List Int) (w : World) (h : Bytes w v bs) (h2 : Bytes w v' bs2) :
    Calls Try.prog 7 #[v, v'] w fun e w' => e = .returned (.bool true) ∧ Pure w w' := by
  have H := Lib.hid h
  obtain ⟨A, c, rfl, hnc, hcm⟩ := h.form
  obtain ⟨A', c', rfl, hnc', hcm'⟩ := h2.form
  clear h h2
  by_cases hbig : (bs.length : Int) > 1048576
  · go_enter Try.func7, Try.ntmps7
    go_wp2
    go_ret
    exact ⟨rfl, Pure.refl _⟩
  by_cases hbig2 : (bs2.length : Int) > 1048576
  · go_enter Try.func7, Try.ntmps7
    go_wp2
    go_ret
    exact ⟨rfl, Pure.refl _⟩
  go_enter Try.func7, Try.ntmps7
  go_wp2_with fail
  refine (draw_DrawUniformSets _ bs _ H.out (by omega)).mono ?_
  rintro e w1 ⟨vl, cs, rfl, hl, hcl, hp1⟩
  have HC := Lib.hid hl
  have HP1 := Lib.hid hp1
  obtain ⟨Ac, cc, rfl, hcc1, hcc2⟩ := hl.form
  clear hl hp1
  go_wp2_with fail
  refine (ius_any _ cs _ HC.out (by omega)).mono ?_
  rintro e w2 ⟨v2, xs, rfl, px, hxl, ho2, hp2⟩
  have HPX := Lib.hid px
  have HO2 := Lib.hid ho2
  have HP2 := Lib.hid hp2
  obtain ⟨A2, c2, rfl⟩ := ho2.form
  clear px ho2 hp2
  go_wp2_with fail
  refine (sus_any _ cs _ (HC.out.keep HP2.out) (by omega)).mono ?_
  rintro e w3 ⟨v3, ys, rfl, py, hyl, ho3, hp3⟩
  obtain rfl : xs = ys := UsP.unique HPX.out py
  have HO3 := Lib.hid ho3
  have HP3 := Lib.hid (HP2.out.trans hp3)
  have HO23 := Lib.hid (HO2.out.pure hp3)
  obtain ⟨A3, c3, rfl⟩ := ho3.form
  clear py ho3 hp3 hyl
  go_wp2_with fail
  refine (sameInts_same _ _ xs _ (Ints.of_ownO' HO23.out) (Ints.of_ownO' HO3.out) hxl).mono ?_
  rintro e w4 ⟨rfl, hp4⟩
  have HP4 := Lib.hid (HP3.out.trans hp4)
  have HO24 := Lib.hid (HO23.out.pure hp4)
  clear hp4
  obtain ⟨r, Hr⟩ : ∃ r : Int, Hid ((bs2.length : Int) % 4 = r) := ⟨_, Lib.hid rfl⟩
  have hreg : Reg r := by rw [← Hr.out]; unfold Reg; omega
  by_cases hv : PValid cs
  · have HV := Lib.hid hv
    have h40 := hv.2.1
    obtain ⟨t, ht1, ht2, _⟩ := hv.tree
    obtain rfl := HPX.out.tree hv ht1 ht2
    have HT1 := Lib.hid ht1
    have HT2 := Lib.hid ht2
    have hul := usOf_len cs t
    clear hv ht1 ht2
    go_wp2_with fail
    refine (spv_any _ cs _ (HC.out.keep HP4.out) (by omega) true (by simp [HV.out])).mono ?_
    rintro e w5 ⟨rfl, hp5⟩
    have HP5 := Lib.hid (HP4.out.trans hp5)
    have ho5 := HO24.out.pure hp5
    rw [hul] at ho5
    rw [hul] at *
    have HS5 := Lib.hid (us_sets rfl ho5)
    clear hp5 ho5
    by_cases hl40 : cs.length = 40
    · have hb : ((cs.length : Int) == 40) = true := by rw [beq_iff_eq]; omega
      go_wp2_with fail
      refine (alive_any _).mono ?_
      rintro e w9 ⟨rfl, hp9⟩
      go_wp2
      go_ret
      exact ⟨rfl, (HP1.out.trans HP5.out).trans hp9⟩
    have hb : ((cs.length : Int) == 40) = false := by rw [beq_eq_false_iff_ne]; omega
    have HUV := Lib.hid (ule_valid hreg HV.out (by omega))
    obtain ⟨es, Hes⟩ : ∃ es, Hid ((⟨2, r, 0, 0⟩ :: cs : List Cd) = es) := ⟨_, Lib.hid rfl⟩
    have hel : es.length = cs.length + 1 := by rw [← Hes.out]; simp
    have HL0 := Lib.hid (OwnO.lit (e := 38) (s := 4) (B := w5.heap.size) w5 #[.int .i64 2, .int .i64 r, .int .i64 0, .int .i64 0] 1 (Nat.le_refl _) (by decide) rfl)
    have HPA := Lib.hid (show Pure w5 (w5.alloc (.cells #[.int .i64 2, .int .i64 r, .int .i64 0, .int .i64 0] 38)) from (by repeat (first | assumption | exact Pure.refl _ | refine Pure.drewN ?_ _ | refine Pure.drew ?_ | refine Pure.alloc ?_ _ | refine Pure.setCell ?_ (by simp <;> omega) _)))
    have hrr := Hr.out
    go_wp2_with (at_builtin; go_must (refine wl_appendC elCode rfl _ _ rfl w5.heap.size _ 1 _ rfl HL0.out (by decide) _ rfl (cdf cs) cs.length (Cells.keep (Codes.keep HC.out HP5.out) HPA.out) (ur_one cs) (by decide) (by omega) HPA.out.size ?_); intro v6 w6 r1 r2; go_must (obtain ⟨g6, o6, c6, rfl, hc61, hc62, hg6, hgl6⟩ := r1.formSome (by omega)); go_must (have HW6 := Lib.hid (HPA.out.grown r2 (fun k hk => (HL0.out.lt k hk).1))); go_must (have HC6 := Lib.hid (Hes.out ▸ ule_open (r := r) rfl r1 (by simp; omega))); clear r1 r2)
    have HP6 := Lib.hid (HP5.out.trans HW6.out)
    refine (ius_any _ es _ HC6.out (by omega)).mono ?_
    rintro e w7 ⟨v7, zs, rfl, pz, hzl, ho7, hp7⟩
    obtain rfl := pz.tree (t := .op ⟨2, r, 0, 0⟩ t) (Hes.out ▸ HUV.out) (by rw [Tr.flat, ← HT1.out, Hes.out]) ⟨ule_ok hreg, HT2.out⟩
    rw [usOf_len] at ho7
    have HS := Lib.hid (us_sets rfl ho7)
    have HP7 := Lib.hid (HP6.out.trans hp7)
    have HS7 := Lib.hid (Cells.keep HS5.out (HW6.out.trans hp7))
    obtain ⟨A7, c7, hf7, hs1, hs2, h7⟩ := HS.out
    subst hf7
    have HLS : Hid (∀ k, usL es (.op ⟨2, r, 0, 0⟩ t) (k + 1) &&& usL cs t k = usL es (.op ⟨2, r, 0, 0⟩ t) (k + 1)) := Lib.hid fun k => by rw [← Hes.out]; exact less_sub (ule_ok hreg).1 k
    have HLTa : Hid (∀ k, usL es (.op ⟨2, r, 0, 0⟩ t) k < 16) := Lib.hid fun k => usL_lt (t := .op ⟨2, r, 0, 0⟩ t) ⟨ule_ok hreg, HT2.out⟩ k
    have HLTb : Hid (∀ k, usL cs t k < 16) := Lib.hid fun k => usL_lt HT2.out k
    obtain ⟨bs', os, rfl, hbs, hcs⟩ := h7 (by omega)
    have HCS := Lib.hid hcs
    clear h7 hcs ho7 pz hreg hrr
    go_wp2_with fail
    go_loopg [8] cs.length (fun gk i wr => ∃ k : Nat, gk + k = cs.length ∧ i = .int .i64 k ∧ Pure w7 wr)
    case atStart => exact ⟨0, rfl, rfl, Pure.refl _⟩
    case round =>
      obtain ⟨k, hgk, rfl, hp⟩ := hrel
      have Hgk := Lib.hid hgk
      have HP := Lib.hid hp
      have hkn : k ≤ cs.length := by omega
      clear hgk
      by_cases hlt : k < cs.length
      · obtain ⟨As, cs', hvs, _, _, h6⟩ := Cells.keep HS7.out hp
        injection hvs with e1 e2 e3
        subst e1 e3
        obtain ⟨bs3, os3, rfl, hbs3, hcs3⟩ := h6 (by omega)
        have q0 : wr.cell? ⟨bs3, os3 + k, none⟩ = some (.int .i64 (usL cs t k : Nat)) := hcs3 k (by omega)
        have q1 : wr.cell? ⟨bs', os + (k + 1), none⟩ = some (.int .i64 (usL es (.op ⟨2, r, 0, 0⟩ t) (k + 1) : Nat)) := (hp.cell _ _ (by omega)).trans (HCS.out (k + 1) (by omega))
        have hand := HLS.out k
        have hx16 := HLTa.out (k + 1)
        have hy16 := HLTb.out k
        obtain ⟨x, Hx⟩ : ∃ x, Hid (usL es (.op ⟨2, r, 0, 0⟩ t) (k + 1) = x) := ⟨_, Lib.hid rfl⟩
        obtain ⟨y, Hy⟩ : ∃ y, Hid (usL cs t k = y) := ⟨_, Lib.hid rfl⟩
        rw [Hx.out, Hy.out] at hand
        rw [Hx.out] at q1 hx16
        rw [Hy.out] at q0 hy16
        have hbits : bits .and .i64 (x : Int) (y : Int) = (x : Int) := by rw [and16 hx16 hy16, hand]
        have hb3 := World.block_lt_of_cell? _ _ q0
        have hb4 := World.block_lt_of_cell? _ _ q1
        have hbn : ((x : Int) != (x : Int)) = false := by simp
        have hd0 : decide (cs.length ≤ k) = false := by rw [decide_eq_false_iff_not]; omega
        have hd2 : decide ((k : Int) + 1 ≥ (cs.length : Int) + 1) = false := by rw [decide_eq_false_iff_not]; omega
        have hi1 : (k : Int) + 1 < (cs.length : Int) + 1 := by omega
        have hi2 : (k : Int) + 1 < ((cs.length + 1 : Nat) : Int) := by omega
        have hi3 : (0 : Int) ≤ (k : Int) + 1 := by omega
        have hi4 : (k : Int) < (cs.length : Int) := by omega
        have hi5 : (0 : Int) ≤ (k : Int) := by omega
        clear h6 hcs3 hand hp
        go_wp2_with fail
        refine region_pure [.int .i64 (k : Int), .int .i64 ((k : Int) + 1), .slice (some ⟨bs', os, none⟩) (cs.length + 1) c7, .int .i64 ((cs.length : Int) + 1), .bool false, .bool false, .slice (some ⟨bs', os, none⟩) (cs.length + 1) c7, .int .i64 (k : Int), .int .i64 ((k : Int) + 1), .pointer (some ⟨bs', os + (k + 1), none⟩), .int .i64 (x : Int), .slice (some ⟨bs3, os3, none⟩) cs.length c2, .int .i64 (k : Int), .pointer (some ⟨bs3, os3 + k, none⟩), .int .i64 (y : Int), .int .i64 (x : Int), .slice (some ⟨bs', os, none⟩) (cs.length + 1) c7, .int .i64 (k : Int), .int .i64 ((k : Int) + 1), .pointer (some ⟨bs', os + (k + 1), none⟩), .int .i64 (x : Int), .bool false, .bool false] (Pure wr) (by kernel_rfl) (by kernel_rfl) rfl (by kernel_rfl) (Pure.drew (Pure.refl _)) ?_ ?_ (by kernel_rfl)
        · simp only [foldPut, Act.put, List.setIfInBounds_toArray, List.set_cons_succ, List.set_cons_zero]
          refine ⟨fun u hu => ?_, fun u hu => ?_, fun u hu => ?_, fun u hu => ?_, fun u hu => ?_, fun u hu => ?_, fun u hu => ?_, fun u hu => ?_, fun u hu => ?_, fun u hu => ?_, fun u hu => ?_, fun u hu => ?_, fun u hu => ?_, fun u hu => ?_, fun u hu => ?_, fun u hu => ?_, fun u hu => ?_, fun u hu => ?_, fun u hu => ?_, fun u hu => ?_, fun u hu => ?_, fun u hu => ?_, fun u hu => ?_, trivial⟩
          all_goals
            have q0u := keepPc hu q0
            have q1u := keepPc hu q1
            go_wp2
            exact ⟨by assumption, rfl⟩
        · intro u hu
          simp only [foldPut, Act.put, List.setIfInBounds_toArray, List.set_cons_succ, List.set_cons_zero]
          go_wp2
          go_roundg (cs.length - (k + 1))
          case measure => have := Hgk.out; omega
          case rel => exact ⟨k + 1, by have := Hgk.out; omega, by go_num, HP.out.trans hu⟩
      · have hkl : k = cs.length := by omega
        subst hkl
        have hpf := HP.out
        go_wp2
        go_ret
        exact ⟨ret_bool (by simp), (HP1.out.trans HP7.out).trans (by exact (by repeat (first | assumption | exact Pure.refl _ | refine Pure.drewN ?_ _ | refine Pure.drew ?_ | refine Pure.alloc ?_ _ | refine Pure.setCell ?_ (by simp <;> omega) _)))⟩
  · have HV := Lib.hid hv
    clear hv
    go_wp2_with fail
    refine (spv_any _ cs _ (HC.out.keep HP4.out) (by omega) false (by simp [HV.out])).mono ?_
    rintro e w5 ⟨rfl, hp5⟩
    go_wp2_with fail
    refine (alive_any _).mono ?_
    rintro e w9 ⟨rfl, hp9⟩
    go_wp2
    go_ret
    exact ⟨rfl, ((HP1.out.trans HP4.out).trans hp5).trans hp9⟩

end Go.Proofs.Ythocmmhhhiikpaa

namespace Go.Proofs.Ythocmmhhhiikpaa.rowFnUniformLess
open Go.ChangeShapes Go.WideShapes Go.ChangeAt Go.RowKit Go.Deep

set_option maxRecDepth 100000 in
theorem lifted (os : Os) (started : os.Started) (H : Type) (enc : TypeId × Value → H) :
    ReturnsInHanded {} Try.checked os 7 .any (Rows.fnUniformLessSpec.pre6 enc Try.prog Try.f7 Rows.fnUniformLessRow.domain false) (Rows.fnUniformLessSpec.post enc Try.prog Try.f7 false true false false) := by
  refine returnsInHanded_of_change (C := Try.checked) own_knob started (by kernel_rfl) Try.func7
    (ChangeSpec.witness6 (enc := enc) (C := Try.checked) false ⟨#[], #[.slice none 0 0, .slice none 0 0], []⟩ 8 (by kernel_rfl) (by kernel_rfl) (by kernel_rfl) (by kernel_rfl)) ?_
  intro W base args ds gs before hval0 hW hcnd _
  have hval : ∀ (j : Nat) t v, Try.f7.params[j]? = some t → args[j]? = some v → Value.okWide Try.prog W .any base t v := hval0
  have hW' := hW
  obtain ⟨p, q, hA0, hV, rfl, hfz, hnd⟩ := hW
  have hA : DataW.TrodAll enc Try.prog W 0 (fun _ => true) true Try.f7.params.toList args.toList ds p := hA0
  rw [Try.params7] at hA hval
  obtain ⟨v0, vs0, d0, ds0, p0, q0, hargs, rfl, rfl, h0, r0⟩ := trodAll_cons hA
  obtain ⟨v1, vs1, d1, ds1, p1, q1, rfl, rfl, rfl, h1, r1⟩ := trodAll_cons r0
  obtain ⟨rfl, rfl, rfl⟩ := trodAll_nil r1
  obtain rfl : args = #[v0, v1] := by cases args; simp_all
  obtain ⟨rfl, rfl⟩ := trodVars_none hV
  have k0 := h0
  have lt0 : ∀ x ∈ p0, x.block < W.heap.size := by obtain ⟨m, hm⟩ := k0; exact DataW.trod_lt m _ _ _ hm
  obtain ⟨A0, len0, cap0, rfl⟩ := okWide_slice Try.underlying33 (hval 0 33 v0 rfl rfl)
  obtain ⟨x0, w0⟩ : ∃ xs, Bytes W (.slice A0 len0 cap0) xs := by
    obtain ⟨fuel, hf⟩ := h0
    obtain ⟨v, xs, hcs, hx⟩ := bytes_open hf
    simp [Value.cells] at hcs
    subst hcs
    exact ⟨xs, hx⟩
  have k1 := h1
  have lt1 : ∀ x ∈ p1, x.block < W.heap.size := by obtain ⟨m, hm⟩ := k1; exact DataW.trod_lt m _ _ _ hm
  obtain ⟨A1, len1, cap1, rfl⟩ := okWide_slice Try.underlying33 (hval 1 33 v1 rfl rfl)
  obtain ⟨x1, w1⟩ : ∃ xs, Bytes W (.slice A1 len1 cap1) xs := by
    obtain ⟨fuel, hf⟩ := h1
    obtain ⟨v, xs, hcs, hx⟩ := bytes_open hf
    simp [Value.cells] at hcs
    subst hcs
    exact ⟨xs, hx⟩
  clear hA0 hval0
  refine (law_FnUniformLess _ x0 _ x1 W w0 w1).mono fun e W' ⟨he, bel⟩ => ?_
  subst he
  have bel' : Below W.heap.size W W' := bel
  exact ⟨_, rfl, _, _, _, [], _, [], hW', trodAll_mk1 (shut_bool Try.underlying4 _), (trodAll_cons_mk (Below.trod laid_out (by kernel_rfl) (of_decide_eq_true (by kernel_rfl)) k0 bel' lt0) (trodAll_cons_mk (Below.trod laid_out (by kernel_rfl) (of_decide_eq_true (by kernel_rfl)) k1 bel' lt1) trodAll_mk0)), rfl, bel'.frame _, fun h => by cases h⟩

theorem proved : Rows.FnUniformLessSaid :=
  OpenClaim.holds_of_wide 7 Try.f7 rfl rfl rfl rfl rfl rfl rfl ⟨rfl, rfl, rfl, rfl, rfl⟩ rfl rfl rfl rfl rfl (by kernel_rfl) Try.func7 (by kernel_rfl)
    (of_decide_eq_true (by kernel_rfl)) (by unfold Func.isWrapper; rw [if_neg (of_decide_eq_false (by kernel_rfl))]; exact ⟨rfl, rfl⟩)
    (fun os started H enc _ => lifted os started H enc)

end Go.Proofs.Ythocmmhhhiikpaa.rowFnUniformLess
