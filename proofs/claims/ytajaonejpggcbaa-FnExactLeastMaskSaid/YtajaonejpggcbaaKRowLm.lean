/- The law FnExactLeastMask, whole: the program's mask of the lanes at the least place is the reference's. No condition. -/
import Derived.Test.YtajaonejpggcbaaKed
import Derived.Test.YtajaonejpggcbaaKee

namespace Go.Proofs.Ytajaonejpggcbaa
open Go.RowKit

set_option maxHeartbeats 4000000 in
theorem law_FnExactLeastMask (vc : Value) (c : Cx) (v : Value) (cs : List Cd) (w : World) (hc : Crowd w vc c) (h : Codes w v cs) :
    Calls Try.prog 3 #[vc, v] w fun e w' => e = .returned (.bool true) ∧ Pure w w' := by
  obtain ⟨vl, vm, rfl, hl, hm⟩ := hc
  have H := Lib.hid h
  have HL := Lib.hid hl
  have HM := Lib.hid hm
  obtain ⟨A, cc, rfl, hnc, hcm⟩ := h.form
  obtain ⟨Al, cl, rfl, _⟩ := hl.form
  obtain ⟨Am, cm, rfl⟩ := hm.form
  clear h hl hm
  obtain ⟨wz, Hwz⟩ : ∃ wz, Hid (w.alloc (.cells #[.slice Al c.ls.length cl, .slice Am c.mem.length cm] 25) = wz) := ⟨_, Lib.hid rfl⟩
  have HPZ : Hid (Pure w wz) := Lib.hid (by rw [← Hwz.out]; exact (by repeat (first | assumption | exact Pure.refl _ | refine Pure.drewN ?_ _ | refine Pure.drew ?_ | refine Pure.alloc ?_ _ | refine Pure.setCell ?_ (by simp <;> omega) _)))
  have HZ := Lib.hid (Hwz.out ▸ heap_alloc_new w _)
  obtain ⟨ga, Hga⟩ : ∃ ga, Hid ((leastC cs c).1 = ga) := ⟨_, Lib.hid rfl⟩
  obtain ⟨gb, Hgb⟩ : ∃ gb, Hid ((leastC cs c).2 = gb) := ⟨_, Lib.hid rfl⟩
  have HSL : Hid (∀ (vl vm v : Value) (u : World), Lanes u vl c.ls → Ints u vm c.mem → Codes u v cs → cs.length ≤ 1048576 → c.ls.length ≤ 1048576 → c.mem.length ≤ 1048576 → Calls Try.prog 15 #[.agg #[vl, vm], v] u fun e w' => e = .returned (.tuple #[.int .i64 ga, .int .i64 gb]) ∧ Pure u w') := Lib.hid (by
    rw [← Hga.out, ← Hgb.out]; exact fun vl vm v u a b d e f g => slm_any vl vm v c cs u a b d e f g)
  have HIL : Hid (∀ (vl vm v : Value) (u : World), Lanes u vl c.ls → Ints u vm c.mem → Codes u v cs → cs.length ≤ 1048576 → c.ls.length ≤ 1048576 → c.mem.length ≤ 1048576 → Calls Try.prog 18 #[.agg #[vl, vm], v] u fun e w' => e = .returned (.tuple #[.int .i64 ga, .int .i64 gb]) ∧ Pure u w') := Lib.hid (by
    rw [← Hga.out, ← Hgb.out]; exact fun vl vm v u a b d e f g => ilm_any vl vm v c cs u a b d e f g)
  clear Hga Hgb
  go_enter Try.func3, Try.ntmps3
  go_wp2_with fail
  rw [Hwz.out]
  refine (szCrowd_any _ _ c _ _ (HL.out.keep HPZ.out) (HM.out.keep HPZ.out) (by omega) (by omega)).mono ?_
  rintro e w1 ⟨⟨r, rfl, hr0, hr1, hr2⟩, hp1⟩
  have HR2 := Lib.hid hr2
  have q1 := hp1
  have Q1 := Lib.hid hp1
  clear hr2 hp1
  by_cases hr : r < 0
  · go_wp2
    go_ret
    exact ⟨rfl, HPZ.out.trans Q1.out⟩
  by_cases h0 : r < cs.length
  · go_wp2_with fail
    refine (szCodeS_any _ _ _ _ (H.out.keep (HPZ.out.trans Q1.out)) (by omega) (by omega)).mono ?_
    rw [if_pos h0]
    rintro e w' ⟨rfl, rfl⟩
    go_wp2
    go_ret
    exact ⟨rfl, HPZ.out.trans Q1.out⟩
  obtain ⟨k0, _⟩ := row_pure q1 HZ.out 0
  obtain ⟨k1, _⟩ := row_pure q1 HZ.out 1
  simp only [List.getElem?_toArray, List.getElem?_cons_zero, List.getElem?_cons_succ] at k0 k1
  go_wp2_with fail
  refine (szCodeS_any _ _ _ _ (H.out.keep (HPZ.out.trans Q1.out)) (by omega) (by omega)).mono ?_
  rw [if_neg (by omega)]
  rintro e w' ⟨rfl, rfl⟩
  have hlen : cs.length ≤ 1048576 := by omega
  obtain ⟨hm1, hl1, hrows⟩ := HR2.out (by omega)
  have hl2 : c.ls.length ≤ 1048576 := by omega
  have hm2 : c.mem.length ≤ 1048576 := by omega
  have HRW : Hid (∀ k, k < c.ls.length → (c.ls.getD k default).rs.length ≤ 1048576 ∧ (c.ls.getD k default).ts.length ≤ 1048576) := Lib.hid (fun k hk => by have := hrows k hk; omega)
  have hge : ¬ (r - cs.length < 0) := by omega
  clear HR2 hrows hm1 hl1
  go_wp2_with fail
  refine (toCrowd_any _ _ c _ (HL.out.keep (HPZ.out.trans Q1.out)) (HM.out.keep (HPZ.out.trans Q1.out)) hl2 hm2 HRW.out).mono ?_
  rintro e w2 ⟨v1, v2, rfl, hv1, hv2, hp2⟩
  have HV1 := Lib.hid hv1; have HV2 := Lib.hid hv2
  have Q2 := Lib.hid (Q1.out.trans hp2)
  obtain ⟨A1, c1, rfl, _⟩ := hv1.form
  obtain ⟨A2, c2, rfl⟩ := hv2.form
  clear hv1 hv2 k0 k1 q1 hp2
  go_wp2_with fail
  refine (toCodeS_any _ cs _ (H.out.keep (HPZ.out.trans Q2.out)) hlen).mono ?_
  rintro e w3 ⟨v3, rfl, hv3, hp3⟩
  have HV3 := Lib.hid (codes_of_own hv3)
  have Q3 := Lib.hid (Q2.out.trans hp3)
  have P3 := Lib.hid hp3
  clear hv3 hp3
  go_wp2_with fail
  refine (HSL.out _ _ _ _ (HV1.out.keep P3.out) (HV2.out.keep P3.out) HV3.out hlen hl2 hm2).mono ?_
  rintro e w4 ⟨rfl, hp4⟩
  have q4 := Q3.out.trans hp4
  have Q4 := Lib.hid q4
  clear hp4
  obtain ⟨k0, _⟩ := row_pure q4 HZ.out 0
  obtain ⟨k1, _⟩ := row_pure q4 HZ.out 1
  simp only [List.getElem?_toArray, List.getElem?_cons_zero, List.getElem?_cons_succ] at k0 k1
  clear q4 HV1 HV2 HV3
  go_wp2_with fail
  refine (toCrowd_any _ _ c _ (HL.out.keep (HPZ.out.trans Q4.out)) (HM.out.keep (HPZ.out.trans Q4.out)) hl2 hm2 HRW.out).mono ?_
  rintro e w5 ⟨v4, v5, rfl, hv4, hv5, hp5⟩
  have HV4 := Lib.hid hv4; have HV5 := Lib.hid hv5
  have Q5 := Lib.hid (Q4.out.trans hp5)
  obtain ⟨A4, c4, rfl, _⟩ := hv4.form
  obtain ⟨A5, c5, rfl⟩ := hv5.form
  obtain ⟨wx, Hwx⟩ : ∃ wx, Hid (w5.alloc (.cells #[.slice A4 c.ls.length c4, .slice A5 c.mem.length c5] 33) = wx) := ⟨_, Lib.hid rfl⟩
  have HPX : Hid (Pure w5 wx) := Lib.hid (by rw [← Hwx.out]; exact (by repeat (first | assumption | exact Pure.refl _ | refine Pure.drewN ?_ _ | refine Pure.drew ?_ | refine Pure.alloc ?_ _ | refine Pure.setCell ?_ (by simp <;> omega) _)))
  have HX : Hid (wx.heap[w5.heap.size]? = some (.cells #[.slice A4 c.ls.length c4, .slice A5 c.mem.length c5] 33 (0, 0))) := Lib.hid (by
    rw [← Hwx.out]; exact heap_alloc_new w5 _)
  have QX := Lib.hid (Q5.out.trans HPX.out)
  have HV4x := Lib.hid (HV4.out.keep HPX.out); have HV5x := Lib.hid (HV5.out.keep HPX.out)
  clear hv4 hv5 k0 k1 hp5 HV4 HV5
  go_wp2_with fail
  rw [Hwx.out]
  refine (toCodeS_any _ cs _ (H.out.keep (HPZ.out.trans QX.out)) hlen).mono ?_
  rintro e w6 ⟨v6, rfl, hv6, hp6⟩
  have HV6 := Lib.hid (codes_of_own hv6)
  obtain ⟨A6, c6, rfl, _⟩ := HV6.out.form
  have P6 := Lib.hid hp6
  have Q6 := Lib.hid (QX.out.trans hp6)
  obtain ⟨k2, _⟩ := row_pure hp6 HX.out 0
  obtain ⟨k3, _⟩ := row_pure hp6 HX.out 1
  simp only [List.getElem?_toArray, List.getElem?_cons_zero, List.getElem?_cons_succ] at k2 k3
  clear hv6 hp6
  go_wp2_with fail
  refine (HIL.out _ _ _ _ (HV4x.out.keep P6.out) (HV5x.out.keep P6.out) HV6.out hlen hl2 hm2).mono ?_
  rintro e w7 ⟨rfl, hp7⟩
  have p7 := P6.out.trans hp7
  have P7 := Lib.hid p7
  have q7 := Q6.out.trans hp7
  have Q7 := Lib.hid q7
  have HV67 := Lib.hid (HV6.out.keep hp7)
  clear hp7 HV6
  obtain ⟨k0, _⟩ := row_pure q7 HZ.out 0
  obtain ⟨k1, _⟩ := row_pure q7 HZ.out 1
  obtain ⟨k4, _⟩ := row_pure p7 HX.out 0
  obtain ⟨k5, _⟩ := row_pure p7 HX.out 1
  simp only [List.getElem?_toArray, List.getElem?_cons_zero, List.getElem?_cons_succ] at k0 k1 k4 k5
  have hba : (ga != ga) = false := by simp
  have hbb : (gb != gb) = false := by simp
  clear p7 q7 k2 k3
  go_wp2
  refine region_heldF (fun w' => w'.cell? ⟨w.heap.size, 0, none⟩ = some (.slice Al c.ls.length cl) ∧ w'.cell? ⟨w.heap.size, 1, none⟩ = some (.slice Am c.mem.length cm) ∧ w'.cell? ⟨w5.heap.size, 0, none⟩ = some (.slice A4 c.ls.length c4) ∧ w'.cell? ⟨w5.heap.size, 1, none⟩ = some (.slice A5 c.mem.length c5))
    (List.range 2) [2, 3, 4] (fun l => List.take 2 l) (fun l => List.drop 2 l) (by kernel_rfl) (by kernel_rfl) (by kernel_rfl) (by kernel_rfl) (fun c a d v w h => by cases d <;> exact h) (by exact ⟨k0, k1, k4, k5⟩) ?_
  simp only [List.take_succ_cons, List.take_zero, List.drop_succ_cons, List.drop_zero]
  iterate 2
    apply held_of
    · exact rfl
    · intro w' hS
      obtain ⟨s0, s1, s2, s3⟩ := hS
      go_simp
      try exact rfl
    try go_simp
  refine held_nil ?_
  unfold Tail
  have Q8 : Hid (Pure wz w7.drew) := Lib.hid (by have h := Q7.out; exact (by repeat (first | assumption | exact Pure.refl _ | refine Pure.drewN ?_ _ | refine Pure.drew ?_ | refine Pure.alloc ?_ _ | refine Pure.setCell ?_ (by simp <;> omega) _)))
  have P8 : Hid (Pure wx w7.drew) := Lib.hid (by have h := P7.out; exact (by repeat (first | assumption | exact Pure.refl _ | refine Pure.drewN ?_ _ | refine Pure.drew ?_ | refine Pure.alloc ?_ _ | refine Pure.setCell ?_ (by simp <;> omega) _)))
  go_wp2_with fail
  refine (toCrowd_any _ _ c _ (HL.out.keep (HPZ.out.trans Q8.out)) (HM.out.keep (HPZ.out.trans Q8.out)) hl2 hm2 HRW.out).mono ?_
  rintro e w8 ⟨v7, v8, rfl, hv7, hv8, hp8⟩
  have HV7 := Lib.hid hv7; have HV8 := Lib.hid hv8
  have q9 := Q8.out.trans hp8
  have p9 := P8.out.trans hp8
  have Q9 := Lib.hid q9
  have P9 := Lib.hid p9
  have HW8 := Lib.hid hp8
  obtain ⟨k0, _⟩ := row_pure q9 HZ.out 0
  obtain ⟨k1, _⟩ := row_pure q9 HZ.out 1
  obtain ⟨k4, _⟩ := row_pure p9 HX.out 0
  obtain ⟨k5, _⟩ := row_pure p9 HX.out 1
  simp only [List.getElem?_toArray, List.getElem?_cons_zero, List.getElem?_cons_succ] at k0 k1 k4 k5
  clear hv7 hv8 hp8 q9 p9
  obtain ⟨A7, c7, rfl, _⟩ := HV7.out.form
  obtain ⟨A8, c8, rfl⟩ := HV8.out.form
  go_wp2_with fail
  refine And.intro (by exact ⟨k0, k1, k4, k5⟩) ?_
  unfold Tail
  go_wp2_with fail
  refine (eqCrowd_same _ _ _ _ c _ (HV4x.out.keep P9.out) (HV5x.out.keep P9.out) HV7.out HV8.out).mono ?_
  rintro e w9 ⟨rfl, hp9⟩
  have q10 := Q9.out.trans hp9
  have p10 := P9.out.trans hp9
  have Q10 := Lib.hid q10
  have P10 := Lib.hid p10
  have HV68 := Lib.hid (HV67.out.keep (((show Pure w7 w7.drew from (by repeat (first | assumption | exact Pure.refl _ | refine Pure.drewN ?_ _ | refine Pure.drew ?_ | refine Pure.alloc ?_ _ | refine Pure.setCell ?_ (by simp <;> omega) _))).trans HW8.out).trans hp9))
  obtain ⟨k0, _⟩ := row_pure q10 HZ.out 0
  obtain ⟨k1, _⟩ := row_pure q10 HZ.out 1
  obtain ⟨k4, _⟩ := row_pure p10 HX.out 0
  obtain ⟨k5, _⟩ := row_pure p10 HX.out 1
  simp only [List.getElem?_toArray, List.getElem?_cons_zero, List.getElem?_cons_succ] at k0 k1 k4 k5
  clear hp9 q10 p10 HV67 HW8
  go_wp2_with fail
  refine And.intro (by exact ⟨k0, k1, k4, k5⟩) ?_
  unfold Tail
  go_wp2_with fail
  refine (toCodeS_any _ cs _ (H.out.keep (HPZ.out.trans Q10.out)) hlen).mono ?_
  rintro e w10 ⟨v9, rfl, hv9, hp10⟩
  have HV9 := Lib.hid (codes_of_own hv9)
  have Q11 := Lib.hid (Q10.out.trans hp10)
  have HV69 := Lib.hid (HV68.out.keep hp10)
  clear hv9 hp10 HV68 k0 k1 k4 k5
  go_wp2_with fail
  refine (eqCodeS_same _ _ cs _ HV69.out HV9.out).mono ?_
  rintro e w11 ⟨rfl, hp11⟩
  have Q12 := Lib.hid (Q11.out.trans hp11)
  go_wp2
  go_ret
  exact ⟨rfl, HPZ.out.trans Q12.out⟩

end Go.Proofs.Ytajaonejpggcbaa

namespace Go.Proofs.Ytajaonejpggcbaa.rowFnExactLeastMask
open Go.ChangeShapes Go.WideShapes Go.ChangeAt Go.RowKit Go.Deep

set_option maxRecDepth 100000 in
theorem lifted (os : Os) (started : os.Started) (H : Type) (enc : TypeId × Value → H) :
    ReturnsInHanded {} Try.checked os 3 .any (Rows.fnExactLeastMaskSpec.pre6 enc Try.prog Try.f3 Rows.fnExactLeastMaskRow.domain false) (Rows.fnExactLeastMaskSpec.post enc Try.prog Try.f3 false true false false) := by
  refine returnsInHanded_of_change (C := Try.checked) own_knob started (by kernel_rfl) Try.func3
    (ChangeSpec.witness6 (enc := enc) (C := Try.checked) false ⟨#[], #[.agg #[.slice none 0 0, .slice none 0 0], .slice none 0 0], []⟩ 8 (by kernel_rfl) (by kernel_rfl) (by kernel_rfl) (by kernel_rfl)) ?_
  intro W base args ds gs before hval0 hW hcnd _
  have hval : ∀ (j : Nat) t v, Try.f3.params[j]? = some t → args[j]? = some v → Value.okWide Try.prog W .any base t v := hval0
  have hW' := hW
  obtain ⟨p, q, hA0, hV, rfl, hfz, hnd⟩ := hW
  have hA : DataW.TrodAll enc Try.prog W 0 (fun _ => true) true Try.f3.params.toList args.toList ds p := hA0
  rw [Try.params3] at hA hval
  obtain ⟨v0, vs0, d0, ds0, p0, q0, hargs, rfl, rfl, h0, r0⟩ := trodAll_cons hA
  obtain ⟨v1, vs1, d1, ds1, p1, q1, rfl, rfl, rfl, h1, r1⟩ := trodAll_cons r0
  obtain ⟨rfl, rfl, rfl⟩ := trodAll_nil r1
  obtain rfl : args = #[v0, v1] := by cases args; simp_all
  obtain ⟨rfl, rfl⟩ := trodVars_none hV
  have k0 := h0
  have lt0 : ∀ x ∈ p0, x.block < W.heap.size := by obtain ⟨m, hm⟩ := k0; exact DataW.trod_lt m _ _ _ hm
  obtain ⟨c0, w0⟩ := crowd_open (hval 0 25 v0 rfl rfl) h0
  have k1 := h1
  have lt1 : ∀ x ∈ p1, x.block < W.heap.size := by obtain ⟨m, hm⟩ := k1; exact DataW.trod_lt m _ _ _ hm
  obtain ⟨A1, len1, cap1, rfl⟩ := okWide_slice Try.underlying26 (hval 1 26 v1 rfl rfl)
  obtain ⟨x1, w1⟩ : ∃ xs, Codes W (.slice A1 len1 cap1) xs := by
    obtain ⟨fuel, hf⟩ := h1
    obtain ⟨v, xs, hcs, hx⟩ := codes_open hf
    simp [Value.cells] at hcs
    subst hcs
    exact ⟨xs, hx⟩
  clear hA0 hval0
  refine (law_FnExactLeastMask _ c0 _ x1 W w0 w1).mono fun e W' ⟨he, bel⟩ => ?_
  subst he
  have bel' : Below W.heap.size W W' := bel
  exact ⟨_, rfl, _, _, _, [], _, [], hW', trodAll_mk1 (shut_bool Try.underlying4 _), (trodAll_cons_mk (Below.trod laid_out (by kernel_rfl) (of_decide_eq_true (by kernel_rfl)) k0 bel' lt0) (trodAll_cons_mk (Below.trod laid_out (by kernel_rfl) (of_decide_eq_true (by kernel_rfl)) k1 bel' lt1) trodAll_mk0)), rfl, bel'.frame _, fun h => by cases h⟩

theorem proved : Rows.FnExactLeastMaskSaid :=
  OpenClaim.holds_of_wide 3 Try.f3 rfl rfl rfl rfl rfl rfl rfl ⟨rfl, rfl, rfl, rfl, rfl⟩ rfl rfl rfl rfl rfl (by kernel_rfl) Try.func3 (by kernel_rfl)
    (of_decide_eq_true (by kernel_rfl)) (by unfold Func.isWrapper; rw [if_neg (of_decide_eq_false (by kernel_rfl))]; exact ⟨rfl, rfl⟩)
    (fun os started H enc _ => lifted os started H enc)

end Go.Proofs.Ytajaonejpggcbaa.rowFnExactLeastMask
