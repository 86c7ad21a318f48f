/- The law FnBarrierExtra, whole: A barrier at the begin and one at the end change nothing. No condition. -/
import Derived.Test.YtonmndojlnohcaaKca
import Derived.Test.YtonmndojlnohcaaKcc

namespace Go.Proofs.Ytonmndojlnohcaa
open Go.RowKit

def beC (cs : List Cd) : List Cd := cBar :: (cs ++ [cBar])
theorem be_ok {cs : List Cd} {n : Nat} {mem : List Int} (h : RunOk cs n mem) (h40 : cs.length + 2 ≤ 40) : RunOk (beC cs) n mem ∧ memA (beC cs) n mem = memA cs n mem ∧ wholeA (beC cs) n mem = wholeA cs n mem := by
  have hn : 1 ≤ n := by have := h.2.1.1; omega
  obtain ⟨hp, hM, hS, _⟩ := ins_lock (at_ := 0) (mem := mem) hn h.1 (by omega) (.inl rfl)
  have e0 : insC cs 0 = cBar :: cs := rfl
  rw [e0] at hp hM hS
  obtain ⟨hp2, hl⟩ := snoc_lock (c := cBar) (mem := mem) hn hp cbar_plain (by simp; omega)
  have hk : RunOk (beC cs) n mem := ⟨hp2, h.2⟩
  obtain ⟨_, b2, _, _, b5⟩ := exec_bar n mem.length (cBar :: cs).length (2 ^ n - 1) (lockOf (cBar :: cs) n mem)
  refine ⟨hk, ?_, ?_⟩
  · rw [memA_ok hk, memA_ok h]
    show (List.range mem.length).map (lockOf (cBar :: cs ++ [cBar]) n mem).M = _
    rw [hl, b2, hM]
  · rw [wholeA_ok hk, wholeA_ok h]
    show (!splitH (cBar :: cs ++ [cBar]) n (lockOf (cBar :: cs ++ [cBar]) n mem).H) = _
    rw [hl, b5, ← hS]
    congr 1
    unfold splitH
    rw [List.any_append]
    have hb : (List.any [((cBar :: cs).length, 2 ^ n - 1, (lockOf (cBar :: cs) n mem).R)] fun x => decide (((cBar :: cs ++ [cBar]).getD x.1 default).op = 10) && !decide (x.2.1 = 2 ^ n - 1)) = false := by simp
    rw [hb, Bool.or_false, Bool.eq_iff_iff, List.any_eq_true, List.any_eq_true]
    constructor
    · rintro ⟨x, hx, hq⟩
      rw [getD_left (lockOf_in hp x hx).2.1] at hq
      exact ⟨x, hx, hq⟩
    · rintro ⟨x, hx, hq⟩
      refine ⟨x, hx, ?_⟩
      rw [getD_left (lockOf_in hp x hx).2.1]; exact hq
theorem be_cells (cs : List Cd) : (cdCells cBar ++ (List.range (cs.length * 4)).map (cdf cs)) ++ cdCells cBar = (beC cs).flatMap cdCells := by
  rw [range_cdf]
  simp [beC]
theorem be_open {w : World} {B T : Nat} {v : Value} {n : Nat} {cs : List Cd} (hT : T = 31) (ho : OwnO w B T 4 v n (cdCells cBar ++ (List.range (cs.length * 4)).map (cdf cs) ++ cdCells cBar)) (hn : n = (beC cs).length) : Codes w v (beC cs) := by
  subst hT
  rw [be_cells] at ho
  exact Codes.of_ownO ho hn (flat_cdf _)

set_option maxHeartbeats 4000000 in
set_option maxRecDepth 100000 in
theorem law_FnBarrierExtra (v : Value) (bs : List Int) (w : World) (h : Bytes w v bs) :
    Calls Try.prog 3 #[v] w fun e w' => e = .returned (.bool true) ∧ Pure w w' := by
  have H := Lib.hid h
  obtain ⟨A, c, rfl, hnc, hcm⟩ := h.form
  clear h
  by_cases hbig : (bs.length : Int) > 1048576
  · go_enter Try.func3, Try.ntmps3
    go_wp2
    go_ret
    exact ⟨rfl, Pure.refl _⟩
  go_enter Try.func3, Try.ntmps3
  go_wp2_with fail
  refine (draw_DrawRunLock _ bs _ H.out (by omega)).mono ?_
  rintro e w1 ⟨vl, cs, a, vm, mem, rfl, ha0, ha9, hl, hm, hcl, hml, hp1⟩
  have HC := Lib.hid hl
  have HM := Lib.hid hm
  have HP1 := Lib.hid hp1
  obtain ⟨Ac, cc, rfl, hcc1, hcc2⟩ := hl.form
  obtain ⟨Am, cm, rfl⟩ := hm.form
  clear hl hm hp1
  go_wp2_with fail
  refine (irl_any _ _ cs a mem _ HC.out HM.out (by omega) (by omega)).mono ?_
  obtain ⟨wh, Hwh⟩ : ∃ wh, Hid (wholeA cs a mem = wh) := ⟨_, Lib.hid rfl⟩
  obtain ⟨mx, Hmx⟩ : ∃ mx, Hid (memA cs a mem = mx) := ⟨_, Lib.hid rfl⟩
  have hmx := memA_small (cs := cs) (a := a) hml
  rw [Hmx.out] at hmx
  rintro e w2 ⟨v2, rfl, ho2, hp2⟩
  have hi2 : Ints w2 v2 mx := Hmx.out ▸ ints_own ho2
  have HO2 := Lib.hid hi2
  have HP2 := Lib.hid hp2
  obtain ⟨A2, c2, rfl⟩ := hi2.form
  rw [Hwh.out]
  clear ho2 hp2 hi2
  go_wp2_with fail
  refine (srl_any _ _ cs a mem _ (HC.out.keep HP2.out) (HM.out.keep HP2.out) (by omega) (by omega)).mono ?_
  rintro e w3 ⟨v3, rfl, ho3, hp3⟩
  have hi3 : Ints w3 v3 mx := Hmx.out ▸ ints_own ho3
  have HO3 := Lib.hid hi3
  obtain ⟨A3, c3, rfl⟩ := hi3.form
  rw [Hwh.out]
  have HO23 := Lib.hid (Cells.keep HO2.out hp3)
  have HP3 := Lib.hid (HP2.out.trans hp3)
  clear ho3 hp3 hi3
  have hww : (wh != wh) = false := by simp
  go_wp2_with fail
  refine (sameInts_same _ _ mx _ HO23.out HO3.out hmx).mono ?_
  rintro e w4 ⟨rfl, hp4⟩
  have HP4 := Lib.hid (HP3.out.trans hp4)
  have HO24 := Lib.hid (Cells.keep HO23.out hp4)
  clear hp4
  have HL0 := Lib.hid (OwnO.lit (e := 31) (s := 4) (B := w4.heap.size) w4 #[.int .i64 10, .int .i64 0, .int .i64 0, .int .i64 0] 1 (Nat.le_refl _) (by decide) rfl)
  have HPA := Lib.hid (show Pure w4 (w4.alloc (.cells #[.int .i64 10, .int .i64 0, .int .i64 0, .int .i64 0] 31)) from (by repeat (first | assumption | exact Pure.refl _ | refine Pure.drewN ?_ _ | refine Pure.drew ?_ | refine Pure.alloc ?_ _ | refine Pure.setCell ?_ (by simp <;> omega) _)))
  go_wp2_with (first
    | (at_builtin; refine wl_appendLF elCode rfl _ _ rfl w4.heap.size _ _ _ rfl HO5.out _ 1 _ [.int .i64 10, .int .i64 0, .int .i64 0, .int .i64 0] rfl rfl rfl rfl (by decide) (by omega) HW5.out.size ?_; intro v6 w6 r1 r2 _)
    | (at_builtin; go_must (refine wl_appendC elCode rfl _ _ rfl w4.heap.size _ 1 _ rfl HL0.out (by decide) _ rfl (cdf cs) cs.length (Cells.keep (Codes.keep HC.out HP4.out) HPA.out) (cdf_one cs) (by decide) (by omega) HPA.out.size ?_); intro v5 w5 r1 r2; go_must (obtain ⟨g5, o5, c5, rfl, hc51, hc52, hg5, hgl5⟩ := r1.formSome (by omega)); go_must (have HW5 := Lib.hid (HPA.out.grown r2 (fun k hk => (HL0.out.lt k hk).1))); go_must (have HO5 := Lib.hid r1); clear r1 r2; go_must (have HC5 := Lib.hid (HC.out.keep (HP4.out.trans HW5.out)))))
  obtain ⟨g6, o6, c6, rfl, hc61, hc62, hg6, hgl6⟩ := r1.formSome (by omega)
  have HW6 := Lib.hid (HW5.out.grown r2 (fun k hk => (HO5.out.lt k hk).1))
  have HC6 := Lib.hid (be_open rfl r1 (by simp [beC]; omega))
  clear r1 r2
  have hel : (beC cs).length = 1 + cs.length + 1 := by simp [beC]; omega
  have HP6 := Lib.hid (HP4.out.trans HW6.out)
  by_cases hok : RunOk cs a mem
  · have HOK := Lib.hid hok
    obtain ⟨n, rfl, hn1, hn8⟩ := lanes_nat hok.2.1
    clear hok
    go_wp2_with fail
    refine (runs_any _ _ cs n mem _ (HC.out.keep HP6.out) (HM.out.keep HP6.out) (by omega) (by omega) true (by simp only [true_iff]; exact HOK.out)).mono ?_
    rintro e w7 ⟨rfl, hp7⟩
    have HP7 := Lib.hid (HP6.out.trans hp7)
    have HC7 := Lib.hid (HC6.out.keep hp7)
    have HO7 := Lib.hid (Cells.keep HO24.out (HW6.out.trans hp7))
    clear hp7
    by_cases h40 : ((1 : Int) + cs.length + 1 > 40)
    · go_wp2_with fail
      refine (alive_any _).mono ?_
      rintro e w9 ⟨rfl, hp9⟩
      go_wp2
      go_ret
      exact ⟨rfl, (HP1.out.trans HP7.out).trans hp9⟩
    · have hea := be_ok HOK.out (by omega)
      rw [Hmx.out, Hwh.out] at hea
      have HEA := Lib.hid hea
      clear hea
      go_wp2_with fail
      refine (irl_any _ _ (beC cs) n mem _ HC7.out (HM.out.keep HP7.out) (by omega) (by omega)).mono ?_
      rintro e w9 ⟨v9, rfl, ho9, hp9⟩
      have hi9 : Ints w9 v9 mx := HEA.out.2.1 ▸ ints_own ho9
      have HI9 := Lib.hid hi9
      have HO9 := Lib.hid (Cells.keep HO7.out hp9)
      have HP9 := Lib.hid (HP7.out.trans hp9)
      obtain ⟨A9, c9, rfl⟩ := hi9.form
      rw [HEA.out.2.2]
      clear hi9 ho9 hp9
      have hwe : (wh == wh) = true := by simp
      go_wp2_with fail
      refine (sameInts_same _ _ mx _ HI9.out HO9.out hmx).mono ?_
      rintro e w10 ⟨rfl, hp10⟩
      go_wp2
      go_ret
      exact ⟨rfl, (HP1.out.trans HP9.out).trans hp10⟩
  · have HOK := Lib.hid hok
    clear hok
    go_wp2_with fail
    refine (runs_any _ _ cs a mem _ (HC.out.keep HP6.out) (HM.out.keep HP6.out) (by omega) (by omega) false (by simp [HOK.out])).mono ?_
    rintro e w7 ⟨rfl, hp7⟩
    go_wp2_with fail
    refine (alive_any _).mono ?_
    rintro e w9 ⟨rfl, hp9⟩
    go_wp2
    go_ret
    exact ⟨rfl, ((HP1.out.trans HP6.out).trans hp7).trans hp9⟩

end Go.Proofs.Ytonmndojlnohcaa

namespace Go.Proofs.Ytonmndojlnohcaa.rowFnBarrierExtra
open Go.ChangeShapes Go.WideShapes Go.ChangeAt Go.RowKit Go.Deep

set_option maxRecDepth 100000 in
theorem lifted (os : Os) (started : os.Started) (H : Type) (enc : TypeId × Value → H) :
    ReturnsInHanded {} Try.checked os 3 .any (Rows.fnBarrierExtraSpec.pre6 enc Try.prog Try.f3 Rows.fnBarrierExtraRow.domain false) (Rows.fnBarrierExtraSpec.post enc Try.prog Try.f3 false true false false) := by
  refine returnsInHanded_of_change (C := Try.checked) own_knob started (by kernel_rfl) Try.func3
    (ChangeSpec.witness6 (enc := enc) (C := Try.checked) false ⟨#[], #[.slice none 0 0], []⟩ 8 (by kernel_rfl) (by kernel_rfl) (by kernel_rfl) (by kernel_rfl)) ?_
  intro W base args ds gs before hval0 hW hcnd _
  have hval : ∀ (j : Nat) t v, Try.f3.params[j]? = some t → args[j]? = some v → Value.okWide Try.prog W .any base t v := hval0
  have hW' := hW
  obtain ⟨p, q, hA0, hV, rfl, hfz, hnd⟩ := hW
  have hA : DataW.TrodAll enc Try.prog W 0 (fun _ => true) true Try.f3.params.toList args.toList ds p := hA0
  rw [Try.params3] at hA hval
  obtain ⟨v0, vs0, d0, ds0, p0, q0, hargs, rfl, rfl, h0, r0⟩ := trodAll_cons hA
  obtain ⟨rfl, rfl, rfl⟩ := trodAll_nil r0
  obtain rfl : args = #[v0] := by cases args; simp_all
  obtain ⟨rfl, rfl⟩ := trodVars_none hV
  have k0 := h0
  have lt0 : ∀ x ∈ p0, x.block < W.heap.size := by obtain ⟨m, hm⟩ := k0; exact DataW.trod_lt m _ _ _ hm
  obtain ⟨A0, len0, cap0, rfl⟩ := okWide_slice Try.underlying22 (hval 0 22 v0 rfl rfl)
  obtain ⟨x0, w0⟩ : ∃ xs, Bytes W (.slice A0 len0 cap0) xs := by
    obtain ⟨fuel, hf⟩ := h0
    obtain ⟨v, xs, hcs, hx⟩ := bytes_open hf
    simp [Value.cells] at hcs
    subst hcs
    exact ⟨xs, hx⟩
  clear hA0 hval0
  refine (law_FnBarrierExtra _ x0 W w0).mono fun e W' ⟨he, bel⟩ => ?_
  subst he
  have bel' : Below W.heap.size W W' := bel
  exact ⟨_, rfl, _, _, _, [], _, [], hW', trodAll_mk1 (shut_bool Try.underlying4 _), (trodAll_cons_mk (Below.trod laid_out (by kernel_rfl) (of_decide_eq_true (by kernel_rfl)) k0 bel' lt0) trodAll_mk0), rfl, bel'.frame _, fun h => by cases h⟩

theorem proved : Rows.FnBarrierExtraSaid :=
  OpenClaim.holds_of_wide 3 Try.f3 rfl rfl rfl rfl rfl rfl rfl ⟨rfl, rfl, rfl, rfl, rfl⟩ rfl rfl rfl rfl rfl (by kernel_rfl) Try.func3 (by kernel_rfl)
    (of_decide_eq_true (by kernel_rfl)) (by unfold Func.isWrapper; rw [if_neg (of_decide_eq_false (by kernel_rfl))]; exact ⟨rfl, rfl⟩)
    (fun os started H enc _ => lifted os started H enc)

end Go.Proofs.Ytonmndojlnohcaa.rowFnBarrierExtra
