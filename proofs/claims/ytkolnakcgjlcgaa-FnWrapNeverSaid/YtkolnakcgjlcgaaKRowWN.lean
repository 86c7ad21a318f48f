/- The law FnWrapNever, whole: For two readable slices of bytes of any contents: FnWrapNever returns true, does not panic, and changes nothing. No condition. -/
import Derived.Test.YtkolnakcgjlcgaaKbh
import Derived.Test.YtkolnakcgjlcgaaKcc

namespace Go.Proofs.Ytkolnakcgjlcgaa
open Go.RowKit

theorem wrap_lock {cs : List Cd} {cd : Cd} {r : Int} {mem : List Int} {n : Nat} (hn : 1 ≤ n) (hv : PValid cs) (hr : Reg r) (hcd : cd = cIf r ∨ cd = cLoop r 3) (hw : PValid (wrC cd cs)) :
    ∃ R, (lockOf (wrC cd cs) n mem).H = [(0, 2 ^ n - 1, R)] ∧ (lockOf (wrC cd cs) n mem).M = (startLS mem).M := by
  obtain ⟨h1, h2, _⟩ := treeOf_spec hv
  have hm : (2 ^ n - 1 : Nat) ≠ 0 := by have := Nat.pow_le_pow_right (show 0 < 2 by decide) hn; omega
  have ho : onesTo (startLS mem).R (2 ^ n - 1) r.toNat n = 0 := onesTo_zero (R := (startLS mem).R) (fun _ => rfl) _ _
  have ho' : onesTo (beat 0 (2 ^ n - 1) (startLS mem)).R (2 ^ n - 1) r.toNat n = 0 := ho
  refine ⟨(startLS mem).R, ?_⟩
  rcases hcd with rfl | rfl
  · have hok : (Tr.ite r (treeOf cs) .nil).Ok := ⟨hr, h2, trivial⟩
    have e := treeOf_eq hw (t := Tr.ite r (treeOf cs) .nil) (by simp [wrC, Tr.flat]; exact h1) hok
    unfold lockOf
    rw [e]
    simp only [run, if_neg hm, ho, run_zero]
    exact ⟨rfl, rfl⟩
  · have hok : (Tr.loop r 3 (treeOf cs) .nil).Ok := ⟨hr, by decide, h2, trivial⟩
    have e := treeOf_eq hw (t := Tr.loop r 3 (treeOf cs) .nil) (by simp [wrC, Tr.flat]; exact h1) hok
    unfold lockOf
    rw [e]
    simp only [run, if_neg hm]
    show (turns _ n r.toNat 3 (2 ^ n - 1) (beat 0 (2 ^ n - 1) (startLS mem))).H = _ ∧ (turns _ n r.toNat 3 (2 ^ n - 1) (beat 0 (2 ^ n - 1) (startLS mem))).M = _
    unfold turns
    rw [ho', run_zero, turns_zero]
    exact ⟨rfl, rfl⟩
theorem range_mem (mem : List Int) : (List.range mem.length).map (startLS mem).M = mem := by
  apply List.ext_getElem?
  intro j
  by_cases h : j < mem.length
  · simp [h, startLS, List.getD_eq_getElem?_getD]
  · rw [List.getElem?_eq_none (by simp; omega), List.getElem?_eq_none (by omega)]
theorem wrap_mem {cs : List Cd} {cd : Cd} {r : Int} {mem : List Int} {n : Nat} (h : RunOk cs n mem) (hr : Reg r) (hcd : cd = cIf r ∨ cd = cLoop r 3) (hw : PValid (wrC cd cs)) :
    memA (wrC cd cs) n mem = mem ∧ wholeA (wrC cd cs) n mem = true ∧ ∃ R, (lockOf (wrC cd cs) n mem).H = [(0, 2 ^ n - 1, R)] := by
  have hk : RunOk (wrC cd cs) n mem := ⟨hw, h.2⟩
  have hn : 1 ≤ n := by have := h.2.1.1; omega
  obtain ⟨R, e1, e2⟩ := wrap_lock (mem := mem) hn h.1 hr hcd hw
  rw [memA_ok hk, wholeA_ok hk, e1, e2, range_mem]
  refine ⟨rfl, ?_, R, rfl⟩
  simp [splitH]

end Go.Proofs.Ytkolnakcgjlcgaa

namespace Go.Proofs.Ytkolnakcgjlcgaa
open Go.RowKit

set_option maxHeartbeats 4000000 in
set_option maxRecDepth 100000 in
theorem law_FnWrapNever (v : Value) (bs : List Int) (v' : Value) (bs2 : List Int) (w : World) (h : Bytes w v bs) (h2 : Bytes w v' bs2) :
    Calls Try.prog 13 #[v, v'] w fun e w' => e = .returned (.bool true) ∧ Pure w w' := by
  have H := Lib.hid h
  have H2 := Lib.hid h2
  obtain ⟨A, c, rfl, hnc, hcm⟩ := h.form
  obtain ⟨A', c', rfl, hnc', hcm'⟩ := h2.form
  clear h h2
  by_cases hbig : (bs.length : Int) > 1048576
  · go_enter Try.func13, Try.ntmps13
    go_wp2
    go_ret
    exact ⟨rfl, Pure.refl _⟩
  by_cases hbig2 : (bs2.length : Int) > 1048576
  · go_enter Try.func13, Try.ntmps13
    go_wp2
    go_ret
    exact ⟨rfl, Pure.refl _⟩
  go_enter Try.func13, Try.ntmps13
  go_wp2_with fail
  refine (draw_DrawRunLock _ bs _ H.out (by omega)).mono ?_
  rintro e w1 ⟨vl, cs, a, vm, mem, rfl, ha0, ha9, hl, hm, hcl, hml, hp1⟩
  have HC := Lib.hid hl
  have HM := Lib.hid hm
  have HP1 := Lib.hid hp1
  obtain ⟨Ac, cc, rfl, hcc1, hcc2⟩ := hl.form
  obtain ⟨Am, cm, rfl⟩ := hm.form
  clear hl hm hp1
  obtain ⟨x, Hx⟩ : ∃ x : Int, Hid ((bs2.length : Int) % 4 = x) := ⟨_, Lib.hid rfl⟩
  have hreg : Reg x := by rw [← Hx.out]; unfold Reg; omega
  have HLB := Lib.hid (heap_alloc_new w1 (.cells #[.int .i64 11, .int .i64 ((bs2.length : Int) % 4), .int .i64 0, .int .i64 0, .int .i64 13, .int .i64 ((bs2.length : Int) % 4), .int .i64 3, .int .i64 0] 36))
  have HPB := Lib.hid (show Pure w1 (w1.alloc (.cells #[.int .i64 11, .int .i64 ((bs2.length : Int) % 4), .int .i64 0, .int .i64 0, .int .i64 13, .int .i64 ((bs2.length : Int) % 4), .int .i64 3, .int .i64 0] 36)) from (by repeat (first | assumption | exact Pure.refl _ | refine Pure.drewN ?_ _ | refine Pure.drew ?_ | refine Pure.alloc ?_ _ | refine Pure.setCell ?_ (by simp <;> omega) _)))
  obtain ⟨wb, Hwb⟩ : ∃ wb, Hid (w1.alloc (.cells #[.int .i64 11, .int .i64 ((bs2.length : Int) % 4), .int .i64 0, .int .i64 0, .int .i64 13, .int .i64 ((bs2.length : Int) % 4), .int .i64 3, .int .i64 0] 36) = wb) := ⟨_, Lib.hid rfl⟩
  obtain ⟨cd, hcd, q0, q1, q2, q3⟩ : ∃ cd : Cd, (cd = cIf x ∨ cd = cLoop x 3) ∧ (w1.alloc (.cells #[.int .i64 11, .int .i64 ((bs2.length : Int) % 4), .int .i64 0, .int .i64 0, .int .i64 13, .int .i64 ((bs2.length : Int) % 4), .int .i64 3, .int .i64 0] 36)).cell? ⟨w1.heap.size, bs2.length / 4 % 2 * 4, none⟩ = some (.int .i64 cd.op) ∧
      (w1.alloc (.cells #[.int .i64 11, .int .i64 ((bs2.length : Int) % 4), .int .i64 0, .int .i64 0, .int .i64 13, .int .i64 ((bs2.length : Int) % 4), .int .i64 3, .int .i64 0] 36)).cell? ⟨w1.heap.size, bs2.length / 4 % 2 * 4 + 1, none⟩ = some (.int .i64 cd.a) ∧
      (w1.alloc (.cells #[.int .i64 11, .int .i64 ((bs2.length : Int) % 4), .int .i64 0, .int .i64 0, .int .i64 13, .int .i64 ((bs2.length : Int) % 4), .int .i64 3, .int .i64 0] 36)).cell? ⟨w1.heap.size, bs2.length / 4 % 2 * 4 + 2, none⟩ = some (.int .i64 cd.b) ∧
      (w1.alloc (.cells #[.int .i64 11, .int .i64 ((bs2.length : Int) % 4), .int .i64 0, .int .i64 0, .int .i64 13, .int .i64 ((bs2.length : Int) % 4), .int .i64 3, .int .i64 0] 36)).cell? ⟨w1.heap.size, bs2.length / 4 % 2 * 4 + 3, none⟩ = some (.int .i64 cd.c) := by
    have hj : bs2.length / 4 % 2 = 0 ∨ bs2.length / 4 % 2 = 1 := by omega
    rcases hj with hj | hj
    · refine ⟨cIf x, .inl rfl, ?_, ?_, ?_, ?_⟩ <;> rw [hj] <;> refine (cell_of_row _ _ _ _ _ _ HLB.out).trans ?_ <;> simp [cIf, Hx.out]
    · refine ⟨cLoop x 3, .inr rfl, ?_, ?_, ?_, ?_⟩ <;> rw [hj] <;> refine (cell_of_row _ _ _ _ _ _ HLB.out).trans ?_ <;> simp [cLoop, Hx.out]
  have Hcd := Lib.hid hcd
  clear hcd
  go_wp2_with fail
  rw [Hwb.out]
  rw [Hwb.out] at q0 q1 q2 q3
  have HPW : Hid (Pure w1 wb) := Lib.hid (Hwb.out ▸ HPB.out)
  obtain ⟨B, hB⟩ : ∃ B : Bool, B = true ↔ PValid (wrC cd cs) := by
    by_cases hp : PValid (wrC cd cs)
    · exact ⟨true, by simp [hp]⟩
    · exact ⟨false, by simp [hp]⟩
  have HB := Lib.hid hB
  clear hB q0 q1 q2 q3
  have HEL : Hid ((wrC cd cs).length = 1 + cs.length + 1) := Lib.hid (by simp [wrC]; omega)
  refine (wrapped_any cd _ cs wb (HC.out.keep HPW.out) (by omega) B HB.out).mono ?_
  rintro e w2 ⟨v2, rfl, hc2, hp2⟩
  have HC2 := Lib.hid hc2
  have HP2 := Lib.hid (HPW.out.trans hp2)
  obtain ⟨A2, c2, rfl, hc21, hc22⟩ := hc2.form
  clear hc2 hp2
  cases B
  · go_wp2_with fail
    refine (alive_any _).mono ?_
    rintro e w9 ⟨rfl, hp9⟩
    go_wp2
    go_ret
    exact ⟨rfl, (HP1.out.trans HP2.out).trans hp9⟩
  by_cases hok : RunOk cs a mem
  · have HOK := Lib.hid hok
    obtain ⟨n, rfl, hn1, hn8⟩ := lanes_nat hok.2.1
    have hwv : PValid (wrC cd cs) := HB.out.1 (by trivial)
    have hwm := wrap_mem hok hreg Hcd.out hwv
    have HWM := Lib.hid hwm
    have HKR : Hid (RunOk (wrC cd cs) n mem) := Lib.hid ⟨hwv, hok.2⟩
    clear hok hwv hwm
    go_wp2_with fail
    refine (runs_any _ _ cs n mem _ (HC.out.keep HP2.out) (HM.out.keep HP2.out) (by omega) (by omega) true (by simp only [true_iff]; exact HOK.out)).mono ?_
    rintro e w3 ⟨rfl, hp3⟩
    have HP3 := Lib.hid (HP2.out.trans hp3)
    have HC3 := Lib.hid (HC2.out.keep hp3)
    clear hp3
    go_wp2_with fail
    refine (irl_any _ _ (wrC cd cs) n mem _ HC3.out (HM.out.keep HP3.out) (by have := HEL.out; omega) (by omega)).mono ?_
    rintro e w4 ⟨v4, rfl, ho4, hp4⟩
    have hi4 : Ints w4 v4 mem := HWM.out.1 ▸ ints_own ho4
    have HI4 := Lib.hid hi4
    have HP4 := Lib.hid (HP3.out.trans hp4)
    have HC4 := Lib.hid (HC3.out.keep hp4)
    obtain ⟨A4, c4, rfl⟩ := hi4.form
    rw [HWM.out.2.1]
    clear hi4 ho4 hp4
    go_wp2_with fail
    refine (srl_any _ _ (wrC cd cs) n mem _ HC4.out (HM.out.keep HP4.out) (by have := HEL.out; omega) (by omega)).mono ?_
    rintro e w5 ⟨v5, rfl, ho5, hp5⟩
    have hi5 : Ints w5 v5 mem := HWM.out.1 ▸ ints_own ho5
    have HI5 := Lib.hid hi5
    have HP5 := Lib.hid (HP4.out.trans hp5)
    have HC5 := Lib.hid (HC4.out.keep hp5)
    have HI45 := Lib.hid (Cells.keep HI4.out hp5)
    obtain ⟨A5, c5, rfl⟩ := hi5.form
    rw [HWM.out.2.1]
    clear hi5 ho5 hp5
    go_wp2_with fail
    refine (sameInts_same _ _ mem _ HI45.out HI5.out (by omega)).mono ?_
    rintro e w6 ⟨rfl, hp6⟩
    have HP6 := Lib.hid (HP5.out.trans hp6)
    have HC6 := Lib.hid (HC5.out.keep hp6)
    have HI6 := Lib.hid (Cells.keep HI45.out hp6)
    clear hp6
    go_wp2_with fail
    refine (sameInts_same _ _ mem _ HI6.out (HM.out.keep HP6.out) (by omega)).mono ?_
    rintro e w7 ⟨rfl, hp7⟩
    have HP7 := Lib.hid (HP6.out.trans hp7)
    have HC7 := Lib.hid (HC6.out.keep hp7)
    clear hp7
    go_wp2_with fail
    refine (itra_any _ _ (wrC cd cs) n mem _ HC7.out (HM.out.keep HP7.out) (by have := HEL.out; omega) (by omega)).mono ?_
    rintro e w8 ⟨v8, rfl, ho8, hp8⟩
    have hlen : (lockA (wrC cd cs) n mem).H.length = 1 := by
      obtain ⟨R, hR⟩ := HWM.out.2.2
      rw [lockA_ok HKR.out, hR]; rfl
    obtain ⟨A8, c8, rfl⟩ := ho8.form
    rw [hlen]
    clear ho8
    go_wp2
    go_ret
    exact ⟨rfl, (HP1.out.trans HP7.out).trans hp8⟩
  · have HOK := Lib.hid hok
    clear hok
    go_wp2_with fail
    refine (runs_any _ _ cs a mem _ (HC.out.keep HP2.out) (HM.out.keep HP2.out) (by omega) (by omega) false (by simp [HOK.out])).mono ?_
    rintro e w7 ⟨rfl, hp7⟩
    go_wp2_with fail
    refine (alive_any _).mono ?_
    rintro e w9 ⟨rfl, hp9⟩
    go_wp2
    go_ret
    exact ⟨rfl, ((HP1.out.trans HP2.out).trans hp7).trans hp9⟩

end Go.Proofs.Ytkolnakcgjlcgaa

namespace Go.Proofs.Ytkolnakcgjlcgaa.rowFnWrapNever
open Go.ChangeShapes Go.WideShapes Go.ChangeAt Go.RowKit Go.Deep

set_option maxRecDepth 100000 in
theorem lifted (os : Os) (started : os.Started) (H : Type) (enc : TypeId × Value → H) :
    ReturnsInHanded {} Try.checked os 13 .any (Rows.fnWrapNeverSpec.pre6 enc Try.prog Try.f13 Rows.fnWrapNeverRow.domain false) (Rows.fnWrapNeverSpec.post enc Try.prog Try.f13 false true false false) := by
  refine returnsInHanded_of_change (C := Try.checked) own_knob started (by kernel_rfl) Try.func13
    (ChangeSpec.witness6 (enc := enc) (C := Try.checked) false ⟨#[], #[.slice none 0 0, .slice none 0 0], []⟩ 8 (by kernel_rfl) (by kernel_rfl) (by kernel_rfl) (by kernel_rfl)) ?_
  intro W base args ds gs before hval0 hW hcnd _
  have hval : ∀ (j : Nat) t v, Try.f13.params[j]? = some t → args[j]? = some v → Value.okWide Try.prog W .any base t v := hval0
  have hW' := hW
  obtain ⟨p, q, hA0, hV, rfl, hfz, hnd⟩ := hW
  have hA : DataW.TrodAll enc Try.prog W 0 (fun _ => true) true Try.f13.params.toList args.toList ds p := hA0
  rw [Try.params13] at hA hval
  obtain ⟨v0, vs0, d0, ds0, p0, q0, hargs, rfl, rfl, h0, r0⟩ := trodAll_cons hA
  obtain ⟨v1, vs1, d1, ds1, p1, q1, rfl, rfl, rfl, h1, r1⟩ := trodAll_cons r0
  obtain ⟨rfl, rfl, rfl⟩ := trodAll_nil r1
  obtain rfl : args = #[v0, v1] := by cases args; simp_all
  obtain ⟨rfl, rfl⟩ := trodVars_none hV
  have k0 := h0
  have lt0 : ∀ x ∈ p0, x.block < W.heap.size := by obtain ⟨m, hm⟩ := k0; exact DataW.trod_lt m _ _ _ hm
  obtain ⟨A0, len0, cap0, rfl⟩ := okWide_slice Try.underlying22 (hval 0 22 v0 rfl rfl)
  obtain ⟨x0, w0⟩ : ∃ xs, Bytes W (.slice A0 len0 cap0) xs := by
    obtain ⟨fuel, hf⟩ := h0
    obtain ⟨v, xs, hcs, hx⟩ := bytes_open hf
    simp [Value.cells] at hcs
    subst hcs
    exact ⟨xs, hx⟩
  have k1 := h1
  have lt1 : ∀ x ∈ p1, x.block < W.heap.size := by obtain ⟨m, hm⟩ := k1; exact DataW.trod_lt m _ _ _ hm
  obtain ⟨A1, len1, cap1, rfl⟩ := okWide_slice Try.underlying22 (hval 1 22 v1 rfl rfl)
  obtain ⟨x1, w1⟩ : ∃ xs, Bytes W (.slice A1 len1 cap1) xs := by
    obtain ⟨fuel, hf⟩ := h1
    obtain ⟨v, xs, hcs, hx⟩ := bytes_open hf
    simp [Value.cells] at hcs
    subst hcs
    exact ⟨xs, hx⟩
  clear hA0 hval0
  refine (law_FnWrapNever _ x0 _ x1 W w0 w1).mono fun e W' ⟨he, bel⟩ => ?_
  subst he
  have bel' : Below W.heap.size W W' := bel
  exact ⟨_, rfl, _, _, _, [], _, [], hW', trodAll_mk1 (shut_bool Try.underlying4 _), (trodAll_cons_mk (Below.trod laid_out (by kernel_rfl) (of_decide_eq_true (by kernel_rfl)) k0 bel' lt0) (trodAll_cons_mk (Below.trod laid_out (by kernel_rfl) (of_decide_eq_true (by kernel_rfl)) k1 bel' lt1) trodAll_mk0)), rfl, bel'.frame _, fun h => by cases h⟩

theorem proved : Rows.FnWrapNeverSaid :=
  OpenClaim.holds_of_wide 13 Try.f13 rfl rfl rfl rfl rfl rfl rfl ⟨rfl, rfl, rfl, rfl, rfl⟩ rfl rfl rfl rfl rfl (by kernel_rfl) Try.func13 (by kernel_rfl)
    (of_decide_eq_true (by kernel_rfl)) (by unfold Func.isWrapper; rw [if_neg (of_decide_eq_false (by kernel_rfl))]; exact ⟨rfl, rfl⟩)
    (fun os started H enc _ => lifted os started H enc)

end Go.Proofs.Ytkolnakcgjlcgaa.rowFnWrapNever
