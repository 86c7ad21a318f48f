/- The law FnRaceBarrier, whole: A barrier separates the stores of all lanes from their loads. No condition. -/
import Derived.Test.YtonmndojlnohcaaKca
import Derived.Test.YtonmndojlnohcaaKcc
import Derived.Test.YtonmndojlnohcaaKcd
import Derived.Test.YtonmndojlnohcaaKce

namespace Go.Proofs.Ytonmndojlnohcaa
open Go.RowKit

theorem codes_mid {w : World} {b n c off : Nat} {pre cs post : List Cd} {t : TypeId} (h : w.heap[b]? = some (.cells ((pre ++ cs ++ post).flatMap cdCells).toArray t (0, 0))) (hn : n = cs.length) (ho : off = pre.length * 4) (hc1 : n ≤ c) (hc2 : c ≤ 1048576) : Codes w (.slice (some ⟨b, off, none⟩) n c) cs := by
  subst hn ho
  refine ⟨_, _, rfl, hc1, by omega, fun hn0 => ⟨b, pre.length * 4, rfl, ?_, fun j hj => ?_⟩⟩
  · exact (Array.getElem?_eq_some_iff.1 h).1
  · have hc := flat_cdf cs j hj
    refine (cell_of_row _ _ _ _ _ _ h).trans ?_
    have hlp : (pre.flatMap cdCells).length = pre.length * 4 := flat4 pre
    rw [List.getElem?_toArray, List.append_assoc, List.flatMap_append, List.getElem?_append_right (by omega), hlp, Nat.add_sub_cancel_left, List.flatMap_append, List.getElem?_append_left (by rw [flat4]; exact hj)]
    exact hc
theorem rb_open {w : World} {B T : Nat} {v : Value} {n : Nat} {cs ds : List Cd} (hT : T = 31) (ho : OwnO w B T 4 v n ((List.range (cs.length * 4)).map (cdf cs) ++ (List.range (ds.length * 4)).map (cdf ds))) (hn : n = (cs ++ ds).length) : Codes w v (cs ++ ds) := by
  subst hT
  have e : (List.range (cs.length * 4)).map (cdf cs) ++ (List.range (ds.length * 4)).map (cdf ds) = (cs ++ ds).flatMap cdCells := by rw [range_cdf, range_cdf]; simp
  rw [e] at ho
  exact Codes.of_ownO ho hn (flat_cdf _)
def rbA : List Cd := [⟨1, 2, 1, 0⟩, ⟨2, 0, 0, 0⟩, ⟨9, 0, 0, 0⟩]
def rbB : List Cd := [⟨3, 0, 2, 0⟩, ⟨8, 1, 0, 0⟩]

set_option maxHeartbeats 4000000 in
set_option maxRecDepth 100000 in
theorem law_FnRaceBarrier (v : Value) (bs : List Int) (w : World) (h : Bytes w v bs) :
    Calls Try.prog 8 #[v] w fun e w' => e = .returned (.bool true) ∧ Pure w w' := by
  have H := Lib.hid h
  obtain ⟨A, c, rfl, hnc, hcm⟩ := h.form
  clear h
  by_cases hbig : (bs.length : Int) > 1048576
  · go_enter Try.func8, Try.ntmps8
    go_wp2
    go_ret
    exact ⟨rfl, Pure.refl _⟩
  go_enter Try.func8, Try.ntmps8
  go_wp2_with fail
  refine (draw_DrawRaceFree _ bs _ H.out (by omega)).mono ?_
  rintro e w1 ⟨vl, cs, a, vm, mem, rfl, ha0, ha9, hl, hm, hcl, hml, hp1⟩
  have HM := Lib.hid hm
  have HP1 := Lib.hid hp1
  obtain ⟨Ac, cc, rfl, hcc1, hcc2⟩ := hl.form
  obtain ⟨Am, cm, rfl⟩ := hm.form
  clear hl hm hp1
  obtain ⟨wb, Hwb⟩ : ∃ wb, Hid (w1.alloc (.cells (rbC.flatMap cdCells).toArray 31) = wb) := ⟨_, Lib.hid rfl⟩
  have HB := Lib.hid (heap_alloc_new w1 (.cells (rbC.flatMap cdCells).toArray 31))
  have HPB := Lib.hid (show Pure w1 (w1.alloc (.cells (rbC.flatMap cdCells).toArray 31)) from (by repeat (first | assumption | exact Pure.refl _ | refine Pure.drewN ?_ _ | refine Pure.drew ?_ | refine Pure.alloc ?_ _ | refine Pure.setCell ?_ (by simp <;> omega) _)))
  rw [Hwb.out] at HB HPB
  have HC := Lib.hid (codes_lit (n := 6) HB.out rfl (by decide))
  have HC3 : Hid (Codes wb (.slice (some ⟨w1.heap.size, 0, none⟩) 3 6) rbA) := Lib.hid (codes_mid (pre := []) (cs := rbA) (post := [⟨10, 0, 0, 0⟩, ⟨3, 0, 2, 0⟩, ⟨8, 1, 0, 0⟩]) HB.out rfl rfl (by decide) (by decide))
  have HC4 : Hid (Codes wb (.slice (some ⟨w1.heap.size, 16, none⟩) 2 2) rbB) := Lib.hid (codes_mid (pre := [⟨1, 2, 1, 0⟩, ⟨2, 0, 0, 0⟩, ⟨9, 0, 0, 0⟩, ⟨10, 0, 0, 0⟩]) (cs := rbB) (post := []) HB.out rfl rfl (by decide) (by decide))
  obtain ⟨q, Hq⟩ : ∃ q, Hid (freeA rbC a mem = q) := ⟨_, Lib.hid rfl⟩
  obtain ⟨q0, Hq0⟩ : ∃ q0, Hid (freeA rbC0 a mem = q0) := ⟨_, Lib.hid rfl⟩
  go_wp2_with fail
  show (Code.region _ _ _).wp _ _ _ (w1.alloc (.cells (rbC.flatMap cdCells).toArray 31))
  rw [Hwb.out]
  refine region_heldF (fun w' => wb.heap.size ≤ w'.heap.size) [1, 2, 4, 5] [0, 3, 6, 7] (fun l => (l.drop 1).take 2 ++ (l.drop 4).take 2) (fun l => l.take 1 ++ ((l.drop 3).take 1 ++ l.drop 6)) (by kernel_rfl) (by kernel_rfl) (by kernel_rfl) (by kernel_rfl) (fun c a d v w h => by cases d <;> exact h) (show wb.heap.size ≤ wb.drew.heap.size from Nat.le_refl _) ?_
  simp only [List.take_succ_cons, List.take_zero, List.drop_succ_cons, List.drop_zero, List.cons_append, List.nil_append]
  apply held_of
  · exact rfl
  · intro w' hS
    go_simp
    try exact rfl
  try go_simp
  apply held_of
  · exact rfl
  · intro w' hS
    go_simp
    try exact rfl
  try go_simp
  apply held_of
  · exact rfl
  · intro w' hS
    go_simp
    try exact rfl
  try go_simp
  apply held_of
  · exact rfl
  · intro w' hS
    go_simp
    try exact rfl
  try go_simp
  refine held_nil ?_
  unfold Tail
  go_wp2
  refine And.intro (show Pure wb _ from (by repeat (first | assumption | exact Pure.refl _ | refine Pure.drewN ?_ _ | refine Pure.drew ?_ | refine Pure.alloc ?_ _ | refine Pure.setCell ?_ (by simp <;> omega) _))).size ?_
  unfold Tail
  rw [alloc_drew]
  refine wl_copyF elCode rfl _ _ rfl wb.heap.size rfl rfl _ rfl (cdf rbA) 3 (Cells.keep HC3.out (show Pure wb wb.drew from (by repeat (first | assumption | exact Pure.refl _ | refine Pure.drewN ?_ _ | refine Pure.drew ?_ | refine Pure.alloc ?_ _ | refine Pure.setCell ?_ (by simp <;> omega) _)))) (cdf_one rbA) (by decide) (by decide) rfl ?_
  intro v6 w6 r1 r2
  have HO6 := Lib.hid r1
  have HP6 := Lib.hid ((show Pure wb wb.drew from (by repeat (first | assumption | exact Pure.refl _ | refine Pure.drewN ?_ _ | refine Pure.drew ?_ | refine Pure.alloc ?_ _ | refine Pure.setCell ?_ (by simp <;> omega) _))).trans r2)
  clear r1 r2
  go_wp2
  refine And.intro HP6.out.size ?_
  unfold Tail
  refine wl_appendG elCode rfl _ _ rfl wb.heap.size _ 3 _ rfl HO6.out _ rfl (cdf rbB) 2 (Cells.keep HC4.out HP6.out) (cdf_one rbB) (by decide) (by decide) HP6.out.size ?_
  intro v7 w7 r1 r2
  have HP7 := Lib.hid (HP6.out.grown r2 (fun k hk => (HO6.out.lt k hk).1))
  have HC7 : Hid (Codes w7 v7 rbC0) := Lib.hid (rb_open (cs := rbA) (ds := rbB) rfl r1 rfl)
  clear r1 r2
  go_wp2
  refine And.intro HP7.out.size ?_
  unfold Tail
  go_wp2_with fail
  have HCa := Lib.hid (HC.out.keep HP7.out)
  refine (irf_any _ _ rbC a mem _ HCa.out (HM.out.keep (HPB.out.trans HP7.out)) (by decide) (by omega)).mono ?_
  rintro e w2 ⟨rfl, hp2⟩
  rw [Hq.out]
  have HP2 := Lib.hid ((HPB.out.trans HP7.out).trans hp2)
  have HC2 := Lib.hid (HCa.out.keep hp2)
  have HD2 := Lib.hid (HC7.out.keep hp2)
  obtain ⟨A7, c7, rfl, _, _⟩ := HC7.out.form
  clear hp2
  go_wp2_with fail
  refine (srf_any _ _ rbC a mem _ HC2.out (HM.out.keep HP2.out) (by decide) (by omega)).mono ?_
  rintro e w3 ⟨rfl, hp3⟩
  rw [Hq.out]
  have hqq : (q != q) = false := by simp
  have HP3 := Lib.hid (HP2.out.trans hp3)
  have HC3b := Lib.hid (HC2.out.keep hp3)
  have HD3 := Lib.hid (HD2.out.keep hp3)
  clear hp3
  by_cases hok : RunOk rbC a mem
  · obtain ⟨n, rfl, hn1, hn8⟩ := lanes_nat hok.2.1
    have hok0 : RunOk rbC0 n mem := ⟨(line_lock (cs := rbC0) (mem := mem) hn1 rb_plain0 (by decide)).1, hok.2⟩
    have hq1 : n < mem.length → q = true := fun h => by rw [← Hq.out]; exact rb_free hok h
    have hq2 : n < mem.length → q0 = decide (n = 1) := fun h => by rw [← Hq0.out]; exact rb_free0 hok0 h
    have HOK := Lib.hid hok
    clear hok hok0
    go_wp2_with fail
    refine (runs_any _ _ rbC n mem _ HC3b.out (HM.out.keep HP3.out) (by decide) (by omega) true (by simp only [true_iff]; exact HOK.out)).mono ?_
    rintro e w4 ⟨rfl, hp4⟩
    have HP4 := Lib.hid (HP3.out.trans hp4)
    have HD4 := Lib.hid (HD3.out.keep hp4)
    clear hp4
    by_cases hlt : n < mem.length
    · have hqt := hq1 hlt
      have hq0 := hq2 hlt
      subst hqt
      have hge : ¬ (n : Int) ≥ (mem.length : Int) := by omega
      have HQ0 := Lib.hid hq0
      clear hq1 hq2 hq0
      go_wp2_with fail
      refine (irf_any _ _ rbC0 n mem _ HD4.out (HM.out.keep HP4.out) (by decide) (by omega)).mono ?_
      rintro e w5 ⟨rfl, hp5⟩
      have HP5 := Lib.hid (HP4.out.trans hp5)
      rw [Hq0.out, HQ0.out]
      clear hp5
      by_cases h1 : n = 1
      · have ht : ((n : Int) == 1) = true := by rw [beq_iff_eq]; omega
        rw [decide_eq_true h1]
        go_wp2_with fail
        refine (alive_any _).mono ?_
        rintro e w6 ⟨rfl, hp6⟩
        go_wp2
        go_ret
        exact ⟨rfl, (HP1.out.trans HP5.out).trans hp6⟩
      · have ht : ((n : Int) == 1) = false := by rw [beq_eq_false_iff_ne]; omega
        rw [decide_eq_false h1]
        go_wp2_with fail
        refine (alive_any _).mono ?_
        rintro e w6 ⟨rfl, hp6⟩
        go_wp2
        go_ret
        exact ⟨rfl, (HP1.out.trans HP5.out).trans hp6⟩
    · have hge : (n : Int) ≥ (mem.length : Int) := by omega
      clear hq1 hq2
      go_wp2_with fail
      refine (alive_any _).mono ?_
      rintro e w5 ⟨rfl, hp5⟩
      go_wp2
      go_ret
      exact ⟨rfl, (HP1.out.trans HP4.out).trans hp5⟩
  · have HOK := Lib.hid hok
    clear hok
    go_wp2_with fail
    refine (runs_any _ _ rbC a mem _ HC3b.out (HM.out.keep HP3.out) (by decide) (by omega) false (by simp [HOK.out])).mono ?_
    rintro e w4 ⟨rfl, hp4⟩
    have HP4 := Lib.hid (HP3.out.trans hp4)
    clear hp4
    go_wp2_with fail
    refine (alive_any _).mono ?_
    rintro e w5 ⟨rfl, hp5⟩
    go_wp2
    go_ret
    exact ⟨rfl, (HP1.out.trans HP4.out).trans hp5⟩

end Go.Proofs.Ytonmndojlnohcaa

namespace Go.Proofs.Ytonmndojlnohcaa.rowFnRaceBarrier
open Go.ChangeShapes Go.WideShapes Go.ChangeAt Go.RowKit Go.Deep

set_option maxRecDepth 100000 in
theorem lifted (os : Os) (started : os.Started) (H : Type) (enc : TypeId × Value → H) :
    ReturnsInHanded {} Try.checked os 8 .any (Rows.fnRaceBarrierSpec.pre6 enc Try.prog Try.f8 Rows.fnRaceBarrierRow.domain false) (Rows.fnRaceBarrierSpec.post enc Try.prog Try.f8 false true false false) := by
  refine returnsInHanded_of_change (C := Try.checked) own_knob started (by kernel_rfl) Try.func8
    (ChangeSpec.witness6 (enc := enc) (C := Try.checked) false ⟨#[], #[.slice none 0 0], []⟩ 8 (by kernel_rfl) (by kernel_rfl) (by kernel_rfl) (by kernel_rfl)) ?_
  intro W base args ds gs before hval0 hW hcnd _
  have hval : ∀ (j : Nat) t v, Try.f8.params[j]? = some t → args[j]? = some v → Value.okWide Try.prog W .any base t v := hval0
  have hW' := hW
  obtain ⟨p, q, hA0, hV, rfl, hfz, hnd⟩ := hW
  have hA : DataW.TrodAll enc Try.prog W 0 (fun _ => true) true Try.f8.params.toList args.toList ds p := hA0
  rw [Try.params8] at hA hval
  obtain ⟨v0, vs0, d0, ds0, p0, q0, hargs, rfl, rfl, h0, r0⟩ := trodAll_cons hA
  obtain ⟨rfl, rfl, rfl⟩ := trodAll_nil r0
  obtain rfl : args = #[v0] := by cases args; simp_all
  obtain ⟨rfl, rfl⟩ := trodVars_none hV
  have k0 := h0
  have lt0 : ∀ x ∈ p0, x.block < W.heap.size := by obtain ⟨m, hm⟩ := k0; exact DataW.trod_lt m _ _ _ hm
  obtain ⟨A0, len0, cap0, rfl⟩ := okWide_slice Try.underlying22 (hval 0 22 v0 rfl rfl)
  obtain ⟨x0, w0⟩ : ∃ xs, Bytes W (.slice A0 len0 cap0) xs := by
    obtain ⟨fuel, hf⟩ := h0
    obtain ⟨v, xs, hcs, hx⟩ := bytes_open hf
    simp [Value.cells] at hcs
    subst hcs
    exact ⟨xs, hx⟩
  clear hA0 hval0
  refine (law_FnRaceBarrier _ x0 W w0).mono fun e W' ⟨he, bel⟩ => ?_
  subst he
  have bel' : Below W.heap.size W W' := bel
  exact ⟨_, rfl, _, _, _, [], _, [], hW', trodAll_mk1 (shut_bool Try.underlying4 _), (trodAll_cons_mk (Below.trod laid_out (by kernel_rfl) (of_decide_eq_true (by kernel_rfl)) k0 bel' lt0) trodAll_mk0), rfl, bel'.frame _, fun h => by cases h⟩

theorem proved : Rows.FnRaceBarrierSaid :=
  OpenClaim.holds_of_wide 8 Try.f8 rfl rfl rfl rfl rfl rfl rfl ⟨rfl, rfl, rfl, rfl, rfl⟩ rfl rfl rfl rfl rfl (by kernel_rfl) Try.func8 (by kernel_rfl)
    (of_decide_eq_true (by kernel_rfl)) (by unfold Func.isWrapper; rw [if_neg (of_decide_eq_false (by kernel_rfl))]; exact ⟨rfl, rfl⟩)
    (fun os started H enc _ => lifted os started H enc)

end Go.Proofs.Ytonmndojlnohcaa.rowFnRaceBarrier
