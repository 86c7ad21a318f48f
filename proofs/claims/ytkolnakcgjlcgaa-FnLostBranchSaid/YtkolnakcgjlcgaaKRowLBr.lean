/- The law FnLostBranch, whole: One branch loses one instruction. No condition. -/
import Derived.Test.YtkolnakcgjlcgaaKba
import Derived.Test.YtkolnakcgjlcgaaKbg
import Derived.Test.YtkolnakcgjlcgaaKbh
import Derived.Test.YtkolnakcgjlcgaaKbi

namespace Go.Proofs.Ytkolnakcgjlcgaa
open Go.RowKit

def lbT : Tr := .op ⟨2, 0, 0, 0⟩ (.itee 0 (.op ⟨1, 1, 1, 0⟩ .nil) (.op ⟨1, 1, 2, 0⟩ .nil) .nil)
def lbC : List Cd := [⟨2, 0, 0, 0⟩, ⟨11, 0, 0, 0⟩, ⟨1, 1, 1, 0⟩, ⟨12, 0, 0, 0⟩, ⟨1, 1, 2, 0⟩, ⟨14, 0, 0, 0⟩]
theorem lb_flat : lbC = lbT.flat := rfl
theorem lb_ok : lbT.Ok := by simp [lbT, Tr.Ok, Plain, CdOk, Reg, Word]
theorem lb_valid : PValid lbC := valid_of_tree lb_ok (by decide) (by decide)
def lbV (n : Nat) (mem : List Int) : Int := ((costTo lbC (run n mem.length lbT 0 (2 ^ n - 1) (startLS mem)).H (run n mem.length lbT 0 (2 ^ n - 1) (startLS mem)).H.length : Nat) : Int) - (mostTo lbC (run n mem.length lbT 0 (2 ^ n - 1) (startLS mem)).H n : Nat)
theorem lb_1 (mem : List Int) : lbV 1 mem = 0 := by kernel_rfl
theorem lb_2 (mem : List Int) : lbV 2 mem = 1 := by kernel_rfl
theorem lb_3 (mem : List Int) : lbV 3 mem = 1 := by kernel_rfl
theorem lb_4 (mem : List Int) : lbV 4 mem = 1 := by kernel_rfl
theorem lb_5 (mem : List Int) : lbV 5 mem = 1 := by kernel_rfl
theorem lb_6 (mem : List Int) : lbV 6 mem = 1 := by kernel_rfl
theorem lb_7 (mem : List Int) : lbV 7 mem = 1 := by kernel_rfl
theorem lb_8 (mem : List Int) : lbV 8 mem = 1 := by kernel_rfl
theorem lb_lost {n : Nat} {mem : List Int} (h : RunOk lbC n mem) (h1 : 1 ≤ n) (h8 : n ≤ 8) : lostA lbC n mem = min 1 ((n : Int) - 1) := by
  rw [lostA_ok h]
  have e : lockOf lbC n mem = run n mem.length lbT 0 (2 ^ n - 1) (startLS mem) := by unfold lockOf; rw [treeOf_eq lb_valid lb_flat lb_ok]
  rw [e]
  show lbV n mem = _
  have : n = 1 ∨ n = 2 ∨ n = 3 ∨ n = 4 ∨ n = 5 ∨ n = 6 ∨ n = 7 ∨ n = 8 := by omega
  rcases this with rfl | rfl | rfl | rfl | rfl | rfl | rfl | rfl
  · exact (lb_1 mem).trans (by decide)
  · exact (lb_2 mem).trans (by decide)
  · exact (lb_3 mem).trans (by decide)
  · exact (lb_4 mem).trans (by decide)
  · exact (lb_5 mem).trans (by decide)
  · exact (lb_6 mem).trans (by decide)
  · exact (lb_7 mem).trans (by decide)
  · exact (lb_8 mem).trans (by decide)

/-- A block that holds the cells of a program, wholly. -/
theorem codes_lit {w : World} {b n : Nat} {cs : List Cd} {t : TypeId} (h : w.heap[b]? = some (.cells (cs.flatMap cdCells).toArray t (0, 0))) (hn : n = cs.length) (hl : n ≤ 1048576) : Codes w (.slice (some ⟨b, 0, none⟩) n n) cs := by
  subst hn
  refine ⟨_, _, rfl, Nat.le_refl _, by omega, fun hn0 => ⟨b, 0, rfl, ?_, fun j hj => ?_⟩⟩
  · exact (Array.getElem?_eq_some_iff.1 h).1
  · have hc := flat_cdf cs j hj
    exact (cell_of_row _ _ _ _ _ _ h).trans (by simpa using hc)

set_option maxHeartbeats 4000000 in
set_option maxRecDepth 100000 in
theorem law_FnLostBranch (v : Value) (bs : List Int) (w : World) (h : Bytes w v bs) :
    Calls Try.prog 11 #[v] w fun e w' => e = .returned (.bool true) ∧ Pure w w' := by
  have H := Lib.hid h
  obtain ⟨A, c, rfl, hnc, hcm⟩ := h.form
  clear h
  by_cases hbig : (bs.length : Int) > 1048576
  · go_enter Try.func11, Try.ntmps11
    go_wp2
    go_ret
    exact ⟨rfl, Pure.refl _⟩
  go_enter Try.func11, Try.ntmps11
  go_wp2_with fail
  refine (draw_DrawLostCost _ bs _ H.out (by omega)).mono ?_
  rintro e w1 ⟨vl, cs, a, vm, mem, rfl, ha0, ha9, hl, hm, hcl, hml, hp1⟩
  have HM := Lib.hid hm
  have HP1 := Lib.hid hp1
  obtain ⟨Ac, cc, rfl, hcc1, hcc2⟩ := hl.form
  obtain ⟨Am, cm, rfl⟩ := hm.form
  clear hl hm hp1
  have HB := Lib.hid (heap_alloc_new w1 (.cells (lbC.flatMap cdCells).toArray 36))
  have HPB := Lib.hid (show Pure w1 (w1.alloc (.cells (lbC.flatMap cdCells).toArray 36)) from (by repeat (first | assumption | exact Pure.refl _ | refine Pure.drewN ?_ _ | refine Pure.drew ?_ | refine Pure.alloc ?_ _ | refine Pure.setCell ?_ (by simp <;> omega) _)))
  obtain ⟨wb, Hwb⟩ : ∃ wb, Hid (w1.alloc (.cells (lbC.flatMap cdCells).toArray 36) = wb) := ⟨_, Lib.hid rfl⟩
  rw [Hwb.out] at HB HPB
  have HC := Lib.hid (codes_lit (n := 6) HB.out rfl (by decide))
  obtain ⟨q, Hq⟩ : ∃ q, Hid (lostA lbC a mem = q) := ⟨_, Lib.hid rfl⟩
  go_wp2_with fail
  show Calls _ _ _ (w1.alloc (.cells (lbC.flatMap cdCells).toArray 36)) _
  rw [Hwb.out]
  refine (ilost_any _ _ lbC a mem _ HC.out (HM.out.keep HPB.out) (by decide) (by omega)).mono ?_
  rintro e w2 ⟨rfl, hp2⟩
  rw [Hq.out]
  have HP2 := Lib.hid (HPB.out.trans hp2)
  have HC2 := Lib.hid (HC.out.keep hp2)
  clear hp2
  go_wp2_with fail
  refine (slost_any _ _ lbC a mem _ HC2.out (HM.out.keep HP2.out) (by decide) (by omega)).mono ?_
  rintro e w3 ⟨rfl, hp3⟩
  rw [Hq.out]
  have hqq : (q != q) = false := by simp
  have HP3 := Lib.hid (HP2.out.trans hp3)
  have HC3 := Lib.hid (HC2.out.keep hp3)
  clear hp3
  by_cases hok : RunOk lbC a mem
  · obtain ⟨n, rfl, hn1, hn8⟩ := lanes_nat hok.2.1
    have hq1 : q = min 1 ((n : Int) - 1) := by rw [← Hq.out]; exact lb_lost hok hn1 hn8
    have HOK := Lib.hid hok
    clear hok
    go_wp2_with fail
    refine (runs_any _ _ lbC n mem _ HC3.out (HM.out.keep HP3.out) (by decide) (by omega) true (by simp only [true_iff]; exact HOK.out)).mono ?_
    rintro e w4 ⟨rfl, hp4⟩
    have HP4 := Lib.hid (HP3.out.trans hp4)
    clear hp4
    by_cases h1 : n = 1
    · subst h1
      have hqb : q = 0 := by rw [hq1]; rfl
      subst hqb
      clear hq1
      go_wp2_with fail
      refine (alive_any _).mono ?_
      rintro e w5 ⟨rfl, hp5⟩
      go_wp2
      go_ret
      exact ⟨rfl, (HP1.out.trans HP4.out).trans hp5⟩
    · have hqb : q = 1 := by rw [hq1]; omega
      subst hqb
      clear hq1
      go_wp2
      go_ret
      exact ⟨rfl, HP1.out.trans HP4.out⟩
  · have hqm : q = -1 := by rw [← Hq.out, lostA_no hok]
    have HOK := Lib.hid hok
    subst hqm
    clear hok
    go_wp2_with fail
    refine (runs_any _ _ lbC a mem _ HC3.out (HM.out.keep HP3.out) (by decide) (by omega) false (by simp [HOK.out])).mono ?_
    rintro e w4 ⟨rfl, hp4⟩
    have HP4 := Lib.hid (HP3.out.trans hp4)
    clear hp4
    go_wp2_with fail
    refine (alive_any _).mono ?_
    rintro e w5 ⟨rfl, hp5⟩
    go_wp2
    go_ret
    exact ⟨rfl, (HP1.out.trans HP4.out).trans hp5⟩

end Go.Proofs.Ytkolnakcgjlcgaa

namespace Go.Proofs.Ytkolnakcgjlcgaa.rowFnLostBranch
open Go.ChangeShapes Go.WideShapes Go.ChangeAt Go.RowKit Go.Deep

set_option maxRecDepth 100000 in
theorem lifted (os : Os) (started : os.Started) (H : Type) (enc : TypeId × Value → H) :
    ReturnsInHanded {} Try.checked os 11 .any (Rows.fnLostBranchSpec.pre6 enc Try.prog Try.f11 Rows.fnLostBranchRow.domain false) (Rows.fnLostBranchSpec.post enc Try.prog Try.f11 false true false false) := by
  refine returnsInHanded_of_change (C := Try.checked) own_knob started (by kernel_rfl) Try.func11
    (ChangeSpec.witness6 (enc := enc) (C := Try.checked) false ⟨#[], #[.slice none 0 0], []⟩ 8 (by kernel_rfl) (by kernel_rfl) (by kernel_rfl) (by kernel_rfl)) ?_
  intro W base args ds gs before hval0 hW hcnd _
  have hval : ∀ (j : Nat) t v, Try.f11.params[j]? = some t → args[j]? = some v → Value.okWide Try.prog W .any base t v := hval0
  have hW' := hW
  obtain ⟨p, q, hA0, hV, rfl, hfz, hnd⟩ := hW
  have hA : DataW.TrodAll enc Try.prog W 0 (fun _ => true) true Try.f11.params.toList args.toList ds p := hA0
  rw [Try.params11] at hA hval
  obtain ⟨v0, vs0, d0, ds0, p0, q0, hargs, rfl, rfl, h0, r0⟩ := trodAll_cons hA
  obtain ⟨rfl, rfl, rfl⟩ := trodAll_nil r0
  obtain rfl : args = #[v0] := by cases args; simp_all
  obtain ⟨rfl, rfl⟩ := trodVars_none hV
  have k0 := h0
  have lt0 : ∀ x ∈ p0, x.block < W.heap.size := by obtain ⟨m, hm⟩ := k0; exact DataW.trod_lt m _ _ _ hm
  obtain ⟨A0, len0, cap0, rfl⟩ := okWide_slice Try.underlying22 (hval 0 22 v0 rfl rfl)
  obtain ⟨x0, w0⟩ : ∃ xs, Bytes W (.slice A0 len0 cap0) xs := by
    obtain ⟨fuel, hf⟩ := h0
    obtain ⟨v, xs, hcs, hx⟩ := bytes_open hf
    simp [Value.cells] at hcs
    subst hcs
    exact ⟨xs, hx⟩
  clear hA0 hval0
  refine (law_FnLostBranch _ x0 W w0).mono fun e W' ⟨he, bel⟩ => ?_
  subst he
  have bel' : Below W.heap.size W W' := bel
  exact ⟨_, rfl, _, _, _, [], _, [], hW', trodAll_mk1 (shut_bool Try.underlying4 _), (trodAll_cons_mk (Below.trod laid_out (by kernel_rfl) (of_decide_eq_true (by kernel_rfl)) k0 bel' lt0) trodAll_mk0), rfl, bel'.frame _, fun h => by cases h⟩

theorem proved : Rows.FnLostBranchSaid :=
  OpenClaim.holds_of_wide 11 Try.f11 rfl rfl rfl rfl rfl rfl rfl ⟨rfl, rfl, rfl, rfl, rfl⟩ rfl rfl rfl rfl rfl (by kernel_rfl) Try.func11 (by kernel_rfl)
    (of_decide_eq_true (by kernel_rfl)) (by unfold Func.isWrapper; rw [if_neg (of_decide_eq_false (by kernel_rfl))]; exact ⟨rfl, rfl⟩)
    (fun os started H enc _ => lifted os started H enc)

end Go.Proofs.Ytkolnakcgjlcgaa.rowFnLostBranch
