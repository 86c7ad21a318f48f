/- The law FnLostCost, whole: nothing is lost without branches. No condition. -/
import Derived.Test.YtkolnakcgjlcgaaKbg
import Derived.Test.YtkolnakcgjlcgaaKbh
import Derived.Test.YtkolnakcgjlcgaaKbi

namespace Go.Proofs.Ytkolnakcgjlcgaa
open Go.RowKit

theorem one_ok {cs : List Cd} {a : Int} {mem : List Int} (h : RunOk cs a mem) : RunOk cs ((1 : Nat) : Int) mem := ⟨h.1, ⟨by decide, by decide⟩, h.2.2⟩

set_option maxHeartbeats 4000000 in
set_option maxRecDepth 100000 in
theorem law_FnLostCost (v : Value) (bs : List Int) (w : World) (h : Bytes w v bs) :
    Calls Try.prog 10 #[v] w fun e w' => e = .returned (.bool true) ∧ Pure w w' := by
  have H := Lib.hid h
  obtain ⟨A, c, rfl, hnc, hcm⟩ := h.form
  clear h
  by_cases hbig : (bs.length : Int) > 1048576
  · go_enter Try.func10, Try.ntmps10
    go_wp2
    go_ret
    exact ⟨rfl, Pure.refl _⟩
  go_enter Try.func10, Try.ntmps10
  go_wp2_with fail
  refine (draw_DrawLostCost _ bs _ H.out (by omega)).mono ?_
  rintro e w1 ⟨vl, cs, a, vm, mem, rfl, ha0, ha9, hl, hm, hcl, hml, hp1⟩
  have HC := Lib.hid hl
  have HM := Lib.hid hm
  have HP1 := Lib.hid hp1
  obtain ⟨Ac, cc, rfl, hcc1, hcc2⟩ := hl.form
  obtain ⟨Am, cm, rfl⟩ := hm.form
  clear hl hm hp1
  obtain ⟨q, Hq⟩ : ∃ q, Hid (lostA cs a mem = q) := ⟨_, Lib.hid rfl⟩
  go_wp2_with fail
  refine (ilost_any _ _ cs a mem _ HC.out HM.out (by omega) (by omega)).mono ?_
  rintro e w2 ⟨rfl, hp2⟩
  rw [Hq.out]
  have HP2 := Lib.hid hp2
  clear hp2
  go_wp2_with fail
  refine (slost_any _ _ cs a mem _ (HC.out.keep HP2.out) (HM.out.keep HP2.out) (by omega) (by omega)).mono ?_
  rintro e w3 ⟨rfl, hp3⟩
  rw [Hq.out]
  have hqq : (q != q) = false := by simp
  have HP3 := Lib.hid (HP2.out.trans hp3)
  clear hp3
  by_cases hok : RunOk cs a mem
  · obtain ⟨n, rfl, hn1, hn8⟩ := lanes_nat hok.2.1
    have hone := one_ok hok
    have h1 : lostA cs ((1 : Nat) : Int) mem = 0 := by rw [lostA_ok hone, most_one hok.1]; omega
    have hlq := lostA_ok hok
    have hle := mostTo_to cs (lockOf cs n mem).H n
    have hq0 : 0 ≤ q := by rw [← Hq.out, hlq]; omega
    have HZ : Hid (countTo cs 14 cs.length = 0 → q = 0) := Lib.hid fun h => by
      rw [← Hq.out, hlq, lost_flat hok.1 hn1 (count_none h)]; omega
    have HV := Lib.hid hok.1
    have H1 := Lib.hid h1
    clear hone h1 hlq hle hok
    go_wp2_with fail
    refine (ilost_any _ _ cs ((1 : Nat) : Int) mem _ (HC.out.keep HP3.out) (HM.out.keep HP3.out) (by omega) (by omega)).mono ?_
    rintro e w4 ⟨rfl, hp4⟩
    rw [H1.out]
    by_cases hqz : q = 0
    · have hqb : (q == 0) = true := by simp [hqz]
      clear hqz
      go_wp2
      go_ret
      exact ⟨rfl, (HP1.out.trans HP3.out).trans hp4⟩
    · have hqb : (q == 0) = false := by simp [hqz]
      have hcpos : 0 < countTo cs 14 cs.length := by
        rcases Nat.eq_zero_or_pos (countTo cs 14 cs.length) with h | h
        · exact absurd (HZ.out h) hqz
        · exact h
      have hcl := countTo_le cs 14 cs.length
      clear hqz
      go_wp2_with fail
      refine (icount_any _ cs 14 _ (HC.out.keep (HP3.out.trans hp4)) HV.out).mono ?_
      rintro e w5 ⟨rfl, hp5⟩
      obtain ⟨ct, Hct⟩ : ∃ ct, Hid (countTo cs 14 cs.length = ct) := ⟨_, Lib.hid rfl⟩
      rw [Hct.out] at hcpos ⊢
      have hcb : decide ((ct : Int) > 0) = true := by simp; omega
      go_wp2
      go_ret
      exact ⟨rfl, ((HP1.out.trans HP3.out).trans hp4).trans hp5⟩
  · have hq1 : q = -1 := by rw [← Hq.out, lostA_no hok]
    subst hq1
    clear hok
    go_wp2_with fail
    refine (alive_any _).mono ?_
    rintro e w5 ⟨rfl, hp5⟩
    go_wp2
    go_ret
    exact ⟨rfl, (HP1.out.trans HP3.out).trans hp5⟩

end Go.Proofs.Ytkolnakcgjlcgaa

namespace Go.Proofs.Ytkolnakcgjlcgaa.rowFnLostCost
open Go.ChangeShapes Go.WideShapes Go.ChangeAt Go.RowKit Go.Deep

set_option maxRecDepth 100000 in
theorem lifted (os : Os) (started : os.Started) (H : Type) (enc : TypeId × Value → H) :
    ReturnsInHanded {} Try.checked os 10 .any (Rows.fnLostCostSpec.pre6 enc Try.prog Try.f10 Rows.fnLostCostRow.domain false) (Rows.fnLostCostSpec.post enc Try.prog Try.f10 false true false false) := by
  refine returnsInHanded_of_change (C := Try.checked) own_knob started (by kernel_rfl) Try.func10
    (ChangeSpec.witness6 (enc := enc) (C := Try.checked) false ⟨#[], #[.slice none 0 0], []⟩ 8 (by kernel_rfl) (by kernel_rfl) (by kernel_rfl) (by kernel_rfl)) ?_
  intro W base args ds gs before hval0 hW hcnd _
  have hval : ∀ (j : Nat) t v, Try.f10.params[j]? = some t → args[j]? = some v → Value.okWide Try.prog W .any base t v := hval0
  have hW' := hW
  obtain ⟨p, q, hA0, hV, rfl, hfz, hnd⟩ := hW
  have hA : DataW.TrodAll enc Try.prog W 0 (fun _ => true) true Try.f10.params.toList args.toList ds p := hA0
  rw [Try.params10] at hA hval
  obtain ⟨v0, vs0, d0, ds0, p0, q0, hargs, rfl, rfl, h0, r0⟩ := trodAll_cons hA
  obtain ⟨rfl, rfl, rfl⟩ := trodAll_nil r0
  obtain rfl : args = #[v0] := by cases args; simp_all
  obtain ⟨rfl, rfl⟩ := trodVars_none hV
  have k0 := h0
  have lt0 : ∀ x ∈ p0, x.block < W.heap.size := by obtain ⟨m, hm⟩ := k0; exact DataW.trod_lt m _ _ _ hm
  obtain ⟨A0, len0, cap0, rfl⟩ := okWide_slice Try.underlying22 (hval 0 22 v0 rfl rfl)
  obtain ⟨x0, w0⟩ : ∃ xs, Bytes W (.slice A0 len0 cap0) xs := by
    obtain ⟨fuel, hf⟩ := h0
    obtain ⟨v, xs, hcs, hx⟩ := bytes_open hf
    simp [Value.cells] at hcs
    subst hcs
    exact ⟨xs, hx⟩
  clear hA0 hval0
  refine (law_FnLostCost _ x0 W w0).mono fun e W' ⟨he, bel⟩ => ?_
  subst he
  have bel' : Below W.heap.size W W' := bel
  exact ⟨_, rfl, _, _, _, [], _, [], hW', trodAll_mk1 (shut_bool Try.underlying4 _), (trodAll_cons_mk (Below.trod laid_out (by kernel_rfl) (of_decide_eq_true (by kernel_rfl)) k0 bel' lt0) trodAll_mk0), rfl, bel'.frame _, fun h => by cases h⟩

theorem proved : Rows.FnLostCostSaid :=
  OpenClaim.holds_of_wide 10 Try.f10 rfl rfl rfl rfl rfl rfl rfl ⟨rfl, rfl, rfl, rfl, rfl⟩ rfl rfl rfl rfl rfl (by kernel_rfl) Try.func10 (by kernel_rfl)
    (of_decide_eq_true (by kernel_rfl)) (by unfold Func.isWrapper; rw [if_neg (of_decide_eq_false (by kernel_rfl))]; exact ⟨rfl, rfl⟩)
    (fun os started H enc _ => lifted os started H enc)

end Go.Proofs.Ytkolnakcgjlcgaa.rowFnLostCost
