/- The law FnRaceFree, whole: One lane has no races No condition. -/
import Derived.Test.YtonmndojlnohcaaKbe
import Derived.Test.YtonmndojlnohcaaKbj
import Derived.Test.YtonmndojlnohcaaKca
import Derived.Test.YtonmndojlnohcaaKci

namespace Go.Proofs.Ytonmndojlnohcaa
open Go.RowKit

theorem one_free_of {cs : List Cd} {n : Nat} {mem : List Int} (h : RunOk cs n mem) (h1 : 1 ≤ n) : freeA cs 1 mem = true := free_one (ok_fewer h (Nat.le_refl _) h1)
theorem cells_free {cs : List Cd} {n : Nat} {mem : List Int} (h : RunOk cs n mem) {q : Nat} {B : Bool} (hq : q = 0 ↔ ¬ Race (lockA cs n mem).A) (hB : freeA cs n mem = B) : (B == decide ((q : Int) = 0)) = true := by
  have := freeA_iff h
  rw [hB] at this
  rw [beq_iff_eq, Bool.eq_iff_iff, decide_eq_true_iff, this]
  rw [← hq]; omega

set_option maxHeartbeats 4000000 in
set_option maxRecDepth 100000 in
theorem law_FnRaceFree (v : Value) (bs : List Int) (w : World) (h : Bytes w v bs) :
    Calls Try.prog 9 #[v] w fun e w' => e = .returned (.bool true) ∧ Pure w w' := by
  have H := Lib.hid h
  obtain ⟨A, c, rfl, hnc, hcm⟩ := h.form
  clear h
  by_cases hbig : (bs.length : Int) > 1048576
  · go_enter Try.func9, Try.ntmps9
    go_wp2
    go_ret
    exact ⟨rfl, Pure.refl _⟩
  go_enter Try.func9, Try.ntmps9
  go_wp2_with fail
  refine (draw_DrawRaceFree _ bs _ H.out (by omega)).mono ?_
  rintro e w1 ⟨vl, cs, a, vm, mem, rfl, ha0, ha9, hl, hm, hcl, hml, hp1⟩
  have HC := Lib.hid hl
  have HM := Lib.hid hm
  have HP1 := Lib.hid hp1
  obtain ⟨Ac, cc, rfl, hcc1, hcc2⟩ := hl.form
  obtain ⟨Am, cm, rfl⟩ := hm.form
  clear hl hm hp1
  obtain ⟨bf, Hbf⟩ : ∃ bf, Hid (freeA cs a mem = bf) := ⟨_, Lib.hid rfl⟩
  have hd : (bf != bf) = false := by simp
  obtain ⟨br, hbr⟩ : ∃ br : Bool, br = true ↔ RunOk cs a mem := by classical exact ⟨decide (RunOk cs a mem), by simp⟩
  have HBR := Lib.hid hbr
  clear hbr
  go_wp2_with fail
  refine (irf_any _ _ cs a mem _ HC.out HM.out (by omega) (by omega)).mono ?_
  rintro e w2 ⟨rfl, hp2⟩
  have HP2 := Lib.hid hp2
  clear hp2
  rw [Hbf.out]
  go_wp2_with fail
  refine (srf_any _ _ cs a mem _ (HC.out.keep HP2.out) (HM.out.keep HP2.out) (by omega) (by omega)).mono ?_
  rintro e w3 ⟨rfl, hp3⟩
  have HP3 := Lib.hid (HP2.out.trans hp3)
  clear hp3
  rw [Hbf.out]
  go_wp2_with fail
  refine (runs_any _ _ cs a mem _ (HC.out.keep HP3.out) (HM.out.keep HP3.out) (by omega) (by omega) br HBR.out).mono ?_
  rintro e w4 ⟨rfl, hp4⟩
  have HP4 := Lib.hid (HP3.out.trans hp4)
  clear hp4
  cases br
  · have hno : ¬ RunOk cs a mem := fun h => by have := HBR.out.2 h; cases this
    have hf := freeA_no hno
    rw [Hbf.out] at hf
    subst hf
    clear hno
    go_wp2_with fail
    refine (alive_any _).mono ?_
    rintro e w8 ⟨rfl, hp8⟩
    go_wp2
    go_ret
    exact ⟨rfl, (HP1.out.trans HP4.out).trans hp8⟩
  · have hok : RunOk cs a mem := HBR.out.1 rfl
    obtain ⟨n, rfl, hn1, hn8⟩ := lanes_nat hok.2.1
    have HOK := Lib.hid hok
    clear hok
    obtain ⟨n8, H8⟩ : ∃ n8, Hid (countTo cs 8 cs.length = n8) := ⟨_, Lib.hid rfl⟩
    obtain ⟨n10, H10⟩ : ∃ n10, Hid (countTo cs 10 cs.length = n10) := ⟨_, Lib.hid rfl⟩
    have hc8 := countTo_le cs 8 cs.length
    have hc10 := countTo_le cs 10 cs.length
    rw [H8.out] at hc8
    rw [H10.out] at hc10
    have H1F := Lib.hid (one_free_of HOK.out hn1)
    have HLE : Hid (n8 = 0 → n10 = 0 → bf = true → 2 ≤ n → freeA cs ((n : Int) - 1) mem = true) := Lib.hid (fun h8 h10 hb h2 => by
      have e : ((n : Int) - 1) = ((n - 1 : Nat) : Int) := by omega
      rw [e]
      exact free_less HOK.out (ok_fewer HOK.out (by omega) (by omega)) (by omega) (H8.out.trans h8) (H10.out.trans h10) (Hbf.out.trans hb))
    go_wp2_with fail
    refine (icount_any _ cs 10 _ (HC.out.keep HP4.out) HOK.out.1).mono ?_
    rintro e w5 ⟨rfl, hp5⟩
    have HP5 := Lib.hid (HP4.out.trans hp5)
    clear hp5
    rw [H10.out]
    by_cases h10 : n10 = 0
    · subst h10
      go_wp2_with fail
      refine (icount_any _ cs 8 _ (HC.out.keep HP5.out) HOK.out.1).mono ?_
      rintro e w6 ⟨rfl, hp6⟩
      have HP6 := Lib.hid (HP5.out.trans hp6)
      clear hp6
      rw [H8.out]
      by_cases h8 : n8 = 0
      · subst h8
        go_wp2_with fail
        refine (irf_any _ _ cs 1 mem _ (HC.out.keep HP6.out) (HM.out.keep HP6.out) (by omega) (by omega)).mono ?_
        rintro e w7 ⟨rfl, hp7⟩
        have HP7 := Lib.hid (HP6.out.trans hp7)
        clear hp7
        rw [H1F.out]
        cases bf
        · skip
          go_wp2_with fail
          refine (iacc_any _ _ cs n mem _ (HC.out.keep HP7.out) (HM.out.keep HP7.out) (by omega) (by omega)).mono ?_
          rintro e w10 ⟨v10, rfl, ho10, hp10⟩
          have HO10 := Lib.hid (Flat.of_own ho10)
          have HP10 := Lib.hid (HP7.out.trans hp10)
          obtain ⟨A10, c10, rfl, _⟩ := HO10.out.form
          clear ho10 hp10
          go_wp2_with fail
          refine (ircells_any _ (lockA cs n mem).A _ HO10.out (by have := lockA_lenA (cs := cs) (a := n) (mem := mem); omega)).mono ?_
          rintro e w11 ⟨A11, q, c11, rfl, hq, hp11⟩
          have HP11 := Lib.hid (HP10.out.trans hp11)
          have HCF := Lib.hid (cells_free HOK.out hq Hbf.out)
          clear hq hp11
          have hq0 : q ≠ 0 := by have := HCF.out; rw [beq_iff_eq] at this; have := of_decide_eq_false this.symm; omega
          go_wp2
          go_ret
          exact ⟨by first | rfl | exact ret_bool (by simp; omega), HP1.out.trans HP11.out⟩
        · by_cases hn : n = 1
          · subst hn
            go_wp2_with fail
            refine (iacc_any _ _ cs (1 : Nat) mem _ (HC.out.keep HP7.out) (HM.out.keep HP7.out) (by omega) (by omega)).mono ?_
            rintro e w10 ⟨v10, rfl, ho10, hp10⟩
            have HO10 := Lib.hid (Flat.of_own ho10)
            have HP10 := Lib.hid (HP7.out.trans hp10)
            obtain ⟨A10, c10, rfl, _⟩ := HO10.out.form
            clear ho10 hp10
            go_wp2_with fail
            refine (ircells_any _ (lockA cs (1 : Nat) mem).A _ HO10.out (by have := lockA_lenA (cs := cs) (a := (1 : Nat)) (mem := mem); omega)).mono ?_
            rintro e w11 ⟨A11, q, c11, rfl, hq, hp11⟩
            have HP11 := Lib.hid (HP10.out.trans hp11)
            have HCF := Lib.hid (cells_free HOK.out hq Hbf.out)
            clear hq hp11
            obtain rfl : q = 0 := by have := HCF.out; rw [beq_iff_eq] at this; have := of_decide_eq_true this.symm; omega
            go_wp2
            go_ret
            exact ⟨by first | rfl | exact ret_bool (by simp; omega), HP1.out.trans HP11.out⟩
          · have HL2 := Lib.hid (HLE.out (by simp) (by simp) (by simp) (by omega))
            go_wp2_with fail
            refine (irf_any _ _ cs ((n : Int) - 1) mem _ (HC.out.keep HP7.out) (HM.out.keep HP7.out) (by omega) (by omega)).mono ?_
            rintro e w8 ⟨rfl, hp8⟩
            have HP8 := Lib.hid (HP7.out.trans hp8)
            clear hp8
            rw [HL2.out]
            go_wp2_with fail
            refine (iacc_any _ _ cs n mem _ (HC.out.keep HP8.out) (HM.out.keep HP8.out) (by omega) (by omega)).mono ?_
            rintro e w10 ⟨v10, rfl, ho10, hp10⟩
            have HO10 := Lib.hid (Flat.of_own ho10)
            have HP10 := Lib.hid (HP8.out.trans hp10)
            obtain ⟨A10, c10, rfl, _⟩ := HO10.out.form
            clear ho10 hp10
            go_wp2_with fail
            refine (ircells_any _ (lockA cs n mem).A _ HO10.out (by have := lockA_lenA (cs := cs) (a := n) (mem := mem); omega)).mono ?_
            rintro e w11 ⟨A11, q, c11, rfl, hq, hp11⟩
            have HP11 := Lib.hid (HP10.out.trans hp11)
            have HCF := Lib.hid (cells_free HOK.out hq Hbf.out)
            clear hq hp11
            obtain rfl : q = 0 := by have := HCF.out; rw [beq_iff_eq] at this; have := of_decide_eq_true this.symm; omega
            go_wp2
            go_ret
            exact ⟨by first | rfl | exact ret_bool (by simp; omega), HP1.out.trans HP11.out⟩
      · skip
        go_wp2_with fail
        refine (irf_any _ _ cs 1 mem _ (HC.out.keep HP6.out) (HM.out.keep HP6.out) (by omega) (by omega)).mono ?_
        rintro e w7 ⟨rfl, hp7⟩
        have HP7 := Lib.hid (HP6.out.trans hp7)
        clear hp7
        rw [H1F.out]
        cases bf
        · skip
          go_wp2_with fail
          refine (iacc_any _ _ cs n mem _ (HC.out.keep HP7.out) (HM.out.keep HP7.out) (by omega) (by omega)).mono ?_
          rintro e w10 ⟨v10, rfl, ho10, hp10⟩
          have HO10 := Lib.hid (Flat.of_own ho10)
          have HP10 := Lib.hid (HP7.out.trans hp10)
          obtain ⟨A10, c10, rfl, _⟩ := HO10.out.form
          clear ho10 hp10
          go_wp2_with fail
          refine (ircells_any _ (lockA cs n mem).A _ HO10.out (by have := lockA_lenA (cs := cs) (a := n) (mem := mem); omega)).mono ?_
          rintro e w11 ⟨A11, q, c11, rfl, hq, hp11⟩
          have HP11 := Lib.hid (HP10.out.trans hp11)
          have HCF := Lib.hid (cells_free HOK.out hq Hbf.out)
          clear hq hp11
          have hq0 : q ≠ 0 := by have := HCF.out; rw [beq_iff_eq] at this; have := of_decide_eq_false this.symm; omega
          go_wp2
          go_ret
          exact ⟨by first | rfl | exact ret_bool (by simp; omega), HP1.out.trans HP11.out⟩
        · skip
          go_wp2_with fail
          refine (iacc_any _ _ cs n mem _ (HC.out.keep HP7.out) (HM.out.keep HP7.out) (by omega) (by omega)).mono ?_
          rintro e w10 ⟨v10, rfl, ho10, hp10⟩
          have HO10 := Lib.hid (Flat.of_own ho10)
          have HP10 := Lib.hid (HP7.out.trans hp10)
          obtain ⟨A10, c10, rfl, _⟩ := HO10.out.form
          clear ho10 hp10
          go_wp2_with fail
          refine (ircells_any _ (lockA cs n mem).A _ HO10.out (by have := lockA_lenA (cs := cs) (a := n) (mem := mem); omega)).mono ?_
          rintro e w11 ⟨A11, q, c11, rfl, hq, hp11⟩
          have HP11 := Lib.hid (HP10.out.trans hp11)
          have HCF := Lib.hid (cells_free HOK.out hq Hbf.out)
          clear hq hp11
          obtain rfl : q = 0 := by have := HCF.out; rw [beq_iff_eq] at this; have := of_decide_eq_true this.symm; omega
          go_wp2
          go_ret
          exact ⟨by first | rfl | exact ret_bool (by simp; omega), HP1.out.trans HP11.out⟩
    · skip
      go_wp2_with fail
      refine (irf_any _ _ cs 1 mem _ (HC.out.keep HP5.out) (HM.out.keep HP5.out) (by omega) (by omega)).mono ?_
      rintro e w7 ⟨rfl, hp7⟩
      have HP7 := Lib.hid (HP5.out.trans hp7)
      clear hp7
      rw [H1F.out]
      cases bf
      · skip
        go_wp2_with fail
        refine (iacc_any _ _ cs n mem _ (HC.out.keep HP7.out) (HM.out.keep HP7.out) (by omega) (by omega)).mono ?_
        rintro e w10 ⟨v10, rfl, ho10, hp10⟩
        have HO10 := Lib.hid (Flat.of_own ho10)
        have HP10 := Lib.hid (HP7.out.trans hp10)
        obtain ⟨A10, c10, rfl, _⟩ := HO10.out.form
        clear ho10 hp10
        go_wp2_with fail
        refine (ircells_any _ (lockA cs n mem).A _ HO10.out (by have := lockA_lenA (cs := cs) (a := n) (mem := mem); omega)).mono ?_
        rintro e w11 ⟨A11, q, c11, rfl, hq, hp11⟩
        have HP11 := Lib.hid (HP10.out.trans hp11)
        have HCF := Lib.hid (cells_free HOK.out hq Hbf.out)
        clear hq hp11
        have hq0 : q ≠ 0 := by have := HCF.out; rw [beq_iff_eq] at this; have := of_decide_eq_false this.symm; omega
        go_wp2
        go_ret
        exact ⟨by first | rfl | exact ret_bool (by simp; omega), HP1.out.trans HP11.out⟩
      · skip
        go_wp2_with fail
        refine (iacc_any _ _ cs n mem _ (HC.out.keep HP7.out) (HM.out.keep HP7.out) (by omega) (by omega)).mono ?_
        rintro e w10 ⟨v10, rfl, ho10, hp10⟩
        have HO10 := Lib.hid (Flat.of_own ho10)
        have HP10 := Lib.hid (HP7.out.trans hp10)
        obtain ⟨A10, c10, rfl, _⟩ := HO10.out.form
        clear ho10 hp10
        go_wp2_with fail
        refine (ircells_any _ (lockA cs n mem).A _ HO10.out (by have := lockA_lenA (cs := cs) (a := n) (mem := mem); omega)).mono ?_
        rintro e w11 ⟨A11, q, c11, rfl, hq, hp11⟩
        have HP11 := Lib.hid (HP10.out.trans hp11)
        have HCF := Lib.hid (cells_free HOK.out hq Hbf.out)
        clear hq hp11
        obtain rfl : q = 0 := by have := HCF.out; rw [beq_iff_eq] at this; have := of_decide_eq_true this.symm; omega
        go_wp2
        go_ret
        exact ⟨by first | rfl | exact ret_bool (by simp; omega), HP1.out.trans HP11.out⟩

end Go.Proofs.Ytonmndojlnohcaa

namespace Go.Proofs.Ytonmndojlnohcaa.rowFnRaceFree
open Go.ChangeShapes Go.WideShapes Go.ChangeAt Go.RowKit Go.Deep

set_option maxRecDepth 100000 in
theorem lifted (os : Os) (started : os.Started) (H : Type) (enc : TypeId × Value → H) :
    ReturnsInHanded {} Try.checked os 9 .any (Rows.fnRaceFreeSpec.pre6 enc Try.prog Try.f9 Rows.fnRaceFreeRow.domain false) (Rows.fnRaceFreeSpec.post enc Try.prog Try.f9 false true false false) := by
  refine returnsInHanded_of_change (C := Try.checked) own_knob started (by kernel_rfl) Try.func9
    (ChangeSpec.witness6 (enc := enc) (C := Try.checked) false ⟨#[], #[.slice none 0 0], []⟩ 8 (by kernel_rfl) (by kernel_rfl) (by kernel_rfl) (by kernel_rfl)) ?_
  intro W base args ds gs before hval0 hW hcnd _
  have hval : ∀ (j : Nat) t v, Try.f9.params[j]? = some t → args[j]? = some v → Value.okWide Try.prog W .any base t v := hval0
  have hW' := hW
  obtain ⟨p, q, hA0, hV, rfl, hfz, hnd⟩ := hW
  have hA : DataW.TrodAll enc Try.prog W 0 (fun _ => true) true Try.f9.params.toList args.toList ds p := hA0
  rw [Try.params9] at hA hval
  obtain ⟨v0, vs0, d0, ds0, p0, q0, hargs, rfl, rfl, h0, r0⟩ := trodAll_cons hA
  obtain ⟨rfl, rfl, rfl⟩ := trodAll_nil r0
  obtain rfl : args = #[v0] := by cases args; simp_all
  obtain ⟨rfl, rfl⟩ := trodVars_none hV
  have k0 := h0
  have lt0 : ∀ x ∈ p0, x.block < W.heap.size := by obtain ⟨m, hm⟩ := k0; exact DataW.trod_lt m _ _ _ hm
  obtain ⟨A0, len0, cap0, rfl⟩ := okWide_slice Try.underlying22 (hval 0 22 v0 rfl rfl)
  obtain ⟨x0, w0⟩ : ∃ xs, Bytes W (.slice A0 len0 cap0) xs := by
    obtain ⟨fuel, hf⟩ := h0
    obtain ⟨v, xs, hcs, hx⟩ := bytes_open hf
    simp [Value.cells] at hcs
    subst hcs
    exact ⟨xs, hx⟩
  clear hA0 hval0
  refine (law_FnRaceFree _ x0 W w0).mono fun e W' ⟨he, bel⟩ => ?_
  subst he
  have bel' : Below W.heap.size W W' := bel
  exact ⟨_, rfl, _, _, _, [], _, [], hW', trodAll_mk1 (shut_bool Try.underlying4 _), (trodAll_cons_mk (Below.trod laid_out (by kernel_rfl) (of_decide_eq_true (by kernel_rfl)) k0 bel' lt0) trodAll_mk0), rfl, bel'.frame _, fun h => by cases h⟩

theorem proved : Rows.FnRaceFreeSaid :=
  OpenClaim.holds_of_wide 9 Try.f9 rfl rfl rfl rfl rfl rfl rfl ⟨rfl, rfl, rfl, rfl, rfl⟩ rfl rfl rfl rfl rfl (by kernel_rfl) Try.func9 (by kernel_rfl)
    (of_decide_eq_true (by kernel_rfl)) (by unfold Func.isWrapper; rw [if_neg (of_decide_eq_false (by kernel_rfl))]; exact ⟨rfl, rfl⟩)
    (fun os started H enc _ => lifted os started H enc)

end Go.Proofs.Ytonmndojlnohcaa.rowFnRaceFree
