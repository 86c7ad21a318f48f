/- The law FnAccessesLater, whole: With a barrier at the begin all accesses are one phase later. No condition. -/
import Derived.Test.YtonmndojlnohcaaKca
import Derived.Test.YtonmndojlnohcaaKcc

namespace Go.Proofs.Ytonmndojlnohcaa
open Go.RowKit

theorem up_at {A : List Ac} {k : Nat} (h : k < A.length) : (A.map (acUp 1)).getD k default = acUp 1 (A.getD k default) := by
  simp [List.getD_eq_getElem?_getD, h]

set_option maxHeartbeats 4000000 in
set_option maxRecDepth 100000 in
theorem law_FnAccessesLater (v : Value) (bs : List Int) (w : World) (h : Bytes w v bs) :
    Calls Try.prog 5 #[v] w fun e w' => e = .returned (.bool true) ∧ Pure w w' := by
  have H := Lib.hid h
  obtain ⟨A, c, rfl, hnc, hcm⟩ := h.form
  clear h
  by_cases hbig : (bs.length : Int) > 1048576
  · go_enter Try.func5, Try.ntmps5
    go_wp2
    go_ret
    exact ⟨rfl, Pure.refl _⟩
  go_enter Try.func5, Try.ntmps5
  go_wp2_with fail
  refine (draw_DrawLockAccesses _ bs _ H.out (by omega)).mono ?_
  rintro e w1 ⟨vl, cs, a, vm, mem, rfl, ha0, ha9, hl, hm, hcl, hml, hp1⟩
  have HC := Lib.hid hl
  have HM := Lib.hid hm
  have HP1 := Lib.hid hp1
  obtain ⟨Ac, cc, rfl, hcc1, hcc2⟩ := hl.form
  obtain ⟨Am, cm, rfl⟩ := hm.form
  clear hl hm hp1
  obtain ⟨LA, HLA⟩ : ∃ LA, Hid ((lockA cs a mem).A = LA) := ⟨_, Lib.hid rfl⟩
  have hll : LA.length ≤ 25600 := by rw [← HLA.out]; exact lockA_lenA
  have HPH : Hid (∀ x ∈ LA, x.ph ≤ 1099511627776) := Lib.hid (by rw [← HLA.out]; exact lockA_ph)
  go_wp2_with fail
  refine (iacc_any _ _ cs a mem _ HC.out HM.out (by omega) (by omega)).mono ?_
  rintro e w2 ⟨v2, rfl, ho2, hp2⟩
  rw [HLA.out] at ho2
  have HO2 := Lib.hid (Flat.of_own ho2)
  have HP2 := Lib.hid hp2
  obtain ⟨A2, c2, rfl, hn2, hm2⟩ := HO2.out.form
  clear ho2 hp2
  go_wp2_with fail
  refine (sacc_any _ _ cs a mem _ (HC.out.keep HP2.out) (Cells.keep HM.out HP2.out) (by omega) (by omega)).mono ?_
  rintro e w3 ⟨v3, rfl, ho3, hp3⟩
  rw [HLA.out] at ho3
  have HO3 := Lib.hid (Flat.of_own ho3)
  have HP3 := Lib.hid (HP2.out.trans hp3)
  have HO23 := Lib.hid (HO2.out.keep hp3)
  obtain ⟨A3, c3, rfl, hn3, hm3⟩ := HO3.out.form
  clear ho3 hp3
  go_wp2_with fail
  refine (sameAccesses_same _ _ LA _ HO23.out HO3.out).mono ?_
  rintro e w4 ⟨rfl, hp4⟩
  have HP4 := Lib.hid (HP3.out.trans hp4)
  have HO24 := Lib.hid (HO23.out.keep hp4)
  clear hp4
  by_cases hok : RunOk cs a mem
  · have HOK := Lib.hid hok
    obtain ⟨n, rfl, hn1, hn8⟩ := lanes_nat hok.2.1
    have h40 := hok.1.2.1
    clear hok
    go_wp2_with fail
    refine (runs_any _ _ cs n mem _ (HC.out.keep HP4.out) (HM.out.keep HP4.out) (by omega) (by omega) true (by simp only [true_iff]; exact HOK.out)).mono ?_
    rintro e w5 ⟨rfl, hp5⟩
    have HP5 := Lib.hid (HP4.out.trans hp5)
    have HO5 := Lib.hid (HO24.out.keep hp5)
    clear hp5
    by_cases hl40 : cs.length = 40
    · have hb : ((cs.length : Int) == 40) = true := by rw [beq_iff_eq]; omega
      go_wp2_with fail
      refine (alive_any _).mono ?_
      rintro e w9 ⟨rfl, hp9⟩
      go_wp2
      go_ret
      exact ⟨rfl, (HP1.out.trans HP5.out).trans hp9⟩
    · have hb : ((cs.length : Int) == 40) = false := by rw [beq_eq_false_iff_ne]; omega
      have hla := ins_later HOK.out (by omega)
      rw [HLA.out] at hla
      have HLT := Lib.hid hla
      clear hla
      have HL0 := Lib.hid (OwnO.lit (e := 31) (s := 4) (B := w5.heap.size) w5 #[.int .i64 10, .int .i64 0, .int .i64 0, .int .i64 0] 1 (Nat.le_refl _) (by decide) rfl)
      have HPA := Lib.hid (show Pure w5 (w5.alloc (.cells #[.int .i64 10, .int .i64 0, .int .i64 0, .int .i64 0] 31)) from (by repeat (first | assumption | exact Pure.refl _ | refine Pure.drewN ?_ _ | refine Pure.drew ?_ | refine Pure.alloc ?_ _ | refine Pure.setCell ?_ (by simp <;> omega) _)))
      go_wp2_with (at_builtin; go_must (refine wl_appendC elCode rfl _ _ rfl w5.heap.size _ 1 _ rfl HL0.out (by decide) _ rfl (cdf cs) cs.length (Cells.keep (Codes.keep HC.out HP5.out) HPA.out) (cdf_one cs) (by decide) (by omega) HPA.out.size ?_); intro v6 w6 r1 r2; go_must (obtain ⟨g6, o6, c6, rfl, hc61, hc62, hg6, hgl6⟩ := r1.formSome (by omega)); go_must (have HW6 := Lib.hid (HPA.out.grown r2 (fun k hk => (HL0.out.lt k hk).1))); go_must (have HC6 := Lib.hid (bar_open rfl r1 (by simp; omega))); clear r1 r2)
      have HP6 := Lib.hid (HP5.out.trans HW6.out)
      refine (iacc_any _ _ (cBar :: cs) n mem _ HC6.out (HM.out.keep HP6.out) (by simp; omega) (by omega)).mono ?_
      rintro e w7 ⟨v7, rfl, ho7, hp7⟩
      rw [HLT.out.2, List.length_map] at ho7
      have HO7 := Lib.hid (Flat.of_own ho7)
      have HP7 := Lib.hid (HP6.out.trans hp7)
      have HA7 := Lib.hid (HO5.out.keep (HW6.out.trans hp7))
      obtain ⟨A7, c7, rfl, hn7, hm7⟩ := HO7.out.form
      have hle : ((LA.length : Int) == LA.length) = true := by simp
      clear ho7 hp7
      go_wp2_with fail
      go_loopg [8] LA.length (fun gk i wr => ∃ k : Nat, gk + k = LA.length ∧ i = .int .i64 k ∧ Pure w7 wr)
      case atStart => exact ⟨0, rfl, rfl, Pure.refl _⟩
      case round =>
        obtain ⟨k, hgk, rfl, hp⟩ := hrel
        have Hgk := Lib.hid hgk
        have HP := Lib.hid hp
        have hkn : k ≤ LA.length := by omega
        clear hgk hp
        by_cases hlt : k < LA.length
        · obtain ⟨b, o, rfl, hb', hc⟩ := accs_at HA7.out hlt
          have HF7 : Hid (Flat w7 (.slice A7 (LA.map (acUp 1)).length c7) (LA.map (acUp 1)).length 4 (accsL (LA.map (acUp 1)))) := Lib.hid (by have := HO7.out; rwa [List.length_map])
          obtain ⟨b2, o2, rfl, hb2, hc2⟩ := accs_at HF7.out (k := k) (by rw [List.length_map]; exact hlt)
          obtain ⟨q0, q1, q2, q3⟩ := (hc k hlt).keep HP.out
          obtain ⟨r0, r1, r2, r3⟩ := (hc2 k (by rw [List.length_map]; exact hlt)).keep HP.out
          rw [up_at hlt] at r0 r1 r2 r3
          have e3 : (((acUp 1 (LA.getD k default)).ph : Nat) : Int) = (((LA.getD k default).ph : Nat) : Int) + 1 := by show ((_ + 1 : Nat) : Int) = _; omega
          have e0 : (((acUp 1 (LA.getD k default)).who : Nat) : Int) = (((LA.getD k default).who : Nat) : Int) := rfl
          have e1 : (((acUp 1 (LA.getD k default)).cell : Nat) : Int) = (((LA.getD k default).cell : Nat) : Int) := rfl
          have e2 : (acUp 1 (LA.getD k default)).wr = (LA.getD k default).wr := rfl
          rw [e0] at r0
          rw [e1] at r1
          rw [e2] at r2
          rw [e3] at r3
          clear e0 e1 e2 e3 hc hc2
          have hph : (LA.getD k default).ph ≤ 1099511627776 := HPH.out _ (acMem hlt)
          obtain ⟨x, Hx⟩ : ∃ x : Int, Hid ((((LA.getD k default).who : Nat) : Int) = x) := ⟨_, Lib.hid rfl⟩
          obtain ⟨y, Hy⟩ : ∃ y : Int, Hid ((((LA.getD k default).cell : Nat) : Int) = y) := ⟨_, Lib.hid rfl⟩
          obtain ⟨z, Hz⟩ : ∃ z : Nat, Hid ((LA.getD k default).ph = z) := ⟨_, Lib.hid rfl⟩
          obtain ⟨u, Hu⟩ : ∃ u : Bool, Hid ((LA.getD k default).wr = u) := ⟨_, Lib.hid rfl⟩
          rw [Hx.out] at q0 r0
          rw [Hy.out] at q1 r1
          rw [Hu.out] at q2 r2
          rw [Hz.out] at q3 r3 hph
          have hbr := World.block_lt_of_cell? _ _ q0
          have hb2r := World.block_lt_of_cell? _ _ r0
          go_wp2
          go_quiet (fail)
          go_wp2
          go_roundg (LA.length - (k + 1))
          case measure => have := Hgk.out; omega
          case rel => exact ⟨k + 1, by have := Hgk.out; omega, by go_num, by have hpq := HP.out; exact (by repeat (first | assumption | exact Pure.refl _ | refine Pure.drewN ?_ _ | refine Pure.drew ?_ | refine Pure.alloc ?_ _ | refine Pure.setCell ?_ (by simp <;> omega) _))⟩
        · have hkl : k = LA.length := by omega
          subst hkl
          have hpf := HP.out
          go_wp2
          go_ret
          exact ⟨rfl, (HP1.out.trans HP7.out).trans (by exact (by repeat (first | assumption | exact Pure.refl _ | refine Pure.drewN ?_ _ | refine Pure.drew ?_ | refine Pure.alloc ?_ _ | refine Pure.setCell ?_ (by simp <;> omega) _)))⟩
  · have HOK := Lib.hid hok
    clear hok
    go_wp2_with fail
    refine (runs_any _ _ cs a mem _ (HC.out.keep HP4.out) (HM.out.keep HP4.out) (by omega) (by omega) false (by simp [HOK.out])).mono ?_
    rintro e w7 ⟨rfl, hp7⟩
    go_wp2_with fail
    refine (alive_any _).mono ?_
    rintro e w9 ⟨rfl, hp9⟩
    go_wp2
    go_ret
    exact ⟨rfl, ((HP1.out.trans HP4.out).trans hp7).trans hp9⟩

end Go.Proofs.Ytonmndojlnohcaa

namespace Go.Proofs.Ytonmndojlnohcaa.rowFnAccessesLater
open Go.ChangeShapes Go.WideShapes Go.ChangeAt Go.RowKit Go.Deep

set_option maxRecDepth 100000 in
theorem lifted (os : Os) (started : os.Started) (H : Type) (enc : TypeId × Value → H) :
    ReturnsInHanded {} Try.checked os 5 .any (Rows.fnAccessesLaterSpec.pre6 enc Try.prog Try.f5 Rows.fnAccessesLaterRow.domain false) (Rows.fnAccessesLaterSpec.post enc Try.prog Try.f5 false true false false) := by
  refine returnsInHanded_of_change (C := Try.checked) own_knob started (by kernel_rfl) Try.func5
    (ChangeSpec.witness6 (enc := enc) (C := Try.checked) false ⟨#[], #[.slice none 0 0], []⟩ 8 (by kernel_rfl) (by kernel_rfl) (by kernel_rfl) (by kernel_rfl)) ?_
  intro W base args ds gs before hval0 hW hcnd _
  have hval : ∀ (j : Nat) t v, Try.f5.params[j]? = some t → args[j]? = some v → Value.okWide Try.prog W .any base t v := hval0
  have hW' := hW
  obtain ⟨p, q, hA0, hV, rfl, hfz, hnd⟩ := hW
  have hA : DataW.TrodAll enc Try.prog W 0 (fun _ => true) true Try.f5.params.toList args.toList ds p := hA0
  rw [Try.params5] at hA hval
  obtain ⟨v0, vs0, d0, ds0, p0, q0, hargs, rfl, rfl, h0, r0⟩ := trodAll_cons hA
  obtain ⟨rfl, rfl, rfl⟩ := trodAll_nil r0
  obtain rfl : args = #[v0] := by cases args; simp_all
  obtain ⟨rfl, rfl⟩ := trodVars_none hV
  have k0 := h0
  have lt0 : ∀ x ∈ p0, x.block < W.heap.size := by obtain ⟨m, hm⟩ := k0; exact DataW.trod_lt m _ _ _ hm
  obtain ⟨A0, len0, cap0, rfl⟩ := okWide_slice Try.underlying22 (hval 0 22 v0 rfl rfl)
  obtain ⟨x0, w0⟩ : ∃ xs, Bytes W (.slice A0 len0 cap0) xs := by
    obtain ⟨fuel, hf⟩ := h0
    obtain ⟨v, xs, hcs, hx⟩ := bytes_open hf
    simp [Value.cells] at hcs
    subst hcs
    exact ⟨xs, hx⟩
  clear hA0 hval0
  refine (law_FnAccessesLater _ x0 W w0).mono fun e W' ⟨he, bel⟩ => ?_
  subst he
  have bel' : Below W.heap.size W W' := bel
  exact ⟨_, rfl, _, _, _, [], _, [], hW', trodAll_mk1 (shut_bool Try.underlying4 _), (trodAll_cons_mk (Below.trod laid_out (by kernel_rfl) (of_decide_eq_true (by kernel_rfl)) k0 bel' lt0) trodAll_mk0), rfl, bel'.frame _, fun h => by cases h⟩

theorem proved : Rows.FnAccessesLaterSaid :=
  OpenClaim.holds_of_wide 5 Try.f5 rfl rfl rfl rfl rfl rfl rfl ⟨rfl, rfl, rfl, rfl, rfl⟩ rfl rfl rfl rfl rfl (by kernel_rfl) Try.func5 (by kernel_rfl)
    (of_decide_eq_true (by kernel_rfl)) (by unfold Func.isWrapper; rw [if_neg (of_decide_eq_false (by kernel_rfl))]; exact ⟨rfl, rfl⟩)
    (fun os started H enc _ => lifted os started H enc)

end Go.Proofs.Ytonmndojlnohcaa.rowFnAccessesLater
