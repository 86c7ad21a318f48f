/- The law FnLockTrace, whole: steps have active lanes. No condition. -/
import Derived.Test.YtkolnakcgjlcgaaKbg
import Derived.Test.YtkolnakcgjlcgaaKbh

namespace Go.Proofs.Ytkolnakcgjlcgaa
open Go.RowKit

set_option maxHeartbeats 400000 in
theorem imaskvalid_any (mk n : Nat) (w : World) (h1 : 1 ≤ n) (h8 : n ≤ 8) (hm : mk < 2 ^ n) :
    Calls Try.prog 21 #[.int .i64 mk, .int .i64 n] w fun e w' => e = .returned (.bool true) ∧ w = w' := by
  have hs := shl8 (j := n) (by omega)
  have hp := pow8 h8
  obtain ⟨q, Hq⟩ : ∃ q, Hid (2 ^ n = q) := ⟨2 ^ n, Lib.hid rfl⟩
  rw [Hq.out] at hs hp hm
  go_enter Try.func21, Try.ntmps21
  go_wp2_with fail
  refine (ilanesok_any _ _ true (by simp only [true_iff]; unfold LanesOk; omega)).mono ?_
  rintro e w' ⟨rfl, rfl⟩
  go_wp2_with fail
  refine (within_any (mk : Int) 0 ((q : Int) - 1) _ true (by simp only [true_iff]; omega)).mono ?_
  rintro e w' ⟨rfl, rfl⟩
  go_wp2
  go_ret
  exact ⟨rfl, rfl⟩

/-- What is told of every step. -/
theorem lockA_step {cs : List Cd} {n : Nat} {mem : List Int} (hok : RunOk cs n mem) {x : Nat × Nat × (Nat → Nat → Int)} (hx : x ∈ (lockA cs n mem).H) : x.1 < cs.length ∧ x.2.1 ≠ 0 ∧ x.2.1 < 2 ^ n ∧ (cs.getD x.1 default).op ≠ 12 ∧ (cs.getD x.1 default).op ≠ 14 := by
  rw [lockA_ok hok] at hx
  have h := lockOf_in hok.1 x hx
  obtain ⟨h1, h2, h3⟩ := treeOf_spec hok.1
  rcases run_op n mem.length (treeOf cs) 0 (2 ^ n - 1) (startLS mem) x h2 (Seg.whole h1) hx with k | k
  · cases k
  · exact ⟨h.2.1, h.2.2.1, h.2.2.2, k.1, k.2⟩
theorem lockA_first {cs : List Cd} {n : Nat} {mem : List Int} (hok : RunOk cs n mem) (hn : 1 ≤ n) (hc : 0 < cs.length) : 0 < (lockA cs n mem).H.length ∧ ((lockA cs n mem).H.getD 0 default).1 = 0 ∧ ((lockA cs n mem).H.getD 0 default).2.1 = 2 ^ n - 1 := by
  rw [lockA_ok hok]
  obtain ⟨h1, h2, h3⟩ := treeOf_spec hok.1
  have hl : 0 < (treeOf cs).len := by unfold Tr.len; rw [← h1]; exact hc
  have hp : 2 ≤ 2 ^ n := by
    calc 2 = 2 ^ 1 := rfl
      _ ≤ 2 ^ n := Nat.pow_le_pow_right (by decide) hn
  obtain ⟨X, hX⟩ := run_first n mem.length (treeOf cs) 0 (2 ^ n - 1) (startLS mem) (by omega) hl
  have e : (lockOf cs n mem).H = (0, 2 ^ n - 1, (startLS mem).R) :: X := hX
  rw [e]
  exact ⟨by simp, rfl, rfl⟩

set_option maxHeartbeats 4000000 in
set_option maxRecDepth 100000 in
theorem law_FnLockTrace (v : Value) (bs : List Int) (w : World) (h : Bytes w v bs) :
    Calls Try.prog 3 #[v] w fun e w' => e = .returned (.bool true) ∧ Pure w w' := by
  have H := Lib.hid h
  obtain ⟨A, c, rfl, hnc, hcm⟩ := h.form
  clear h
  by_cases hbig : (bs.length : Int) > 1048576
  · go_enter Try.func3, Try.ntmps3
    go_wp2
    go_ret
    exact ⟨rfl, Pure.refl _⟩
  go_enter Try.func3, Try.ntmps3
  go_wp2_with fail
  refine (draw_DrawLockTrace _ bs _ H.out (by omega)).mono ?_
  rintro e w1 ⟨vl, cs, a, vm, mem, rfl, ha0, ha9, hl, hm, hcl, hml, hp1⟩
  have HC := Lib.hid hl
  have HM := Lib.hid hm
  have HP1 := Lib.hid hp1
  obtain ⟨Ac, cc, rfl, hcc1, hcc2⟩ := hl.form
  obtain ⟨Am, cm, rfl⟩ := hm.form
  clear hl hm hp1
  go_wp2_with fail
  refine (itra_any _ _ cs a mem _ HC.out HM.out (by omega) (by omega)).mono ?_
  rintro e w2 ⟨r2, rfl, ho2, hp2⟩
  have HO2 := Lib.hid ho2
  have HP2 := Lib.hid hp2
  obtain ⟨A2, c2, rfl⟩ := ho2.form
  clear ho2 hp2
  go_wp2_with fail
  refine (stra_any _ _ cs a mem _ (HC.out.keep HP2.out) (HM.out.keep HP2.out) (by omega) (by omega)).mono ?_
  rintro e w3 ⟨r3, rfl, ho3, hp3⟩
  have HO3 := Lib.hid ho3
  have HP3 := Lib.hid hp3
  clear ho3 hp3
  go_wp2_with fail
  refine (sameBeats_same _ _ (lockA cs a mem).H _ (Flat.of_own (HO2.out.pure HP3.out)) (Flat.of_own HO3.out)).mono ?_
  rintro e w4 ⟨rfl, hp4⟩
  have HP24 := Lib.hid (HP3.out.trans hp4)
  have HP14 := Lib.hid (HP2.out.trans HP24.out)
  clear hp4 HO3
  by_cases hok : RunOk cs a mem
  · obtain ⟨n, rfl, hn1, hn8⟩ := lanes_nat hok.2.1
    have HOK := Lib.hid hok
    have hlen := lockA_len (cs := cs) (a := (n : Int)) (mem := mem)
    have HST := Lib.hid (fun x hx => lockA_step hok (x := x) hx)
    have HFI := Lib.hid (fun h => lockA_first hok hn1 h)
    have H0 : Hid (cs.length = 0 → (lockA cs n mem).H.length = 0) := Lib.hid fun h => by
      rcases Nat.eq_zero_or_pos (lockA cs n mem).H.length with hl | hl
      · exact hl
      · have := (lockA_step hok (getD_mem' hl)).1; omega
    obtain ⟨L, HL⟩ : ∃ L, Hid ((lockA cs n mem).H = L) := ⟨_, Lib.hid rfl⟩
    have HLL : Hid ((lockA cs n mem).H.length = L.length) := Lib.hid (by rw [HL.out])
    rw [HL.out] at HO2 hlen HST HFI H0
    simp only [HLL.out]
    clear hok
    go_wp2_with fail
    refine (runs_any _ _ cs n mem _ (HC.out.keep HP14.out) (HM.out.keep HP14.out) (by omega) (by omega) true (by simp only [true_iff]; exact HOK.out)).mono ?_
    rintro e w5 ⟨rfl, hp5⟩
    have HP15 := Lib.hid (HP14.out.trans hp5)
    have HP25 := Lib.hid (HP24.out.trans hp5)
    clear hp5
    by_cases hc0 : cs.length = 0
    · have hcb : ((cs.length : Int) == 0) = true := by simp [hc0]
      have hl0 : ((L.length : Int) == 0) = true := by have := H0.out hc0; simp [this]
      clear hc0
      go_wp2_with fail
      refine (alive_any _).mono ?_
      rintro e w6 ⟨rfl, hp6⟩
      go_wp2
      go_ret
      exact ⟨rfl, (HP1.out.trans HP15.out).trans hp6⟩
    have hcb : ((cs.length : Int) == 0) = false := by simpa using hc0
    have hfi := HFI.out (by omega)
    go_wp2_with fail
    go_loopg [7, 8] L.length (fun gk i _ wr => ∃ k : Nat, gk + k = L.length ∧ i = .int .i64 k ∧ Pure w5 wr)
    case atStart => exact ⟨0, rfl, rfl, Pure.refl _⟩
    case round =>
      obtain ⟨k, hgk, rfl, hp⟩ := hrel
      have Hgk := Lib.hid hgk
      have hkn : k ≤ L.length := by omega
      clear hgk
      by_cases hlt : k < L.length
      · obtain ⟨b', o', hv', hb', hc'⟩ := (Flat.of_own (HO2.out.pure (HP25.out.trans hp))).at_ (by omega)
        subst hv'
        have q0 := hc' (k * 2) (by omega)
        have q1 := hc' (k * 2 + 1) (by omega)
        rw [getD_of (beat_at L k hlt).1] at q0
        rw [getD_of (beat_at L k hlt).2, ← Nat.add_assoc] at q1
        obtain ⟨hpl, hm0, hmn, hop1, hop2⟩ := HST.out _ (getD_mem' hlt)
        obtain ⟨p, Hp⟩ : ∃ p, Hid ((L.getD k default).1 = p) := ⟨_, Lib.hid rfl⟩
        obtain ⟨mk, Hmk⟩ : ∃ mk, Hid ((L.getD k default).2.1 = mk) := ⟨_, Lib.hid rfl⟩
        rw [Hp.out] at q0 hpl hop1 hop2
        rw [Hmk.out] at q1 hm0 hmn
        obtain ⟨b, o, rfl, hb, hat⟩ := HC.out.at_ hpl
        obtain ⟨cd, Hcd⟩ : ∃ cd, Hid (cs.getD p default = cd) := ⟨_, Lib.hid rfl⟩
        have hat2 := hat.keep (HP15.out.trans hp) hb
        rw [Hcd.out] at hat2 hop1 hop2
        have r0 := hat2.c0
        clear hc' hat hat2
        have HMN := Lib.hid hmn
        have hmb : ((mk : Int) == 0) = false := by simp; omega
        have hplt : decide ((p : Int) < 0) = false := by simp
        have hpge : decide ((p : Int) ≥ (cs.length : Int)) = false := by simp; omega
        have ho12 : (cd.op == 12) = false := by simp [hop1]
        have ho14 : (cd.op == 14) = false := by simp [hop2]
        have HR : Hid (Pure wr (wr.alloc (.cells #[.int .i64 (p : Int), .int .i64 (mk : Int)] 33))) := Lib.hid (Pure.alloc (Pure.refl _) _)
        have r0' := keepPc HR.out r0
        clear hop1 hop2 hmn
        go_wp2_with fail
        refine (imaskvalid_any mk n _ hn1 hn8 HMN.out).mono ?_
        rintro e w6 ⟨rfl, rfl⟩
        go_wp2
        go_roundg (L.length - (k + 1))
        case measure => have := Hgk.out; omega
        case rel => exact ⟨k + 1, by have := Hgk.out; omega, by go_num, by exact (by repeat (first | assumption | exact Pure.refl _ | refine Pure.drewN ?_ _ | refine Pure.drew ?_ | refine Pure.alloc ?_ _ | refine Pure.setCell ?_ (by simp <;> omega) _))⟩
      · have hkl : k = L.length := by omega
        subst hkl
        obtain ⟨b', o', hv', hb', hc'⟩ := (Flat.of_own (HO2.out.pure (HP25.out.trans hp))).at_ hfi.1
        subst hv'
        have q0 := hc' 0 (by omega)
        have q1 := hc' 1 (by omega)
        rw [getD_of (show (beatsL L)[0]? = _ from (beat_at L 0 hfi.1).1), hfi.2.1] at q0
        rw [getD_of (show (beatsL L)[1]? = _ from (beat_at L 0 hfi.1).2), hfi.2.2] at q1
        simp only [Nat.add_zero] at q0
        obtain ⟨TT, HT⟩ : ∃ T, Hid (2 ^ n - 1 = T) := ⟨_, Lib.hid rfl⟩
        have HMA2 : Hid (∀ u : World, Calls Try.prog 22 #[.int .i64 (n : Int)] u fun e w' => e = .returned (.int .i64 (TT : Int)) ∧ w' = u) := Lib.hid fun u => by
          have := imaskall_any n u hn1 hn8; rw [HT.out] at this; exact this.mono fun e w' h => ⟨h.1, h.2.symm⟩
        rw [HT.out] at q1
        have hlp : decide ((L.length : Int) > 0) = true := by have := hfi.1; simp; omega
        have hl0 : 0 < L.length := hfi.1
        have hpf := (HP1.out.trans HP15.out).trans hp
        clear hc' hfi
        go_wp2
        go_quiet ((go_at_call 22; refine Calls.quiet_of_same (HMA2.out _)))
        go_wp2
        go_ret
        exact ⟨rfl, by exact (by repeat (first | assumption | exact Pure.refl _ | refine Pure.drewN ?_ _ | refine Pure.drew ?_ | refine Pure.alloc ?_ _ | refine Pure.setCell ?_ (by simp <;> omega) _))⟩
  · have HN : Hid ((lockA cs a mem).H = []) := Lib.hid (by rw [lockA_no hok]; rfl)
    have HOK := Lib.hid hok
    rw [HN.out] at HO2 ⊢
    clear hok
    go_wp2_with fail
    refine (runs_any _ _ cs a mem _ (HC.out.keep HP14.out) (HM.out.keep HP14.out) (by omega) (by omega) false (by simp [HOK.out])).mono ?_
    rintro e w5 ⟨rfl, hp5⟩
    go_wp2_with fail
    refine (alive_any _).mono ?_
    rintro e w6 ⟨rfl, hp6⟩
    go_wp2
    go_ret
    exact ⟨rfl, ((HP1.out.trans HP14.out).trans hp5).trans hp6⟩

end Go.Proofs.Ytkolnakcgjlcgaa

namespace Go.Proofs.Ytkolnakcgjlcgaa.rowFnLockTrace
open Go.ChangeShapes Go.WideShapes Go.ChangeAt Go.RowKit Go.Deep

set_option maxRecDepth 100000 in
theorem lifted (os : Os) (started : os.Started) (H : Type) (enc : TypeId × Value → H) :
    ReturnsInHanded {} Try.checked os 3 .any (Rows.fnLockTraceSpec.pre6 enc Try.prog Try.f3 Rows.fnLockTraceRow.domain false) (Rows.fnLockTraceSpec.post enc Try.prog Try.f3 false true false false) := by
  refine returnsInHanded_of_change (C := Try.checked) own_knob started (by kernel_rfl) Try.func3
    (ChangeSpec.witness6 (enc := enc) (C := Try.checked) false ⟨#[], #[.slice none 0 0], []⟩ 8 (by kernel_rfl) (by kernel_rfl) (by kernel_rfl) (by kernel_rfl)) ?_
  intro W base args ds gs before hval0 hW hcnd _
  have hval : ∀ (j : Nat) t v, Try.f3.params[j]? = some t → args[j]? = some v → Value.okWide Try.prog W .any base t v := hval0
  have hW' := hW
  obtain ⟨p, q, hA0, hV, rfl, hfz, hnd⟩ := hW
  have hA : DataW.TrodAll enc Try.prog W 0 (fun _ => true) true Try.f3.params.toList args.toList ds p := hA0
  rw [Try.params3] at hA hval
  obtain ⟨v0, vs0, d0, ds0, p0, q0, hargs, rfl, rfl, h0, r0⟩ := trodAll_cons hA
  obtain ⟨rfl, rfl, rfl⟩ := trodAll_nil r0
  obtain rfl : args = #[v0] := by cases args; simp_all
  obtain ⟨rfl, rfl⟩ := trodVars_none hV
  have k0 := h0
  have lt0 : ∀ x ∈ p0, x.block < W.heap.size := by obtain ⟨m, hm⟩ := k0; exact DataW.trod_lt m _ _ _ hm
  obtain ⟨A0, len0, cap0, rfl⟩ := okWide_slice Try.underlying22 (hval 0 22 v0 rfl rfl)
  obtain ⟨x0, w0⟩ : ∃ xs, Bytes W (.slice A0 len0 cap0) xs := by
    obtain ⟨fuel, hf⟩ := h0
    obtain ⟨v, xs, hcs, hx⟩ := bytes_open hf
    simp [Value.cells] at hcs
    subst hcs
    exact ⟨xs, hx⟩
  clear hA0 hval0
  refine (law_FnLockTrace _ x0 W w0).mono fun e W' ⟨he, bel⟩ => ?_
  subst he
  have bel' : Below W.heap.size W W' := bel
  exact ⟨_, rfl, _, _, _, [], _, [], hW', trodAll_mk1 (shut_bool Try.underlying4 _), (trodAll_cons_mk (Below.trod laid_out (by kernel_rfl) (of_decide_eq_true (by kernel_rfl)) k0 bel' lt0) trodAll_mk0), rfl, bel'.frame _, fun h => by cases h⟩

theorem proved : Rows.FnLockTraceSaid :=
  OpenClaim.holds_of_wide 3 Try.f3 rfl rfl rfl rfl rfl rfl rfl ⟨rfl, rfl, rfl, rfl, rfl⟩ rfl rfl rfl rfl rfl (by kernel_rfl) Try.func3 (by kernel_rfl)
    (of_decide_eq_true (by kernel_rfl)) (by unfold Func.isWrapper; rw [if_neg (of_decide_eq_false (by kernel_rfl))]; exact ⟨rfl, rfl⟩)
    (fun os started H enc _ => lifted os started H enc)

end Go.Proofs.Ytkolnakcgjlcgaa.rowFnLockTrace
