/- The law FnLaneCost, whole: The lanes' costs and the run's. No condition. -/
import Derived.Test.YtkolnakcgjlcgaaKac
import Derived.Test.YtkolnakcgjlcgaaKba
import Derived.Test.YtkolnakcgjlcgaaKbg
import Derived.Test.YtkolnakcgjlcgaaKbh
import Derived.Test.YtkolnakcgjlcgaaKbi
import Derived.Test.YtkolnakcgjlcgaaKca

namespace Go.Proofs.Ytkolnakcgjlcgaa
open Go.RowKit

set_option maxHeartbeats 1000000 in
set_option maxRecDepth 100000 in
theorem itc_any (vl vm : Value) (cs : List Cd) (a : Int) (mem : List Int) (w : World) (h : Codes w vl cs) (hm : Ints w vm mem) (hs1 : cs.length ≤ 1048576) (hs2 : mem.length ≤ 1048576) :
    Calls Try.prog 41 #[vl, .int .i64 a, vm] w fun e w' => ∃ x, e = .returned (.int .i64 x) ∧ CostP cs a mem x ∧ Pure w w' := by
  have H := Lib.hid h
  have HM := Lib.hid hm
  obtain ⟨A, c, rfl, hnc, hcm⟩ := h.form
  obtain ⟨Am, cm, rfl⟩ := hm.form
  clear h hm
  by_cases hok : RunOk cs a mem
  · have HOK := Lib.hid hok
    obtain ⟨n, rfl, hn1, hn8⟩ := lanes_nat hok.2.1
    clear hok
    go_enter Try.func41, Try.ntmps41
    go_wp2_with fail
    refine (ilock_any _ _ cs n mem _ H.out HM.out HOK.out.1 hn1 hn8 HOK.out.2.2).mono ?_
    rintro e w1 ⟨o, vb, va, rfl, hp0, hcs, hvl, hlk, hn, hmm, hrun⟩
    have hcs' := Lib.hid hcs
    have HIN : Hid (∀ x ∈ (lockOf cs n mem).H, StepIn o.rm.n 0 o.cs.length x) := Lib.hid (by rw [hn, hcs]; exact lockOf_in HOK.out.1)
    have hlen := lockOf_len (n := n) (mem := mem) HOK.out.1
    have HLEN := Lib.hid hlen
    have HR := Lib.hid hrun
    have HN8 : Hid (o.rm.n ≤ 8) := Lib.hid (by rw [hn]; exact hn8)
    have HP0 := Lib.hid (hp0.trans hrun.pure)
    have HVV : Hid (PValid o.cs) := Lib.hid (by rw [hcs]; exact HOK.out.1)
    have HB : Hid (2 ^ n - 1 < 256) := Lib.hid (by have := powI hn8; have : 1 ≤ 2 ^ n := Nat.one_le_two_pow; omega)
    have HEQ : Hid (costM o.cs (2 ^ n - 1) (lockOf cs n mem).H (lockOf cs n mem).H.length = costTo cs (lockOf cs n mem).H (lockOf cs n mem).H.length) := Lib.hid (by rw [hcs]; exact costM_all (lockOf_in HOK.out.1) _ (Nat.le_refl _))
    clear hp0 hcs hvl hlk hn hmm hrun hlen
    go_wp2_with fail
    refine (imaskall_any n _ hn1 hn8).mono ?_
    rintro e w2 ⟨rfl, rfl⟩
    obtain ⟨b, Hb⟩ : ∃ b, Hid (2 ^ n - 1 = b) := ⟨2 ^ n - 1, Lib.hid rfl⟩
    rw [Hb.out] at HB HEQ ⊢
    go_wp2_with fail
    refine (lcost_any o HVV.out b HB.out _ _ _ _ HR.out HIN.out HLEN.out HN8.out).mono ?_
    rintro e w3 ⟨rfl, hp3⟩
    rw [HEQ.out]
    go_wp2
    go_ret
    refine ⟨_, rfl, ⟨fun n' hn' _ => ?_, fun hno => absurd HOK.out hno⟩, HP0.out.trans hp3⟩
    obtain rfl : n = n' := by omega
    rfl
  · have HOK := Lib.hid hok
    clear hok
    go_enter Try.func41, Try.ntmps41
    go_wp2_with fail
    refine (ino_any _ _ cs a mem _ H.out HM.out hs1 hs2 HOK.out).mono ?_
    rintro e w1 ⟨rfl, hp1⟩
    go_wp2
    go_ret
    exact ⟨_, rfl, ⟨fun _ _ h => absurd h HOK.out, fun _ => rfl⟩, hp1⟩

end Go.Proofs.Ytkolnakcgjlcgaa

namespace Go.Proofs.Ytkolnakcgjlcgaa
open Go.RowKit

def DrawLP (w : World) (e : Ending) (w' : World) : Prop :=
  ∃ vl cs a vm xs n0, e = .returned (.tuple #[vl, .int .i64 a, vm, .int .i64 n0]) ∧ 0 ≤ a ∧ a ≤ 9 ∧ Codes w' vl cs ∧ Ints w' vm xs ∧ cs.length ≤ 300000 ∧ xs.length ≤ 33 ∧ -1 ≤ n0 ∧ n0 ≤ 9 ∧ Pure w w'

set_option maxHeartbeats 1000000 in
theorem draw_DrawLaneCost (v : Value) (bs : List Int) (w : World) (h : Bytes w v bs) (hs : bs.length ≤ 1048576) : Calls Try.prog 43 #[v] w (DrawLP w) := by
  have H := Lib.hid h
  obtain ⟨A, c, rfl, hnc, hcm⟩ := h.form
  clear h
  go_enter Try.func43, Try.ntmps43
  go_wp2_with fail
  refine (draw_open _ bs _ H.out hs).mono ?_
  rintro e w1 ⟨p, vb, bs', rfl, hr, hp1⟩
  have HR := Lib.hid hr
  clear hr
  go_wp2_with fail
  refine (run_any w w1 p 0 16 vb bs' 16 rfl (by decide) HR.out (by decide)).mono ?_
  rintro e w2 ⟨vl, cs, a, vm, xs, rfl, ha0, ha9, hl, hm⟩
  have HL := Lib.hid hl
  have HM := Lib.hid hm
  clear hl hm
  obtain ⟨n, rfl⟩ : ∃ n : Nat, a = n := ⟨a.toNat, by omega⟩
  go_wp2_with fail
  refine (pick_t w _ p (0 + 2001000) vb bs' (n + 1) _ (by omega) HL.out.rb (by omega) (by omega) (by omega)).mono ?_
  rintro e w3 ⟨x3, rfl, hx3, hr3, hg3⟩
  have S3 := Lib.hid (HL.out.step hr3 hg3)
  have M3 := Lib.hid (HM.out.step hr3 hg3)
  clear hr3 hg3 HL HM
  go_wp2_with fail
  refine (pick_t w _ p (0 + 2001000 + 1) vb bs' 14 14 rfl S3.out.rb (by omega) (by decide) (by decide)).mono ?_
  rintro e w4 ⟨x4, rfl, hx4, hr4, hg4⟩
  have S4 := Lib.hid (S3.out.step hr4 hg4)
  have M4 := Lib.hid (M3.out.step hr4 hg4)
  clear hr4 hg4 S3 M3
  go_wp2
  refine bodyPost_ret (v := .tuple #[vl, .int .i64 n, vm, .int .i64 _]) (by simp [results, Try.results43, go_sem]; rfl) rfl ?_
  exact ⟨vl, cs, _, vm, xs, _, rfl, by omega, by omega, S4.out.codes, M4.out.ints, S4.out.len, M4.out.len, by omega, by omega, S4.out.rb.pure⟩

theorem one_ok' {cs : List Cd} {a : Int} {mem : List Int} (h : RunOk cs a mem) : RunOk cs ((1 : Nat) : Int) mem := ⟨h.1, ⟨by decide, by decide⟩, h.2.2⟩

set_option maxHeartbeats 4000000 in
set_option maxRecDepth 100000 in
theorem law_FnLaneCost (v : Value) (bs : List Int) (w : World) (h : Bytes w v bs) :
    Calls Try.prog 9 #[v] w fun e w' => e = .returned (.bool true) ∧ Pure w w' := by
  have H := Lib.hid h
  obtain ⟨A, c, rfl, hnc, hcm⟩ := h.form
  clear h
  by_cases hbig : (bs.length : Int) > 1048576
  · go_enter Try.func9, Try.ntmps9
    go_wp2
    go_ret
    exact ⟨rfl, Pure.refl _⟩
  go_enter Try.func9, Try.ntmps9
  go_wp2_with fail
  refine (draw_DrawLaneCost _ bs _ H.out (by omega)).mono ?_
  rintro e w1 ⟨vl, cs, a, vm, mem, n0, rfl, ha0, ha9, hl, hm, hcl, hml, hn0, hn9, hp1⟩
  have HC := Lib.hid hl
  have HM := Lib.hid hm
  have HP1 := Lib.hid hp1
  obtain ⟨Ac, cc, rfl, hcc1, hcc2⟩ := hl.form
  obtain ⟨Am, cm, rfl⟩ := hm.form
  clear hl hm hp1
  obtain ⟨q, Hq⟩ : ∃ q, Hid (laneA cs a mem n0 = q) := ⟨_, Lib.hid rfl⟩
  go_wp2_with fail
  refine (ilane_any _ _ cs a mem n0 _ HC.out HM.out (by omega) (by omega)).mono ?_
  rintro e w2 ⟨rfl, hp2⟩
  rw [Hq.out]
  have HP2 := Lib.hid hp2
  clear hp2
  go_wp2_with fail
  refine (slane_any _ _ cs a mem n0 _ (HC.out.keep HP2.out) (HM.out.keep HP2.out) (by omega) (by omega)).mono ?_
  rintro e w3 ⟨rfl, hp3⟩
  rw [Hq.out]
  have hqq : (q != q) = false := by simp
  have HP3 := Lib.hid (HP2.out.trans hp3)
  clear hp3
  by_cases hok : RunOk cs a mem ∧ 0 ≤ n0 ∧ n0 ≤ a - 1
  · obtain ⟨hok, hk0, hk1⟩ := hok
    obtain ⟨n, rfl, hn1, hn8⟩ := lanes_nat hok.2.1
    obtain ⟨k0, rfl⟩ : ∃ k0 : Nat, n0 = k0 := ⟨n0.toNat, by omega⟩
    have hone := one_ok' hok
    have HOK := Lib.hid hok
    have HONE := Lib.hid hone
    have hlq := laneA_ok hok (show k0 < n by omega)
    have hq0 : 0 ≤ q := by rw [← Hq.out, hlq]; omega
    have hlen := lockOf_len (n := n) (mem := mem) hok.1
    have HLA : Hid (∀ j, j < n → laneA cs n mem (j : Nat) = (costM cs (2 ^ j) (lockOf cs n mem).H (lockOf cs n mem).H.length : Nat)) := Lib.hid fun j hj => laneA_ok hok hj
    have HGE := Lib.hid (sum_ge (lockOf_in (n := n) (mem := mem) hok.1) (lockOf cs n mem).H.length (Nat.le_refl _))
    have HLE := Lib.hid (sum_le cs (lockOf cs n mem).H n)
    obtain ⟨L, HL⟩ : ∃ L, Hid ((lockOf cs n mem).H = L) := ⟨_, Lib.hid rfl⟩
    rw [HL.out] at HGE HLE HLA hlen
    have hct := costTo_le cs L L.length
    obtain ⟨ct, Hct⟩ : ∃ ct, Hid (costTo cs L L.length = ct) := ⟨_, Lib.hid rfl⟩
    rw [Hct.out] at HGE HLE hct
    obtain ⟨o1, Ho1⟩ : ∃ o1, Hid (costTo cs (lockOf cs 1 mem).H (lockOf cs 1 mem).H.length = o1) := ⟨_, Lib.hid rfl⟩
    have HO : Hid (laneA cs ((1 : Nat) : Int) mem ((0 : Nat) : Int) = (o1 : Nat)) := Lib.hid (by rw [laneA_ok hone (by decide), cost_one hok.1, Ho1.out])
    have hqn : decide (q < 0) = false := by simp; omega
    clear hone hlq hok hk0 hk1
    obtain ⟨f, Hf⟩ : ∃ f : Nat → Nat, Hid ((fun k => costM cs (2 ^ k) L L.length) = f) := ⟨_, Lib.hid rfl⟩
    have HFT : Hid (∀ k, f k ≤ 10240) := Lib.hid fun k => by
      rw [← Hf.out]; have := costM_le cs (2 ^ k) L L.length; show costM cs (2 ^ k) L L.length ≤ _; omega
    have HLF : Hid (∀ j, j < n → laneA cs n mem (j : Nat) = (f j : Nat)) := Lib.hid fun j hj => by rw [HLA.out j hj, ← Hf.out]
    rw [Hf.out] at HGE HLE
    clear HLA
    go_wp2_with fail
    go_loopg [8, 9] n (fun gk qq i wr => ∃ j : Nat, gk + j = n ∧ i = .int .i64 j ∧ qq = .int .i64 (sumF f j : Nat) ∧ Pure w3 wr)
    case atStart => exact ⟨0, rfl, rfl, rfl, Pure.refl _⟩
    case round =>
      obtain ⟨j, hgk, rfl, rfl, hp⟩ := hrel
      have Hgk := Lib.hid hgk
      have hjn : j ≤ n := by omega
      clear hgk
      have HP := Lib.hid (HP3.out.trans hp)
      have HPP := Lib.hid hp
      clear hp
      have hst := sumF_top f 10240 HFT.out j
      by_cases hlt : j < n
      · have hfj := HFT.out j
        have hnext : sumF f (j + 1) = sumF f j + f j := rfl
        have HLJ := Lib.hid (HLF.out j hlt)
        obtain ⟨m0, Hm0⟩ : ∃ m0, Hid (sumF f j = m0) := ⟨_, Lib.hid rfl⟩
        obtain ⟨u, Hu⟩ : ∃ u, Hid (f j = u) := ⟨_, Lib.hid rfl⟩
        rw [Hm0.out] at hnext hst ⊢
        rw [Hu.out] at hnext hfj HLJ
        have Hnext := Lib.hid hnext
        clear hnext
        go_wp2_with fail
        refine (ilane_any _ _ cs n mem (j : Int) _ (HC.out.keep HP.out) (HM.out.keep HP.out) (by omega) (by omega)).mono ?_
        rintro e w4 ⟨rfl, hp4⟩
        rw [HLJ.out]
        go_wp2
        go_roundg (n - (j + 1))
        case measure => have := Hgk.out; omega
        case rel => exact ⟨j + 1, by have := Hgk.out; omega, by go_num, by rw [Hnext.out] <;> first | rfl | exact congrArg (Value.int .i64) (by omega), HPP.out.trans hp4⟩
      · have hjl : j = n := by omega
        subst hjl
        have hge := HGE.out
        have hle := HLE.out
        obtain ⟨m0, Hm0⟩ : ∃ m0, Hid (sumF f j = m0) := ⟨_, Lib.hid rfl⟩
        rw [Hm0.out] at hst hge hle ⊢
        have hle2 : (m0 : Int) ≤ (j : Int) * (ct : Int) := by exact_mod_cast hle
        go_wp2_with fail
        refine (itc_any _ _ cs j mem _ (HC.out.keep HP.out) (HM.out.keep HP.out) (by omega) (by omega)).mono ?_
        rintro e w5 ⟨x, rfl, hx, hp5⟩
        have hx2 : x = (ct : Int) := by
          rw [hx.1 j rfl HOK.out, ← Hct.out, HL.out]
        subst hx2
        have HP5 := Lib.hid (HP.out.trans hp5)
        clear hp5 hx
        go_wp2_with fail
        refine (ilane_any _ _ cs ((1 : Nat) : Int) mem ((0 : Nat) : Int) _ (HC.out.keep HP5.out) (HM.out.keep HP5.out) (by omega) (by omega)).mono ?_
        rintro e w6 ⟨rfl, hp6⟩
        rw [HO.out]
        have HP6 := Lib.hid (HP5.out.trans hp6)
        clear hp6
        go_wp2_with fail
        refine (itc_any _ _ cs ((1 : Nat) : Int) mem _ (HC.out.keep HP6.out) (HM.out.keep HP6.out) (by omega) (by omega)).mono ?_
        rintro e w7 ⟨x7, rfl, hx, hp7⟩
        have hx7 : x7 = (o1 : Int) := by
          rw [hx.1 1 rfl HONE.out, ← Ho1.out]
        subst hx7
        have e1 : ((o1 : Int) == (o1 : Int)) = true := by simp
        have e2 : decide ((m0 : Int) ≥ (ct : Int)) = true := by simp; omega
        have hm : (j : Int) * (ct : Int) ≤ 8 * 10240 := Int.mul_le_mul (by omega) (by omega) (by omega) (by omega)
        have hm0 : 0 ≤ (j : Int) * (ct : Int) := Int.mul_nonneg (by omega) (by omega)
        obtain ⟨jc, Hjc⟩ : ∃ jc, Hid ((j : Int) * (ct : Int) = jc) := ⟨_, Lib.hid rfl⟩
        rw [Hjc.out] at hm hm0 hle2
        have e3 : decide ((m0 : Int) ≤ jc) = true := by simp; omega
        go_wp2
        have ew : wrap64 ((j : Int) * (ct : Int)) = jc := by rw [Hjc.out]; unfold wrap64; omega
        rw [ew, e3]
        go_ret
        exact ⟨rfl, (HP1.out.trans HP6.out).trans hp7⟩
  · have hq1 : q = -1 := by rw [← Hq.out, laneA_no hok]
    subst hq1
    clear hok
    go_wp2_with fail
    refine (alive_any _).mono ?_
    rintro e w5 ⟨rfl, hp5⟩
    go_wp2
    go_ret
    exact ⟨rfl, (HP1.out.trans HP3.out).trans hp5⟩

end Go.Proofs.Ytkolnakcgjlcgaa

namespace Go.Proofs.Ytkolnakcgjlcgaa.rowFnLaneCost
open Go.ChangeShapes Go.WideShapes Go.ChangeAt Go.RowKit Go.Deep

set_option maxRecDepth 100000 in
theorem lifted (os : Os) (started : os.Started) (H : Type) (enc : TypeId × Value → H) :
    ReturnsInHanded {} Try.checked os 9 .any (Rows.fnLaneCostSpec.pre6 enc Try.prog Try.f9 Rows.fnLaneCostRow.domain false) (Rows.fnLaneCostSpec.post enc Try.prog Try.f9 false true false false) := by
  refine returnsInHanded_of_change (C := Try.checked) own_knob started (by kernel_rfl) Try.func9
    (ChangeSpec.witness6 (enc := enc) (C := Try.checked) false ⟨#[], #[.slice none 0 0], []⟩ 8 (by kernel_rfl) (by kernel_rfl) (by kernel_rfl) (by kernel_rfl)) ?_
  intro W base args ds gs before hval0 hW hcnd _
  have hval : ∀ (j : Nat) t v, Try.f9.params[j]? = some t → args[j]? = some v → Value.okWide Try.prog W .any base t v := hval0
  have hW' := hW
  obtain ⟨p, q, hA0, hV, rfl, hfz, hnd⟩ := hW
  have hA : DataW.TrodAll enc Try.prog W 0 (fun _ => true) true Try.f9.params.toList args.toList ds p := hA0
  rw [Try.params9] at hA hval
  obtain ⟨v0, vs0, d0, ds0, p0, q0, hargs, rfl, rfl, h0, r0⟩ := trodAll_cons hA
  obtain ⟨rfl, rfl, rfl⟩ := trodAll_nil r0
  obtain rfl : args = #[v0] := by cases args; simp_all
  obtain ⟨rfl, rfl⟩ := trodVars_none hV
  have k0 := h0
  have lt0 : ∀ x ∈ p0, x.block < W.heap.size := by obtain ⟨m, hm⟩ := k0; exact DataW.trod_lt m _ _ _ hm
  obtain ⟨A0, len0, cap0, rfl⟩ := okWide_slice Try.underlying22 (hval 0 22 v0 rfl rfl)
  obtain ⟨x0, w0⟩ : ∃ xs, Bytes W (.slice A0 len0 cap0) xs := by
    obtain ⟨fuel, hf⟩ := h0
    obtain ⟨v, xs, hcs, hx⟩ := bytes_open hf
    simp [Value.cells] at hcs
    subst hcs
    exact ⟨xs, hx⟩
  clear hA0 hval0
  refine (law_FnLaneCost _ x0 W w0).mono fun e W' ⟨he, bel⟩ => ?_
  subst he
  have bel' : Below W.heap.size W W' := bel
  exact ⟨_, rfl, _, _, _, [], _, [], hW', trodAll_mk1 (shut_bool Try.underlying4 _), (trodAll_cons_mk (Below.trod laid_out (by kernel_rfl) (of_decide_eq_true (by kernel_rfl)) k0 bel' lt0) trodAll_mk0), rfl, bel'.frame _, fun h => by cases h⟩

theorem proved : Rows.FnLaneCostSaid :=
  OpenClaim.holds_of_wide 9 Try.f9 rfl rfl rfl rfl rfl rfl rfl ⟨rfl, rfl, rfl, rfl, rfl⟩ rfl rfl rfl rfl rfl (by kernel_rfl) Try.func9 (by kernel_rfl)
    (of_decide_eq_true (by kernel_rfl)) (by unfold Func.isWrapper; rw [if_neg (of_decide_eq_false (by kernel_rfl))]; exact ⟨rfl, rfl⟩)
    (fun os started H enc _ => lifted os started H enc)

end Go.Proofs.Ytkolnakcgjlcgaa.rowFnLaneCost
