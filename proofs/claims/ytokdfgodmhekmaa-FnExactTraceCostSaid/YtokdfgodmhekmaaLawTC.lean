/- The law of the trace's cost: the program's is the reference's. No condition. -/
import Derived.Test.YtokdfgodmhekmaaCost7
import Derived.Test.YtokdfgodmhekmaaMarks
namespace Go.Proofs.Ytokdfgodmhekmaa
open Go.RowKit

set_option maxHeartbeats 1000000 in
set_option maxRecDepth 100000 in
theorem itc_any (vl vm : Value) (cs : List Cd) (a : Int) (mem : List Int) (w : World) (h : Codes w vl cs) (hm : Ints w vm mem) (hs1 : cs.length ≤ 1048576) (hs2 : mem.length ≤ 1048576) :
    Calls Try.prog 44 #[vl, .int .i64 a, vm] w fun e w' => ∃ x, e = .returned (.int .i64 x) ∧ CostP cs a mem x ∧ Pure w w' := by
  have H := Lib.hid h
  have HM := Lib.hid hm
  obtain ⟨A, c, rfl, hnc, hcm⟩ := h.form
  obtain ⟨Am, cm, rfl⟩ := hm.form
  clear h hm
  by_cases hok : RunOk cs a mem
  · have HOK := Lib.hid hok
    obtain ⟨n, rfl, hn1, hn8⟩ := lanes_nat hok.2.1
    clear hok
    go_enter Try.func44, Try.ntmps44
    go_wp2_with fail
    refine (ilock_any _ _ cs n mem _ H.out HM.out HOK.out.1 hn1 hn8 HOK.out.2.2).mono ?_
    rintro e w1 ⟨o, vb, va, rfl, hp0, hcs, hvl, hlk, hn, hmm, hrun⟩
    have hcs' := Lib.hid hcs
    have HIN : Hid (∀ x ∈ (lockOf cs n mem).H, StepIn o.rm.n 0 o.cs.length x) := Lib.hid (by rw [hn, hcs]; exact lockOf_in HOK.out.1)
    have hlen := lockOf_len (n := n) (mem := mem) HOK.out.1
    have HLEN := Lib.hid hlen
    have HR := Lib.hid hrun
    have HN8 : Hid (o.rm.n ≤ 8) := Lib.hid (by rw [hn]; exact hn8)
    have HP0 := Lib.hid (hp0.trans hrun.pure)
    have HVV : Hid (PValid o.cs) := Lib.hid (by rw [hcs]; exact HOK.out.1)
    have HB : Hid (2 ^ n - 1 < 256) := Lib.hid (by have := powI hn8; have : 1 ≤ 2 ^ n := Nat.one_le_two_pow; omega)
    have HEQ : Hid (costM o.cs (2 ^ n - 1) (lockOf cs n mem).H (lockOf cs n mem).H.length = costTo cs (lockOf cs n mem).H (lockOf cs n mem).H.length) := Lib.hid (by rw [hcs]; exact costM_all (lockOf_in HOK.out.1) _ (Nat.le_refl _))
    clear hp0 hcs hvl hlk hn hmm hrun hlen
    go_wp2_with fail
    refine (imaskall_any n _ hn1 hn8).mono ?_
    rintro e w2 ⟨rfl, rfl⟩
    obtain ⟨b, Hb⟩ : ∃ b, Hid (2 ^ n - 1 = b) := ⟨2 ^ n - 1, Lib.hid rfl⟩
    rw [Hb.out] at HB HEQ ⊢
    go_wp2_with fail
    refine (lcost_any o HVV.out b HB.out _ _ _ _ HR.out HIN.out HLEN.out HN8.out).mono ?_
    rintro e w3 ⟨rfl, hp3⟩
    rw [HEQ.out]
    go_wp2
    go_ret
    refine ⟨_, rfl, ⟨fun n' hn' _ => ?_, fun hno => absurd HOK.out hno⟩, HP0.out.trans hp3⟩
    obtain rfl : n = n' := by omega
    rfl
  · have HOK := Lib.hid hok
    clear hok
    go_enter Try.func44, Try.ntmps44
    go_wp2_with fail
    refine (ino_any _ _ cs a mem _ H.out HM.out hs1 hs2 HOK.out).mono ?_
    rintro e w1 ⟨rfl, hp1⟩
    go_wp2
    go_ret
    exact ⟨_, rfl, ⟨fun _ _ h => absurd h HOK.out, fun _ => rfl⟩, hp1⟩

theorem ints_of_row {w : World} {B e : Nat} {v : Value} {ys : List Int} (h : w.ownsRow B e 1 v ys.length (ys.map (.int .i64))) : Ints w v ys := Ints.of_map h

set_option maxHeartbeats 1000000 in
theorem law_FnExactTraceCost (v : Value) (cs : List Cd) (a : Int) (vm : Value) (mem : List Int) (w : World) (h : Codes w v cs) (hm : Ints w vm mem) :
    Calls Try.prog 8 #[v, .int .i64 a, vm] w fun e w' => e = .returned (.bool true) ∧ Pure w w' := by
  have H := Lib.hid h
  have HM := Lib.hid hm
  obtain ⟨A, c, rfl, hnc, hcm⟩ := h.form
  obtain ⟨Am, cm, rfl, hmc, hmcm, _⟩ := hm
  clear h
  by_cases hbig : 1048576 < (mem.length : Int)
  · go_enter Try.func8, Try.ntmps8
    go_wp2
    go_ret
    exact ⟨rfl, Pure.refl _⟩
  have hml : mem.length ≤ 1048576 := by omega
  go_enter Try.func8, Try.ntmps8
  go_wp2_with fail
  refine (szCodeS_any _ _ _ _ H.out (by omega) (by omega)).mono ?_
  rintro e w' ⟨rfl, rfl⟩
  by_cases h0 : (1048576 : Int) < cs.length
  · rw [if_pos h0]
    go_wp2
    go_ret
    exact ⟨rfl, Pure.refl _⟩
  rw [if_neg h0]
  have hlen : cs.length ≤ 1048576 := by omega
  have hge : ¬ ((1048576 : Int) - cs.length < 0) := by omega
  clear h0
  go_wp2_with fail
  refine (toCodeS_any _ cs _ H.out hlen).mono ?_
  rintro e w1 ⟨v1, rfl, hv1, hp1⟩
  have HV1 := Lib.hid hv1; clear hv1
  go_wp2_with fail
  refine (toIntS_any _ mem _ (HM.out.keep hp1) (by omega)).mono ?_
  rintro e w2 ⟨v2, rfl, hv2, hp2⟩
  have HV2 := Lib.hid (ints_of_row hv2); clear hv2
  have hqw2 := hp1.trans hp2
  go_wp2_with fail
  refine (stc_any _ _ cs a mem _ ((codes_of_own HV1.out).keep hp2) HV2.out hlen hml).mono ?_
  rintro e w3 ⟨xs3, rfl, px3, hp3⟩
  have PX3 := Lib.hid px3; clear px3
  have hqw3 := hqw2.trans hp3
  go_wp2_with fail
  refine (toCodeS_any _ cs _ (H.out.keep hqw3) hlen).mono ?_
  rintro e w4 ⟨v4, rfl, hv4, hp4⟩
  have HV4 := Lib.hid hv4; clear hv4
  have hqw4 := hqw3.trans hp4
  go_wp2_with fail
  refine (toIntS_any _ mem _ (HM.out.keep hqw4) (by omega)).mono ?_
  rintro e w5 ⟨v5, rfl, hv5, hp5⟩
  have HV5 := Lib.hid (ints_of_row hv5); clear hv5
  have hqw5 := hqw4.trans hp5
  go_wp2_with fail
  refine (itc_any _ _ cs a mem _ ((codes_of_own HV4.out).keep hp5) HV5.out hlen hml).mono ?_
  rintro e w6 ⟨ys6, rfl, px6, hp6⟩
  obtain rfl : xs3 = ys6 := CostP.unique px6 PX3.out
  clear px6
  have hd : (xs3 != xs3) = false := by simp
  have hqw6 := hqw5.trans hp6
  go_wp2_with fail
  refine (toCodeS_any _ cs _ (H.out.keep hqw6) hlen).mono ?_
  rintro e w7 ⟨v7, rfl, hv7, hp7⟩
  have HV7 := Lib.hid hv7; clear hv7
  have hqw7 := hqw6.trans hp7
  go_wp2_with fail
  refine (eqCodeS_same _ _ cs _ ((codes_of_own HV4.out).keep ((hp5.trans hp6).trans hp7)) (codes_of_own HV7.out)).mono ?_
  rintro e w8 ⟨rfl, hp8⟩
  have hqw8 := hqw7.trans hp8
  go_wp2_with fail
  refine (toIntS_any _ mem _ (HM.out.keep hqw8) (by omega)).mono ?_
  rintro e w9 ⟨v9, rfl, hv9, hp9⟩
  have HV9 := Lib.hid (ints_of_row hv9); clear hv9
  have hqw9 := hqw8.trans hp9
  go_wp2_with fail
  refine (eqIntS_any _ _ mem mem _ (HV5.out.keep (((hp6.trans hp7).trans hp8).trans hp9)) HV9.out true (by simp)).mono ?_
  rintro e w10 ⟨rfl, hz10⟩
  have hp10 := Pure.of_quiet hz10; clear hz10
  go_wp2
  go_ret
  exact ⟨rfl, hqw9.trans hp10⟩

end Go.Proofs.Ytokdfgodmhekmaa
