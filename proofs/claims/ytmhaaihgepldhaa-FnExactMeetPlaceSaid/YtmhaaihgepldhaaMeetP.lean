/- MeetPlace, the reference's and the program's, and the law that they answer alike. No condition. -/
import Derived.Test.YtmhaaihgepldhaaIGraph2
import Derived.Test.YtmhaaihgepldhaaNPostLaw
namespace Go.Proofs.Ytmhaaihgepldhaa
open Go.RowKit

/-- A place that opens a block of a valid program. -/
def OpensAt (cs : List Cd) (a : Int) : Prop := PValid cs ∧ (0 ≤ a ∧ a ≤ (cs.length : Int) - 1) ∧ Opens (cs.getD a.toNat default)

def MPPost (cs : List Cd) (a : Int) (w : World) (e : Ending) (w' : World) : Prop :=
  ∃ r : Int, e = .returned (.int .i64 r) ∧ ((OpensAt cs a → IsNP (graph cs) a cs.length r) ∧ (¬ OpensAt cs a → r = -1)) ∧ Pure w w'

set_option maxHeartbeats 1000000 in
theorem smp_any (v : Value) (cs : List Cd) (a : Int) (w : World) (h : Codes w v cs) (hsmall : cs.length ≤ 1048576) :
    Calls Try.prog 19 #[v, .int .i64 a] w (MPPost cs a w) := by
  have H := Lib.hid h
  obtain ⟨A, c, rfl, hnc, hcm⟩ := h.form
  clear h
  by_cases hv : PValid cs
  · have HV := Lib.hid hv
    clear hv
    by_cases hr : 0 ≤ a ∧ a ≤ (cs.length : Int) - 1
    · obtain ⟨k, rfl⟩ := Int.eq_ofNat_of_zero_le hr.1
      have hk : k < cs.length := by omega
      obtain ⟨b, o, rfl, hb, hc⟩ := H.out.at_ hk
      obtain ⟨cd, Hcd⟩ : ∃ cd, Hid (cs.getD k default = cd) := ⟨_, rfl⟩
      go_enter Try.func19, Try.ntmps19
      go_wp2_with fail
      refine (spv_any _ cs _ H.out hsmall true (by simp [HV.out])).mono ?_
      rintro e w1 ⟨rfl, hp1⟩
      have hat := hc.keep hp1 hb
      rw [Hcd.out] at hat
      obtain ⟨q0, q1, q2, q3⟩ := hat
      clear hc
      go_wp2_with fail
      refine (l1In_t _ _ _ _ hr).mono ?_
      rintro e w2 ⟨rfl, rfl⟩
      by_cases hop : Opens cd
      · have Hop := Lib.hid hop
        clear hop
        go_wp2_with fail
        refine (l4Opens_any cd _ true (by simp [Hop.out])).mono ?_
        rintro e w3 ⟨rfl, hp3⟩
        have hp13 := hp1.trans hp3
        go_wp2_with fail
        refine (sgraph_ok _ cs _ (H.out.keep hp13) HV.out).mono ?_
        rintro e w4 ⟨vg, rfl, hg, hp4⟩
        have HG := Lib.hid hg
        have hp14 := Lib.hid (hp13.trans hp4)
        clear hg
        go_wp2_with fail
        refine (snp_in vg (graph cs) k cs.length _ HG.out (graph_valid HV.out) ⟨by omega, by rw [graph_length]; omega⟩ ⟨by omega, by rw [graph_length]; omega⟩).mono ?_
        rintro e w5 ⟨r, rfl, hr5, hp5⟩
        have HR5 := Lib.hid hr5
        have hp15 := Lib.hid (hp14.out.trans hp5)
        clear hr5
        go_wp2
        go_ret
        exact ⟨r, rfl, ⟨fun _ => HR5.out, fun hn => absurd ⟨HV.out, hr, by rw [Int.toNat_natCast, Hcd.out]; exact Hop.out⟩ hn⟩, hp15.out⟩
      · have Hop := Lib.hid hop
        clear hop
        go_wp2_with fail
        refine (l4Opens_any cd _ false (by simp [Hop.out])).mono ?_
        rintro e w3 ⟨rfl, hp3⟩
        have hp13 := hp1.trans hp3
        go_wp2
        go_ret
        exact ⟨-1, rfl, ⟨fun h => absurd (by have := h.2.2; rwa [Int.toNat_natCast, Hcd.out] at this) Hop.out, fun _ => rfl⟩, hp13⟩
    · have Hr := Lib.hid hr
      go_enter Try.func19, Try.ntmps19
      go_wp2_with fail
      refine (spv_any _ cs _ H.out hsmall true (by simp [HV.out])).mono ?_
      rintro e w1 ⟨rfl, hp1⟩
      go_wp2_with fail
      refine (l1In_f _ _ _ _ hr).mono ?_
      rintro e w2 ⟨rfl, rfl⟩
      clear hr
      go_wp2
      go_ret
      exact ⟨-1, rfl, ⟨fun h => absurd h.2.1 Hr.out, fun _ => rfl⟩, hp1⟩
  · have HV := Lib.hid hv
    clear hv
    go_enter Try.func19, Try.ntmps19
    go_wp2_with fail
    refine (spv_any _ cs _ H.out hsmall false (by simp [HV.out])).mono ?_
    rintro e w1 ⟨rfl, hp1⟩
    go_wp2
    go_ret
    exact ⟨-1, rfl, ⟨fun h => absurd h.1 HV.out, fun _ => rfl⟩, hp1⟩

set_option maxHeartbeats 1000000 in
theorem imp_any (v : Value) (cs : List Cd) (a : Int) (w : World) (h : Codes w v cs) (hsmall : cs.length ≤ 1048576) :
    Calls Try.prog 21 #[v, .int .i64 a] w (MPPost cs a w) := by
  have H := Lib.hid h
  obtain ⟨A, c, rfl, hnc, hcm⟩ := h.form
  clear h
  by_cases ho : OpensAt cs a
  · have HO := Lib.hid ho
    obtain ⟨hv, hr, hop⟩ := ho
    have HV := Lib.hid hv
    clear hv hop
    obtain ⟨k, rfl⟩ := Int.eq_ofNat_of_zero_le hr.1
    go_enter Try.func21, Try.ntmps21
    go_wp2_with fail
    refine (opens_any _ cs _ _ H.out hsmall true (by have := HO.out; unfold OpensAt at this; simp only [true_iff]; exact this)).mono ?_
    rintro e w1 ⟨rfl, hp1⟩
    go_wp2_with fail
    refine (igraph_ok _ cs _ (H.out.keep hp1) HV.out).mono ?_
    rintro e w4 ⟨vg, rfl, hg, hp4⟩
    have HG := Lib.hid hg
    have hp14 := Lib.hid (hp1.trans hp4)
    clear hg
    go_wp2_with fail
    refine (inp_in vg (graph cs) k cs.length _ HG.out (graph_valid HV.out) ⟨by omega, by rw [graph_length]; omega⟩ ⟨by omega, by rw [graph_length]; omega⟩).mono ?_
    rintro e w5 ⟨r, rfl, hr5, hp5⟩
    have HR5 := Lib.hid hr5
    have hp15 := Lib.hid (hp14.out.trans hp5)
    clear hr5
    go_wp2
    go_ret
    exact ⟨r, rfl, ⟨fun _ => HR5.out, fun hn => absurd HO.out hn⟩, hp15.out⟩
  · have HO := Lib.hid ho
    clear ho
    go_enter Try.func21, Try.ntmps21
    go_wp2_with fail
    refine (opens_any _ cs _ _ H.out hsmall false (by have := HO.out; unfold OpensAt at this; simp only [Bool.false_eq_true, false_iff]; exact this)).mono ?_
    rintro e w1 ⟨rfl, hp1⟩
    go_wp2
    go_ret
    exact ⟨-1, rfl, ⟨fun h => absurd h HO.out, fun _ => rfl⟩, hp1⟩

theorem codes_of_own {w : World} {B : Nat} {v : Value} {cs : List Cd} (h : OwnO w B 65 4 v cs.length ((List.range (cs.length * 4)).map (cdf cs))) : Codes w v cs :=
  Codes.of_ownO h rfl fun j hj => by simp [hj]

set_option maxHeartbeats 1000000 in
theorem law_mp (v : Value) (cs : List Cd) (a : Int) (w : World) (h : Codes w v cs) :
    Calls Try.prog 4 #[v, .int .i64 a] w fun e w' => e = .returned (.bool true) ∧ Pure w w' := by
  have H := Lib.hid h
  obtain ⟨A, c, rfl, hnc, hcm⟩ := h.form
  clear h
  go_enter Try.func4, Try.ntmps4
  go_wp2_with fail
  refine (szCodeS_any _ _ _ _ H.out (by omega) (by omega)).mono ?_
  rintro e w' ⟨rfl, rfl⟩
  by_cases h0 : (1048576 : Int) < cs.length
  · rw [if_pos h0]
    go_wp2
    go_ret
    exact ⟨rfl, Pure.refl _⟩
  · rw [if_neg h0]
    have hlen : cs.length ≤ 1048576 := by omega
    have hge : ¬ ((1048576 : Int) - cs.length < 0) := by omega
    go_wp2_with fail
    refine (toCodeS_any _ cs _ H.out hlen).mono ?_
    rintro e w1 ⟨v1, rfl, hv1, hp1⟩
    have HV1 := Lib.hid (codes_of_own hv1); clear hv1
    go_wp2_with fail
    refine (smp_any _ cs _ _ HV1.out hlen).mono ?_
    rintro e w2 ⟨r2, rfl, hr2, hp2⟩
    have HR2 := Lib.hid hr2; clear hr2
    have hp12 := hp1.trans hp2
    go_wp2_with fail
    refine (toCodeS_any _ cs _ (H.out.keep hp12) hlen).mono ?_
    rintro e w3 ⟨v3, rfl, hv3, hp3⟩
    have HV3 := Lib.hid (codes_of_own hv3); clear hv3
    have hp13 := hp12.trans hp3
    go_wp2_with fail
    refine (imp_any _ cs _ _ HV3.out hlen).mono ?_
    rintro e w4 ⟨r4, rfl, hr4, hp4⟩
    have e42 : r4 = r2 := by
      by_cases hall : OpensAt cs a
      · exact (hr4.1 hall).unique (HR2.out.1 hall)
      · rw [hr4.2 hall, HR2.out.2 hall]
    subst e42
    clear hr4
    have hp14 := hp13.trans hp4
    have hd : (r4 != r4) = false := by simp
    go_wp2_with fail
    refine (toCodeS_any _ cs _ (H.out.keep hp14) hlen).mono ?_
    rintro e w5 ⟨v5, rfl, hv5, hp5⟩
    have HV5 := Lib.hid (codes_of_own hv5); clear hv5
    go_wp2_with fail
    refine (eqCodeS_same _ _ cs _ (HV3.out.keep (hp4.trans hp5)) HV5.out).mono ?_
    rintro e w6 ⟨rfl, hp6⟩
    go_wp2
    go_ret
    exact ⟨rfl, hp14.trans (hp5.trans hp6)⟩

end Go.Proofs.Ytmhaaihgepldhaa
