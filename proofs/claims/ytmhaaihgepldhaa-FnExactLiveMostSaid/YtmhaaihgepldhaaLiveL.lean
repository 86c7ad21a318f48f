/- LiveSets, the reference's and the program's, and the law that they answer alike. No condition. -/
import Derived.Test.YtmhaaihgepldhaaLiveS2
import Derived.Test.YtmhaaihgepldhaaLiveI
import Derived.Test.YtmhaaihgepldhaaRes
namespace Go.Proofs.Ytmhaaihgepldhaa
open Go.RowKit

/-- What LiveSets answers. -/
def LvP (cs : List Cd) (xs : List Int) : Prop :=
  (PValid cs → ∃ L, Least (succs cs) (wrOf cs) (rdOf cs) cs.length L ∧ xs = (List.range (cs.length + 1)).map fun j => ((L j : Nat) : Int)) ∧ (¬ PValid cs → xs = [])
theorem LvP.unique {cs : List Cd} {xs ys : List Int} (h : LvP cs ys) (k : LvP cs xs) : xs = ys := by
  by_cases hv : PValid cs
  · obtain ⟨L, h1, rfl⟩ := h.1 hv
    obtain ⟨M, k1, rfl⟩ := k.1 hv
    rw [h1.unique k1]
  · rw [h.2 hv, k.2 hv]
theorem LPost.res {cs : List Cd} {w w' : World} {e : Ending} (hv : PValid cs) (h : LPost cs w e w') : ResInts (LvP cs) w e w' := by
  obtain ⟨v, L, rfl, h1, h2, h3⟩ := h
  refine ⟨v, (List.range (cs.length + 1)).map fun j => ((L j : Nat) : Int), rfl, ⟨fun _ => ⟨L, h1, rfl⟩, fun hn => absurd hv hn⟩, ?_, ?_, h3⟩
  · have := hv.2.1; simp; omega
  · simpa [Function.comp_def] using h2

set_option maxHeartbeats 1000000 in
theorem slv_any (v : Value) (cs : List Cd) (w : World) (h : Codes w v cs) (hlen : cs.length ≤ 1048576) :
    Calls Try.prog 37 #[v] w (ResInts (LvP cs) w) := by
  by_cases hv : PValid cs
  · exact (slive_ok v cs w h hv).mono fun e w' hp => hp.res hv
  · have H := Lib.hid h
    have HV := Lib.hid hv
    obtain ⟨A, c, rfl, hnc, hcm⟩ := h.form
    clear h hv
    go_enter Try.func37, Try.ntmps37
    go_wp2_with fail
    refine (spv_any _ cs _ H.out hlen false (by simp [HV.out])).mono ?_
    rintro e w1 ⟨rfl, hp1⟩
    go_wp2
    go_ret
    exact ⟨_, [], rfl, ⟨fun h => absurd h HV.out, fun _ => rfl⟩, by simp, OwnO.empty_lit hp1.size, (by repeat (first | assumption | exact Pure.refl _ | refine Pure.drewN ?_ _ | refine Pure.drew ?_ | refine Pure.alloc ?_ _ | refine Pure.setCell ?_ (by simp <;> omega) _))⟩

set_option maxHeartbeats 1000000 in
theorem ilv_any (v : Value) (cs : List Cd) (w : World) (h : Codes w v cs) (hlen : cs.length ≤ 1048576) :
    Calls Try.prog 38 #[v] w (ResInts (LvP cs) w) := by
  have H := Lib.hid h
  obtain ⟨A, c, rfl, hnc, hcm⟩ := h.form
  clear h
  by_cases hv : PValid cs
  · have HV := Lib.hid hv
    clear hv
    go_enter Try.func38, Try.ntmps38
    go_wp2_with fail
    refine (ipv_any _ cs _ H.out hlen true (by simp [HV.out])).mono ?_
    rintro e w1 ⟨rfl, hp1⟩
    go_wp2_with fail
    refine (ilive_ok _ cs _ (H.out.keep hp1) HV.out).mono ?_
    rintro e w2 hl
    obtain ⟨v2, xs, rfl, h1, h2, h3, h4⟩ := hl.res HV.out
    have H1 := Lib.hid h1; clear h1 hl
    have HO : Hid (OwnO w2 w.heap.size 3 1 v2 xs.length (xs.map (.int .i64))) := Lib.hid (OwnO.base h3 hp1.size)
    have hp := hp1.trans h4
    clear h3
    go_wp2
    go_ret
    exact ⟨_, _, rfl, H1.out, h2, HO.out, hp⟩
  · have HV := Lib.hid hv
    clear hv
    go_enter Try.func38, Try.ntmps38
    go_wp2_with fail
    refine (ipv_any _ cs _ H.out hlen false (by simp [HV.out])).mono ?_
    rintro e w1 ⟨rfl, hp1⟩
    go_wp2
    go_ret
    exact ⟨_, [], rfl, ⟨fun h => absurd h HV.out, fun _ => rfl⟩, by simp, OwnO.of_own (World.ownsRow_nil _ _ _ _), hp1⟩

set_option maxHeartbeats 1000000 in
theorem law_FnExactLiveSets (v : Value) (cs : List Cd) (w : World) (h : Codes w v cs) :
    Calls Try.prog 10 #[v] w fun e w' => e = .returned (.bool true) ∧ Pure w w' := by
  have H := Lib.hid h
  obtain ⟨A, c, rfl, hnc, hcm⟩ := h.form
  clear h
  go_enter Try.func10, Try.ntmps10
  go_wp2_with fail
  refine (szCodeS_any _ _ _ _ H.out (by omega) (by omega)).mono ?_
  rintro e w' ⟨rfl, rfl⟩
  by_cases h0 : (1048576 : Int) < cs.length
  · rw [if_pos h0]
    go_wp2
    go_ret
    exact ⟨rfl, Pure.refl _⟩
  rw [if_neg h0]
  have hlen : cs.length ≤ 1048576 := by omega
  have hge : ¬ ((1048576 : Int) - cs.length < 0) := by omega
  clear h0
  go_wp2_with fail
  refine (toCodeS_any _ cs _ H.out hlen).mono ?_
  rintro e w1 ⟨v1, rfl, hv1, hp1⟩
  have HV1 := Lib.hid hv1; clear hv1
  have hqw1 := hp1
  go_wp2_with fail
  refine (slv_any _ cs _ (codes_of_own HV1.out) hlen).mono ?_
  rintro e w2 ⟨v2, xs2, rfl, px2, hl2, ho2, hp2⟩
  have PX2 := Lib.hid px2; clear px2
  have HL2 := Lib.hid hl2; clear hl2
  have HO2 := Lib.hid ho2; clear ho2
  have hqw2 := hqw1.trans hp2
  go_wp2_with fail
  refine (toCodeS_any _ cs _ (H.out.keep hqw2) hlen).mono ?_
  rintro e w3 ⟨v3, rfl, hv3, hp3⟩
  have HV3 := Lib.hid hv3; clear hv3
  have hqw3 := hqw2.trans hp3
  go_wp2_with fail
  refine (ilv_any _ cs _ (codes_of_own HV3.out) hlen).mono ?_
  rintro e w4 ⟨v4, ys4, rfl, px4, hl4, ho4, hp4⟩
  have HO4 := Lib.hid ho4; clear ho4
  obtain rfl : xs2 = ys4 := LvP.unique px4 PX2.out
  clear px4
  clear hl4
  have hn : xs2.length ≤ 1048576 := HL2.out
  have hqw4 := hqw3.trans hp4
  go_wp2_with fail
  refine (eqIntS_any _ _ xs2 xs2 _ (Ints.of_ownO' HO4.out) ((Ints.of_ownO' HO2.out).keep (hp3.trans hp4)) true (by simp)).mono ?_
  rintro e w5 ⟨rfl, hz5⟩
  have hp5 := Pure.of_quiet hz5; clear hz5
  have hqw5 := hqw4.trans hp5
  go_wp2_with fail
  refine (toCodeS_any _ cs _ (H.out.keep hqw5) hlen).mono ?_
  rintro e w6 ⟨v6, rfl, hv6, hp6⟩
  have HV6 := Lib.hid hv6; clear hv6
  have hqw6 := hqw5.trans hp6
  go_wp2_with fail
  refine (eqCodeS_same _ _ cs _ ((codes_of_own HV3.out).keep ((hp4.trans hp5).trans hp6)) (codes_of_own HV6.out)).mono ?_
  rintro e w7 ⟨rfl, hp7⟩
  have hqw7 := hqw6.trans hp7
  go_wp2_with fail
  refine (markCodeS_any _ _ _ _ _ _ (HV3.out.pure (((hp4.trans hp5).trans hp6).trans hp7)) (by omega) (by omega) (by omega)).mono ?_
  rintro e w8 ⟨rfl, hg8⟩
  have HG8 := Lib.hid hg8; clear hg8
  have hqw8 : Pure w w8 := Pure.grown hqw7 HG8.out (fun g hg => Nat.le_trans hqw2.size (HV3.out.lt g hg).1)
  have HI2 : Hid (Ints w8 v2 xs2) := Lib.hid (Ints.other ((Ints.of_ownO' HO2.out).keep ((((hp3.trans hp4).trans hp5).trans hp6).trans hp7)) HG8.out (own_apart HO2.out HV3.out (Nat.le_refl _)))
  have HJ4 : Hid (OwnO w8 w3.heap.size 3 1 v4 xs2.length (xs2.map (.int .i64))) := Lib.hid ((HO4.out.pure ((hp5.trans hp6).trans hp7)).kept HG8.out (own_apart' HV3.out HO4.out (Nat.le_refl _)))
  have hge1 : ¬ ((1 : Int) + 4 * cs.length < 0) := by omega
  go_wp2_with fail
  refine (eqIntS_any _ _ xs2 xs2 _ (Ints.of_ownO' HJ4.out) HI2.out true (by simp)).mono ?_
  rintro e w9 ⟨rfl, hz9⟩
  have hp9 := Pure.of_quiet hz9; clear hz9
  have hqw9 := hqw8.trans hp9
  go_wp2_with fail
  refine (markIntS_any _ _ _ _ _ _ (HJ4.out.pure hp9) (by omega) (by omega) (by omega)).mono ?_
  rintro e w10 ⟨rfl, hm10, hg10⟩
  have HG10 := Lib.hid hg10; clear hg10
  have HM10 := Lib.hid hm10; clear hm10
  have hqw10 : Pure w w10 := Pure.grown hqw9 HG10.out (fun g hg => Nat.le_trans hqw3.size (HO4.out.lt g hg).1)
  have HI10 : Hid (Ints w10 v2 xs2) := Lib.hid (Ints.other (HI2.out.keep hp9) HG10.out (own_apart HO2.out HO4.out hp3.size))
  have hge2 : ¬ ((1 : Int) + xs2.length < 0) := by omega
  have hd2 : ((1 : Int) + xs2.length != 1 + xs2.length) = false := by simp
  go_wp2_with fail
  refine (heldIntS_any _ _ _ _ (ints_marked HM10.out) (by omega) (by omega) (by omega)).mono ?_
  rintro e w11 ⟨rfl, hp11⟩
  have hqw11 := hqw10.trans hp11
  go_wp2_with fail
  refine (toCodeS_any _ cs _ (H.out.keep hqw11) hlen).mono ?_
  rintro e w12 ⟨v12, rfl, hv12, hp12⟩
  have HV12 := Lib.hid hv12; clear hv12
  have hqw12 := hqw11.trans hp12
  go_wp2_with fail
  refine (ilv_any _ cs _ (codes_of_own HV12.out) hlen).mono ?_
  rintro e w13 ⟨v13, ys13, rfl, px13, hl13, ho13, hp13⟩
  obtain rfl : xs2 = ys13 := LvP.unique px13 PX2.out
  have HO13 := Lib.hid ho13; clear ho13 px13 hl13
  have hqw13 := hqw12.trans hp13
  go_wp2_with fail
  refine (eqIntS_any _ _ xs2 xs2 _ (Ints.of_ownO' HO13.out) (HI10.out.keep ((hp11.trans hp12).trans hp13)) true (by simp)).mono ?_
  rintro e w14 ⟨rfl, hz14⟩
  have hp14 := Pure.of_quiet hz14; clear hz14
  have hqw14 := hqw13.trans hp14
  go_wp2_with fail
  refine (heldIntS_any _ _ _ _ ((ints_marked HM10.out).keep (((hp11.trans hp12).trans hp13).trans hp14)) (by omega) (by omega) (by omega)).mono ?_
  rintro e w15 ⟨rfl, hp15⟩
  have hqw15 := hqw14.trans hp15
  go_wp2
  go_ret
  exact ⟨rfl, hqw15⟩


end Go.Proofs.Ytmhaaihgepldhaa
