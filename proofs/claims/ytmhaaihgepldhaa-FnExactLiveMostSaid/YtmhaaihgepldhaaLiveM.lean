/- LiveMost, the reference's and the program's, and the law that they answer alike. No condition. -/
import Derived.Test.YtmhaaihgepldhaaLiveD
import Derived.Test.YtmhaaihgepldhaaBit8
namespace Go.Proofs.Ytmhaaihgepldhaa
open Go.RowKit

def mx (L : Nat → Nat) : Nat → Nat
  | 0 => 0
  | k + 1 => max (mx L k) (cnt (L k) 4)
theorem mx_le (L : Nat → Nat) : ∀ n, mx L n ≤ 4
  | 0 => by simp [mx]
  | n + 1 => by
    have := mx_le L n
    have := cnt_le (L n) 4
    simp only [mx]; omega
/-- What LiveMost answers. -/
def LmP (cs : List Cd) (x : Int) : Prop :=
  (PValid cs → ∃ L, Least (succs cs) (wrOf cs) (rdOf cs) cs.length L ∧ x = (mx L (cs.length + 1) : Nat)) ∧ (¬ PValid cs → x = -1)
theorem LmP.unique {cs : List Cd} {x y : Int} (h : LmP cs y) (k : LmP cs x) : x = y := by
  by_cases hv : PValid cs
  · obtain ⟨L, h1, rfl⟩ := h.1 hv
    obtain ⟨M, k1, rfl⟩ := k.1 hv
    rw [h1.unique k1]
  · rw [h.2 hv, k.2 hv]
theorem cnt_hi {u : Nat} (h : u < 16) : cnt u 8 = cnt u 4 := by
  simp only [cnt]; omega

/-- The number of digits that are 1, as the library reckons it. -/
def popA (x y : Int) : Int := bits .and .u64 x y
def pop1 (u : Int) : Int := IntKind.u64.wrap (popA (u / 2) 6148914691236517205 + popA u 6148914691236517205)
def pop2 (x : Int) : Int := IntKind.u64.wrap (popA (x / 4) 3689348814741910323 + popA x 3689348814741910323)
def pop3 (x : Int) : Int := popA (IntKind.u64.wrap (x / 16 + x)) 1085102592571150095
def pop4 (x k : Int) : Int := IntKind.u64.wrap (x + x / k)
def pop64 (u : Int) : Int := bits .and .i64 (wrap64 (pop4 (pop4 (pop4 (pop3 (pop2 (pop1 u))) 256) 65536) 4294967296)) 127
theorem pop_fin : ∀ u : Fin 256, pop64 (u.val : Int) = (cnt u.val 8 : Nat) := by decide +kernel
theorem pop_eq {u : Nat} (h : u < 256) : pop64 (u : Int) = (cnt u 8 : Nat) := pop_fin ⟨u, h⟩

set_option maxHeartbeats 1000000 in
theorem ones64_any (u : Nat) (h : u < 256) (w : World) :
    Calls Try.prog 100 #[.int .u64 (u : Int)] w fun e w' => e = .returned (.int .i64 (cnt u 8 : Nat)) ∧ w = w' := by
  have HP := Lib.hid (pop_eq h)
  go_enter Try.func100, Try.ntmps100
  go_wp2
  go_ret
  refine ⟨ret_int ?_, rfl⟩
  rw [← HP.out]
  rfl

set_option maxHeartbeats 1000000 in
theorem ones_any (u : Nat) (h : u < 256) (w : World) :
    Calls Try.prog 92 #[.int .u64 (u : Int)] w fun e w' => e = .returned (.int .i64 (cnt u 8 : Nat)) ∧ w = w' := by
  go_enter Try.func92, Try.ntmps92
  go_wp2_with (go_at_call 100; go_must (refine (ones64_any u h _).mono ?_); rintro e w' ⟨rfl, rfl⟩)
  go_ret
  exact ⟨rfl, rfl⟩

set_option maxHeartbeats 1000000 in
theorem imany_any (u : Nat) (h : u < 256) (w : World) :
    Calls Try.prog 79 #[.int .i64 (u : Int)] w fun e w' => e = .returned (.int .i64 (cnt u 8 : Nat)) ∧ w = w' := by
  go_enter Try.func79, Try.ntmps79
  go_wp2_with (go_at_call 92; go_must (refine (ones_any u h _).mono ?_); rintro e w' ⟨rfl, rfl⟩)
  go_ret
  exact ⟨rfl, rfl⟩

theorem mx_cast (L : Nat → Nat) (k : Nat) : ((mx L (k + 1) : Nat) : Int) = max (mx L k : Int) (cnt (L k) 4 : Nat) := by
  show ((max (mx L k) (cnt (L k) 4) : Nat) : Int) = _
  omega

set_option maxHeartbeats 1000000 in
theorem slm_any (v : Value) (cs : List Cd) (w : World) (h : Codes w v cs) (hlen : cs.length ≤ 1048576) :
    Calls Try.prog 43 #[v] w (ResInt (LmP cs) w) := by
  have H := Lib.hid h
  obtain ⟨A, c, rfl, hnc, hcm⟩ := h.form
  clear h
  by_cases hv : PValid cs
  · have HV := Lib.hid hv
    have hsmall := hv.2.1
    clear hv
    go_enter Try.func43, Try.ntmps43
    go_wp2_with fail
    refine (slive_ok _ cs _ H.out HV.out).mono ?_
    rintro e w1 ⟨v1, L, rfl, hL, hO, hp1⟩
    have HL := Lib.hid hL
    have HLT := Lib.hid (fun k => hL.lt16 HV.out k)
    have HS : Hid (Sets w1 v1 (cs.length + 1) L) := Lib.hid (sets_of_own hO)
    obtain ⟨A1, c1, rfl⟩ := hO.form
    clear hL hO
    go_wp2
    go_loopg [5, 3] (cs.length + 1) (fun gk i s wr => ∃ k : Nat, gk + k = cs.length + 1 ∧ i = .int .i64 k ∧ s = .int .i64 (if k = 0 then -1 else (mx L k : Nat)) ∧ wr = w1)
    case atStart => exact ⟨0, rfl, rfl, rfl, rfl⟩
    case round =>
      obtain ⟨k, hgk, rfl, rfl, rfl⟩ := hrel
      have Hgk := Lib.hid hgk
      have hkn : k ≤ cs.length + 1 := by omega
      have hmx := mx_le L k
      clear hgk
      obtain ⟨s, Hs⟩ : ∃ s : Int, Hid ((if k = 0 then (-1 : Int) else (mx L k : Nat)) = s) := ⟨_, rfl⟩
      rw [Hs.out]
      have hs : -1 ≤ s ∧ s ≤ 4 := by rw [← Hs.out]; split <;> omega
      obtain ⟨hs0, hs1⟩ := hs
      by_cases hlt : k < cs.length + 1
      · obtain ⟨As, cs', hvs, _, _, h6⟩ := HS.out
        injection hvs with e1 e2 e3
        subst e1 e3
        obtain ⟨bs, os, rfl, hbs, hcs⟩ := h6 (by omega)
        have r2 : wr.cell? ⟨bs, os + k, none⟩ = some (.int .i64 (L k : Nat)) := hcs k (by omega)
        clear h6 hcs
        have hu : L k < 16 := HLT.out k
        have hN : (if k + 1 = 0 then (-1 : Int) else (mx L (k + 1) : Nat)) = max s (cnt (L k) 4 : Nat) := by
          rw [if_neg (by omega), mx_cast, ← Hs.out]
          by_cases h0 : k = 0
          · subst h0; simp [mx]; omega
          · rw [if_neg h0]
        obtain ⟨u, Hu⟩ : ∃ u, Hid (L k = u) := ⟨_, rfl⟩
        rw [Hu.out] at r2 hu hN
        have HN := Lib.hid hN
        clear hN hmx
        go_wp2
        go_loopg [7, 6] 4 (fun g2 j n wq => ∃ r : Nat, g2 + r = 4 ∧ j = .int .i64 r ∧ n = .int .i64 (cnt u r : Nat) ∧ wq = wr)
        case atStart => exact ⟨0, rfl, rfl, rfl, rfl⟩
        case round =>
          obtain ⟨r, hg2, rfl, rfl, rfl⟩ := hrel
          have Hg2 := Lib.hid hg2
          have hr4 : r ≤ 4 := by omega
          have hcu := cnt_le u r
          clear hg2
          by_cases hr : r < 4
          · have hnn := digit_nonneg u r
            have hd1 : (u : Int) / 2 ^ r % 2 ≤ 1 := by omega
            have hd0 : 0 ≤ (u : Int) / 2 ^ r % 2 := by omega
            have HD := Lib.hid (digit_cast u r)
            go_wp2
            go_roundg (4 - (r + 1))
            case measure => have := Hg2.out; omega
            case rel =>
              refine ⟨r + 1, by have := Hg2.out; omega, by go_num, ?_, rfl⟩
              rw [HD.out]
              show Value.int .i64 _ = Value.int .i64 ((cnt u r + u / 2 ^ r % 2 : Nat) : Int)
              congr 1
          · have hr4' : r = 4 := by omega
            subst hr4'
            obtain ⟨n4, Hn4⟩ : ∃ n4, Hid (cnt u 4 = n4) := ⟨_, rfl⟩
            rw [Hn4.out] at hcu HN ⊢
            go_wp2
            all_goals
              go_roundg (cs.length + 1 - (k + 1))
              case measure => have := Hgk.out; omega
              case rel => exact ⟨k + 1, by have := Hgk.out; omega, by go_num, by rw [HN.out]; congr 1; omega, rfl⟩
      · have hkl : k = cs.length + 1 := by omega
        subst hkl
        go_wp2
        go_ret
        refine ⟨_, rfl, ⟨fun _ => ⟨L, HL.out, ?_⟩, fun hn => absurd HV.out hn⟩, hp1⟩
        rw [← Hs.out]; simp
  · have HV := Lib.hid hv
    clear hv
    go_enter Try.func43, Try.ntmps43
    go_wp2_with fail
    refine (slv_any _ cs _ H.out hlen).mono ?_
    rintro e w1 ⟨v1, xs, rfl, hx, _, hO, hp1⟩
    have hx0 := hx.2 HV.out
    subst hx0
    clear hx
    obtain ⟨A1, c1, hv1⟩ := hO.form
    rw [List.length_nil] at hv1
    subst hv1
    clear hO
    go_wp2
    go_loopg [5, 3] 0 (fun gk i s wr => i = .int .i64 0 ∧ s = .int .i64 (-1) ∧ wr = w1)
    case atStart => exact ⟨rfl, rfl, rfl⟩
    case round =>
      obtain ⟨rfl, rfl, rfl⟩ := hrel
      go_wp2
      go_ret
      exact ⟨_, rfl, ⟨fun h => absurd h HV.out, fun _ => rfl⟩, hp1⟩

set_option maxHeartbeats 1000000 in
theorem ilm_any (v : Value) (cs : List Cd) (w : World) (h : Codes w v cs) (hlen : cs.length ≤ 1048576) :
    Calls Try.prog 44 #[v] w (ResInt (LmP cs) w) := by
  have H := Lib.hid h
  obtain ⟨A, c, rfl, hnc, hcm⟩ := h.form
  clear h
  by_cases hv : PValid cs
  · have HV := Lib.hid hv
    have hsmall := hv.2.1
    clear hv
    go_enter Try.func44, Try.ntmps44
    go_wp2_with fail
    refine (ipv_any _ cs _ H.out hlen true (by simp [HV.out])).mono ?_
    rintro e w0 ⟨rfl, hp0⟩
    go_wp2_with fail
    refine (ilive_ok _ cs _ (H.out.keep hp0) HV.out).mono ?_
    rintro e w1 ⟨v1, L, rfl, hL, hO, hp1⟩
    have hp01 := hp0.trans hp1
    have HL := Lib.hid hL
    have HLT := Lib.hid (fun k => hL.lt16 HV.out k)
    have HS : Hid (Sets w1 v1 (cs.length + 1) L) := Lib.hid (sets_of_own hO)
    obtain ⟨A1, c1, rfl⟩ := hO.form
    clear hL hO
    go_wp2
    go_loopg [12, 3] (cs.length + 1) (fun gk i s wr => ∃ k : Nat, gk + k = cs.length + 1 ∧ i = .int .i64 k ∧ s = .int .i64 (mx L k : Nat) ∧ wr = w1)
    case atStart => exact ⟨0, rfl, rfl, rfl, rfl⟩
    case round =>
      obtain ⟨k, hgk, rfl, rfl, rfl⟩ := hrel
      have Hgk := Lib.hid hgk
      have hkn : k ≤ cs.length + 1 := by omega
      have hmx := mx_le L k
      clear hgk
      obtain ⟨s, Hs⟩ : ∃ s, Hid (mx L k = s) := ⟨_, rfl⟩
      rw [Hs.out] at hmx ⊢
      by_cases hlt : k < cs.length + 1
      · obtain ⟨As, cs', hvs, _, _, h6⟩ := HS.out
        injection hvs with e1 e2 e3
        subst e1 e3
        obtain ⟨bs, os, rfl, hbs, hcs⟩ := h6 (by omega)
        have r2 : wr.cell? ⟨bs, os + k, none⟩ = some (.int .i64 (L k : Nat)) := hcs k (by omega)
        clear h6 hcs
        have hu : L k < 16 := HLT.out k
        have hN := mx_cast L k
        obtain ⟨u, Hu⟩ : ∃ u, Hid (L k = u) := ⟨_, rfl⟩
        rw [Hu.out] at r2 hu hN
        rw [Hs.out] at hN
        have hc4 := cnt_le u 4
        have h84 := cnt_hi hu
        obtain ⟨n4, Hn4⟩ : ∃ n4, Hid (cnt u 4 = n4) := ⟨_, rfl⟩
        rw [Hn4.out] at hc4 hN h84
        have HN := Lib.hid hN
        have H84 := Lib.hid h84
        clear hN h84
        go_wp2_with fail
        refine (imany_any u (by omega) _).mono ?_
        rintro e w' ⟨rfl, rfl⟩
        rw [H84.out]
        go_wp2
        all_goals
          go_roundg (cs.length + 1 - (k + 1))
          case measure => have := Hgk.out; omega
          case rel => exact ⟨k + 1, by have := Hgk.out; omega, by go_num, by rw [HN.out]; congr 1; omega, rfl⟩
      · have hkl : k = cs.length + 1 := by omega
        subst hkl
        go_wp2
        go_ret
        exact ⟨_, rfl, ⟨fun _ => ⟨L, HL.out, by rw [Hs.out]⟩, fun hn => absurd HV.out hn⟩, hp01⟩
  · have HV := Lib.hid hv
    clear hv
    go_enter Try.func44, Try.ntmps44
    go_wp2_with fail
    refine (ipv_any _ cs _ H.out hlen false (by simp [HV.out])).mono ?_
    rintro e w1 ⟨rfl, hp1⟩
    go_wp2
    go_ret
    exact ⟨_, rfl, ⟨fun h => absurd h HV.out, fun _ => rfl⟩, hp1⟩

set_option maxHeartbeats 1000000 in
theorem law_FnExactLiveMost (v : Value) (cs : List Cd) (w : World) (h : Codes w v cs) :
    Calls Try.prog 11 #[v] w fun e w' => e = .returned (.bool true) ∧ Pure w w' := by
  have H := Lib.hid h
  obtain ⟨A, c, rfl, hnc, hcm⟩ := h.form
  clear h
  go_enter Try.func11, Try.ntmps11
  go_wp2_with fail
  refine (szCodeS_any _ _ _ _ H.out (by omega) (by omega)).mono ?_
  rintro e w' ⟨rfl, rfl⟩
  by_cases h0 : (1048576 : Int) < cs.length
  · rw [if_pos h0]
    go_wp2
    go_ret
    exact ⟨rfl, Pure.refl _⟩
  rw [if_neg h0]
  have hlen : cs.length ≤ 1048576 := by omega
  have hge : ¬ ((1048576 : Int) - cs.length < 0) := by omega
  clear h0
  go_wp2_with fail
  refine (toCodeS_any _ cs _ H.out hlen).mono ?_
  rintro e w1 ⟨v1, rfl, hv1, hp1⟩
  have HV1 := Lib.hid hv1; clear hv1
  have hqw1 := hp1
  go_wp2_with fail
  refine (slm_any _ cs _ (codes_of_own HV1.out) hlen).mono ?_
  rintro e w2 ⟨xs2, rfl, px2, hp2⟩
  have PX2 := Lib.hid px2; clear px2
  have hqw2 := hqw1.trans hp2
  go_wp2_with fail
  refine (toCodeS_any _ cs _ (H.out.keep hqw2) hlen).mono ?_
  rintro e w3 ⟨v3, rfl, hv3, hp3⟩
  have HV3 := Lib.hid hv3; clear hv3
  have hqw3 := hqw2.trans hp3
  go_wp2_with fail
  refine (ilm_any _ cs _ (codes_of_own HV3.out) hlen).mono ?_
  rintro e w4 ⟨ys4, rfl, px4, hp4⟩
  obtain rfl : xs2 = ys4 := LmP.unique px4 PX2.out
  clear px4
  have hd : (xs2 != xs2) = false := by simp
  have hqw4 := hqw3.trans hp4
  go_wp2_with fail
  refine (toCodeS_any _ cs _ (H.out.keep hqw4) hlen).mono ?_
  rintro e w5 ⟨v5, rfl, hv5, hp5⟩
  have HV5 := Lib.hid hv5; clear hv5
  have hqw5 := hqw4.trans hp5
  go_wp2_with fail
  refine (eqCodeS_same _ _ cs _ ((codes_of_own HV3.out).keep (hp4.trans hp5)) (codes_of_own HV5.out)).mono ?_
  rintro e w6 ⟨rfl, hp6⟩
  have hqw6 := hqw5.trans hp6
  go_wp2
  go_ret
  exact ⟨rfl, hqw6⟩


end Go.Proofs.Ytmhaaihgepldhaa
