/- The law FnLockAccesses, whole: Accesses are those of loads and stores. No condition. -/
import Derived.Test.YtkolnakcgjlcgaaKbh
import Derived.Test.YtkolnakcgjlcgaaKch
import Derived.Test.YtkolnakcgjlcgaaKci

namespace Go.Proofs.Ytkolnakcgjlcgaa
open Go.RowKit

set_option maxHeartbeats 400000 in
theorem imaskvalid2_any (mk n : Nat) (w : World) (h1 : 1 ≤ n) (h8 : n ≤ 8) (hm : mk < 2 ^ n) :
    Calls Try.prog 21 #[.int .i64 mk, .int .i64 n] w fun e w' => e = .returned (.bool true) ∧ w = w' := by
  have hs := shl8 (j := n) (by omega)
  have hp := pow8 h8
  obtain ⟨q, Hq⟩ : ∃ q, Hid (2 ^ n = q) := ⟨2 ^ n, Lib.hid rfl⟩
  rw [Hq.out] at hs hp hm
  go_enter Try.func21, Try.ntmps21
  go_wp2_with fail
  refine (ilanesok_any _ _ true (by simp only [true_iff]; unfold LanesOk; omega)).mono ?_
  rintro e w' ⟨rfl, rfl⟩
  go_wp2_with fail
  refine (within_any (mk : Int) 0 ((q : Int) - 1) _ true (by simp only [true_iff]; omega)).mono ?_
  rintro e w' ⟨rfl, rfl⟩
  go_wp2
  go_ret
  exact ⟨rfl, rfl⟩

set_option maxHeartbeats 400000 in
theorem imaskmany_any (mk n : Nat) (w : World) (h1 : 1 ≤ n) (h8 : n ≤ 8) (hm : mk < 2 ^ n) :
    Calls Try.prog 38 #[.int .i64 mk, .int .i64 n] w fun e w' => e = .returned (.int .i64 (cnt mk 8 : Nat)) ∧ w = w' := by
  have hp := pow8 h8
  go_enter Try.func38, Try.ntmps38
  go_wp2_with fail
  refine (imaskvalid2_any mk n _ h1 h8 hm).mono ?_
  rintro e w' ⟨rfl, rfl⟩
  go_wp2_with fail
  refine (imany_any mk (by omega) _).mono ?_
  rintro e w' ⟨rfl, rfl⟩
  go_wp2
  go_ret
  exact ⟨rfl, rfl⟩

set_option maxHeartbeats 4000000 in
set_option maxRecDepth 100000 in
theorem law_FnLockAccesses (v : Value) (bs : List Int) (w : World) (h : Bytes w v bs) :
    Calls Try.prog 6 #[v] w fun e w' => e = .returned (.bool true) ∧ Pure w w' := by
  have H := Lib.hid h
  obtain ⟨A, c, rfl, hnc, hcm⟩ := h.form
  clear h
  by_cases hbig : (bs.length : Int) > 1048576
  · go_enter Try.func6, Try.ntmps6
    go_wp2
    go_ret
    exact ⟨rfl, Pure.refl _⟩
  go_enter Try.func6, Try.ntmps6
  go_wp2_with fail
  refine (draw_DrawLockAccesses _ bs _ H.out (by omega)).mono ?_
  rintro e w1 ⟨vl, cs, a, vm, mem, rfl, ha0, ha9, hl, hm, hcl, hml, hp1⟩
  have HC := Lib.hid hl
  have HM := Lib.hid hm
  have HP1 := Lib.hid hp1
  obtain ⟨Ac, cc, rfl, hcc1, hcc2⟩ := hl.form
  obtain ⟨Am, cm, rfl⟩ := hm.form
  clear hl hm hp1
  obtain ⟨LA, HLA⟩ : ∃ LA, Hid ((lockA cs a mem).A = LA) := ⟨_, Lib.hid rfl⟩
  have hll : LA.length ≤ 25600 := by rw [← HLA.out]; exact lockA_lenA
  go_wp2_with fail
  refine (iacc_any _ _ cs a mem _ HC.out HM.out (by omega) (by omega)).mono ?_
  rintro e w2 ⟨v2, rfl, ho2, hp2⟩
  rw [HLA.out] at ho2
  have HO2 := Lib.hid (Flat.of_own ho2)
  have HP2 := Lib.hid hp2
  obtain ⟨A2, c2, rfl, hn2, hm2⟩ := HO2.out.form
  clear ho2 hp2
  go_wp2_with fail
  refine (sacc_any _ _ cs a mem _ (HC.out.keep HP2.out) (Cells.keep HM.out HP2.out) (by omega) (by omega)).mono ?_
  rintro e w3 ⟨v3, rfl, ho3, hp3⟩
  rw [HLA.out] at ho3
  have HO3 := Lib.hid (Flat.of_own ho3)
  have HP3 := Lib.hid (HP2.out.trans hp3)
  have HO23 := Lib.hid (HO2.out.keep hp3)
  obtain ⟨A3, c3, rfl, hn3, hm3⟩ := HO3.out.form
  clear ho3 hp3
  go_wp2_with fail
  refine (sameAccesses_same _ _ LA _ HO23.out HO3.out).mono ?_
  rintro e w4 ⟨rfl, hp4⟩
  have HP4 := Lib.hid (HP3.out.trans hp4)
  have HO24 := Lib.hid (HO23.out.keep hp4)
  clear hp4
  by_cases hok : RunOk cs a mem
  · have HOK := Lib.hid hok
    obtain ⟨n, rfl, hn1, hn8⟩ := lanes_nat hok.2.1
    have hqq := acc_run hok
    rw [← lockA_ok hok] at hqq
    obtain ⟨L, HL⟩ : ∃ L, Hid ((lockA cs n mem).H = L) := ⟨_, Lib.hid rfl⟩
    unfold AccQ at hqq
    rw [HL.out, HLA.out] at hqq
    have HQ := Lib.hid hqq
    have hlb : L.length ≤ 2560 := by rw [← HL.out]; exact lockA_len
    have HIN : Hid (∀ x ∈ L, StepIn n 0 cs.length x) := Lib.hid (by rw [← HL.out, lockA_ok hok]; exact lockOf_in hok.1)
    clear hok hqq
    go_wp2_with fail
    refine (runs_any _ _ cs n mem _ (HC.out.keep HP4.out) (HM.out.keep HP4.out) (by omega) (by omega) true (by simp only [true_iff]; exact HOK.out)).mono ?_
    rintro e w5 ⟨rfl, hp5⟩
    have HP5 := Lib.hid (HP4.out.trans hp5)
    have HO5 := Lib.hid (HO24.out.keep hp5)
    clear hp5
    go_wp2_with fail
    refine (itra_any _ _ cs n mem _ (HC.out.keep HP5.out) (HM.out.keep HP5.out) (by omega) (by omega)).mono ?_
    rintro e w6 ⟨v6, rfl, ho6, hp6⟩
    rw [HL.out] at ho6
    have HF := Lib.hid (Flat.of_own ho6)
    have HP6 := Lib.hid (HP5.out.trans hp6)
    have HO6 := Lib.hid (HO5.out.keep hp6)
    obtain ⟨A6, c6, rfl, hn6, hm6⟩ := HF.out.form
    clear ho6 hp6
    go_wp2_with fail
    go_loopg [7, 9] L.length (fun gk q i wr => ∃ k : Nat, gk + k = L.length ∧ i = .int .i64 k ∧ q = .int .i64 (manyTo cs L k : Nat) ∧ Pure w6 wr)
    case atStart => exact ⟨0, rfl, rfl, rfl, Pure.refl _⟩
    case round =>
      obtain ⟨k, hgk, rfl, rfl, hp⟩ := hrel
      have Hgk := Lib.hid hgk
      have HP := Lib.hid hp
      have hkn : k ≤ L.length := by omega
      clear hgk hp
      have hle := manyTo_le cs L k
      have hnext : manyTo cs L (k + 1) = if (cs.getD (L.getD k default).1 default).op = 8 ∨ (cs.getD (L.getD k default).1 default).op = 9 then manyTo cs L k + cnt (L.getD k default).2.1 8 else manyTo cs L k := rfl
      obtain ⟨q, Hq⟩ : ∃ q, Hid (manyTo cs L k = q) := ⟨_, Lib.hid rfl⟩
      rw [Hq.out] at hle hnext ⊢
      by_cases hlt : k < L.length
      · have hx := HIN.out _ (getD_mem' hlt)
        obtain ⟨b, o, rfl, hb, hc⟩ := HF.out.at_ (by omega)
        have q0 := (HP.out.cell b _ hb).trans (hc (k * 2) (by omega))
        have q1 := (HP.out.cell b _ hb).trans (hc (k * 2 + 1) (by omega))
        rw [getD_of (beat_at L k hlt).1] at q0
        rw [getD_of (beat_at L k hlt).2, ← Nat.add_assoc] at q1
        obtain ⟨p, Hp⟩ : ∃ p, Hid ((L.getD k default).1 = p) := ⟨_, Lib.hid rfl⟩
        obtain ⟨mk, Hmk⟩ : ∃ mk, Hid ((L.getD k default).2.1 = mk) := ⟨_, Lib.hid rfl⟩
        have hpl : p < cs.length := by rw [← Hp.out]; exact hx.2.1
        have hmk : mk < 2 ^ n := by rw [← Hmk.out]; exact hx.2.2.2
        rw [Hp.out] at q0 hnext
        rw [Hmk.out] at q1 hnext
        obtain ⟨b2, o2, rfl, hb2, hc2⟩ := HC.out.at_ hpl
        obtain ⟨cd, Hcd⟩ : ∃ cd, Hid (cs.getD p default = cd) := ⟨_, Lib.hid rfl⟩
        have hat := hc2.keep (HP6.out.trans HP.out) hb2
        rw [Hcd.out] at hat hnext
        obtain ⟨r0, r1, r2, r3⟩ := hat
        have hc8 := cnt_le mk 8
        obtain ⟨ct, Hct⟩ : ∃ ct, Hid (cnt mk 8 = ct) := ⟨_, Lib.hid rfl⟩
        rw [Hct.out] at hnext hc8
        have HMK := Lib.hid hmk
        have hk0 : (0 : Int) ≤ (k : Int) := by omega
        have hk1 : (k : Int) < (L.length : Int) := by omega
        have hp0 : (0 : Int) ≤ (p : Int) := by omega
        have hp1 : (p : Int) < (cs.length : Int) := by omega
        clear hx hc hc2 hmk r1 r2 r3
        by_cases hacc : cd.op = 8 ∨ cd.op = 9
        · have Hnext : Hid (manyTo cs L (k + 1) = q + ct) := Lib.hid (by rw [hnext, if_pos hacc])
          have hcases : (cd.op == 8) = true ∨ ((cd.op == 8) = false ∧ (cd.op == 9) = true) := by
            rcases hacc with e | e
            · exact .inl (by simp [e])
            · exact .inr ⟨by simp [e], by simp [e]⟩
          clear hnext hacc
          rcases hcases with hd8 | ⟨hd8, hd9⟩
          · go_wp2_with fail
            refine (imaskmany_any mk n _ hn1 hn8 HMK.out).mono ?_
            rintro e w7 ⟨rfl, rfl⟩
            rw [Hct.out]
            go_wp2
            go_roundg (L.length - (k + 1))
            case measure => have := Hgk.out; omega
            case rel => exact ⟨k + 1, by have := Hgk.out; omega, by go_num, by rw [Hnext.out]; go_num, HP.out⟩
          · go_wp2_with fail
            refine (imaskmany_any mk n _ hn1 hn8 HMK.out).mono ?_
            rintro e w7 ⟨rfl, rfl⟩
            rw [Hct.out]
            go_wp2
            go_roundg (L.length - (k + 1))
            case measure => have := Hgk.out; omega
            case rel => exact ⟨k + 1, by have := Hgk.out; omega, by go_num, by rw [Hnext.out]; go_num, HP.out⟩
        · have Hnext : Hid (manyTo cs L (k + 1) = q) := Lib.hid (by rw [hnext, if_neg hacc])
          have hd8 : (cd.op == 8) = false := by rw [beq_eq_false_iff_ne]; exact fun e => hacc (.inl e)
          have hd9 : (cd.op == 9) = false := by rw [beq_eq_false_iff_ne]; exact fun e => hacc (.inr e)
          clear hnext hacc
          go_wp2
          go_roundg (L.length - (k + 1))
          case measure => have := Hgk.out; omega
          case rel => exact ⟨k + 1, by have := Hgk.out; omega, by go_num, by rw [Hnext.out], HP.out⟩
      · have hkl : k = L.length := by omega
        subst hkl
        have hql : q = LA.length := by rw [← Hq.out]; exact HQ.out.1.symm
        subst hql
        have HP7 := Lib.hid (HP6.out.trans HP.out)
        have HO7 := Lib.hid (HO6.out.keep HP.out)
        clear hle hnext
        go_wp2_with fail
        go_loopg [11] LA.length (fun gk i wr2 => ∃ k : Nat, gk + k = LA.length ∧ i = .int .i64 k ∧ Pure wr wr2)
        case atStart => exact ⟨0, rfl, rfl, Pure.refl _⟩
        case round =>

          obtain ⟨k, hgk, rfl, hp⟩ := hrel
          have Hgk := Lib.hid hgk
          have HPb := Lib.hid hp
          have hkn2 : k ≤ LA.length := by omega
          clear hgk hp
          by_cases hlt : k < LA.length
          · obtain ⟨b, o, rfl, hb, hc⟩ := accs_at HO7.out hlt
            obtain ⟨q0, q1, q2, q3⟩ := (hc k hlt).keep HPb.out
            obtain ⟨hw, hce⟩ := HQ.out.2.1 _ (acMem hlt)
            obtain ⟨x, Hx⟩ : ∃ x, Hid ((LA.getD k default).who = x) := ⟨_, Lib.hid rfl⟩
            obtain ⟨y, Hy⟩ : ∃ y, Hid ((LA.getD k default).cell = y) := ⟨_, Lib.hid rfl⟩
            obtain ⟨z, Hz⟩ : ∃ z, Hid ((LA.getD k default).ph = z) := ⟨_, Lib.hid rfl⟩
            rw [Hx.out] at q0 hw
            rw [Hy.out] at q1 hce
            rw [Hz.out] at q3
            have t1 : ¬ (y : Int) < 0 := by omega
            have t2 : ¬ (y : Int) ≥ (mem.length : Int) := by omega
            have t3 : ¬ (x : Int) < 0 := by omega
            have t4 : ¬ (x : Int) ≥ (n : Int) := by omega
            have hk0 : (0 : Int) ≤ (k : Int) := by omega
            have hk1 : (k : Int) < (LA.length : Int) := by omega
            clear q2
            by_cases hk : k = 0
            · subst hk
              simp only [Nat.zero_mul, Nat.add_zero] at q0 q1
              clear hc q3
              go_wp2
              refine region_pure [.slice (some ⟨b, o, none⟩) LA.length c2, .int .i64 0, .pointer (some ⟨b, o, none⟩), .pointer (some ⟨b, o + 1, none⟩), .int .i64 (y : Int), .bool false, .bool false, .slice (some ⟨b, o, none⟩) LA.length c2, .int .i64 0, .pointer (some ⟨b, o, none⟩), .pointer (some ⟨b, o + 1, none⟩), .int .i64 (y : Int), .slice Am mem.length cm, .int .i64 (mem.length : Int), .bool false, .bool false, .bool false, .slice (some ⟨b, o, none⟩) LA.length c2, .int .i64 0, .pointer (some ⟨b, o, none⟩), .pointer (some ⟨b, o, none⟩), .int .i64 (x : Int), .bool false, .bool false, .bool false, .slice (some ⟨b, o, none⟩) LA.length c2, .int .i64 0, .pointer (some ⟨b, o, none⟩), .pointer (some ⟨b, o, none⟩), .int .i64 (x : Int), .int .i64 (n : Int), .bool false, .bool false, .bool false, .int .i64 0, .bool false, .bool false, undef, undef, undef, undef, undef, undef, undef, undef, undef, undef, undef, undef, .bool false, .bool false] (Pure wr) (by kernel_rfl) (by kernel_rfl) rfl (by kernel_rfl) (Pure.drew (Pure.refl _)) ?_ ?_ (by kernel_rfl)
              · simp only [foldPut, Act.put, List.setIfInBounds_toArray, List.set_cons_succ, List.set_cons_zero]
                refine ⟨fun u hu => ?_, fun u hu => ?_, fun u hu => ?_, fun u hu => ?_, fun u hu => ?_, fun u hu => ?_, fun u hu => ?_, fun u hu => ?_, fun u hu => ?_, fun u hu => ?_, fun u hu => ?_, fun u hu => ?_, fun u hu => ?_, fun u hu => ?_, fun u hu => ?_, fun u hu => ?_, fun u hu => ?_, fun u hu => ?_, fun u hu => ?_, fun u hu => ?_, fun u hu => ?_, fun u hu => ?_, fun u hu => ?_, fun u hu => ?_, fun u hu => ?_, fun u hu => ?_, fun u hu => ?_, fun u hu => ?_, fun u hu => ?_, fun u hu => ?_, fun u hu => ?_, fun u hu => ?_, fun u hu => ?_, fun u hu => ?_, fun u hu => ?_, fun u hu => ?_, fun u hu => ?_, fun u hu => ?_, fun u hu => ?_, fun u hu => ?_, fun u hu => ?_, fun u hu => ?_, fun u hu => ?_, fun u hu => ?_, fun u hu => ?_, fun u hu => ?_, fun u hu => ?_, fun u hu => ?_, fun u hu => ?_, fun u hu => ?_, fun u hu => ?_, trivial⟩
                all_goals
                  have q0u := keepPc hu q0
                  have q1u := keepPc hu q1
                  go_wp2
                  first | exact ⟨by assumption, rfl⟩ | (rw [show decide ((mem.length : Int) ≤ (y : Int)) = false from decide_eq_false (by omega)]; exact ⟨by assumption, rfl⟩) | (rw [show decide ((n : Int) ≤ (x : Int)) = false from decide_eq_false (by omega)]; exact ⟨by assumption, rfl⟩) | (rw [show decide (mem.length ≤ y) = false from decide_eq_false (by omega)]; exact ⟨by assumption, rfl⟩) | (rw [show decide (n ≤ x) = false from decide_eq_false (by omega)]; exact ⟨by assumption, rfl⟩)
              · intro u hu
                simp only [foldPut, Act.put, List.setIfInBounds_toArray, List.set_cons_succ, List.set_cons_zero]
                go_wp2
                go_roundg (LA.length - (0 + 1))
                case measure => have := Hgk.out; omega
                case rel => exact ⟨0 + 1, by have := Hgk.out; omega, by go_num, HPb.out.trans hu⟩
            · obtain ⟨k1, hkk⟩ : ∃ k1, k = k1 + 1 := ⟨k - 1, by omega⟩
              obtain ⟨_, _, _, s3⟩ := (hc k1 (by omega)).keep HPb.out
              obtain ⟨z1, Hz1⟩ : ∃ z1, Hid ((LA.getD k1 default).ph = z1) := ⟨_, Lib.hid rfl⟩
              rw [Hz1.out] at s3
              have hz : z1 ≤ z := by
                rw [← Hz1.out, ← Hz.out]
                have hh := List.pairwise_iff_getElem.1 HQ.out.2.2.1 k1 k (by omega) hlt (by omega)
                have hk1l : k1 < LA.length := by omega
                have g1 : LA.getD k1 default = LA[k1]'hk1l := by simp [List.getD_eq_getElem?_getD, hk1l]
                have g2 : LA.getD k default = LA[k]'hlt := by simp [List.getD_eq_getElem?_getD, hlt]
                rw [g1, g2]; exact hh
              have t5 : (k : Int) > 0 := by omega
              have t5b : 0 < k := by omega
              have t5c : decide ((k : Int) > 0) = true := decide_eq_true t5
              have t5d : decide (0 < k) = true := decide_eq_true t5b
              have t6 : ¬ (z1 : Int) > (z : Int) := by omega
              have t7 : (k : Int) - 1 = (k1 : Int) := by omega
              have hj0 : (0 : Int) ≤ (k1 : Int) := by omega
              have hj1 : (k1 : Int) < (LA.length : Int) := by omega
              clear hc hk hkk
              go_wp2
              refine region_pure [.slice (some ⟨b, o, none⟩) LA.length c2, .int .i64 (k : Int), .pointer (some ⟨b, o + k * 4, none⟩), .pointer (some ⟨b, o + k * 4 + 1, none⟩), .int .i64 (y : Int), .bool false, .bool false, .slice (some ⟨b, o, none⟩) LA.length c2, .int .i64 (k : Int), .pointer (some ⟨b, o + k * 4, none⟩), .pointer (some ⟨b, o + k * 4 + 1, none⟩), .int .i64 (y : Int), .slice Am mem.length cm, .int .i64 (mem.length : Int), .bool false, .bool false, .bool false, .slice (some ⟨b, o, none⟩) LA.length c2, .int .i64 (k : Int), .pointer (some ⟨b, o + k * 4, none⟩), .pointer (some ⟨b, o + k * 4, none⟩), .int .i64 (x : Int), .bool false, .bool false, .bool false, .slice (some ⟨b, o, none⟩) LA.length c2, .int .i64 (k : Int), .pointer (some ⟨b, o + k * 4, none⟩), .pointer (some ⟨b, o + k * 4, none⟩), .int .i64 (x : Int), .int .i64 (n : Int), .bool false, .bool false, .bool false, .int .i64 (k : Int), .bool true, .bool true, .slice (some ⟨b, o, none⟩) LA.length c2, .int .i64 (k : Int), .int .i64 (k1 : Int), .pointer (some ⟨b, o + k1 * 4, none⟩), .pointer (some ⟨b, o + k1 * 4 + 3, none⟩), .int .i64 (z1 : Int), .slice (some ⟨b, o, none⟩) LA.length c2, .int .i64 (k : Int), .pointer (some ⟨b, o + k * 4, none⟩), .pointer (some ⟨b, o + k * 4 + 3, none⟩), .int .i64 (z : Int), .bool false, .bool false, .bool false] (Pure wr) (by kernel_rfl) (by kernel_rfl) rfl (by kernel_rfl) (Pure.drew (Pure.refl _)) ?_ ?_ (by kernel_rfl)
              · simp only [foldPut, Act.put, List.setIfInBounds_toArray, List.set_cons_succ, List.set_cons_zero]
                refine ⟨fun u hu => ?_, fun u hu => ?_, fun u hu => ?_, fun u hu => ?_, fun u hu => ?_, fun u hu => ?_, fun u hu => ?_, fun u hu => ?_, fun u hu => ?_, fun u hu => ?_, fun u hu => ?_, fun u hu => ?_, fun u hu => ?_, fun u hu => ?_, fun u hu => ?_, fun u hu => ?_, fun u hu => ?_, fun u hu => ?_, fun u hu => ?_, fun u hu => ?_, fun u hu => ?_, fun u hu => ?_, fun u hu => ?_, fun u hu => ?_, fun u hu => ?_, fun u hu => ?_, fun u hu => ?_, fun u hu => ?_, fun u hu => ?_, fun u hu => ?_, fun u hu => ?_, fun u hu => ?_, fun u hu => ?_, fun u hu => ?_, fun u hu => ?_, fun u hu => ?_, fun u hu => ?_, fun u hu => ?_, fun u hu => ?_, fun u hu => ?_, fun u hu => ?_, fun u hu => ?_, fun u hu => ?_, fun u hu => ?_, fun u hu => ?_, fun u hu => ?_, fun u hu => ?_, fun u hu => ?_, fun u hu => ?_, fun u hu => ?_, fun u hu => ?_, trivial⟩
                all_goals
                  have q0u := keepPc hu q0
                  have q1u := keepPc hu q1
                  have q3u := keepPc hu q3
                  have s3u := keepPc hu s3
                  go_wp2
                  first | exact ⟨by assumption, rfl⟩ | (rw [show decide ((mem.length : Int) ≤ (y : Int)) = false from decide_eq_false (by omega)]; exact ⟨by assumption, rfl⟩) | (rw [show decide ((n : Int) ≤ (x : Int)) = false from decide_eq_false (by omega)]; exact ⟨by assumption, rfl⟩) | (rw [show decide (mem.length ≤ y) = false from decide_eq_false (by omega)]; exact ⟨by assumption, rfl⟩) | (rw [show decide (n ≤ x) = false from decide_eq_false (by omega)]; exact ⟨by assumption, rfl⟩) | (rw [show decide ((z : Int) < (z1 : Int)) = false from decide_eq_false (by omega)]; exact ⟨by assumption, rfl⟩) | (rw [show decide (z < z1) = false from decide_eq_false (by omega)]; exact ⟨by assumption, rfl⟩)
              · intro u hu
                simp only [foldPut, Act.put, List.setIfInBounds_toArray, List.set_cons_succ, List.set_cons_zero]
                go_wp2
                go_roundg (LA.length - (k + 1))
                case measure => have := Hgk.out; omega
                case rel => exact ⟨k + 1, by have := Hgk.out; omega, by go_num, HPb.out.trans hu⟩
          · have hkl : k = LA.length := by omega
            subst hkl
            have hee : ((LA.length : Int) == LA.length) = true := by simp
            go_wp2
            go_ret
            exact ⟨rfl, (HP1.out.trans HP7.out).trans HPb.out⟩
  · have HOK := Lib.hid hok
    have hemp : LA.length = 0 := by rw [← HLA.out, lockA_no hok]; rfl
    have hz : ((LA.length : Int) == 0) = true := by rw [beq_iff_eq]; omega
    clear hok
    go_wp2_with fail
    refine (runs_any _ _ cs a mem _ (HC.out.keep HP4.out) (HM.out.keep HP4.out) (by omega) (by omega) false (by simp [HOK.out])).mono ?_
    rintro e w7 ⟨rfl, hp7⟩
    go_wp2_with fail
    refine (alive_any _).mono ?_
    rintro e w9 ⟨rfl, hp9⟩
    go_wp2
    go_ret
    exact ⟨rfl, ((HP1.out.trans HP4.out).trans hp7).trans hp9⟩

end Go.Proofs.Ytkolnakcgjlcgaa

namespace Go.Proofs.Ytkolnakcgjlcgaa.rowFnLockAccesses
open Go.ChangeShapes Go.WideShapes Go.ChangeAt Go.RowKit Go.Deep

set_option maxRecDepth 100000 in
theorem lifted (os : Os) (started : os.Started) (H : Type) (enc : TypeId × Value → H) :
    ReturnsInHanded {} Try.checked os 6 .any (Rows.fnLockAccessesSpec.pre6 enc Try.prog Try.f6 Rows.fnLockAccessesRow.domain false) (Rows.fnLockAccessesSpec.post enc Try.prog Try.f6 false true false false) := by
  refine returnsInHanded_of_change (C := Try.checked) own_knob started (by kernel_rfl) Try.func6
    (ChangeSpec.witness6 (enc := enc) (C := Try.checked) false ⟨#[], #[.slice none 0 0], []⟩ 8 (by kernel_rfl) (by kernel_rfl) (by kernel_rfl) (by kernel_rfl)) ?_
  intro W base args ds gs before hval0 hW hcnd _
  have hval : ∀ (j : Nat) t v, Try.f6.params[j]? = some t → args[j]? = some v → Value.okWide Try.prog W .any base t v := hval0
  have hW' := hW
  obtain ⟨p, q, hA0, hV, rfl, hfz, hnd⟩ := hW
  have hA : DataW.TrodAll enc Try.prog W 0 (fun _ => true) true Try.f6.params.toList args.toList ds p := hA0
  rw [Try.params6] at hA hval
  obtain ⟨v0, vs0, d0, ds0, p0, q0, hargs, rfl, rfl, h0, r0⟩ := trodAll_cons hA
  obtain ⟨rfl, rfl, rfl⟩ := trodAll_nil r0
  obtain rfl : args = #[v0] := by cases args; simp_all
  obtain ⟨rfl, rfl⟩ := trodVars_none hV
  have k0 := h0
  have lt0 : ∀ x ∈ p0, x.block < W.heap.size := by obtain ⟨m, hm⟩ := k0; exact DataW.trod_lt m _ _ _ hm
  obtain ⟨A0, len0, cap0, rfl⟩ := okWide_slice Try.underlying22 (hval 0 22 v0 rfl rfl)
  obtain ⟨x0, w0⟩ : ∃ xs, Bytes W (.slice A0 len0 cap0) xs := by
    obtain ⟨fuel, hf⟩ := h0
    obtain ⟨v, xs, hcs, hx⟩ := bytes_open hf
    simp [Value.cells] at hcs
    subst hcs
    exact ⟨xs, hx⟩
  clear hA0 hval0
  refine (law_FnLockAccesses _ x0 W w0).mono fun e W' ⟨he, bel⟩ => ?_
  subst he
  have bel' : Below W.heap.size W W' := bel
  exact ⟨_, rfl, _, _, _, [], _, [], hW', trodAll_mk1 (shut_bool Try.underlying4 _), (trodAll_cons_mk (Below.trod laid_out (by kernel_rfl) (of_decide_eq_true (by kernel_rfl)) k0 bel' lt0) trodAll_mk0), rfl, bel'.frame _, fun h => by cases h⟩

theorem proved : Rows.FnLockAccessesSaid :=
  OpenClaim.holds_of_wide 6 Try.f6 rfl rfl rfl rfl rfl rfl rfl ⟨rfl, rfl, rfl, rfl, rfl⟩ rfl rfl rfl rfl rfl (by kernel_rfl) Try.func6 (by kernel_rfl)
    (of_decide_eq_true (by kernel_rfl)) (by unfold Func.isWrapper; rw [if_neg (of_decide_eq_false (by kernel_rfl))]; exact ⟨rfl, rfl⟩)
    (fun os started H enc _ => lifted os started H enc)

end Go.Proofs.Ytkolnakcgjlcgaa.rowFnLockAccesses
