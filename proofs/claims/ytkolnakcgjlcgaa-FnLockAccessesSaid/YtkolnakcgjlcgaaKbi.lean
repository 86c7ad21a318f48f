/- What a lane costs, and what lockstep loses, for any arguments, the program's and the reference's. A program is the tree of one way of reading it alone; trees behind each other. No program in sight. The costs of the lanes and of the run, compared; how many instructions have an operation. The first step that splits a barrier, and the memory of a run, the program's and the reference's. No condition. -/
import Derived.Test.YtkolnakcgjlcgaaKah
import Derived.Test.YtkolnakcgjlcgaaKbd
import Derived.Test.YtkolnakcgjlcgaaKbh

namespace Go.Proofs.Ytkolnakcgjlcgaa
open Go.RowKit

open Classical in
noncomputable def laneA (cs : List Cd) (a : Int) (mem : List Int) (n0 : Int) : Int :=
  if RunOk cs a mem ∧ 0 ≤ n0 ∧ n0 ≤ a - 1 then (costM cs (2 ^ n0.toNat) (lockA cs a mem).H (lockA cs a mem).H.length : Nat) else -1
theorem laneA_ok {cs : List Cd} {n k : Nat} {mem : List Int} (h : RunOk cs n mem) (hk : k < n) : laneA cs n mem k = (costM cs (2 ^ k) (lockOf cs n mem).H (lockOf cs n mem).H.length : Nat) := by
  unfold laneA
  rw [if_pos ⟨h, by omega, by omega⟩, lockA_ok h]; rfl
theorem laneA_no {cs : List Cd} {a : Int} {mem : List Int} {n0 : Int} (h : ¬ (RunOk cs a mem ∧ 0 ≤ n0 ∧ n0 ≤ a - 1)) : laneA cs a mem n0 = -1 := by
  unfold laneA; rw [if_neg h]
theorem bit_and (mk k : Nat) : (mk &&& 2 ^ k = 0) ↔ mk.testBit k = false := by
  constructor
  · intro h
    have : (mk &&& 2 ^ k).testBit k = false := by rw [h]; simp
    rw [Nat.testBit_and, Nat.testBit_two_pow_self, Bool.and_true] at this
    exact this
  · intro h
    apply Nat.eq_of_testBit_eq
    intro i
    rw [Nat.testBit_and, Nat.testBit_two_pow, Nat.zero_testBit]
    by_cases e : k = i
    · subst e; simp [h]
    · simp [e]
theorem costM_bit (cs : List Cd) (k : Nat) (H : List (Nat × Nat × (Nat → Nat → Int))) (j : Nat) : costM cs (2 ^ k) H (j + 1) = if (H.getD j default).2.1.testBit k then costM cs (2 ^ k) H j + cdCost (cs.getD (H.getD j default).1 default) else costM cs (2 ^ k) H j := by
  show (if (H.getD j default).2.1 &&& 2 ^ k = 0 then _ else _ : Nat) = _
  by_cases hb : (H.getD j default).2.1.testBit k = true
  · rw [if_pos hb, if_neg (fun h => by rw [(bit_and _ _).1 h] at hb; cases hb)]
  · rw [if_neg hb, if_pos ((bit_and _ _).2 (by simpa using hb))]

set_option maxHeartbeats 2000000 in
set_option maxRecDepth 100000 in
theorem slane_any (vl vm : Value) (cs : List Cd) (a : Int) (mem : List Int) (n0 : Int) (w : World) (h : Codes w vl cs) (hm : Ints w vm mem) (hs1 : cs.length ≤ 1048576) (hs2 : mem.length ≤ 1048576) :
    Calls Try.prog 45 #[vl, .int .i64 a, vm, .int .i64 n0] w fun e w' => e = .returned (.int .i64 (laneA cs a mem n0)) ∧ Pure w w' := by
  have H := Lib.hid h
  have HM := Lib.hid hm
  obtain ⟨A, c, rfl, hnc, hcm⟩ := h.form
  obtain ⟨Am, cm, rfl⟩ := hm.form
  clear h hm
  by_cases hok : RunOk cs a mem
  · have HOK := Lib.hid hok
    obtain ⟨n, rfl, hn1, hn8⟩ := lanes_nat hok.2.1
    by_cases hin : 0 ≤ n0 ∧ n0 ≤ (n : Int) - 1
    · obtain ⟨k, rfl⟩ : ∃ k : Nat, n0 = k := ⟨n0.toNat, by omega⟩
      have hkn : k < n := by omega
      obtain ⟨q, Hq⟩ : ∃ q, Hid (laneA cs n mem k = q) := ⟨_, Lib.hid rfl⟩
      have HQ : Hid (((costM cs (2 ^ k) (lockOf cs n mem).H (lockOf cs n mem).H.length : Nat) : Int) = q) := Lib.hid (by rw [← laneA_ok hok hkn]; exact Hq.out)
      rw [Hq.out]
      have HL1 := Lib.hid hin
      clear hok hin
      go_enter Try.func45, Try.ntmps45
      go_wp2_with fail
      refine (sok_any _ _ cs n mem _ H.out HM.out hs1 hs2 true (by simp only [true_iff]; exact HOK.out)).mono ?_
      rintro e w1 ⟨rfl, hp1⟩
      go_wp2_with fail
      refine (l1In_any (k : Int) 0 ((n : Int) - 1) _ true (by simp only [true_iff]; exact HL1.out)).mono ?_
      rintro e w2 ⟨rfl, rfl⟩
      go_wp2_with fail
      refine (stra_any _ _ cs n mem _ (H.out.keep hp1) (HM.out.keep hp1) hs1 hs2).mono ?_
      rintro e w2 ⟨v, rfl, hown, hp2⟩
      rw [lockA_ok HOK.out] at hown
      have HIN := Lib.hid (lockOf_in (n := n) (mem := mem) HOK.out.1)
      have hlen := lockOf_len (n := n) (mem := mem) HOK.out.1
      obtain ⟨L, HL⟩ : ∃ L, Hid ((lockOf cs n mem).H = L) := ⟨_, Lib.hid rfl⟩
      have HQ2 : Hid (((costM cs (2 ^ k) L L.length : Nat) : Int) = q) := Lib.hid (by rw [← HL.out]; exact HQ.out)
      rw [HL.out] at hown hlen HIN
      have HO := Lib.hid hown
      have HP12 := Lib.hid (hp1.trans hp2)
      obtain ⟨Av, cv, rfl⟩ := hown.form
      clear hown hp1 hp2
      go_wp2_with fail
      go_loopg [9, 11] L.length (fun gk qq i wr => ∃ j : Nat, gk + j = L.length ∧ i = .int .i64 j ∧ qq = .int .i64 (costM cs (2 ^ k) L j : Nat) ∧ Pure w2 wr)
      case atStart => exact ⟨0, rfl, rfl, rfl, Pure.refl _⟩
      case round =>
        obtain ⟨j, hgk, rfl, rfl, hp⟩ := hrel
        have Hgk := Lib.hid hgk
        have hjn : j ≤ L.length := by omega
        clear hgk
        by_cases hlt : j < L.length
        · obtain ⟨b', o', hv', hb', hc'⟩ := (Flat.of_own (HO.out.pure hp)).at_ (by omega)
          subst hv'
          have q0 := hc' (j * 2) (by omega)
          have q1 := hc' (j * 2 + 1) (by omega)
          rw [getD_of (beat_at L j hlt).1] at q0
          rw [getD_of (beat_at L j hlt).2, ← Nat.add_assoc] at q1
          have hpl : (L.getD j default).1 < cs.length := (HIN.out _ (getD_mem' hlt)).2.1
          have hnext := costM_bit cs k L j
          have hcl := costM_le cs (2 ^ k) L j
          obtain ⟨cd, Hcd⟩ : ∃ cd, Hid (cs.getD (L.getD j default).1 default = cd) := ⟨_, Lib.hid rfl⟩
          obtain ⟨b, o, rfl, hb, hc⟩ := H.out.at_ hpl
          have hat := hc.keep (HP12.out.trans hp) hb
          rw [Hcd.out] at hat hnext
          have HCD : Hid (CdOk cd) := Lib.hid (by rw [← Hcd.out]; exact HOK.out.1.1 _ (cdOk_mem hpl))
          obtain ⟨p, Hp⟩ : ∃ p, Hid ((L.getD j default).1 = p) := ⟨_, Lib.hid rfl⟩
          obtain ⟨mk, Hmk⟩ : ∃ mk, Hid ((L.getD j default).2.1 = mk) := ⟨_, Lib.hid rfl⟩
          rw [Hp.out] at q0 hpl hat
          rw [Hmk.out] at q1 hnext
          obtain ⟨r0, r1, r2, r3⟩ := hat
          have hnn := digit_nonneg mk k
          have hbit := digit_eq1 mk k
          obtain ⟨D, HD⟩ : ∃ D, Hid (mk.testBit k = D) := ⟨_, Lib.hid rfl⟩
          rw [HD.out] at hbit hnext
          obtain ⟨su, Hsu⟩ : ∃ su, Hid (costM cs (2 ^ k) L j = su) := ⟨_, Lib.hid rfl⟩
          rw [Hsu.out] at hnext hcl ⊢
          clear hc hc'
          cases D
          · have Hnext : Hid (costM cs (2 ^ k) L (j + 1) = su) := Lib.hid (by rw [hnext]; rfl)
            clear hnext
            go_wp2
            go_roundg (L.length - (j + 1))
            case measure => have := Hgk.out; omega
            case rel => exact ⟨j + 1, by have := Hgk.out; omega, by go_num, by rw [Hnext.out], hp⟩
          · obtain ⟨u, Hu⟩ : ∃ u, Hid (cdCost cd = u) := ⟨_, Lib.hid rfl⟩
            have hu4 : u ≤ 4 := by rw [← Hu.out]; exact cdCost_le cd
            have Hnext : Hid (costM cs (2 ^ k) L (j + 1) = su + u) := Lib.hid (by rw [hnext, Hu.out]; rfl)
            clear hnext
            go_wp2_with fail
            refine (scost_any cd _ HCD.out u Hu.out).mono ?_
            rintro e w3 ⟨rfl, hp3⟩
            go_wp2
            go_roundg (L.length - (j + 1))
            case measure => have := Hgk.out; omega
            case rel => exact ⟨j + 1, by have := Hgk.out; omega, by go_num, by rw [Hnext.out]; go_num, hp.trans hp3⟩
        · have hjl : j = L.length := by omega
          subst hjl
          go_wp2
          go_ret
          exact ⟨by rw [← HQ2.out] <;> rfl, HP12.out.trans hp⟩
    · have HN : Hid (laneA cs n mem n0 = -1) := Lib.hid (laneA_no (fun h => hin h.2))
      have HIN := Lib.hid hin
      clear hok hin
      rw [HN.out]
      go_enter Try.func45, Try.ntmps45
      go_wp2_with fail
      refine (sok_any _ _ cs n mem _ H.out HM.out hs1 hs2 true (by simp only [true_iff]; exact HOK.out)).mono ?_
      rintro e w1 ⟨rfl, hp1⟩
      go_wp2_with fail
      refine (l1In_any n0 0 ((n : Int) - 1) _ false (by simp only [Bool.false_eq_true, false_iff]; exact HIN.out)).mono ?_
      rintro e w2 ⟨rfl, rfl⟩
      go_wp2
      go_ret
      exact ⟨rfl, hp1⟩
  · have HN : Hid (laneA cs a mem n0 = -1) := Lib.hid (laneA_no (fun h => hok h.1))
    have HOK := Lib.hid hok
    clear hok
    rw [HN.out]
    go_enter Try.func45, Try.ntmps45
    go_wp2_with fail
    refine (sok_any _ _ cs a mem _ H.out HM.out hs1 hs2 false (by simp [HOK.out])).mono ?_
    rintro e w1 ⟨rfl, hp1⟩
    go_wp2
    go_ret
    exact ⟨rfl, hp1⟩

set_option maxHeartbeats 2000000 in
set_option maxRecDepth 100000 in
theorem ilane_any (vl vm : Value) (cs : List Cd) (a : Int) (mem : List Int) (n0 : Int) (w : World) (h : Codes w vl cs) (hm : Ints w vm mem) (hs1 : cs.length ≤ 1048576) (hs2 : mem.length ≤ 1048576) :
    Calls Try.prog 44 #[vl, .int .i64 a, vm, .int .i64 n0] w fun e w' => e = .returned (.int .i64 (laneA cs a mem n0)) ∧ Pure w w' := by
  have H := Lib.hid h
  have HM := Lib.hid hm
  obtain ⟨A, c, rfl, hnc, hcm⟩ := h.form
  obtain ⟨Am, cm, rfl⟩ := hm.form
  clear h hm
  by_cases hok : RunOk cs a mem
  · have HOK := Lib.hid hok
    obtain ⟨n, rfl, hn1, hn8⟩ := lanes_nat hok.2.1
    obtain ⟨q, Hq⟩ : ∃ q, Hid (laneA cs n mem n0 = q) := ⟨_, Lib.hid rfl⟩
    rw [Hq.out]
    go_enter Try.func44, Try.ntmps44
    go_wp2_with fail
    refine (ilock_any _ _ cs n mem _ H.out HM.out HOK.out.1 hn1 hn8 HOK.out.2.2).mono ?_
    rintro e w1 ⟨o, vb, va, rfl, hp0, hcs, hvl, hlk, hn, hmm, hrun⟩
    have HIN : Hid (∀ x ∈ (lockOf cs n mem).H, StepIn o.rm.n 0 o.cs.length x) := Lib.hid (by rw [hn, hcs]; exact lockOf_in HOK.out.1)
    have hlen := lockOf_len (n := n) (mem := mem) HOK.out.1
    have HLEN := Lib.hid hlen
    have HR := Lib.hid hrun
    have HN8 : Hid (o.rm.n ≤ 8) := Lib.hid (by rw [hn]; exact hn8)
    have HP0 := Lib.hid (hp0.trans hrun.pure)
    have HVV : Hid (PValid o.cs) := Lib.hid (by rw [hcs]; exact HOK.out.1)
    have HCS := Lib.hid hcs
    clear hp0 hcs hvl hlk hn hmm hrun hlen hok
    by_cases hin : 0 ≤ n0 ∧ n0 ≤ (n : Int) - 1
    · obtain ⟨k, rfl⟩ : ∃ k : Nat, n0 = k := ⟨n0.toNat, by omega⟩
      have hkn : k < n := by omega
      have HQ : Hid (((costM o.cs (2 ^ k) (lockOf cs n mem).H (lockOf cs n mem).H.length : Nat) : Int) = q) := Lib.hid (by rw [HCS.out, ← laneA_ok HOK.out hkn]; exact Hq.out)
      have hs := shlI (j := k) (by omega)
      have hB : 2 ^ k < 256 := Nat.lt_of_lt_of_le (Nat.pow_lt_pow_right (by decide) (show k < 8 by omega)) (by decide)
      obtain ⟨b, Hb⟩ : ∃ b, Hid (2 ^ k = b) := ⟨2 ^ k, Lib.hid rfl⟩
      rw [Hb.out] at HQ hB hs
      have HL1 := Lib.hid hin
      clear hin
      go_wp2_with fail
      refine (within_any (k : Int) 0 ((n : Int) - 1) _ true (by simp only [true_iff]; exact HL1.out)).mono ?_
      rintro e w2 ⟨rfl, rfl⟩
      go_wp2_with fail
      refine (lcost_any o HVV.out b hB _ _ _ _ HR.out HIN.out HLEN.out HN8.out).mono ?_
      rintro e w3 ⟨rfl, hp3⟩
      rw [HQ.out]
      go_wp2
      go_ret
      exact ⟨rfl, HP0.out.trans hp3⟩
    · have HN : Hid (q = -1) := Lib.hid (by rw [← Hq.out]; exact laneA_no (fun h => hin h.2))
      have HL1 := Lib.hid hin
      clear hin
      go_wp2_with fail
      refine (within_any n0 0 ((n : Int) - 1) _ false (by simp only [Bool.false_eq_true, false_iff]; exact HL1.out)).mono ?_
      rintro e w2 ⟨rfl, rfl⟩
      go_wp2
      go_ret
      exact ⟨by rw [HN.out]; rfl, HP0.out⟩
  · have HN : Hid (laneA cs a mem n0 = -1) := Lib.hid (laneA_no (fun h => hok h.1))
    have HOK := Lib.hid hok
    clear hok
    rw [HN.out]
    go_enter Try.func44, Try.ntmps44
    go_wp2_with fail
    refine (ino_any _ _ cs a mem _ H.out HM.out hs1 hs2 HOK.out).mono ?_
    rintro e w1 ⟨rfl, hp1⟩
    go_wp2
    go_ret
    exact ⟨rfl, hp1⟩

/-- The greatest cost of the lanes below j. -/
def mostTo (cs : List Cd) (H : List (Nat × Nat × (Nat → Nat → Int))) : Nat → Nat
  | 0 => 0
  | j + 1 => max (mostTo cs H j) (costM cs (2 ^ j) H H.length)
theorem mostTo_le (cs : List Cd) (H : List (Nat × Nat × (Nat → Nat → Int))) : ∀ j, mostTo cs H j ≤ 4 * H.length
  | 0 => Nat.zero_le _
  | j + 1 => Nat.max_le.2 ⟨mostTo_le cs H j, costM_le _ _ _ _⟩
open Classical in
noncomputable def lostA (cs : List Cd) (a : Int) (mem : List Int) : Int :=
  if RunOk cs a mem then ((costTo cs (lockA cs a mem).H (lockA cs a mem).H.length : Nat) : Int) - (mostTo cs (lockA cs a mem).H a.toNat : Nat) else -1
theorem lostA_ok {cs : List Cd} {n : Nat} {mem : List Int} (h : RunOk cs n mem) : lostA cs n mem = ((costTo cs (lockOf cs n mem).H (lockOf cs n mem).H.length : Nat) : Int) - (mostTo cs (lockOf cs n mem).H n : Nat) := by
  unfold lostA
  rw [if_pos h, lockA_ok h]; rfl
theorem lostA_no {cs : List Cd} {a : Int} {mem : List Int} (h : ¬ RunOk cs a mem) : lostA cs a mem = -1 := by
  unfold lostA; rw [if_neg h]

set_option maxHeartbeats 2000000 in
set_option maxRecDepth 100000 in
theorem slost_any (vl vm : Value) (cs : List Cd) (a : Int) (mem : List Int) (w : World) (h : Codes w vl cs) (hm : Ints w vm mem) (hs1 : cs.length ≤ 1048576) (hs2 : mem.length ≤ 1048576) :
    Calls Try.prog 48 #[vl, .int .i64 a, vm] w fun e w' => e = .returned (.int .i64 (lostA cs a mem)) ∧ Pure w w' := by
  have H := Lib.hid h
  have HM := Lib.hid hm
  obtain ⟨A, c, rfl, hnc, hcm⟩ := h.form
  obtain ⟨Am, cm, rfl⟩ := hm.form
  clear h hm
  by_cases hok : RunOk cs a mem
  · have HOK := Lib.hid hok
    obtain ⟨n, rfl, hn1, hn8⟩ := lanes_nat hok.2.1
    obtain ⟨q, Hq⟩ : ∃ q, Hid (lostA cs n mem = q) := ⟨_, Lib.hid rfl⟩
    rw [Hq.out]
    have hlen := lockOf_len (n := n) (mem := mem) hok.1
    have HLA : Hid (∀ j, j < n → laneA cs n mem (j : Nat) = (costM cs (2 ^ j) (lockOf cs n mem).H (lockOf cs n mem).H.length : Nat)) := Lib.hid fun j hj => laneA_ok hok hj
    have HQ : Hid (((costTo cs (lockOf cs n mem).H (lockOf cs n mem).H.length : Nat) : Int) - (mostTo cs (lockOf cs n mem).H n : Nat) = q) := Lib.hid (by rw [← lostA_ok hok]; exact Hq.out)
    obtain ⟨L, HL⟩ : ∃ L, Hid ((lockOf cs n mem).H = L) := ⟨_, Lib.hid rfl⟩
    rw [HL.out] at HQ HLA hlen
    have hct := costTo_le cs L L.length
    obtain ⟨ct, Hct⟩ : ∃ ct, Hid (costTo cs L L.length = ct) := ⟨_, Lib.hid rfl⟩
    rw [Hct.out] at HQ hct
    clear hok
    go_enter Try.func48, Try.ntmps48
    go_wp2_with fail
    refine (sok_any _ _ cs n mem _ H.out HM.out hs1 hs2 true (by simp only [true_iff]; exact HOK.out)).mono ?_
    rintro e w1 ⟨rfl, hp1⟩
    go_wp2_with fail
    go_loopg [7, 8] n (fun gk qq i wr => ∃ j : Nat, gk + j = n ∧ i = .int .i64 j ∧ qq = .int .i64 (mostTo cs L j : Nat) ∧ Pure w1 wr)
    case atStart => exact ⟨0, rfl, rfl, rfl, Pure.refl _⟩
    case round =>
      obtain ⟨j, hgk, rfl, rfl, hp⟩ := hrel
      have Hgk := Lib.hid hgk
      have hjn : j ≤ n := by omega
      clear hgk
      have hml := mostTo_le cs L j
      by_cases hlt : j < n
      · have hcl := costM_le cs (2 ^ j) L L.length
        have hnext : mostTo cs L (j + 1) = max (mostTo cs L j) (costM cs (2 ^ j) L L.length) := rfl
        have hla := HLA.out j hlt
        obtain ⟨m0, Hm0⟩ : ∃ m0, Hid (mostTo cs L j = m0) := ⟨_, Lib.hid rfl⟩
        obtain ⟨u, Hu⟩ : ∃ u, Hid (costM cs (2 ^ j) L L.length = u) := ⟨_, Lib.hid rfl⟩
        rw [Hm0.out] at hnext hml ⊢
        rw [Hu.out] at hnext hcl hla
        have HLJ := Lib.hid hla
        have Hnext := Lib.hid hnext
        clear hnext hla
        go_wp2_with fail
        refine (slane_any _ _ cs n mem (j : Int) _ (H.out.keep (hp1.trans hp)) (HM.out.keep (hp1.trans hp)) hs1 hs2).mono ?_
        rintro e w2 ⟨rfl, hp2⟩
        rw [HLJ.out]
        by_cases hmx : (m0 : Int) ≤ (u : Int)
        · have HX : Hid (mostTo cs L (j + 1) = u) := Lib.hid (by rw [Hnext.out]; exact Nat.max_eq_right (by omega))
          go_wp2
          all_goals first
            | omega
            | (go_roundg (n - (j + 1)); (case measure => have := Hgk.out; omega); (case rel => exact ⟨j + 1, by have := Hgk.out; omega, by go_num, by rw [HX.out] <;> first | rfl | exact congrArg (Value.int .i64) (by omega), hp.trans hp2⟩))
        · have HX : Hid (mostTo cs L (j + 1) = m0) := Lib.hid (by rw [Hnext.out]; exact Nat.max_eq_left (by omega))
          go_wp2
          all_goals first
            | omega
            | (go_roundg (n - (j + 1)); (case measure => have := Hgk.out; omega); (case rel => exact ⟨j + 1, by have := Hgk.out; omega, by go_num, by rw [HX.out] <;> first | rfl | exact congrArg (Value.int .i64) (by omega), hp.trans hp2⟩))
      · have hjl : j = n := by omega
        subst hjl
        obtain ⟨m0, Hm0⟩ : ∃ m0, Hid (mostTo cs L j = m0) := ⟨_, Lib.hid rfl⟩
        rw [Hm0.out] at hml ⊢
        have HQ2 : Hid ((ct : Int) - (m0 : Int) = q) := Lib.hid (by rw [← Hm0.out]; exact HQ.out)
        go_wp2_with fail
        refine (stc_any _ _ cs j mem _ (H.out.keep (hp1.trans hp)) (HM.out.keep (hp1.trans hp)) hs1 hs2).mono ?_
        rintro e w3 ⟨x, rfl, hx, hp3⟩
        have hx2 : x = (ct : Int) := by
          rw [hx.1 j rfl HOK.out, ← Hct.out, HL.out]
        subst hx2
        go_wp2
        go_ret
        exact ⟨by rw [← HQ2.out] <;> rfl, (hp1.trans hp).trans hp3⟩
  · have HN : Hid (lostA cs a mem = -1) := Lib.hid (lostA_no hok)
    have HOK := Lib.hid hok
    clear hok
    rw [HN.out]
    go_enter Try.func48, Try.ntmps48
    go_wp2_with fail
    refine (sok_any _ _ cs a mem _ H.out HM.out hs1 hs2 false (by simp [HOK.out])).mono ?_
    rintro e w1 ⟨rfl, hp1⟩
    go_wp2
    go_ret
    exact ⟨rfl, hp1⟩

set_option maxHeartbeats 2000000 in
set_option maxRecDepth 100000 in
theorem ilost_any (vl vm : Value) (cs : List Cd) (a : Int) (mem : List Int) (w : World) (h : Codes w vl cs) (hm : Ints w vm mem) (hs1 : cs.length ≤ 1048576) (hs2 : mem.length ≤ 1048576) :
    Calls Try.prog 47 #[vl, .int .i64 a, vm] w fun e w' => e = .returned (.int .i64 (lostA cs a mem)) ∧ Pure w w' := by
  have H := Lib.hid h
  have HM := Lib.hid hm
  obtain ⟨A, c, rfl, hnc, hcm⟩ := h.form
  obtain ⟨Am, cm, rfl⟩ := hm.form
  clear h hm
  by_cases hok : RunOk cs a mem
  · have HOK := Lib.hid hok
    obtain ⟨n, rfl, hn1, hn8⟩ := lanes_nat hok.2.1
    obtain ⟨q, Hq⟩ : ∃ q, Hid (lostA cs n mem = q) := ⟨_, Lib.hid rfl⟩
    rw [Hq.out]
    have HQ : Hid (((costTo cs (lockOf cs n mem).H (lockOf cs n mem).H.length : Nat) : Int) - (mostTo cs (lockOf cs n mem).H n : Nat) = q) := Lib.hid (by rw [← lostA_ok hok]; exact Hq.out)
    clear hok
    go_enter Try.func47, Try.ntmps47
    go_wp2_with fail
    refine (ilock_any _ _ cs n mem _ H.out HM.out HOK.out.1 hn1 hn8 HOK.out.2.2).mono ?_
    rintro e w1 ⟨o, vb, va, rfl, hp0, hcs, hvl, hlk, hn, hmm, hrun⟩
    have HIN : Hid (∀ x ∈ (lockOf cs n mem).H, StepIn o.rm.n 0 o.cs.length x) := Lib.hid (by rw [hn, hcs]; exact lockOf_in HOK.out.1)
    have hlen := lockOf_len (n := n) (mem := mem) HOK.out.1
    have HLEN := Lib.hid hlen
    have HR := Lib.hid hrun
    have HN8 : Hid (o.rm.n ≤ 8) := Lib.hid (by rw [hn]; exact hn8)
    have HP0 := Lib.hid (hp0.trans hrun.pure)
    have HVV : Hid (PValid o.cs) := Lib.hid (by rw [hcs]; exact HOK.out.1)
    have HCS := Lib.hid hcs
    have HB : Hid (2 ^ n - 1 < 256) := Lib.hid (by have := powI hn8; have : 1 ≤ 2 ^ n := Nat.one_le_two_pow; omega)
    have HEQ : Hid (costM o.cs (2 ^ n - 1) (lockOf cs n mem).H (lockOf cs n mem).H.length = costTo cs (lockOf cs n mem).H (lockOf cs n mem).H.length) := Lib.hid (by rw [hcs]; exact costM_all (lockOf_in HOK.out.1) _ (Nat.le_refl _))
    clear hp0 hcs hvl hlk hn hmm hrun
    obtain ⟨S, HS⟩ : ∃ S, Hid (lockOf cs n mem = S) := ⟨_, Lib.hid rfl⟩
    rw [HS.out] at HQ HIN hlen HLEN HR HEQ
    have hct := costTo_le cs S.H S.H.length
    obtain ⟨ct, Hct⟩ : ∃ ct, Hid (costTo cs S.H S.H.length = ct) := ⟨_, Lib.hid rfl⟩
    rw [Hct.out] at HQ hct HEQ
    go_wp2_with fail
    go_loopg [9, 10, 21] n (fun gk qq _ i wr => ∃ j : Nat, gk + j = n ∧ i = .int .i64 j ∧ qq = .int .i64 (mostTo cs S.H j : Nat) ∧ Pure w1 wr)
    case atStart => exact ⟨0, rfl, rfl, rfl, Pure.refl _⟩
    case round =>
      obtain ⟨j, hgk, rfl, rfl, hp⟩ := hrel
      have Hgk := Lib.hid hgk
      have hjn : j ≤ n := by omega
      clear hgk
      have hml := mostTo_le cs S.H j
      by_cases hlt : j < n
      · have hcl := costM_le cs (2 ^ j) S.H S.H.length
        have hnext : mostTo cs S.H (j + 1) = max (mostTo cs S.H j) (costM cs (2 ^ j) S.H S.H.length) := rfl
        have hs := shlI (j := j) (by omega)
        have hB : 2 ^ j < 256 := Nat.lt_of_lt_of_le (Nat.pow_lt_pow_right (by decide) (show j < 8 by omega)) (by decide)
        have HCC : Hid (costM o.cs (2 ^ j) S.H S.H.length = costM cs (2 ^ j) S.H S.H.length) := Lib.hid (by rw [HCS.out])
        obtain ⟨m0, Hm0⟩ : ∃ m0, Hid (mostTo cs S.H j = m0) := ⟨_, Lib.hid rfl⟩
        obtain ⟨u, Hu⟩ : ∃ u, Hid (costM cs (2 ^ j) S.H S.H.length = u) := ⟨_, Lib.hid rfl⟩
        rw [Hm0.out] at hnext hml ⊢
        rw [Hu.out] at hnext hcl HCC
        have Hnext := Lib.hid hnext
        clear hnext
        obtain ⟨b, Hb⟩ : ∃ b, Hid (2 ^ j = b) := ⟨2 ^ j, Lib.hid rfl⟩
        rw [Hb.out] at hB hs HCC
        go_wp2_with fail
        refine (lcost_any o HVV.out b hB _ _ _ _ (HR.out.keep hp) HIN.out HLEN.out HN8.out).mono ?_
        rintro e w3 ⟨rfl, hp3⟩
        rw [HCC.out]
        by_cases hmx : (m0 : Int) ≤ (u : Int)
        · have HX : Hid (mostTo cs S.H (j + 1) = u) := Lib.hid (by rw [Hnext.out]; exact Nat.max_eq_right (by omega))
          go_wp2
          all_goals first
            | omega
            | (go_roundg (n - (j + 1)); (case measure => have := Hgk.out; omega); (case rel => exact ⟨j + 1, by have := Hgk.out; omega, by go_num, by rw [HX.out] <;> first | rfl | exact congrArg (Value.int .i64) (by omega), hp.trans hp3⟩))
        · have HX : Hid (mostTo cs S.H (j + 1) = m0) := Lib.hid (by rw [Hnext.out]; exact Nat.max_eq_left (by omega))
          go_wp2
          all_goals first
            | omega
            | (go_roundg (n - (j + 1)); (case measure => have := Hgk.out; omega); (case rel => exact ⟨j + 1, by have := Hgk.out; omega, by go_num, by rw [HX.out] <;> first | rfl | exact congrArg (Value.int .i64) (by omega), hp.trans hp3⟩))
      · have hjl : j = n := by omega
        subst hjl
        obtain ⟨m0, Hm0⟩ : ∃ m0, Hid (mostTo cs S.H j = m0) := ⟨_, Lib.hid rfl⟩
        rw [Hm0.out] at hml ⊢
        have HQ2 : Hid ((ct : Int) - (m0 : Int) = q) := Lib.hid (by rw [← Hm0.out]; exact HQ.out)
        go_wp2_with fail
        refine (imaskall_any j _ hn1 hn8).mono ?_
        rintro e w2 ⟨rfl, rfl⟩
        obtain ⟨b, Hb⟩ : ∃ b, Hid (2 ^ j - 1 = b) := ⟨2 ^ j - 1, Lib.hid rfl⟩
        rw [Hb.out] at HB HEQ ⊢
        go_wp2_with fail
        refine (lcost_any o HVV.out b HB.out _ _ _ _ (HR.out.keep hp) HIN.out HLEN.out HN8.out).mono ?_
        rintro e w3 ⟨rfl, hp3⟩
        rw [HEQ.out]
        go_wp2
        go_ret
        exact ⟨by rw [← HQ2.out] <;> rfl, (HP0.out.trans hp).trans hp3⟩
  · have HN : Hid (lostA cs a mem = -1) := Lib.hid (lostA_no hok)
    have HOK := Lib.hid hok
    clear hok
    rw [HN.out]
    go_enter Try.func47, Try.ntmps47
    go_wp2_with fail
    refine (ino_any _ _ cs a mem _ H.out HM.out hs1 hs2 HOK.out).mono ?_
    rintro e w1 ⟨rfl, hp1⟩
    go_wp2
    go_ret
    exact ⟨rfl, hp1⟩

end Go.Proofs.Ytkolnakcgjlcgaa

namespace Go.Proofs.Ytkolnakcgjlcgaa

theorem eScan_end (r : List Cd) (k : Nat) (o : Int) : eScan (cEnd :: r) k 0 o = ((k : Int), o) := by
  rw [eScan_cons]; rfl
theorem eScan_else (r : List Cd) (k : Nat) (o : Int) : eScan (cElse :: r) k 0 o = eScan r (k + 1) 0 k := by
  rw [eScan_cons]; rfl
theorem scan_ite {t : Tr} (h : t.Ok) (r : List Cd) : eScan (t.flat ++ cEnd :: r) 0 0 (-1) = ((t.len : Int), -1) := by
  rw [eScan_flat t _ 0 0 _ h, eScan_end]; simp
theorem scan_itee {t e : Tr} (h : t.Ok) (he : e.Ok) (r : List Cd) : eScan (t.flat ++ cElse :: (e.flat ++ cEnd :: r)) 0 0 (-1) = (((t.len + 1 + e.len : Nat) : Int), (t.len : Int)) := by
  rw [eScan_flat t _ 0 0 _ h, eScan_else, eScan_flat e _ _ _ _ he, eScan_end]; simp
theorem plain_no_if {c : Cd} {a : Int} (h : Plain c) : c ≠ cIf a := fun e => h.2.1 (by rw [e]; rfl)
theorem plain_no_loop {c : Cd} {a b : Int} (h : Plain c) : c ≠ cLoop a b := fun e => h.2.2.2.1 (by rw [e]; rfl)
theorem if_no_loop {a a' b : Int} : cIf a ≠ cLoop a' b := fun e => by have := congrArg Cd.op e; simp [cIf, cLoop] at this
theorem if_inj {a a' : Int} (h : cIf a = cIf a') : a = a' := by have := congrArg Cd.a h; simpa [cIf] using this
theorem loop_inj {a a' b b' : Int} (h : cLoop a b = cLoop a' b') : a = a' ∧ b = b' := by
  have h1 := congrArg Cd.a h; have h2 := congrArg Cd.b h; exact ⟨by simpa [cLoop] using h1, by simpa [cLoop] using h2⟩
theorem split_ite {t t' : Tr} {r r' : List Cd} (h : t.Ok) (h' : t'.Ok) (e : t.flat ++ cEnd :: r = t'.flat ++ cEnd :: r') : t.flat = t'.flat ∧ r = r' := by
  have h1 := scan_ite h r
  rw [e, scan_ite h' r'] at h1
  simp at h1
  have h2 := List.append_inj e (by unfold Tr.len at h1; omega)
  exact ⟨h2.1, by simpa using h2.2⟩
theorem split_no {t t' e' : Tr} {r r' : List Cd} (h : t.Ok) (h' : t'.Ok) (he' : e'.Ok) (e : t.flat ++ cEnd :: r = t'.flat ++ cElse :: (e'.flat ++ cEnd :: r')) : False := by
  have h1 := scan_ite h r
  rw [e, scan_itee h' he' r'] at h1
  simp at h1
theorem split_itee {t t' e e' : Tr} {r r' : List Cd} (h : t.Ok) (h' : t'.Ok) (he : e.Ok) (he' : e'.Ok) (q : t.flat ++ cElse :: (e.flat ++ cEnd :: r) = t'.flat ++ cElse :: (e'.flat ++ cEnd :: r')) : t.flat = t'.flat ∧ e.flat = e'.flat ∧ r = r' := by
  have h1 := scan_itee h he r
  rw [q, scan_itee h' he' r'] at h1
  simp at h1
  have h2 := List.append_inj q (by have := h1.2; unfold Tr.len at this; omega)
  have h3 : e.flat ++ cEnd :: r = e'.flat ++ cEnd :: r' := by simpa using h2.2
  obtain ⟨h4, h5⟩ := split_ite he he' h3
  exact ⟨h2.1, h4, h5⟩
/-- Two trees of the same program are the same. -/
theorem flat_inj : ∀ (t t' : Tr), t.Ok → t'.Ok → t.flat = t'.flat → t = t'
  | .nil, t', _, _, h => by cases t' <;> simp [Tr.flat] at h; rfl
  | .op c k, t', ho, ho', h => by
    cases t' with
    | nil => simp [Tr.flat] at h
    | op c' k' =>
      simp only [Tr.flat, List.cons.injEq] at h
      rw [h.1, flat_inj k k' ho.2 ho'.2 h.2]
    | ite a t1 k' => simp only [Tr.flat, List.cons.injEq] at h; exact absurd h.1 (plain_no_if ho.1)
    | itee a t1 e1 k' => simp only [Tr.flat, List.cons.injEq] at h; exact absurd h.1 (plain_no_if ho.1)
    | loop a b t1 k' => simp only [Tr.flat, List.cons.injEq] at h; exact absurd h.1 (plain_no_loop ho.1)
  | .ite a t k, t', ho, ho', h => by
    cases t' with
    | nil => simp [Tr.flat] at h
    | op c' k' => simp only [Tr.flat, List.cons.injEq] at h; exact absurd h.1.symm (plain_no_if ho'.1)
    | ite a' t1 k' =>
      simp only [Tr.flat, List.cons.injEq] at h
      obtain ⟨h1, h2⟩ := split_ite ho.2.1 ho'.2.1 h.2
      rw [if_inj h.1, flat_inj t t1 ho.2.1 ho'.2.1 h1, flat_inj k k' ho.2.2 ho'.2.2 h2]
    | itee a' t1 e1 k' => simp only [Tr.flat, List.cons.injEq] at h; exact (split_no ho.2.1 ho'.2.1 ho'.2.2.1 h.2).elim
    | loop a' b t1 k' => simp only [Tr.flat, List.cons.injEq] at h; exact absurd h.1 if_no_loop
  | .itee a t e k, t', ho, ho', h => by
    cases t' with
    | nil => simp [Tr.flat] at h
    | op c' k' => simp only [Tr.flat, List.cons.injEq] at h; exact absurd h.1.symm (plain_no_if ho'.1)
    | ite a' t1 k' => simp only [Tr.flat, List.cons.injEq] at h; exact (split_no ho'.2.1 ho.2.1 ho.2.2.1 h.2.symm).elim
    | itee a' t1 e1 k' =>
      simp only [Tr.flat, List.cons.injEq] at h
      obtain ⟨h1, h2, h3⟩ := split_itee ho.2.1 ho'.2.1 ho.2.2.1 ho'.2.2.1 h.2
      rw [if_inj h.1, flat_inj t t1 ho.2.1 ho'.2.1 h1, flat_inj e e1 ho.2.2.1 ho'.2.2.1 h2, flat_inj k k' ho.2.2.2 ho'.2.2.2 h3]
    | loop a' b t1 k' => simp only [Tr.flat, List.cons.injEq] at h; exact absurd h.1 if_no_loop
  | .loop a b t k, t', ho, ho', h => by
    cases t' with
    | nil => simp [Tr.flat] at h
    | op c' k' => simp only [Tr.flat, List.cons.injEq] at h; exact absurd h.1.symm (plain_no_loop ho'.1)
    | ite a' t1 k' => simp only [Tr.flat, List.cons.injEq] at h; exact absurd h.1.symm if_no_loop
    | itee a' t1 e1 k' => simp only [Tr.flat, List.cons.injEq] at h; exact absurd h.1.symm if_no_loop
    | loop a' b' t1 k' =>
      simp only [Tr.flat, List.cons.injEq] at h
      obtain ⟨h1, h2⟩ := split_ite ho.2.2.1 ho'.2.2.1 h.2
      obtain ⟨ha, hb⟩ := loop_inj h.1
      rw [ha, hb, flat_inj t t1 ho.2.2.1 ho'.2.2.1 h1, flat_inj k k' ho.2.2.2 ho'.2.2.2 h2]

/-- Trees are valid programs, if they are short and not deep. -/
theorem sscan_flat : ∀ (t : Tr) (k : Nat) (st : List (Nat × Int)), t.Ok → t.depth + st.length ≤ 3 → sscan t.flat k st = some st
  | .nil, _, _, _, _ => rfl
  | .op c r, k, st, ho, hd => by
    have h1 : sstep st k c = some st := sstep_other (by have := ho.1; unfold Plain at this; unfold Opens; omega) ho.1.2.2.1 ho.1.2.2.2.2
    show (sstep st k c).bind _ = _
    rw [h1]
    exact sscan_flat r (k + 1) st ho.2 hd
  | .ite a t r, k, st, ho, hd => by
    have hd' : (t.depth + 1) + st.length ≤ 3 ∧ r.depth + st.length ≤ 3 := by
      have h1 := Nat.le_max_left (t.depth + 1) r.depth
      have h2 := Nat.le_max_right (t.depth + 1) r.depth
      have : (Tr.ite a t r).depth = max (t.depth + 1) r.depth := rfl
      omega
    have h1 : sstep st k (cIf a) = some ((k, 11) :: st) := by rw [sstep_open (opens_if a), if_pos (by omega)]; rfl
    show (sstep st k (cIf a)).bind _ = _
    rw [h1]
    show sscan (t.flat ++ cEnd :: r.flat) (k + 1) ((k, 11) :: st) = _
    rw [sscan_append, sscan_flat t _ _ ho.2.1 (by simp; omega)]
    show (sstep ((k, 11) :: st) (k + 1 + t.flat.length) cEnd).bind _ = _
    rw [sstep_end (c := cEnd) rfl]
    exact sscan_flat r _ st ho.2.2 hd'.2
  | .itee a t e r, k, st, ho, hd => by
    have hd' : (t.depth + 1) + st.length ≤ 3 ∧ (e.depth + 1) + st.length ≤ 3 ∧ r.depth + st.length ≤ 3 := by
      have h1 := Nat.le_max_left (max (t.depth + 1) (e.depth + 1)) r.depth
      have h2 := Nat.le_max_right (max (t.depth + 1) (e.depth + 1)) r.depth
      have h3 := Nat.le_max_left (t.depth + 1) (e.depth + 1)
      have h4 := Nat.le_max_right (t.depth + 1) (e.depth + 1)
      have : (Tr.itee a t e r).depth = max (max (t.depth + 1) (e.depth + 1)) r.depth := rfl
      omega
    have h1 : sstep st k (cIf a) = some ((k, 11) :: st) := by rw [sstep_open (opens_if a), if_pos (by omega)]; rfl
    show (sstep st k (cIf a)).bind _ = _
    rw [h1]
    show sscan (t.flat ++ cElse :: (e.flat ++ cEnd :: r.flat)) (k + 1) ((k, 11) :: st) = _
    rw [sscan_append, sscan_flat t _ _ ho.2.1 (by simp; omega)]
    show (sstep ((k, 11) :: st) (k + 1 + t.flat.length) cElse).bind _ = _
    rw [sstep_else (c := cElse) rfl]
    show sscan (e.flat ++ cEnd :: r.flat) _ ((k, 12) :: st) = _
    rw [sscan_append, sscan_flat e _ _ ho.2.2.1 (by simp; omega)]
    show (sstep ((k, 12) :: st) (k + 1 + t.flat.length + 1 + e.flat.length) cEnd).bind _ = _
    rw [sstep_end (c := cEnd) rfl]
    exact sscan_flat r _ st ho.2.2.2 hd'.2.2
  | .loop a b t r, k, st, ho, hd => by
    have hd' : (t.depth + 1) + st.length ≤ 3 ∧ r.depth + st.length ≤ 3 := by
      have h1 := Nat.le_max_left (t.depth + 1) r.depth
      have h2 := Nat.le_max_right (t.depth + 1) r.depth
      have : (Tr.loop a b t r).depth = max (t.depth + 1) r.depth := rfl
      omega
    have h1 : sstep st k (cLoop a b) = some ((k, 13) :: st) := by rw [sstep_open (opens_loop a b), if_pos (by omega)]; rfl
    show (sstep st k (cLoop a b)).bind _ = _
    rw [h1]
    show sscan (t.flat ++ cEnd :: r.flat) (k + 1) ((k, 13) :: st) = _
    rw [sscan_append, sscan_flat t _ _ ho.2.2.1 (by simp; omega)]
    show (sstep ((k, 13) :: st) (k + 1 + t.flat.length) cEnd).bind _ = _
    rw [sstep_end (c := cEnd) rfl]
    exact sscan_flat r _ st ho.2.2.2 hd'.2
theorem ok_codes : ∀ (t : Tr), t.Ok → ∀ c ∈ t.flat, CdOk c
  | .nil, _, c, h => by simp [Tr.flat] at h
  | .op d k, ho, c, h => by
    simp only [Tr.flat, List.mem_cons] at h
    rcases h with rfl | h
    · exact ho.1.1
    · exact ok_codes k ho.2 c h
  | .ite a t k, ho, c, h => by
    simp only [Tr.flat, List.mem_cons, List.mem_append] at h
    rcases h with rfl | h | rfl | h
    · exact .inr (.inl ⟨.inr rfl, ho.1, rfl, rfl⟩)
    · exact ok_codes t ho.2.1 c h
    · unfold CdOk cEnd; simp
    · exact ok_codes k ho.2.2 c h
  | .itee a t e k, ho, c, h => by
    simp only [Tr.flat, List.mem_cons, List.mem_append] at h
    rcases h with rfl | h | rfl | h | rfl | h
    · exact .inr (.inl ⟨.inr rfl, ho.1, rfl, rfl⟩)
    · exact ok_codes t ho.2.1 c h
    · unfold CdOk cElse; simp
    · exact ok_codes e ho.2.2.1 c h
    · unfold CdOk cEnd; simp
    · exact ok_codes k ho.2.2.2 c h
  | .loop a b t k, ho, c, h => by
    simp only [Tr.flat, List.mem_cons, List.mem_append] at h
    rcases h with rfl | h | rfl | h
    · exact .inr (.inr (.inr (.inr (.inl ⟨rfl, ho.1, ho.2.1, rfl⟩))))
    · exact ok_codes t ho.2.2.1 c h
    · unfold CdOk cEnd; simp
    · exact ok_codes k ho.2.2.2 c h
theorem valid_of_tree {t : Tr} (ho : t.Ok) (hd : t.depth ≤ 3) (hl : t.len ≤ 40) : PValid t.flat := ⟨ok_codes t ho, hl, sscan_flat t 0 [] ho (by simpa using hd)⟩
/-- The tree of a valid program is the one that is known. -/
theorem treeOf_eq {cs : List Cd} {t : Tr} (hv : PValid cs) (h : cs = t.flat) (ho : t.Ok) : treeOf cs = t := by
  obtain ⟨h1, h2, _⟩ := treeOf_spec hv
  exact flat_inj _ _ h2 ho (h1.symm.trans h)

/-- One tree behind another. -/
def Tr.app : Tr → Tr → Tr
  | .nil, u => u
  | .op c k, u => .op c (k.app u)
  | .ite a t k, u => .ite a t (k.app u)
  | .itee a t e k, u => .itee a t e (k.app u)
  | .loop a b t k, u => .loop a b t (k.app u)
theorem app_flat : ∀ (t u : Tr), (t.app u).flat = t.flat ++ u.flat
  | .nil, u => rfl
  | .op c k, u => by simp [Tr.app, Tr.flat, app_flat k u]
  | .ite a t k, u => by simp [Tr.app, Tr.flat, app_flat k u]
  | .itee a t e k, u => by simp [Tr.app, Tr.flat, app_flat k u]
  | .loop a b t k, u => by simp [Tr.app, Tr.flat, app_flat k u]
theorem app_ok : ∀ {t u : Tr}, t.Ok → u.Ok → (t.app u).Ok
  | .nil, _u, _, h => h
  | .op _c _k, _u, h, h' => ⟨h.1, app_ok h.2 h'⟩
  | .ite _a _t _k, _u, h, h' => ⟨h.1, h.2.1, app_ok h.2.2 h'⟩
  | .itee _a _t _e _k, _u, h, h' => ⟨h.1, h.2.1, h.2.2.1, app_ok h.2.2.2 h'⟩
  | .loop _a _b _t _k, _u, h, h' => ⟨h.1, h.2.1, h.2.2.1, app_ok h.2.2.2 h'⟩
theorem app_depth : ∀ {t u : Tr} {d : Nat}, t.depth ≤ d → u.depth ≤ d → (t.app u).depth ≤ d
  | .nil, _u, _d, _, h => h
  | .op _c k, _u, _d, h, h' => app_depth (t := k) h h'
  | .ite _a _t _k, _u, _d, h, h' => Nat.max_le.2 ⟨(Nat.max_le.1 h).1, app_depth (Nat.max_le.1 h).2 h'⟩
  | .itee _a _t _e _k, _u, _d, h, h' => Nat.max_le.2 ⟨(Nat.max_le.1 h).1, app_depth (Nat.max_le.1 h).2 h'⟩
  | .loop _a _b _t _k, _u, _d, h, h' => Nat.max_le.2 ⟨(Nat.max_le.1 h).1, app_depth (Nat.max_le.1 h).2 h'⟩
theorem run_app (n m : Nat) : ∀ (t u : Tr) (i mask : Nat) (s : LS), run n m (t.app u) i mask s = run n m u (i + t.len) mask (run n m t i mask s)
  | .nil, u, i, mask, s => rfl
  | .op c k, u, i, mask, s => by
    by_cases h0 : mask = 0
    · subst h0; rw [run_zero, run_zero, run_zero]
    · rw [Tr.len_op]
      show (if mask = 0 then s else run n m (k.app u) (i + 1) mask (exec c n m i mask s)) = run n m u (i + (k.len + 1)) mask (if mask = 0 then s else run n m k (i + 1) mask (exec c n m i mask s))
      rw [if_neg h0, if_neg h0, run_app n m k u, show i + 1 + k.len = i + (k.len + 1) by omega]
  | .ite a t k, u, i, mask, s => by
    by_cases h0 : mask = 0
    · subst h0; rw [run_zero, run_zero, run_zero]
    · rw [Tr.len_ite]
      show (if mask = 0 then s else run n m (k.app u) (i + 1 + t.len + 1) mask _) = run n m u _ mask (if mask = 0 then s else run n m k (i + 1 + t.len + 1) mask _)
      rw [if_neg h0, if_neg h0, run_app n m k u, show i + 1 + t.len + 1 + k.len = i + (1 + t.len + 1 + k.len) by omega]
  | .itee a t e k, u, i, mask, s => by
    by_cases h0 : mask = 0
    · subst h0; rw [run_zero, run_zero, run_zero]
    · rw [Tr.len_itee]
      show (if mask = 0 then s else run n m (k.app u) (i + 1 + t.len + 1 + e.len + 1) mask _) = run n m u _ mask (if mask = 0 then s else run n m k (i + 1 + t.len + 1 + e.len + 1) mask _)
      rw [if_neg h0, if_neg h0, run_app n m k u, show i + 1 + t.len + 1 + e.len + 1 + k.len = i + (1 + t.len + 1 + e.len + 1 + k.len) by omega]
  | .loop a b t k, u, i, mask, s => by
    by_cases h0 : mask = 0
    · subst h0; rw [run_zero, run_zero, run_zero]
    · rw [Tr.len_loop]
      show (if mask = 0 then s else run n m (k.app u) (i + 1 + t.len + 1) mask _) = run n m u _ mask (if mask = 0 then s else run n m k (i + 1 + t.len + 1) mask _)
      rw [if_neg h0, if_neg h0, run_app n m k u, show i + 1 + t.len + 1 + k.len = i + (1 + t.len + 1 + k.len) by omega]

end Go.Proofs.Ytkolnakcgjlcgaa

namespace Go.Proofs.Ytkolnakcgjlcgaa
open Go.RowKit

theorem costM_to (cs : List Cd) (b : Nat) (H : List (Nat × Nat × (Nat → Nat → Int))) : ∀ j, costM cs b H j ≤ costTo cs H j
  | 0 => Nat.le_refl _
  | j + 1 => by
    have ih := costM_to cs b H j
    unfold costM costTo
    split <;> omega
theorem mostTo_to (cs : List Cd) (H : List (Nat × Nat × (Nat → Nat → Int))) : ∀ n, mostTo cs H n ≤ costTo cs H H.length
  | 0 => Nat.zero_le _
  | n + 1 => Nat.max_le.2 ⟨mostTo_to cs H n, costM_to _ _ _ _⟩
def sumF (f : Nat → Nat) : Nat → Nat
  | 0 => 0
  | k + 1 => sumF f k + f k
theorem sumF_add (f g : Nat → Nat) : ∀ n, sumF (fun k => f k + g k) n = sumF f n + sumF g n
  | 0 => rfl
  | n + 1 => by have := sumF_add f g n; unfold sumF; omega
theorem sumF_le (f : Nat → Nat) {k n : Nat} (h : k < n) : f k ≤ sumF f n := by
  induction n with
  | zero => omega
  | succ n ih =>
    unfold sumF
    by_cases e : k = n
    · subst e; omega
    · have := ih (by omega); omega
theorem sumF_top (f : Nat → Nat) (c : Nat) (h : ∀ k, f k ≤ c) : ∀ n, sumF f n ≤ n * c
  | 0 => Nat.zero_le _
  | n + 1 => by have := sumF_top f c h n; have := h n; unfold sumF; rw [Nat.succ_mul]; omega
theorem some_bit {mk n : Nat} (h0 : mk ≠ 0) (hn : mk < 2 ^ n) : ∃ k, k < n ∧ mk.testBit k = true := by
  obtain ⟨k, hk⟩ := Nat.exists_testBit_of_ne_zero h0
  refine ⟨k, ?_, hk⟩
  by_cases e : k < n
  · exact e
  · rw [testBit_hi hn (by omega)] at hk; cases hk
/-- The lanes' costs together are at least the run's. -/
theorem sum_ge {cs : List Cd} {n : Nat} {H : List (Nat × Nat × (Nat → Nat → Int))} (h : ∀ x ∈ H, StepIn n 0 cs.length x) : ∀ j, j ≤ H.length → costTo cs H j ≤ sumF (fun k => costM cs (2 ^ k) H j) n
  | 0, _ => Nat.zero_le _
  | j + 1, hj => by
    have ih := sum_ge h j (by omega)
    have hx := h _ (getD_mem' (show j < H.length by omega))
    obtain ⟨k, hk, hb⟩ := some_bit hx.2.2.1 hx.2.2.2
    have e : (fun k => costM cs (2 ^ k) H (j + 1)) = fun k => costM cs (2 ^ k) H j + (if (H.getD j default).2.1.testBit k then cdCost (cs.getD (H.getD j default).1 default) else 0) := by
      funext k
      rw [costM_bit]
      split <;> omega
    rw [e, sumF_add]
    have h1 := sumF_le (fun k => if (H.getD j default).2.1.testBit k then cdCost (cs.getD (H.getD j default).1 default) else 0) hk
    simp only [hb, if_true] at h1
    show costTo cs H j + _ ≤ _
    omega
theorem sum_le (cs : List Cd) (H : List (Nat × Nat × (Nat → Nat → Int))) (n : Nat) : sumF (fun k => costM cs (2 ^ k) H H.length) n ≤ n * costTo cs H H.length := sumF_top _ _ (fun k => costM_to cs (2 ^ k) H H.length) n
/-- With one lane the cost of the lane is that of the run. -/
theorem cost_one {cs : List Cd} {mem : List Int} (hv : PValid cs) : costM cs (2 ^ 0) (lockOf cs 1 mem).H (lockOf cs 1 mem).H.length = costTo cs (lockOf cs 1 mem).H (lockOf cs 1 mem).H.length := by
  have := costM_all (lockOf_in (n := 1) (mem := mem) hv) _ (Nat.le_refl _)
  exact this
theorem most_one {cs : List Cd} {mem : List Int} (hv : PValid cs) : mostTo cs (lockOf cs 1 mem).H 1 = costTo cs (lockOf cs 1 mem).H (lockOf cs 1 mem).H.length := by
  show max 0 _ = _
  rw [cost_one hv]; simp

/-- In a program without an OpEnd all lanes take all steps. -/
theorem run_flat (n m : Nat) : ∀ (t : Tr) (i mask : Nat) (s : LS) (x), (∀ c ∈ t.flat, c.op ≠ 14) → x ∈ (run n m t i mask s).H → x ∈ s.H ∨ x.2.1 = mask
  | .nil, _, _, _, _, _, h => .inl h
  | .op c k, i, mask, s, x, hf, h => by
    by_cases h0 : mask = 0
    · subst h0; rw [run_zero] at h; exact .inl h
    · have h : x ∈ (if mask = 0 then s else run n m k (i + 1) mask (exec c n m i mask s) : LS).H := h
      rw [if_neg h0] at h
      rcases run_flat n m k _ _ _ _ (fun c hc => hf c (by simp [Tr.flat, hc])) h with h | h
      · rw [exec_H] at h
        rcases beat_mem (s := s) h with h | h
        · exact .inl h
        · exact .inr h.2
      · exact .inr h
  | .ite a t k, _, _, _, _, hf, _ => absurd rfl (hf cEnd (by simp [Tr.flat]))
  | .itee a t e k, _, _, _, _, hf, _ => absurd rfl (hf cEnd (by simp [Tr.flat]))
  | .loop a b t k, _, _, _, _, hf, _ => absurd rfl (hf cEnd (by simp [Tr.flat]))
theorem costM_full {cs : List Cd} {n k : Nat} (hk : k < n) {H : List (Nat × Nat × (Nat → Nat → Int))} (h : ∀ x ∈ H, x.2.1 = 2 ^ n - 1) : ∀ j, j ≤ H.length → costM cs (2 ^ k) H j = costTo cs H j
  | 0, _ => rfl
  | j + 1, hj => by
    have ih := costM_full (cs := cs) hk h j (by omega)
    have hx := h _ (getD_mem' (show j < H.length by omega))
    rw [costM_bit, ih, hx, Nat.testBit_two_pow_sub_one]
    simp [hk]; rfl
theorem most_full {cs : List Cd} {H : List (Nat × Nat × (Nat → Nat → Int))} {n : Nat} (h : ∀ x ∈ H, x.2.1 = 2 ^ n - 1) : ∀ k, 1 ≤ k → k ≤ n → mostTo cs H k = costTo cs H H.length
  | 0, h1, _ => absurd h1 (by decide)
  | k + 1, _, hk => by
    have h1 := costM_full (cs := cs) (show k < n by omega) h H.length (Nat.le_refl _)
    show max (mostTo cs H k) _ = _
    rw [h1]
    exact Nat.max_eq_right (mostTo_to cs H k)
/-- Nothing is lost without blocks. -/
theorem lost_flat {cs : List Cd} {n : Nat} {mem : List Int} (hv : PValid cs) (hn : 1 ≤ n) (hf : ∀ c ∈ cs, c.op ≠ 14) : mostTo cs (lockOf cs n mem).H n = costTo cs (lockOf cs n mem).H (lockOf cs n mem).H.length := by
  obtain ⟨h1, h2, _⟩ := treeOf_spec hv
  refine most_full (n := n) (fun x hx => ?_) n hn (Nat.le_refl _)
  rcases run_flat n mem.length (treeOf cs) 0 (2 ^ n - 1) (startLS mem) x (by rw [← h1]; exact hf) hx with h | h
  · cases h
  · exact h

def countTo (cs : List Cd) (op : Int) : Nat → Nat
  | 0 => 0
  | k + 1 => if (cs.getD k default).op = op then countTo cs op k + 1 else countTo cs op k
theorem countTo_le (cs : List Cd) (op : Int) : ∀ k, countTo cs op k ≤ k
  | 0 => Nat.le_refl _
  | k + 1 => by have := countTo_le cs op k; unfold countTo; split <;> omega
theorem countTo_none {cs : List Cd} {op : Int} : ∀ k, k ≤ cs.length → countTo cs op k = 0 → ∀ j, j < k → (cs.getD j default).op ≠ op
  | 0, _, _, j, h => absurd h (by omega)
  | k + 1, hk, h, j, hj => by
    unfold countTo at h
    split at h
    · omega
    · rename_i hne
      by_cases e : j = k
      · subst e; exact hne
      · exact countTo_none k (by omega) h j (by omega)
theorem count_none {cs : List Cd} {op : Int} (h : countTo cs op cs.length = 0) : ∀ c ∈ cs, c.op ≠ op := by
  intro c hc
  obtain ⟨j, hj, rfl⟩ := List.getElem_of_mem hc
  have := countTo_none cs.length (Nat.le_refl _) h j hj
  simpa [List.getD_eq_getElem?_getD, hj] using this

set_option maxHeartbeats 1000000 in
theorem icount_any (v : Value) (cs : List Cd) (op : Int) (w : World) (h : Codes w v cs) (hv : PValid cs) :
    Calls Try.prog 49 #[v, .int .i64 op] w fun e w' => e = .returned (.int .i64 (countTo cs op cs.length : Nat)) ∧ Pure w w' := by
  have H := Lib.hid h
  have HV := Lib.hid hv
  have h40 := hv.2.1
  obtain ⟨A, c, rfl, hnc, hcm⟩ := h.form
  clear h hv
  go_enter Try.func49, Try.ntmps49
  go_wp2_with fail
  refine (ipv_any _ cs _ H.out (by omega) true (by simp only [true_iff]; exact HV.out)).mono ?_
  rintro e w1 ⟨rfl, hp1⟩
  have HP1 := Lib.hid hp1
  clear hp1
  go_wp2
  go_loopg [5, 7, 13] cs.length (fun gk q _ i wr => ∃ k : Nat, gk + k = cs.length ∧ i = .int .i64 k ∧ q = .int .i64 (countTo cs op k : Nat) ∧ Pure w1 wr)
  case atStart => exact ⟨0, rfl, rfl, rfl, Pure.refl _⟩
  case round =>
    obtain ⟨k, hgk, rfl, rfl, hp⟩ := hrel
    have Hgk := Lib.hid hgk
    have hkn : k ≤ cs.length := by omega
    clear hgk
    have hle := countTo_le cs op k
    have hnext : countTo cs op (k + 1) = if (cs.getD k default).op = op then countTo cs op k + 1 else countTo cs op k := rfl
    obtain ⟨q, Hq⟩ : ∃ q, Hid (countTo cs op k = q) := ⟨_, Lib.hid rfl⟩
    rw [Hq.out] at hle hnext ⊢
    by_cases hlt : k < cs.length
    · obtain ⟨b, o, rfl, hb, hc⟩ := H.out.at_ hlt
      obtain ⟨cd, Hcd⟩ : ∃ cd, Hid (cs.getD k default = cd) := ⟨_, Lib.hid rfl⟩
      have hat := hc.keep (HP1.out.trans hp) hb
      rw [Hcd.out] at hat hnext
      obtain ⟨r0, r1, r2, r3⟩ := hat
      clear hc
      by_cases he : cd.op = op
      · have heb : (cd.op == op) = true := by simp [he]
        have Hnext : Hid (countTo cs op (k + 1) = q + 1) := Lib.hid (by rw [hnext, if_pos he])
        clear hnext he
        go_wp2
        go_roundg (cs.length - (k + 1))
        case measure => have := Hgk.out; omega
        case rel => exact ⟨k + 1, by have := Hgk.out; omega, by go_num, by rw [Hnext.out]; go_num, by exact (by repeat (first | assumption | exact Pure.refl _ | refine Pure.drewN ?_ _ | refine Pure.drew ?_ | refine Pure.alloc ?_ _ | refine Pure.setCell ?_ (by simp <;> omega) _))⟩
      · have heb : (cd.op == op) = false := by simp [he]
        have Hnext : Hid (countTo cs op (k + 1) = q) := Lib.hid (by rw [hnext, if_neg he])
        clear hnext he
        go_wp2
        go_roundg (cs.length - (k + 1))
        case measure => have := Hgk.out; omega
        case rel => exact ⟨k + 1, by have := Hgk.out; omega, by go_num, by rw [Hnext.out], by exact (by repeat (first | assumption | exact Pure.refl _ | refine Pure.drewN ?_ _ | refine Pure.drew ?_ | refine Pure.alloc ?_ _ | refine Pure.setCell ?_ (by simp <;> omega) _))⟩
    · have hkl : k = cs.length := by omega
      subst hkl
      have hpf := HP1.out.trans hp
      go_wp2
      go_ret
      exact ⟨by rw [Hq.out] <;> rfl, by exact (by repeat (first | assumption | exact Pure.refl _ | refine Pure.drewN ?_ _ | refine Pure.drew ?_ | refine Pure.alloc ?_ _ | refine Pure.setCell ?_ (by simp <;> omega) _))⟩

end Go.Proofs.Ytkolnakcgjlcgaa

namespace Go.Proofs.Ytkolnakcgjlcgaa
open Go.RowKit

def FirstAt {α : Type} [Inhabited α] (p : α → Bool) (H : List α) (r : Int) : Prop :=
  (∃ k : Nat, r = k ∧ k < H.length ∧ p (H.getD k default) = true ∧ ∀ j, j < k → p (H.getD j default) = false) ∨ (r = -1 ∧ ∀ j, j < H.length → p (H.getD j default) = false)
theorem box_facts {w w' : World} {x y : Value} {t : TypeId} (hp : Pure (w.alloc (.cells #[x, y] t)) w') : w'.cell? ⟨w.heap.size, 0, none⟩ = some x ∧ w'.cell? ⟨w.heap.size, 1, none⟩ = some y := by
  have h := heap_alloc_new w (.cells #[x, y] t)
  exact ⟨keepPc hp ((cell_of_row _ _ 0 _ _ _ h).trans rfl), keepPc hp ((cell_of_row _ _ 1 _ _ _ h).trans rfl)⟩

set_option maxHeartbeats 2000000 in
set_option maxRecDepth 100000 in
theorem ispl1_any (w : World) (bx lp pm p mk n c : Nat) (A : Option Addr) (vl : Value) (cs : List Cd) (hbx : w.cell? ⟨bx, 0, none⟩ = some (.pointer (some ⟨lp, 0, none⟩))) (h0 : w.cell? ⟨lp, 0, none⟩ = some (.pointer (some ⟨pm, 0, none⟩)))
    (h1 : w.cell? ⟨lp, 1, none⟩ = some (.slice A n c)) (hm : w.cell? ⟨pm, 0, none⟩ = some vl) (hc : Codes w vl cs) (hp : p < cs.length) (hn1 : 1 ≤ n) (hn8 : n ≤ 8) (R : Nat → Nat → Int) :
    Calls Try.prog 95 #[.agg #[.int .i64 (p : Int), .int .i64 (mk : Int)], .pointer (some ⟨bx, 0, none⟩)] w fun e w' => e = .returned (.bool (splBad cs n (p, mk, R))) ∧ Pure w w' := by
  have H := Lib.hid hc
  obtain ⟨Al, cl, rfl, hnc, hcm⟩ := hc.form
  clear hc
  obtain ⟨b, o, rfl, hb, hat⟩ := H.out.at_ hp
  obtain ⟨cd, Hcd⟩ : ∃ cd, Hid (cs.getD p default = cd) := ⟨_, Lib.hid rfl⟩
  rw [Hcd.out] at hat
  have hbad : splBad cs n (p, mk, R) = (decide (cd.op = 10) && !decide (mk = 2 ^ n - 1)) := by unfold splBad; rw [Hcd.out]
  have q0 := hat.c0
  have lb := World.block_lt_of_cell? _ _ hbx
  have l0 := World.block_lt_of_cell? _ _ h0
  have l1 := World.block_lt_of_cell? _ _ h1
  have lm := World.block_lt_of_cell? _ _ hm
  clear hat
  obtain ⟨T, HT⟩ : ∃ T, Hid (2 ^ n - 1 = T) := ⟨_, Lib.hid rfl⟩
  have HMA : Hid (∀ u : World, Calls Try.prog 22 #[.int .i64 (n : Int)] u fun e w' => e = .returned (.int .i64 (T : Int)) ∧ w' = u) := Lib.hid fun u => by
    have := imaskall_any n u hn1 hn8
    rw [HT.out] at this; exact this.mono fun e w' h => ⟨h.1, h.2.symm⟩
  rw [HT.out] at hbad
  obtain ⟨z, Hz⟩ : ∃ z, Hid (cd.op = z) := ⟨_, Lib.hid rfl⟩
  rw [Hz.out] at q0 hbad
  have HP : Hid (Pure w (w.alloc (.cells #[.int .i64 (p : Int), .int .i64 (mk : Int)] 33))) := Lib.hid (Pure.alloc (Pure.refl _) _)
  obtain ⟨x0, x1⟩ := box_facts (Pure.refl (w.alloc (.cells #[.int .i64 (p : Int), .int .i64 (mk : Int)] 33)))
  have y0 := keepPc HP.out q0
  have y1 := keepPc HP.out hbx
  have y2 := keepPc HP.out h0
  have y3 := keepPc HP.out h1
  have y4 := keepPc HP.out hm
  by_cases hz : z = 10
  · subst hz
    by_cases hmk : mk = T
    · have hmb : ((mk : Int) != (T : Int)) = false := by simp [hmk]
      have HB : Hid (splBad cs n (p, mk, R) = false) := Lib.hid (by rw [hbad]; simp [hmk])
      clear hmk hbad
      go_enter Try.func95, Try.ntmps95
      go_wp2
      go_quiet ((go_at_call 22; refine Calls.quiet_of_same (HMA.out _)))
      go_wp2
      go_ret
      exact ⟨ret_bool HB.out.symm, by exact (by repeat (first | assumption | exact Pure.refl _ | refine Pure.drewN ?_ _ | refine Pure.drew ?_ | refine Pure.alloc ?_ _ | refine Pure.setCell ?_ (by simp <;> omega) _))⟩
    · have hmb : ((mk : Int) != (T : Int)) = true := by simp; omega
      have HB : Hid (splBad cs n (p, mk, R) = true) := Lib.hid (by rw [hbad]; simp [hmk])
      clear hmk hbad
      go_enter Try.func95, Try.ntmps95
      go_wp2
      go_quiet ((go_at_call 22; refine Calls.quiet_of_same (HMA.out _)))
      go_wp2
      go_ret
      exact ⟨ret_bool HB.out.symm, by exact (by repeat (first | assumption | exact Pure.refl _ | refine Pure.drewN ?_ _ | refine Pure.drew ?_ | refine Pure.alloc ?_ _ | refine Pure.setCell ?_ (by simp <;> omega) _))⟩
  · have hzb : (z == 10) = false := by simp [hz]
    have HB : Hid (splBad cs n (p, mk, R) = false) := Lib.hid (by rw [hbad]; simp [hz])
    clear hz hbad
    go_enter Try.func95, Try.ntmps95
    go_wp2
    go_quiet (fail)
    go_wp2
    go_ret
    exact ⟨ret_bool HB.out.symm, by exact (by repeat (first | assumption | exact Pure.refl _ | refine Pure.drewN ?_ _ | refine Pure.drew ?_ | refine Pure.alloc ?_ _ | refine Pure.setCell ?_ (by simp <;> omega) _))⟩

set_option maxHeartbeats 2000000 in
set_option maxRecDepth 100000 in
theorem ispix_any (w : World) (bx lp pm n c : Nat) (A : Option Addr) (vl vb : Value) (cs : List Cd) (L : List (Nat × Nat × (Nat → Nat → Int))) (hbx : w.cell? ⟨bx, 0, none⟩ = some (.pointer (some ⟨lp, 0, none⟩))) (h0 : w.cell? ⟨lp, 0, none⟩ = some (.pointer (some ⟨pm, 0, none⟩)))
    (h1 : w.cell? ⟨lp, 1, none⟩ = some (.slice A n c)) (hm : w.cell? ⟨pm, 0, none⟩ = some vl) (hc : Codes w vl cs) (hn1 : 1 ≤ n) (hn8 : n ≤ 8) (hf : Flat w vb L.length 2 (beatsL L)) (hin : ∀ x ∈ L, x.1 < cs.length) (hlen : L.length ≤ 1048576) :
    Calls Try.prog 94 #[vb, .func (.func 95) #[] #[.pointer (some ⟨bx, 0, none⟩)]] w fun e w' => ∃ r, e = .returned (.int .i64 r) ∧ FirstAt (splBad cs n) L r ∧ Pure w w' := by
  have H := Lib.hid hc
  have HF := Lib.hid hf
  have HIN := Lib.hid hin
  have HW := Lib.hid (And.intro hbx (And.intro h0 (And.intro h1 hm)))
  obtain ⟨Ab, cb, rfl, hnc, hcm⟩ := hf.form
  clear hc hf hin hbx h0 h1 hm
  go_enter Try.func94, Try.ntmps94
  go_wp2
  go_loopg [8] L.length (fun gk i wr => ∃ k : Nat, gk + k = L.length ∧ i = .int .i64 k ∧ Pure w wr ∧ ∀ j, j < k → splBad cs n (L.getD j default) = false)
  case atStart => exact ⟨0, rfl, rfl, Pure.refl _, fun j hj => absurd hj (by omega)⟩
  case round =>
    obtain ⟨k, hgk, rfl, hp, hall⟩ := hrel
    have Hgk := Lib.hid hgk
    have Hall := Lib.hid hall
    have hkn : k ≤ L.length := by omega
    clear hgk hall
    by_cases hlt : k < L.length
    · obtain ⟨b, o, rfl, hb, hcl⟩ := HF.out.at_ (by omega)
      have q0 := (hp.cell b _ hb).trans (hcl (k * 2) (by omega))
      have q1 := (hp.cell b _ hb).trans (hcl (k * 2 + 1) (by omega))
      rw [getD_of (beat_at L k hlt).1] at q0
      rw [getD_of (beat_at L k hlt).2, ← Nat.add_assoc] at q1
      clear hcl
      have hpl : (L.getD k default).1 < cs.length := HIN.out _ (getD_mem' hlt)
      have HCL := Lib.hid (fun u (hu : Pure w u) => ispl1_any u bx lp pm (L.getD k default).1 (L.getD k default).2.1 n c A vl cs (keepPc hu HW.out.1) (keepPc hu HW.out.2.1) (keepPc hu HW.out.2.2.1) (keepPc hu HW.out.2.2.2) (H.out.keep hu) hpl hn1 hn8 (L.getD k default).2.2)
      obtain ⟨B, HB⟩ : ∃ B, Hid (splBad cs n (L.getD k default) = B) := ⟨_, Lib.hid rfl⟩
      have HB2 : Hid (splBad cs n ((L.getD k default).1, (L.getD k default).2.1, (L.getD k default).2.2) = B) := HB
      have HCL2 : Hid (∀ u, Pure w u → Calls Try.prog 95 #[.agg #[.int .i64 ((L.getD k default).1 : Int), .int .i64 ((L.getD k default).2.1 : Int)], .pointer (some ⟨bx, 0, none⟩)] u fun e w' => e = .returned (.bool B) ∧ Pure u w') := Lib.hid fun u hu => by
        have := HCL.out u hu; rw [HB2.out] at this; exact this
      clear HCL HB2
      obtain ⟨pp, Hp⟩ : ∃ p, Hid ((L.getD k default).1 = p) := ⟨_, Lib.hid rfl⟩
      obtain ⟨mk, Hmk⟩ : ∃ mk, Hid ((L.getD k default).2.1 = mk) := ⟨_, Lib.hid rfl⟩
      rw [Hp.out, Hmk.out] at HCL2
      rw [Hp.out] at q0 hpl
      rw [Hmk.out] at q1
      go_wp2_with fail
      refine (HCL2.out _ hp).mono ?_
      rintro e w1 ⟨rfl, hp1⟩
      cases B
      · have Hnext : Hid (∀ j, j < k + 1 → splBad cs n (L.getD j default) = false) := Lib.hid fun j hj => by
          by_cases e : j = k
          · rw [e, HB.out]
          · exact Hall.out j (by omega)
        go_wp2
        go_roundg (L.length - (k + 1))
        case measure => have := Hgk.out; omega
        case rel => exact ⟨k + 1, by have := Hgk.out; omega, by go_num, hp.trans hp1, Hnext.out⟩
      · have Hhit : Hid (FirstAt (splBad cs n) L (k : Nat)) := Lib.hid (.inl ⟨k, rfl, hlt, HB.out, Hall.out⟩)
        go_wp2
        go_ret
        exact ⟨_, rfl, Hhit.out, hp.trans hp1⟩
    · have HN : Hid (FirstAt (splBad cs n) L (-1)) := Lib.hid (.inr ⟨rfl, fun j hj => Hall.out j (by omega)⟩)
      go_wp2
      go_ret
      exact ⟨_, rfl, HN.out, hp⟩

end Go.Proofs.Ytkolnakcgjlcgaa
