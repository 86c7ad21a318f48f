/- How many instructions of a program have an operation. The block around a place, as the program finds it. No condition. -/
import Derived.Test.YtonmndojlnohcaaKai
import Derived.Test.YtonmndojlnohcaaKbd

namespace Go.Proofs.Ytonmndojlnohcaa
open Go.RowKit

def countTo (cs : List Cd) (op : Int) : Nat → Nat
  | 0 => 0
  | k + 1 => if (cs.getD k default).op = op then countTo cs op k + 1 else countTo cs op k
theorem countTo_le (cs : List Cd) (op : Int) : ∀ k, countTo cs op k ≤ k
  | 0 => Nat.le_refl _
  | k + 1 => by have := countTo_le cs op k; unfold countTo; split <;> omega
theorem countTo_none {cs : List Cd} {op : Int} : ∀ k, k ≤ cs.length → countTo cs op k = 0 → ∀ j, j < k → (cs.getD j default).op ≠ op
  | 0, _, _, j, h => absurd h (by omega)
  | k + 1, hk, h, j, hj => by
    unfold countTo at h
    split at h
    · omega
    · rename_i hne
      by_cases e : j = k
      · subst e; exact hne
      · exact countTo_none k (by omega) h j (by omega)
theorem count_none {cs : List Cd} {op : Int} (h : countTo cs op cs.length = 0) : ∀ c ∈ cs, c.op ≠ op := by
  intro c hc
  obtain ⟨j, hj, rfl⟩ := List.getElem_of_mem hc
  have := countTo_none cs.length (Nat.le_refl _) h j hj
  simpa [List.getD_eq_getElem?_getD, hj] using this

set_option maxHeartbeats 1000000 in
theorem icount_any (v : Value) (cs : List Cd) (op : Int) (w : World) (h : Codes w v cs) (hv : PValid cs) :
    Calls Try.prog 27 #[v, .int .i64 op] w fun e w' => e = .returned (.int .i64 (countTo cs op cs.length : Nat)) ∧ Pure w w' := by
  have H := Lib.hid h
  have HV := Lib.hid hv
  have h40 := hv.2.1
  obtain ⟨A, c, rfl, hnc, hcm⟩ := h.form
  clear h hv
  go_enter Try.func27, Try.ntmps27
  go_wp2_with fail
  refine (ipv_any _ cs _ H.out (by omega) true (by simp only [true_iff]; exact HV.out)).mono ?_
  rintro e w1 ⟨rfl, hp1⟩
  have HP1 := Lib.hid hp1
  clear hp1
  go_wp2
  go_loopg [5, 7, 13] cs.length (fun gk q _ i wr => ∃ k : Nat, gk + k = cs.length ∧ i = .int .i64 k ∧ q = .int .i64 (countTo cs op k : Nat) ∧ Pure w1 wr)
  case atStart => exact ⟨0, rfl, rfl, rfl, Pure.refl _⟩
  case round =>
    obtain ⟨k, hgk, rfl, rfl, hp⟩ := hrel
    have Hgk := Lib.hid hgk
    have hkn : k ≤ cs.length := by omega
    clear hgk
    have hle := countTo_le cs op k
    have hnext : countTo cs op (k + 1) = if (cs.getD k default).op = op then countTo cs op k + 1 else countTo cs op k := rfl
    obtain ⟨q, Hq⟩ : ∃ q, Hid (countTo cs op k = q) := ⟨_, Lib.hid rfl⟩
    rw [Hq.out] at hle hnext ⊢
    by_cases hlt : k < cs.length
    · obtain ⟨b, o, rfl, hb, hc⟩ := H.out.at_ hlt
      obtain ⟨cd, Hcd⟩ : ∃ cd, Hid (cs.getD k default = cd) := ⟨_, Lib.hid rfl⟩
      have hat := hc.keep (HP1.out.trans hp) hb
      rw [Hcd.out] at hat hnext
      obtain ⟨r0, r1, r2, r3⟩ := hat
      clear hc
      by_cases he : cd.op = op
      · have heb : (cd.op == op) = true := by simp [he]
        have Hnext : Hid (countTo cs op (k + 1) = q + 1) := Lib.hid (by rw [hnext, if_pos he])
        clear hnext he
        go_wp2
        go_roundg (cs.length - (k + 1))
        case measure => have := Hgk.out; omega
        case rel => exact ⟨k + 1, by have := Hgk.out; omega, by go_num, by rw [Hnext.out]; go_num, by exact (by repeat (first | assumption | exact Pure.refl _ | refine Pure.drewN ?_ _ | refine Pure.drew ?_ | refine Pure.alloc ?_ _ | refine Pure.setCell ?_ (by simp <;> omega) _))⟩
      · have heb : (cd.op == op) = false := by simp [he]
        have Hnext : Hid (countTo cs op (k + 1) = q) := Lib.hid (by rw [hnext, if_neg he])
        clear hnext he
        go_wp2
        go_roundg (cs.length - (k + 1))
        case measure => have := Hgk.out; omega
        case rel => exact ⟨k + 1, by have := Hgk.out; omega, by go_num, by rw [Hnext.out], by exact (by repeat (first | assumption | exact Pure.refl _ | refine Pure.drewN ?_ _ | refine Pure.drew ?_ | refine Pure.alloc ?_ _ | refine Pure.setCell ?_ (by simp <;> omega) _))⟩
    · have hkl : k = cs.length := by omega
      subst hkl
      have hpf := HP1.out.trans hp
      go_wp2
      go_ret
      exact ⟨by rw [Hq.out] <;> rfl, by exact (by repeat (first | assumption | exact Pure.refl _ | refine Pure.drewN ?_ _ | refine Pure.drew ?_ | refine Pure.alloc ?_ _ | refine Pure.setCell ?_ (by simp <;> omega) _))⟩

end Go.Proofs.Ytonmndojlnohcaa

namespace Go.Proofs.Ytonmndojlnohcaa
open Go.RowKit

theorem PValid.stk {cs : List Cd} (h : PValid cs) : ∀ {k : Nat}, k ≤ cs.length → ∃ st, sscan (cs.take k) 0 [] = some st ∧ Stk cs k st
  | 0, _ => ⟨[], by simp [sscan], Stk.nil cs⟩
  | k + 1, hk => by
    obtain ⟨st, h1, h2⟩ := PValid.stk h (k := k) (by omega)
    have h3 := sscan_take (show k < cs.length by omega) h1
    cases hs : sstep st k (cs.getD k default) with
    | none =>
      rw [hs] at h3
      have := sscan_none h3
      rw [h.2.2] at this; cases this
    | some st' => exact ⟨st', h3.trans hs, h2.step (by omega) hs⟩
/-- The innermost of the blocks around a place. -/
theorem stk_top {cs : List Cd} (h : PValid cs) {k : Nat} (hk : k < cs.length) : ((stkPos cs k).length = 0 ∧ aroundAt cs k = -1) ∨
    (0 < (stkPos cs k).length ∧ (((stkPos cs k).getD ((stkPos cs k).length - 1) 0 : Nat) : Int) = aroundAt cs k ∧ (stkPos cs k).getD ((stkPos cs k).length - 1) 0 < cs.length ∧ Opens (cs.getD ((stkPos cs k).getD ((stkPos cs k).length - 1) 0) default)) := by
  obtain ⟨st, h1, h2⟩ := h.stk (Nat.le_of_lt hk)
  have e : stkPos cs k = (st.map (·.1)).reverse := by unfold stkPos; rw [h1]; rfl
  have ha := h2.around 0
  cases st with
  | nil => left; rw [e]; exact ⟨rfl, ha⟩
  | cons x r =>
    right
    have hl : (stkPos cs k).length = r.length + 1 := by rw [e]; simp
    have hg : (stkPos cs k).getD ((stkPos cs k).length - 1) 0 = x.1 := by
      rw [hl, e]
      simp [List.getD_eq_getElem?_getD]
    rw [hg]
    have hlt := h2.lt 0 (by simp)
    obtain ⟨o, _, he⟩ := h2.ends 0 (by simp)
    simp only [List.getElem_cons_zero] at hlt he
    refine ⟨by omega, ha.symm, by omega, ?_⟩
    rcases he with he | he | he
    · exact .inl he.2.1
    · exact .inl he.2.1
    · exact .inr he.2.1

open Classical in
noncomputable def aroundA (cs : List Cd) (p : Int) : Int := if PValid cs ∧ 0 ≤ p ∧ p ≤ (cs.length : Int) - 1 then aroundAt cs p.toNat else -1

set_option maxHeartbeats 1000000 in
theorem iba_any (v : Value) (cs : List Cd) (a : Int) (w : World) (h : Codes w v cs) (hsmall : cs.length ≤ 1048576) :
    Calls Try.prog 40 #[v, .int .i64 a] w fun e w' => e = .returned (.int .i64 (aroundA cs a)) ∧ Pure w w' := by
  have H := Lib.hid h
  obtain ⟨A, c, rfl, hnc, hcm⟩ := h.form
  clear h
  obtain ⟨B, hB⟩ := runB cs
  have HB := Lib.hid hB
  clear hB
  cases B
  · have HN : Hid (aroundA cs a = -1) := Lib.hid (by unfold aroundA; rw [if_neg (fun h => by have := HB.out.2 h.1; cases this)])
    rw [HN.out]
    go_enter Try.func40, Try.ntmps40
    go_wp2_with fail
    refine (ipv_any _ cs _ H.out hsmall false HB.out).mono ?_
    rintro e w1 ⟨rfl, hp1⟩
    go_wp2
    go_ret
    exact ⟨rfl, hp1⟩
  have hv : PValid cs := HB.out.1 rfl
  have HV := Lib.hid hv
  clear hv
  by_cases hin : 0 ≤ a ∧ a ≤ (cs.length : Int) - 1
  · obtain ⟨k, rfl⟩ : ∃ k : Nat, a = k := ⟨a.toNat, by omega⟩
    have hk : k < cs.length := by omega
    have HN : Hid (aroundA cs k = aroundAt cs k) := Lib.hid (by unfold aroundA; rw [if_pos ⟨HV.out, hin⟩]; rfl)
    have HIN := Lib.hid hin
    clear hin
    rw [HN.out]
    have HTOP := Lib.hid (stk_top HV.out hk)
    obtain ⟨q, Hq⟩ : ∃ q, Hid (aroundAt cs k = q) := ⟨_, Lib.hid rfl⟩
    rw [Hq.out] at HTOP ⊢
    go_enter Try.func40, Try.ntmps40
    go_wp2_with fail
    refine (ipv_any _ cs _ H.out hsmall true (by simp only [true_iff]; exact HV.out)).mono ?_
    rintro e w1 ⟨rfl, hp1⟩
    go_wp2_with fail
    refine (within_any (k : Int) 0 ((cs.length : Int) - 1) _ true (by simp only [true_iff]; exact HIN.out)).mono ?_
    rintro e w1 ⟨rfl, rfl⟩
    go_wp2_with fail
    refine (blocks_any _ cs _ (H.out.keep hp1) HV.out.2.1).mono ?_
    rintro e w2 ⟨hp2, hm⟩
    rw [HV.out.2.2] at hm
    obtain ⟨va, vo, rfl, ht⟩ := hm
    obtain ⟨pb, h1, h2, R, h3, h4⟩ := ht rfl
    obtain ⟨Aa, ca, rfl, hla, hca, hcells⟩ := h3
    obtain ⟨ba, oa, rfl, hba, hcc⟩ := hcells (by omega)
    have q0 := hcc k (by omega)
    have hrow := h4 k hk
    have HP := Lib.hid (hp1.trans hp2)
    have HB2 := Lib.hid h2
    obtain ⟨Rk, HRk⟩ : ∃ r, Hid (R k = r) := ⟨_, Lib.hid rfl⟩
    rw [HRk.out] at q0 hrow
    obtain ⟨S, HS⟩ : ∃ S, Hid (stkPos cs k = S) := ⟨_, Lib.hid rfl⟩
    rw [HS.out] at hrow HTOP
    obtain ⟨Ar, cr, rfl, hlr, hcr, hrc⟩ := hrow
    obtain ⟨_, _, rfl, _⟩ := h1
    have HRC := Lib.hid hrc
    clear h2 h4 hcc hcells hrc hp1 hp2
    rcases HTOP.out with ⟨h0, hq⟩ | ⟨h0, hq, hlt, hop⟩
    · have hz : (S.length : Int) = 0 := by omega
      have HQ := Lib.hid hq
      clear hq
      go_wp2
      go_ret
      exact ⟨by rw [HQ.out]; rfl, HP.out⟩
    · obtain ⟨br, or1, rfl, hbr, hcr2⟩ := HRC.out h0
      have q1 := hcr2 (S.length - 1) (by omega)
      obtain ⟨tp, Htp⟩ : ∃ tp, Hid (S.getD (S.length - 1) 0 = tp) := ⟨_, Lib.hid rfl⟩
      simp only [Htp.out] at q1
      rw [Htp.out] at hq hlt hop
      have q2 := (HB2.out tp hlt hop).2.1
      have hpos : (0 : Int) < (S.length : Int) := by omega
      have hidx : ((S.length - 1 : Nat) : Int) = (S.length : Int) - 1 := by omega
      obtain ⟨u, Hu⟩ : ∃ u, Hid (S.length - 1 = u) := ⟨_, Lib.hid rfl⟩
      rw [Hu.out] at q1 hidx
      have hul : u < S.length := by omega
      have hx : (S.length : Int) - 1 = (u : Int) := hidx.symm
      unfold ptr at q1
      have HQ := Lib.hid hq
      clear hcr2 hq hop hidx
      go_wp2
      go_ret
      exact ⟨ret_int HQ.out, HP.out⟩
  · have HN : Hid (aroundA cs a = -1) := Lib.hid (by unfold aroundA; rw [if_neg (fun h => hin h.2)])
    have HIN := Lib.hid hin
    clear hin
    rw [HN.out]
    go_enter Try.func40, Try.ntmps40
    go_wp2_with fail
    refine (ipv_any _ cs _ H.out hsmall true (by simp only [true_iff]; exact HV.out)).mono ?_
    rintro e w1 ⟨rfl, hp1⟩
    go_wp2_with fail
    refine (within_any a 0 ((cs.length : Int) - 1) _ false (by simp only [Bool.false_eq_true, false_iff]; exact HIN.out)).mono ?_
    rintro e w1 ⟨rfl, rfl⟩
    go_wp2
    go_ret
    exact ⟨rfl, hp1⟩

end Go.Proofs.Ytonmndojlnohcaa
