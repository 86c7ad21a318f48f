/- A block of instructions in lockstep, as the program walks through it. No condition. -/
import Derived.Test.YtokdfgodmhekmaaKbb

namespace Go.Proofs.Ytokdfgodmhekmaa
open Go.RowKit

/-- How much a run has noted. -/
def msz (s : LS) : Nat := s.H.length + s.A.length + s.P
theorem lanesTo_A (c : Cd) (m mask : Nat) (s : LS) : ∀ j, (lanesTo c m mask j s).A.length ≤ s.A.length + j
  | 0 => Nat.le_refl _
  | j + 1 => by
    have ih := lanesTo_A c m mask s j
    show (if _ then _ else _ : LS).A.length ≤ _
    split
    · show (if _ then _ else _ : List Ac).length ≤ _
      split
      · simp; omega
      · omega
    · omega
theorem execM_msz (c : Cd) {n m mask : Nat} (s : LS) (hn : n ≤ 8) : msz (execM c n m mask s) ≤ msz s + 9 := by
  have h1 := lanesTo_A c m mask s n
  have h2 := lanesTo_H c m mask n s
  have h3 := lanesTo_P c m mask s n
  unfold execM msz
  split
  · show (lanesTo c m mask n s).H.length + (lanesTo c m mask n s).A.length + ((lanesTo c m mask n s).P + 1) ≤ _
    rw [h2, h3]; omega
  · rw [h2, h3]; omega
theorem beat_msz (i mask : Nat) (s : LS) : msz (beat i mask s) = msz s + 1 := by
  simp [msz, beat]; omega
theorem turns_msz {F : Nat → LS → LS} {n a c : Nat} (hF : ∀ y s, msz (F y s) ≤ msz s + c) : ∀ (b y : Nat) (s : LS), msz (turns F n a b y s) ≤ msz s + b * c
  | 0, _, _ => by simp [turns]
  | b + 1, y, s => by
    have h1 := turns_msz (n := n) (a := a) hF b (onesTo s.R y a n) (F (onesTo s.R y a n) s)
    have h2 := hF (onesTo s.R y a n) s
    have h3 : (b + 1) * c = b * c + c := Nat.succ_mul b c
    show msz (turns F n a b _ _) ≤ _
    omega
theorem run_msz (n m : Nat) (hn : n ≤ 8) : ∀ (t : Tr) (i mask : Nat) (s : LS), msz (run n m t i mask s) ≤ msz s + 10 * t.cost
  | .nil, _, _, _ => by simp [run, Tr.cost]
  | .op c k, i, mask, s => by
    show msz (if _ then _ else _ : LS) ≤ msz s + 10 * (1 + k.cost)
    split
    · omega
    · have h1 := run_msz n m hn k (i + 1) mask (exec c n m i mask s)
      have h2 := execM_msz c (m := m) (mask := mask) (beat i mask s) hn
      rw [exec_eq] at h1 ⊢
      rw [beat_msz] at h2
      omega
  | .ite a t k, i, mask, s => by
    show msz (if _ then _ else _ : LS) ≤ msz s + 10 * (1 + t.cost + k.cost)
    split
    · omega
    · have h1 := run_msz n m hn k (i + 1 + t.len + 1) mask (run n m t (i + 1) (onesTo s.R mask a.toNat n) (beat i mask s))
      have h2 := run_msz n m hn t (i + 1) (onesTo s.R mask a.toNat n) (beat i mask s)
      rw [beat_msz] at h2
      omega
  | .itee a t e k, i, mask, s => by
    show msz (if _ then _ else _ : LS) ≤ msz s + 10 * (1 + t.cost + e.cost + k.cost)
    split
    · omega
    · have h1 := run_msz n m hn k (i + 1 + t.len + 1 + e.len + 1) mask (run n m e (i + 1 + t.len + 1) (del mask (onesTo s.R mask a.toNat n)) (run n m t (i + 1) (onesTo s.R mask a.toNat n) (beat i mask s)))
      have h2 := run_msz n m hn e (i + 1 + t.len + 1) (del mask (onesTo s.R mask a.toNat n)) (run n m t (i + 1) (onesTo s.R mask a.toNat n) (beat i mask s))
      have h4 := run_msz n m hn t (i + 1) (onesTo s.R mask a.toNat n) (beat i mask s)
      rw [beat_msz] at h4
      omega
  | .loop a b t k, i, mask, s => by
    show msz (if _ then _ else _ : LS) ≤ msz s + 10 * (1 + b.toNat * t.cost + k.cost)
    split
    · omega
    · have h1 := run_msz n m hn k (i + 1 + t.len + 1) mask (turns (run n m t (i + 1)) n a.toNat b.toNat mask (beat i mask s))
      have h2 := turns_msz (F := run n m t (i + 1)) (n := n) (a := a.toNat) (c := 10 * t.cost) (fun y s => run_msz n m hn t (i + 1) y s) b.toNat mask (beat i mask s)
      have h3 : b.toNat * (10 * t.cost) = 10 * (b.toNat * t.cost) := by rw [Nat.mul_left_comm]
      rw [beat_msz] at h2
      omega
theorem turns_succ (F : Nat → LS → LS) (n a b y : Nat) (s : LS) : turns F n a (b + 1) y s = turns F n a b (onesTo s.R y a n) (F (onesTo s.R y a n) s) := rfl
theorem del_lt3 {a n : Nat} (b : Nat) (h : a < 2 ^ n) : del a b < 2 ^ n := del_lt2 b h

set_option maxHeartbeats 8000000 in
set_option maxRecDepth 100000 in
theorem iblock_any (o : IObj) (hv : PValid o.cs) (hlook : o.look = .nilFunc) : ∀ (sz : Nat) (t : Tr) (i mask : Nat) (s : LS) (vb va : Value) (w : World) (fr to : Int), t.len ≤ sz → t.Ok → Seg o.cs i t → i + t.len ≤ o.cs.length → mask < 2 ^ o.rm.n →
    msz s + 10 * t.cost ≤ 1099511627000 → ORun o w vb va s → fr = (i : Nat) → to = ((i + t.len : Nat) : Int) →
    Calls Try.prog 83 #[.pointer (some ⟨o.p, 0, none⟩), .int .i64 fr, .int .i64 to, .int .i64 mask] w (StepP o w vb va (run o.rm.n o.rm.m t i mask s)) := by
  intro sz
  induction sz with
  | zero =>
    intro t i mask s vb va w fr to hsz hok hseg hic hmask hcost hrun hfr hto
    obtain rfl := Tr.len_zero (show t.len = 0 by omega)
    subst hfr hto
    have HR := Lib.hid hrun
    clear hrun
    have hl0 : Tr.nil.len = 0 := rfl
    rw [hl0, Nat.add_zero]
    clear hl0 hsz hcost
    go_enter Try.func83, Try.ntmps83
    go_wp2_with fail
    go_loopg [8] 0 (fun gk i' wr => i' = .int .i64 i ∧ wr = w)
    case atStart => exact ⟨rfl, rfl⟩
    case round =>
      obtain ⟨rfl, rfl⟩ := hrel
      go_wp2_with fail
      go_end0
      exact ⟨rfl, vb, va, HR.out, OStep.refl _ _ _ _⟩
  | succ sz ih =>
    intro t i mask s vb va w fr to hsz hok hseg hic hmask hcost hrun hfr hto
    subst hfr
    have HIH := Lib.hid ih
    have HV := Lib.hid hv
    have HLK := Lib.hid hlook
    have HTO := Lib.hid hto
    have HR := Lib.hid hrun
    have HSEG := Lib.hid hseg
    have HOK := Lib.hid hok
    have HCO := Lib.hid hcost
    have HSZ := Lib.hid hsz
    have hn8 := hrun.rm.n8
    have hsmall := hv.2.1
    have hm256 : mask < 256 := Nat.lt_of_lt_of_le hmask (powI hn8)
    have HMASK := Lib.hid hmask
    obtain ⟨A, cA, hvl, hnc, hcm⟩ := hrun.codes.form
    have HVL := Lib.hid hvl
    have htoc : to ≤ (o.cs.length : Int) := by rw [hto]; exact_mod_cast hic
    clear ih hv hlook hto hrun hseg hok hcost hsz hic hvl
    go_enter Try.func83, Try.ntmps83
    go_wp2_with fail
    go_loopg [8] t.len (fun gk kk wr => ∃ (t' : Tr) (k : Nat) (s' : LS) (vb' va' : Value), gk = t'.len ∧ ((k + t'.len : Nat) : Int) = to ∧ t'.len ≤ t.len ∧ kk = .int .i64 k ∧ t'.Ok ∧ Seg o.cs k t' ∧ msz s' + 10 * t'.cost ≤ 1099511627000 ∧ ORun o wr vb' va' s' ∧ OStep o w vb va wr vb' va' ∧ run o.rm.n o.rm.m t' k mask s' = run o.rm.n o.rm.m t i mask s)
    case atStart => exact ⟨t, i, s, vb, va, rfl, HTO.out.symm, Nat.le_refl _, rfl, HOK.out, HSEG.out, HCO.out, HR.out, OStep.refl _ _ _ _, rfl⟩
    case round =>
      clear HR HSEG HOK HCO HTO
      obtain ⟨t', k, s', vb', va', hgk, hto, htl, rfl, hok, hseg, hco, hr, hst, hrun⟩ := hrel
      have Hgk := Lib.hid hgk
      have Hto := Lib.hid hto
      have Htl := Lib.hid htl
      have Hok := Lib.hid hok
      have Hseg := Lib.hid hseg
      have Hco := Lib.hid hco
      have Hr := Lib.hid hr
      have Hst := Lib.hid hst
      have Hrun := Lib.hid hrun
      clear hgk hto htl hok hseg hco hst hrun hr
      by_cases hm0 : mask = 0
      · subst hm0
        have hfin : run o.rm.n o.rm.m t i 0 s = s' := by rw [← Hrun.out, run_zero]
        have Hfin := Lib.hid hfin
        clear hfin
        by_cases hlt : (k : Int) < to
        · go_wp2_with fail
          go_end0
          exact ⟨rfl, vb', va', by rw [Hfin.out]; exact Hr.out, Hst.out⟩
        · go_wp2_with fail
          go_end0
          exact ⟨rfl, vb', va', by rw [Hfin.out]; exact Hr.out, Hst.out⟩
      by_cases hlt : (k : Int) < to
      case neg =>
        have hz : t' = .nil := Tr.len_zero (by have := Hto.out; omega)
        subst hz
        have Hfin : Hid (run o.rm.n o.rm.m t i mask s = s') := Lib.hid (by rw [← Hrun.out]; rfl)
        clear hm0
        go_wp2_with fail
        go_end0
        exact ⟨rfl, vb', va', by rw [Hfin.out]; exact Hr.out, Hst.out⟩
      case pos =>
        have HM0 := Lib.hid hm0
        have hmne : ((mask : Int) != 0) = true := by rw [bne_iff_ne]; omega
        clear hm0
        have hk : k < o.cs.length := by omega
        have hk0 : (0 : Int) ≤ (k : Int) := by omega
        have hkI : (k : Int) < (o.cs.length : Int) := by omega
        have Hms : Hid (s'.H.length + 1 ≤ 1099511627776) := Lib.hid (by have := Hco.out; unfold msz at this; omega)
        have HB1 : Hid (msz (beat k mask s') = msz s' + 1) := Lib.hid (beat_msz k mask s')
        go_wp2_with fail
        refine (ibeat_any o _ vb' va' s' k mask Hr.out HLK.out Hms.out).mono ?_
        rintro e w2 ⟨rfl, vb2, va2, hr2, hs2⟩
        have HR2 := Lib.hid hr2
        have HST2 := Lib.hid (Hst.out.trans hs2)
        obtain ⟨p0, p1, p2, p3, p4, p5, p6⟩ := hr2.obj.facts
        have m0 := keepP hr2.pure hr2.mach.1
        have m1 := keepP hr2.pure hr2.mach.2
        rw [HVL.out] at m0
        have hcd := hr2.codes.keep hr2.pure
        rw [HVL.out] at hcd
        obtain ⟨b, ob, rfl, hb, hc⟩ := hcd.at_ hk
        obtain ⟨cd, Hcd⟩ : ∃ cd, Hid (o.cs.getD k default = cd) := ⟨_, rfl⟩
        rw [Hcd.out] at hc
        obtain ⟨c0, c1, c2, c3⟩ := hc
        have hcok : CdOk cd := by rw [← Hcd.out]; exact HV.out.1 _ (cdOk_mem hk)
        have HCOK := Lib.hid hcok
        obtain ⟨op, ca, cb, cc⟩ := cd
        simp only at c0 c1 c2 c3
        obtain ⟨Ao, co, hvo, hco2, hco3, bo, oo, rfl, hbo, hown⟩ := hr2.tabs.own hk
        rw [hvo] at m1
        have HOWN := Lib.hid hown
        have HNO : Hid (¬ o.own vb2 va2 w2.heap.size) := Lib.hid (fun e => absurd (hr2.own_hi _ e) (by omega))
        clear hr2 hs2 p1 p2 p3 p4 p5 p6 hcd hcok hown
        cases t' with
        | nil => exact absurd Hto.out (by have : Tr.nil.len = 0 := rfl; omega)
        | op cx tk =>
          have hce : cx = ⟨op, ca, cb, cc⟩ := Hseg.out.op.1.symm.trans Hcd.out
          subst hce
          have HPL := Lib.hid Hok.out.1
          have g0 : w2.cell? ⟨bo, oo + k, none⟩ = some (.pointer none) := keepP HR2.out.pure (HOWN.out.2 (by have h := HPL.out; unfold ownOf; rw [Hcd.out, if_neg (by unfold Opens; rintro (h1 | h1); exact h.2.1 h1; exact h.2.2.2.1 h1), if_neg (by rintro (h1 | h1); exact h.2.2.1 h1; exact h.2.2.2.2 h1)]))
          have d11 : (op == 11) = false := by rw [beq_eq_false_iff_ne]; exact HPL.out.2.1
          have d13 : (op == 13) = false := by rw [beq_eq_false_iff_ne]; exact HPL.out.2.2.2.1
          go_wp2_with fail
          refine region_heldF (fun w' => w'.cell? ⟨o.p, 0, none⟩ = some (.pointer (some ⟨o.pm, 0, none⟩)) ∧ w'.cell? ⟨o.pm, 0, none⟩ = some (.slice (some ⟨b, ob, none⟩) o.cs.length cA) ∧ w'.cell? ⟨o.pm, 1, none⟩ = some (.slice (some ⟨bo, oo, none⟩) o.cs.length co) ∧ w'.cell? ⟨bo, oo + k, none⟩ = some (.pointer none) ∧ w'.cell? ⟨b, ob + k * 4, none⟩ = some (.int .i64 op) ∧ w'.cell? ⟨b, ob + k * 4 + 1, none⟩ = some (.int .i64 ca) ∧ w'.cell? ⟨b, ob + k * 4 + 2, none⟩ = some (.int .i64 cb) ∧ w'.cell? ⟨b, ob + k * 4 + 3, none⟩ = some (.int .i64 cc))
            (List.range 20) [20, 21, 22] (fun l => List.take 20 l) (fun l => List.drop 20 l) (by kernel_rfl) (by kernel_rfl) (by kernel_rfl) (by kernel_rfl) (fun c a d v w h => by cases d <;> exact h) (by exact ⟨p0, m0, m1, g0, c0, c1, c2, c3⟩) ?_
          simp only [List.take_succ_cons, List.take_zero, List.drop_succ_cons, List.drop_zero, List.cons_append, List.nil_append]
          apply held_of
          · exact rfl
          · intro w' hS
            obtain ⟨s0, s1, s2, s3, s4, s5, s6, s7⟩ := hS
            go_simp
            try exact rfl
          try go_simp
          apply held_of
          · exact rfl
          · intro w' hS
            obtain ⟨s0, s1, s2, s3, s4, s5, s6, s7⟩ := hS
            go_simp
            try exact rfl
          try go_simp
          apply held_of
          · exact rfl
          · intro w' hS
            obtain ⟨s0, s1, s2, s3, s4, s5, s6, s7⟩ := hS
            go_simp
            try exact rfl
          try go_simp
          apply held_of
          · exact rfl
          · intro w' hS
            obtain ⟨s0, s1, s2, s3, s4, s5, s6, s7⟩ := hS
            go_simp
            try exact rfl
          try go_simp
          apply held_of
          · exact rfl
          · intro w' hS
            obtain ⟨s0, s1, s2, s3, s4, s5, s6, s7⟩ := hS
            go_simp
            try exact rfl
          try go_simp
          apply held_of
          · exact rfl
          · intro w' hS
            obtain ⟨s0, s1, s2, s3, s4, s5, s6, s7⟩ := hS
            go_simp
            try exact rfl
          try go_simp
          apply held_of
          · exact rfl
          · intro w' hS
            obtain ⟨s0, s1, s2, s3, s4, s5, s6, s7⟩ := hS
            go_simp
            try exact rfl
          try go_simp
          apply held_of
          · exact rfl
          · intro w' hS
            obtain ⟨s0, s1, s2, s3, s4, s5, s6, s7⟩ := hS
            go_simp
            try exact rfl
          try go_simp
          apply held_of
          · exact rfl
          · intro w' hS
            obtain ⟨s0, s1, s2, s3, s4, s5, s6, s7⟩ := hS
            go_simp
            try exact rfl
          try go_simp
          apply held_of
          · exact rfl
          · intro w' hS
            obtain ⟨s0, s1, s2, s3, s4, s5, s6, s7⟩ := hS
            go_simp
            try exact rfl
          try go_simp
          apply held_of
          · exact rfl
          · intro w' hS
            obtain ⟨s0, s1, s2, s3, s4, s5, s6, s7⟩ := hS
            go_simp
            try exact rfl
          try go_simp
          apply held_of
          · exact rfl
          · intro w' hS
            obtain ⟨s0, s1, s2, s3, s4, s5, s6, s7⟩ := hS
            go_simp
            try exact rfl
          try go_simp
          apply held_of
          · exact rfl
          · intro w' hS
            obtain ⟨s0, s1, s2, s3, s4, s5, s6, s7⟩ := hS
            go_simp
            try exact rfl
          try go_simp
          apply held_of
          · exact rfl
          · intro w' hS
            obtain ⟨s0, s1, s2, s3, s4, s5, s6, s7⟩ := hS
            go_simp
            try exact rfl
          try go_simp
          apply held_of
          · exact rfl
          · intro w' hS
            obtain ⟨s0, s1, s2, s3, s4, s5, s6, s7⟩ := hS
            go_simp
            try exact rfl
          try go_simp
          apply held_of
          · exact rfl
          · intro w' hS
            obtain ⟨s0, s1, s2, s3, s4, s5, s6, s7⟩ := hS
            go_simp
            try exact rfl
          try go_simp
          apply held_of
          · exact rfl
          · intro w' hS
            obtain ⟨s0, s1, s2, s3, s4, s5, s6, s7⟩ := hS
            go_simp
            try exact rfl
          try go_simp
          apply held_of
          · exact rfl
          · intro w' hS
            obtain ⟨s0, s1, s2, s3, s4, s5, s6, s7⟩ := hS
            go_simp
            try exact rfl
          try go_simp
          apply held_of
          · exact rfl
          · intro w' hS
            obtain ⟨s0, s1, s2, s3, s4, s5, s6, s7⟩ := hS
            go_simp
            try exact rfl
          try go_simp
          apply held_of
          · exact rfl
          · intro w' hS
            obtain ⟨s0, s1, s2, s3, s4, s5, s6, s7⟩ := hS
            go_simp
            try exact rfl
          try go_simp
          refine held_nil ?_
          unfold Tail
          go_wp2
          refine And.intro (by exact ⟨keepP (by repeat (first | assumption | exact Pure.refl _ | refine Pure.drewN ?_ _ | refine Pure.drew ?_ | refine Pure.alloc ?_ _ | refine Pure.setCell ?_ (by simp <;> omega) _)) p0, keepP (by repeat (first | assumption | exact Pure.refl _ | refine Pure.drewN ?_ _ | refine Pure.drew ?_ | refine Pure.alloc ?_ _ | refine Pure.setCell ?_ (by simp <;> omega) _)) m0, keepP (by repeat (first | assumption | exact Pure.refl _ | refine Pure.drewN ?_ _ | refine Pure.drew ?_ | refine Pure.alloc ?_ _ | refine Pure.setCell ?_ (by simp <;> omega) _)) m1, keepP (by repeat (first | assumption | exact Pure.refl _ | refine Pure.drewN ?_ _ | refine Pure.drew ?_ | refine Pure.alloc ?_ _ | refine Pure.setCell ?_ (by simp <;> omega) _)) g0, keepP (by repeat (first | assumption | exact Pure.refl _ | refine Pure.drewN ?_ _ | refine Pure.drew ?_ | refine Pure.alloc ?_ _ | refine Pure.setCell ?_ (by simp <;> omega) _)) c0, keepP (by repeat (first | assumption | exact Pure.refl _ | refine Pure.drewN ?_ _ | refine Pure.drew ?_ | refine Pure.alloc ?_ _ | refine Pure.setCell ?_ (by simp <;> omega) _)) c1, keepP (by repeat (first | assumption | exact Pure.refl _ | refine Pure.drewN ?_ _ | refine Pure.drew ?_ | refine Pure.alloc ?_ _ | refine Pure.setCell ?_ (by simp <;> omega) _)) c2, keepP (by repeat (first | assumption | exact Pure.refl _ | refine Pure.drewN ?_ _ | refine Pure.drew ?_ | refine Pure.alloc ?_ _ | refine Pure.setCell ?_ (by simp <;> omega) _)) c3⟩) ?_
          unfold Tail
          go_wp2
          refine And.intro (by exact ⟨keepP (by repeat (first | assumption | exact Pure.refl _ | refine Pure.drewN ?_ _ | refine Pure.drew ?_ | refine Pure.alloc ?_ _ | refine Pure.setCell ?_ (by simp <;> omega) _)) p0, keepP (by repeat (first | assumption | exact Pure.refl _ | refine Pure.drewN ?_ _ | refine Pure.drew ?_ | refine Pure.alloc ?_ _ | refine Pure.setCell ?_ (by simp <;> omega) _)) m0, keepP (by repeat (first | assumption | exact Pure.refl _ | refine Pure.drewN ?_ _ | refine Pure.drew ?_ | refine Pure.alloc ?_ _ | refine Pure.setCell ?_ (by simp <;> omega) _)) m1, keepP (by repeat (first | assumption | exact Pure.refl _ | refine Pure.drewN ?_ _ | refine Pure.drew ?_ | refine Pure.alloc ?_ _ | refine Pure.setCell ?_ (by simp <;> omega) _)) g0, keepP (by repeat (first | assumption | exact Pure.refl _ | refine Pure.drewN ?_ _ | refine Pure.drew ?_ | refine Pure.alloc ?_ _ | refine Pure.setCell ?_ (by simp <;> omega) _)) c0, keepP (by repeat (first | assumption | exact Pure.refl _ | refine Pure.drewN ?_ _ | refine Pure.drew ?_ | refine Pure.alloc ?_ _ | refine Pure.setCell ?_ (by simp <;> omega) _)) c1, keepP (by repeat (first | assumption | exact Pure.refl _ | refine Pure.drewN ?_ _ | refine Pure.drew ?_ | refine Pure.alloc ?_ _ | refine Pure.setCell ?_ (by simp <;> omega) _)) c2, keepP (by repeat (first | assumption | exact Pure.refl _ | refine Pure.drewN ?_ _ | refine Pure.drew ?_ | refine Pure.alloc ?_ _ | refine Pure.setCell ?_ (by simp <;> omega) _)) c3⟩) ?_
          unfold Tail
          go_wp2_with fail
          refine (iexec_any o _ vb2 va2 (beat k mask s') k mask ⟨op, ca, cb, cc⟩ HV.out (HR2.out.keep (by exact (by repeat (first | assumption | exact Pure.refl _ | refine Pure.drewN ?_ _ | refine Pure.drew ?_ | refine Pure.alloc ?_ _ | refine Pure.setCell ?_ (by simp <;> omega) _)))) hk Hcd.out HPL.out HMASK.out (by have := Hco.out; have := HB1.out; unfold msz at *; omega) (by have := Hco.out; have := HB1.out; unfold msz at *; omega)).mono ?_
          rintro e w3 ⟨rfl, vb3, va3, hr3, hs3⟩
          have H3 := Lib.hid hr3
          have H3s := Lib.hid (HST2.out.trans ((OStep.of_pure (by exact (by repeat (first | assumption | exact Pure.refl _ | refine Pure.drewN ?_ _ | refine Pure.drew ?_ | refine Pure.alloc ?_ _ | refine Pure.setCell ?_ (by simp <;> omega) _)))).trans hs3))
          clear hr3 hs3
          go_wp2_with fail
          go_roundg tk.len
          case measure => have := Hgk.out; have := Tr.len_op ⟨op, ca, cb, cc⟩ tk; omega
          case rel =>
            have hx := execM_msz ⟨op, ca, cb, cc⟩ (n := o.rm.n) (m := o.rm.m) (mask := mask) (beat k mask s') hn8
            exact ⟨tk, k + 1, _, vb3, va3, rfl, by have := Hto.out; have := Tr.len_op ⟨op, ca, cb, cc⟩ tk; omega, by have := Htl.out; have := Tr.len_op ⟨op, ca, cb, cc⟩ tk; omega, by go_num, Hok.out.2, Hseg.out.op.2.2, by have h1 := Hco.out; have h2 := HB1.out; simp only [Tr.cost] at h1; omega, H3.out, H3s.out, by rw [← Hrun.out]; show _ = (if mask = 0 then _ else _ : LS); rw [if_neg HM0.out]; rfl⟩
        | ite a t1 tk =>
          have hce : (⟨op, ca, cb, cc⟩ : Cd) = cIf a := Hcd.out.symm.trans Hseg.out.ite.1
          injection hce with e1 e2 e3 e4
          subst e1 e2 e3 e4
          obtain ⟨ha0, ha3⟩ := Hok.out.1
          obtain ⟨an, rfl⟩ := Int.eq_ofNat_of_zero_le ha0
          have han : an < 4 := by omega
          have hend := (end_ite Hok.out Hseg.out).1
          have hopn : Opens (o.cs.getD k default) := by rw [Hcd.out]; exact .inl rfl
          obtain ⟨gb, gw0, hgb, e0, e1, e2⟩ := HOWN.out.1 k (by unfold ownOf; rw [if_pos hopn]) hk hopn
          obtain ⟨en, Hen⟩ : ∃ en, Hid (k + 1 + t1.len = en) := ⟨_, rfl⟩
          rw [Hen.out] at hend
          rw [hend] at e1 e2
          have E1 := Lib.hid e1
          have E2 := Lib.hid e2
          clear e1 e2 hend
          have g0 := keepP HR2.out.pure gw0
          clear e0 gw0 hopn
          go_wp2_with fail
          refine region_heldF (fun w' => w'.cell? ⟨o.p, 0, none⟩ = some (.pointer (some ⟨o.pm, 0, none⟩)) ∧ w'.cell? ⟨o.pm, 0, none⟩ = some (.slice (some ⟨b, ob, none⟩) o.cs.length cA) ∧ w'.cell? ⟨o.pm, 1, none⟩ = some (.slice (some ⟨bo, oo, none⟩) o.cs.length co) ∧ w'.cell? ⟨bo, oo + k, none⟩ = some (.pointer (some ⟨gb, 0, none⟩)) ∧ w'.cell? ⟨b, ob + k * 4, none⟩ = some (.int .i64 11) ∧ w'.cell? ⟨b, ob + k * 4 + 1, none⟩ = some (.int .i64 an) ∧ w'.cell? ⟨b, ob + k * 4 + 2, none⟩ = some (.int .i64 0) ∧ w'.cell? ⟨b, ob + k * 4 + 3, none⟩ = some (.int .i64 0))
            (List.range 20) [20, 21, 22] (fun l => List.take 20 l) (fun l => List.drop 20 l) (by kernel_rfl) (by kernel_rfl) (by kernel_rfl) (by kernel_rfl) (fun c a d v w h => by cases d <;> exact h) (by exact ⟨p0, m0, m1, g0, c0, c1, c2, c3⟩) ?_
          simp only [List.take_succ_cons, List.take_zero, List.drop_succ_cons, List.drop_zero, List.cons_append, List.nil_append]
          apply held_of
          · exact rfl
          · intro w' hS
            obtain ⟨s0, s1, s2, s3, s4, s5, s6, s7⟩ := hS
            go_simp
            try exact rfl
          try go_simp
          apply held_of
          · exact rfl
          · intro w' hS
            obtain ⟨s0, s1, s2, s3, s4, s5, s6, s7⟩ := hS
            go_simp
            try exact rfl
          try go_simp
          apply held_of
          · exact rfl
          · intro w' hS
            obtain ⟨s0, s1, s2, s3, s4, s5, s6, s7⟩ := hS
            go_simp
            try exact rfl
          try go_simp
          apply held_of
          · exact rfl
          · intro w' hS
            obtain ⟨s0, s1, s2, s3, s4, s5, s6, s7⟩ := hS
            go_simp
            try exact rfl
          try go_simp
          apply held_of
          · exact rfl
          · intro w' hS
            obtain ⟨s0, s1, s2, s3, s4, s5, s6, s7⟩ := hS
            go_simp
            try exact rfl
          try go_simp
          apply held_of
          · exact rfl
          · intro w' hS
            obtain ⟨s0, s1, s2, s3, s4, s5, s6, s7⟩ := hS
            go_simp
            try exact rfl
          try go_simp
          apply held_of
          · exact rfl
          · intro w' hS
            obtain ⟨s0, s1, s2, s3, s4, s5, s6, s7⟩ := hS
            go_simp
            try exact rfl
          try go_simp
          apply held_of
          · exact rfl
          · intro w' hS
            obtain ⟨s0, s1, s2, s3, s4, s5, s6, s7⟩ := hS
            go_simp
            try exact rfl
          try go_simp
          apply held_of
          · exact rfl
          · intro w' hS
            obtain ⟨s0, s1, s2, s3, s4, s5, s6, s7⟩ := hS
            go_simp
            try exact rfl
          try go_simp
          apply held_of
          · exact rfl
          · intro w' hS
            obtain ⟨s0, s1, s2, s3, s4, s5, s6, s7⟩ := hS
            go_simp
            try exact rfl
          try go_simp
          apply held_of
          · exact rfl
          · intro w' hS
            obtain ⟨s0, s1, s2, s3, s4, s5, s6, s7⟩ := hS
            go_simp
            try exact rfl
          try go_simp
          apply held_of
          · exact rfl
          · intro w' hS
            obtain ⟨s0, s1, s2, s3, s4, s5, s6, s7⟩ := hS
            go_simp
            try exact rfl
          try go_simp
          apply held_of
          · exact rfl
          · intro w' hS
            obtain ⟨s0, s1, s2, s3, s4, s5, s6, s7⟩ := hS
            go_simp
            try exact rfl
          try go_simp
          apply held_of
          · exact rfl
          · intro w' hS
            obtain ⟨s0, s1, s2, s3, s4, s5, s6, s7⟩ := hS
            go_simp
            try exact rfl
          try go_simp
          apply held_of
          · exact rfl
          · intro w' hS
            obtain ⟨s0, s1, s2, s3, s4, s5, s6, s7⟩ := hS
            go_simp
            try exact rfl
          try go_simp
          apply held_of
          · exact rfl
          · intro w' hS
            obtain ⟨s0, s1, s2, s3, s4, s5, s6, s7⟩ := hS
            go_simp
            try exact rfl
          try go_simp
          apply held_of
          · exact rfl
          · intro w' hS
            obtain ⟨s0, s1, s2, s3, s4, s5, s6, s7⟩ := hS
            go_simp
            try exact rfl
          try go_simp
          apply held_of
          · exact rfl
          · intro w' hS
            obtain ⟨s0, s1, s2, s3, s4, s5, s6, s7⟩ := hS
            go_simp
            try exact rfl
          try go_simp
          apply held_of
          · exact rfl
          · intro w' hS
            obtain ⟨s0, s1, s2, s3, s4, s5, s6, s7⟩ := hS
            go_simp
            try exact rfl
          try go_simp
          apply held_of
          · exact rfl
          · intro w' hS
            obtain ⟨s0, s1, s2, s3, s4, s5, s6, s7⟩ := hS
            go_simp
            try exact rfl
          try go_simp
          refine held_nil ?_
          unfold Tail
          go_wp2
          refine And.intro (by exact ⟨keepP (by repeat (first | assumption | exact Pure.refl _ | refine Pure.drewN ?_ _ | refine Pure.drew ?_ | refine Pure.alloc ?_ _ | refine Pure.setCell ?_ (by simp <;> omega) _)) p0, keepP (by repeat (first | assumption | exact Pure.refl _ | refine Pure.drewN ?_ _ | refine Pure.drew ?_ | refine Pure.alloc ?_ _ | refine Pure.setCell ?_ (by simp <;> omega) _)) m0, keepP (by repeat (first | assumption | exact Pure.refl _ | refine Pure.drewN ?_ _ | refine Pure.drew ?_ | refine Pure.alloc ?_ _ | refine Pure.setCell ?_ (by simp <;> omega) _)) m1, keepP (by repeat (first | assumption | exact Pure.refl _ | refine Pure.drewN ?_ _ | refine Pure.drew ?_ | refine Pure.alloc ?_ _ | refine Pure.setCell ?_ (by simp <;> omega) _)) g0, keepP (by repeat (first | assumption | exact Pure.refl _ | refine Pure.drewN ?_ _ | refine Pure.drew ?_ | refine Pure.alloc ?_ _ | refine Pure.setCell ?_ (by simp <;> omega) _)) c0, keepP (by repeat (first | assumption | exact Pure.refl _ | refine Pure.drewN ?_ _ | refine Pure.drew ?_ | refine Pure.alloc ?_ _ | refine Pure.setCell ?_ (by simp <;> omega) _)) c1, keepP (by repeat (first | assumption | exact Pure.refl _ | refine Pure.drewN ?_ _ | refine Pure.drew ?_ | refine Pure.alloc ?_ _ | refine Pure.setCell ?_ (by simp <;> omega) _)) c2, keepP (by repeat (first | assumption | exact Pure.refl _ | refine Pure.drewN ?_ _ | refine Pure.drew ?_ | refine Pure.alloc ?_ _ | refine Pure.setCell ?_ (by simp <;> omega) _)) c3⟩) ?_
          unfold Tail
          go_wp2
          refine And.intro (by exact ⟨keepP (by repeat (first | assumption | exact Pure.refl _ | refine Pure.drewN ?_ _ | refine Pure.drew ?_ | refine Pure.alloc ?_ _ | refine Pure.setCell ?_ (by simp <;> omega) _)) p0, keepP (by repeat (first | assumption | exact Pure.refl _ | refine Pure.drewN ?_ _ | refine Pure.drew ?_ | refine Pure.alloc ?_ _ | refine Pure.setCell ?_ (by simp <;> omega) _)) m0, keepP (by repeat (first | assumption | exact Pure.refl _ | refine Pure.drewN ?_ _ | refine Pure.drew ?_ | refine Pure.alloc ?_ _ | refine Pure.setCell ?_ (by simp <;> omega) _)) m1, keepP (by repeat (first | assumption | exact Pure.refl _ | refine Pure.drewN ?_ _ | refine Pure.drew ?_ | refine Pure.alloc ?_ _ | refine Pure.setCell ?_ (by simp <;> omega) _)) g0, keepP (by repeat (first | assumption | exact Pure.refl _ | refine Pure.drewN ?_ _ | refine Pure.drew ?_ | refine Pure.alloc ?_ _ | refine Pure.setCell ?_ (by simp <;> omega) _)) c0, keepP (by repeat (first | assumption | exact Pure.refl _ | refine Pure.drewN ?_ _ | refine Pure.drew ?_ | refine Pure.alloc ?_ _ | refine Pure.setCell ?_ (by simp <;> omega) _)) c1, keepP (by repeat (first | assumption | exact Pure.refl _ | refine Pure.drewN ?_ _ | refine Pure.drew ?_ | refine Pure.alloc ?_ _ | refine Pure.setCell ?_ (by simp <;> omega) _)) c2, keepP (by repeat (first | assumption | exact Pure.refl _ | refine Pure.drewN ?_ _ | refine Pure.drew ?_ | refine Pure.alloc ?_ _ | refine Pure.setCell ?_ (by simp <;> omega) _)) c3⟩) ?_
          unfold Tail
          go_wp2_with fail
          refine (iact_any o _ vb2 va2 _ s'.R s'.M mask an (HR2.out.obj.pure (by exact (by repeat (first | assumption | exact Pure.refl _ | refine Pure.drewN ?_ _ | refine Pure.drew ?_ | refine Pure.alloc ?_ _ | refine Pure.setCell ?_ (by simp <;> omega) _)))) (HR2.out.rm.pure (by exact (by repeat (first | assumption | exact Pure.refl _ | refine Pure.drewN ?_ _ | refine Pure.drew ?_ | refine Pure.alloc ?_ _ | refine Pure.setCell ?_ (by simp <;> omega) _)))) HMASK.out han).mono ?_
          rintro e w3 ⟨rfl, hp3⟩
          have hp23 : Pure w2 w3 := Pure.trans (by exact (by repeat (first | assumption | exact Pure.refl _ | refine Pure.drewN ?_ _ | refine Pure.drew ?_ | refine Pure.alloc ?_ _ | refine Pure.setCell ?_ (by simp <;> omega) _))) hp3
          have HR3 := Lib.hid (HR2.out.keep hp23)
          have HST3 := Lib.hid (HST2.out.trans (OStep.of_pure hp23))
          obtain ⟨y, Hy⟩ : ∃ y, Hid (onesTo s'.R mask an o.rm.n = y) := ⟨_, rfl⟩
          have hy : y < 2 ^ o.rm.n := by rw [← Hy.out]; exact onesTo_lt _ _ _ _
          have hy256 := Nat.lt_of_lt_of_le hy (powI hn8)
          have HYM := Lib.hid hy
          rw [Hy.out]
          have q1 := keepP HR3.out.pure E1.out
          have q2 := keepP HR3.out.pure E2.out
          clear hy hp3 hp23 p0 m0 m1 g0 c0 c1 c2 c3
          have hen1 : en < o.cs.length := by rw [← Hen.out]; exact Hseg.out.ite.2.2.2.1
          have HL := Lib.hid (Tr.len_ite (an : Int) t1 tk)
          have HCC : Hid (msz s' + 10 * (1 + t1.cost + tk.cost) ≤ 1099511627000) := Hco
          have hc1 := Lib.hid (run_msz o.rm.n o.rm.m hn8 t1 (k + 1) y (beat k mask s'))
          go_wp2_with fail
          refine (HIH.out t1 (k + 1) y (beat k mask s') vb2 va2 _ _ _ (by have := HL.out; have := HSZ.out; have := Htl.out; omega) Hok.out.2.1 Hseg.out.ite.2.1 (by have := Hen.out;  omega) HYM.out (by have h1 := HCC.out; have h2 := HB1.out; omega) HR3.out (by omega) (by have := Hen.out;  omega)).mono ?_
          rintro e w4 ⟨rfl, vb4, va4, hr4, hs4⟩
          have H4 := Lib.hid hr4
          have H4s := Lib.hid (HST3.out.trans hs4)
          have q2 := keepP hr4.pure E2.out
          clear hr4 hs4 q1
          go_wp2_with fail
          go_roundg tk.len
          case measure => have := Hgk.out; have := HL.out; omega
          case rel =>
            exact ⟨tk, en + 1, _, vb4, va4, rfl, by have := Hto.out; have := HL.out; have := Hen.out; omega, by have := Htl.out; have := HL.out; omega, by go_num, Hok.out.2.2, by rw [← Hen.out]; exact Hseg.out.ite.2.2.2.2, by have h1 := HCC.out; have h2 := HB1.out; have h3 := hc1.out; omega, H4.out, H4s.out, by rw [← Hrun.out, ← Hen.out]; show _ = (if mask = 0 then _ else _ : LS); rw [if_neg HM0.out, Int.toNat_natCast, Hy.out]⟩
        | itee a t1 t2 tk =>
          have hce : (⟨op, ca, cb, cc⟩ : Cd) = cIf a := Hcd.out.symm.trans Hseg.out.itee.1
          injection hce with e1 e2 e3 e4
          subst e1 e2 e3 e4
          obtain ⟨ha0, ha3⟩ := Hok.out.1
          obtain ⟨an, rfl⟩ := Int.eq_ofNat_of_zero_le ha0
          have han : an < 4 := by omega
          have hend := (end_itee Hok.out Hseg.out).1
          have hopn : Opens (o.cs.getD k default) := by rw [Hcd.out]; exact .inl rfl
          obtain ⟨gb, gw0, hgb, e0, e1, e2⟩ := HOWN.out.1 k (by unfold ownOf; rw [if_pos hopn]) hk hopn
          obtain ⟨on, Hon⟩ : ∃ on, Hid (k + 1 + t1.len = on) := ⟨_, rfl⟩
          obtain ⟨en, Hen⟩ : ∃ en, Hid (k + 1 + t1.len + 1 + t2.len = en) := ⟨_, rfl⟩
          rw [Hen.out, Hon.out] at hend
          rw [hend] at e1 e2
          have E1 := Lib.hid e1
          have E2 := Lib.hid e2
          clear e1 e2 hend
          have g0 := keepP HR2.out.pure gw0
          clear e0 gw0 hopn
          go_wp2_with fail
          refine region_heldF (fun w' => w'.cell? ⟨o.p, 0, none⟩ = some (.pointer (some ⟨o.pm, 0, none⟩)) ∧ w'.cell? ⟨o.pm, 0, none⟩ = some (.slice (some ⟨b, ob, none⟩) o.cs.length cA) ∧ w'.cell? ⟨o.pm, 1, none⟩ = some (.slice (some ⟨bo, oo, none⟩) o.cs.length co) ∧ w'.cell? ⟨bo, oo + k, none⟩ = some (.pointer (some ⟨gb, 0, none⟩)) ∧ w'.cell? ⟨b, ob + k * 4, none⟩ = some (.int .i64 11) ∧ w'.cell? ⟨b, ob + k * 4 + 1, none⟩ = some (.int .i64 an) ∧ w'.cell? ⟨b, ob + k * 4 + 2, none⟩ = some (.int .i64 0) ∧ w'.cell? ⟨b, ob + k * 4 + 3, none⟩ = some (.int .i64 0))
            (List.range 20) [20, 21, 22] (fun l => List.take 20 l) (fun l => List.drop 20 l) (by kernel_rfl) (by kernel_rfl) (by kernel_rfl) (by kernel_rfl) (fun c a d v w h => by cases d <;> exact h) (by exact ⟨p0, m0, m1, g0, c0, c1, c2, c3⟩) ?_
          simp only [List.take_succ_cons, List.take_zero, List.drop_succ_cons, List.drop_zero, List.cons_append, List.nil_append]
          apply held_of
          · exact rfl
          · intro w' hS
            obtain ⟨s0, s1, s2, s3, s4, s5, s6, s7⟩ := hS
            go_simp
            try exact rfl
          try go_simp
          apply held_of
          · exact rfl
          · intro w' hS
            obtain ⟨s0, s1, s2, s3, s4, s5, s6, s7⟩ := hS
            go_simp
            try exact rfl
          try go_simp
          apply held_of
          · exact rfl
          · intro w' hS
            obtain ⟨s0, s1, s2, s3, s4, s5, s6, s7⟩ := hS
            go_simp
            try exact rfl
          try go_simp
          apply held_of
          · exact rfl
          · intro w' hS
            obtain ⟨s0, s1, s2, s3, s4, s5, s6, s7⟩ := hS
            go_simp
            try exact rfl
          try go_simp
          apply held_of
          · exact rfl
          · intro w' hS
            obtain ⟨s0, s1, s2, s3, s4, s5, s6, s7⟩ := hS
            go_simp
            try exact rfl
          try go_simp
          apply held_of
          · exact rfl
          · intro w' hS
            obtain ⟨s0, s1, s2, s3, s4, s5, s6, s7⟩ := hS
            go_simp
            try exact rfl
          try go_simp
          apply held_of
          · exact rfl
          · intro w' hS
            obtain ⟨s0, s1, s2, s3, s4, s5, s6, s7⟩ := hS
            go_simp
            try exact rfl
          try go_simp
          apply held_of
          · exact rfl
          · intro w' hS
            obtain ⟨s0, s1, s2, s3, s4, s5, s6, s7⟩ := hS
            go_simp
            try exact rfl
          try go_simp
          apply held_of
          · exact rfl
          · intro w' hS
            obtain ⟨s0, s1, s2, s3, s4, s5, s6, s7⟩ := hS
            go_simp
            try exact rfl
          try go_simp
          apply held_of
          · exact rfl
          · intro w' hS
            obtain ⟨s0, s1, s2, s3, s4, s5, s6, s7⟩ := hS
            go_simp
            try exact rfl
          try go_simp
          apply held_of
          · exact rfl
          · intro w' hS
            obtain ⟨s0, s1, s2, s3, s4, s5, s6, s7⟩ := hS
            go_simp
            try exact rfl
          try go_simp
          apply held_of
          · exact rfl
          · intro w' hS
            obtain ⟨s0, s1, s2, s3, s4, s5, s6, s7⟩ := hS
            go_simp
            try exact rfl
          try go_simp
          apply held_of
          · exact rfl
          · intro w' hS
            obtain ⟨s0, s1, s2, s3, s4, s5, s6, s7⟩ := hS
            go_simp
            try exact rfl
          try go_simp
          apply held_of
          · exact rfl
          · intro w' hS
            obtain ⟨s0, s1, s2, s3, s4, s5, s6, s7⟩ := hS
            go_simp
            try exact rfl
          try go_simp
          apply held_of
          · exact rfl
          · intro w' hS
            obtain ⟨s0, s1, s2, s3, s4, s5, s6, s7⟩ := hS
            go_simp
            try exact rfl
          try go_simp
          apply held_of
          · exact rfl
          · intro w' hS
            obtain ⟨s0, s1, s2, s3, s4, s5, s6, s7⟩ := hS
            go_simp
            try exact rfl
          try go_simp
          apply held_of
          · exact rfl
          · intro w' hS
            obtain ⟨s0, s1, s2, s3, s4, s5, s6, s7⟩ := hS
            go_simp
            try exact rfl
          try go_simp
          apply held_of
          · exact rfl
          · intro w' hS
            obtain ⟨s0, s1, s2, s3, s4, s5, s6, s7⟩ := hS
            go_simp
            try exact rfl
          try go_simp
          apply held_of
          · exact rfl
          · intro w' hS
            obtain ⟨s0, s1, s2, s3, s4, s5, s6, s7⟩ := hS
            go_simp
            try exact rfl
          try go_simp
          apply held_of
          · exact rfl
          · intro w' hS
            obtain ⟨s0, s1, s2, s3, s4, s5, s6, s7⟩ := hS
            go_simp
            try exact rfl
          try go_simp
          refine held_nil ?_
          unfold Tail
          go_wp2
          refine And.intro (by exact ⟨keepP (by repeat (first | assumption | exact Pure.refl _ | refine Pure.drewN ?_ _ | refine Pure.drew ?_ | refine Pure.alloc ?_ _ | refine Pure.setCell ?_ (by simp <;> omega) _)) p0, keepP (by repeat (first | assumption | exact Pure.refl _ | refine Pure.drewN ?_ _ | refine Pure.drew ?_ | refine Pure.alloc ?_ _ | refine Pure.setCell ?_ (by simp <;> omega) _)) m0, keepP (by repeat (first | assumption | exact Pure.refl _ | refine Pure.drewN ?_ _ | refine Pure.drew ?_ | refine Pure.alloc ?_ _ | refine Pure.setCell ?_ (by simp <;> omega) _)) m1, keepP (by repeat (first | assumption | exact Pure.refl _ | refine Pure.drewN ?_ _ | refine Pure.drew ?_ | refine Pure.alloc ?_ _ | refine Pure.setCell ?_ (by simp <;> omega) _)) g0, keepP (by repeat (first | assumption | exact Pure.refl _ | refine Pure.drewN ?_ _ | refine Pure.drew ?_ | refine Pure.alloc ?_ _ | refine Pure.setCell ?_ (by simp <;> omega) _)) c0, keepP (by repeat (first | assumption | exact Pure.refl _ | refine Pure.drewN ?_ _ | refine Pure.drew ?_ | refine Pure.alloc ?_ _ | refine Pure.setCell ?_ (by simp <;> omega) _)) c1, keepP (by repeat (first | assumption | exact Pure.refl _ | refine Pure.drewN ?_ _ | refine Pure.drew ?_ | refine Pure.alloc ?_ _ | refine Pure.setCell ?_ (by simp <;> omega) _)) c2, keepP (by repeat (first | assumption | exact Pure.refl _ | refine Pure.drewN ?_ _ | refine Pure.drew ?_ | refine Pure.alloc ?_ _ | refine Pure.setCell ?_ (by simp <;> omega) _)) c3⟩) ?_
          unfold Tail
          go_wp2
          refine And.intro (by exact ⟨keepP (by repeat (first | assumption | exact Pure.refl _ | refine Pure.drewN ?_ _ | refine Pure.drew ?_ | refine Pure.alloc ?_ _ | refine Pure.setCell ?_ (by simp <;> omega) _)) p0, keepP (by repeat (first | assumption | exact Pure.refl _ | refine Pure.drewN ?_ _ | refine Pure.drew ?_ | refine Pure.alloc ?_ _ | refine Pure.setCell ?_ (by simp <;> omega) _)) m0, keepP (by repeat (first | assumption | exact Pure.refl _ | refine Pure.drewN ?_ _ | refine Pure.drew ?_ | refine Pure.alloc ?_ _ | refine Pure.setCell ?_ (by simp <;> omega) _)) m1, keepP (by repeat (first | assumption | exact Pure.refl _ | refine Pure.drewN ?_ _ | refine Pure.drew ?_ | refine Pure.alloc ?_ _ | refine Pure.setCell ?_ (by simp <;> omega) _)) g0, keepP (by repeat (first | assumption | exact Pure.refl _ | refine Pure.drewN ?_ _ | refine Pure.drew ?_ | refine Pure.alloc ?_ _ | refine Pure.setCell ?_ (by simp <;> omega) _)) c0, keepP (by repeat (first | assumption | exact Pure.refl _ | refine Pure.drewN ?_ _ | refine Pure.drew ?_ | refine Pure.alloc ?_ _ | refine Pure.setCell ?_ (by simp <;> omega) _)) c1, keepP (by repeat (first | assumption | exact Pure.refl _ | refine Pure.drewN ?_ _ | refine Pure.drew ?_ | refine Pure.alloc ?_ _ | refine Pure.setCell ?_ (by simp <;> omega) _)) c2, keepP (by repeat (first | assumption | exact Pure.refl _ | refine Pure.drewN ?_ _ | refine Pure.drew ?_ | refine Pure.alloc ?_ _ | refine Pure.setCell ?_ (by simp <;> omega) _)) c3⟩) ?_
          unfold Tail
          go_wp2_with fail
          refine (iact_any o _ vb2 va2 _ s'.R s'.M mask an (HR2.out.obj.pure (by exact (by repeat (first | assumption | exact Pure.refl _ | refine Pure.drewN ?_ _ | refine Pure.drew ?_ | refine Pure.alloc ?_ _ | refine Pure.setCell ?_ (by simp <;> omega) _)))) (HR2.out.rm.pure (by exact (by repeat (first | assumption | exact Pure.refl _ | refine Pure.drewN ?_ _ | refine Pure.drew ?_ | refine Pure.alloc ?_ _ | refine Pure.setCell ?_ (by simp <;> omega) _)))) HMASK.out han).mono ?_
          rintro e w3 ⟨rfl, hp3⟩
          have hp23 : Pure w2 w3 := Pure.trans (by exact (by repeat (first | assumption | exact Pure.refl _ | refine Pure.drewN ?_ _ | refine Pure.drew ?_ | refine Pure.alloc ?_ _ | refine Pure.setCell ?_ (by simp <;> omega) _))) hp3
          have HR3 := Lib.hid (HR2.out.keep hp23)
          have HST3 := Lib.hid (HST2.out.trans (OStep.of_pure hp23))
          obtain ⟨y, Hy⟩ : ∃ y, Hid (onesTo s'.R mask an o.rm.n = y) := ⟨_, rfl⟩
          have hy : y < 2 ^ o.rm.n := by rw [← Hy.out]; exact onesTo_lt _ _ _ _
          have hy256 := Nat.lt_of_lt_of_le hy (powI hn8)
          have HYM := Lib.hid hy
          rw [Hy.out]
          have q1 := keepP HR3.out.pure E1.out
          have q2 := keepP HR3.out.pure E2.out
          clear hy hp3 hp23 p0 m0 m1 g0 c0 c1 c2 c3
          have hen1 : en < o.cs.length := by rw [← Hen.out]; exact Hseg.out.itee.2.2.2.2.2.1
          have hon1 : on < en := by have := Hen.out; have := Hon.out; omega
          have HL := Lib.hid (Tr.len_itee (an : Int) t1 t2 tk)
          have HCC : Hid (msz s' + 10 * (1 + t1.cost + t2.cost + tk.cost) ≤ 1099511627000) := Hco
          have hc1 := Lib.hid (run_msz o.rm.n o.rm.m hn8 t1 (k + 1) y (beat k mask s'))
          go_wp2_with fail
          refine (HIH.out t1 (k + 1) y (beat k mask s') vb2 va2 _ _ _ (by have := HL.out; have := HSZ.out; have := Htl.out; omega) Hok.out.2.1 Hseg.out.itee.2.1 (by have := Hen.out; have := Hon.out; omega) HYM.out (by have h1 := HCC.out; have h2 := HB1.out; omega) HR3.out (by omega) (by have := Hen.out; have := Hon.out; omega)).mono ?_
          rintro e w4 ⟨rfl, vb4, va4, hr4, hs4⟩
          have H4 := Lib.hid hr4
          have H4s := Lib.hid (HST3.out.trans hs4)
          have q1 := keepP hr4.pure E1.out
          have q2 := keepP hr4.pure E2.out
          obtain ⟨d, Hd⟩ : ∃ d, Hid (del mask y = d) := ⟨_, rfl⟩
          have hdel : bits .andNot .i64 (mask : Int) (y : Int) = (d : Int) := by rw [bits_andNot (by omega) (by omega)]; exact congrArg _ Hd.out
          have HDM : Hid (d < 2 ^ o.rm.n) := Lib.hid (by rw [← Hd.out]; exact del_lt2 y HMASK.out)
          have hc2 := Lib.hid (run_msz o.rm.n o.rm.m hn8 t2 (on + 1) d (run o.rm.n o.rm.m t1 (k + 1) y (beat k mask s')))
          clear hr4 hs4
          go_wp2_with fail
          refine region_tail 13 (by kernel_rfl) (by kernel_rfl) ?_
          simp only [List.take_succ_cons, List.take_zero, List.drop_succ_cons, List.drop_zero]
          repeat still_step
          refine wpStill_nil ?_
          go_wp2_with fail
          refine (HIH.out t2 (on + 1) d (run o.rm.n o.rm.m t1 (k + 1) y (beat k mask s')) vb4 va4 _ _ _ (by have := HL.out; have := HSZ.out; have := Htl.out; omega) Hok.out.2.2.1 (by rw [← Hon.out]; exact Hseg.out.itee.2.2.2.1) (by have := Hen.out; have := Hon.out; omega) HDM.out (by have h1 := HCC.out; have h2 := HB1.out; have h3 := hc1.out; omega) (H4.out.keep (by exact (by repeat (first | assumption | exact Pure.refl _ | refine Pure.drewN ?_ _ | refine Pure.drew ?_ | refine Pure.alloc ?_ _ | refine Pure.setCell ?_ (by simp <;> omega) _)))) (by omega) (by have := Hen.out; have := Hon.out; omega)).mono ?_
          rintro e w5 ⟨rfl, vb5, va5, hr5, hs5⟩
          have H5 := Lib.hid hr5
          have H5s := Lib.hid ((H4s.out.trans (OStep.of_pure (show Pure w4 w4.drew from (by repeat (first | assumption | exact Pure.refl _ | refine Pure.drewN ?_ _ | refine Pure.drew ?_ | refine Pure.alloc ?_ _ | refine Pure.setCell ?_ (by simp <;> omega) _))))).trans hs5)
          have q2 := keepP hr5.pure E2.out
          clear hr5 hs5 q1
          go_wp2_with fail
          go_roundg tk.len
          case measure => have := Hgk.out; have := HL.out; omega
          case rel =>
            exact ⟨tk, en + 1, _, vb5, va5, rfl, by have := Hto.out; have := HL.out; have := Hen.out; omega, by have := Htl.out; have := HL.out; omega, by go_num, Hok.out.2.2.2, by rw [← Hen.out]; exact Hseg.out.itee.2.2.2.2.2.2, by have h1 := HCC.out; have h2 := HB1.out; have h3 := hc1.out; have h4 := hc2.out; omega, H5.out, H5s.out, by rw [← Hrun.out, ← Hen.out, ← Hon.out]; show _ = (if mask = 0 then _ else _ : LS); rw [if_neg HM0.out, Int.toNat_natCast, Hy.out, Hd.out]⟩
        | loop a lb t1 tk =>
          have hce : (⟨op, ca, cb, cc⟩ : Cd) = cLoop a lb := Hcd.out.symm.trans Hseg.out.loop.1
          injection hce with e1 e2 e3 e4
          subst e1 e2 e3 e4
          obtain ⟨ha0, ha3⟩ := Hok.out.1
          obtain ⟨an, rfl⟩ := Int.eq_ofNat_of_zero_le ha0
          have han : an < 4 := by omega
          have hend := (end_loop Hok.out Hseg.out).1
          have hopn : Opens (o.cs.getD k default) := by rw [Hcd.out]; exact .inr rfl
          obtain ⟨gb, gw0, hgb, e0, e1, e2⟩ := HOWN.out.1 k (by unfold ownOf; rw [if_pos hopn]) hk hopn
          obtain ⟨hb1, hb4⟩ := Hok.out.2.1
          obtain ⟨bn, rfl⟩ := Int.eq_ofNat_of_zero_le (show (0 : Int) ≤ cb by omega)
          obtain ⟨en, Hen⟩ : ∃ en, Hid (k + 1 + t1.len = en) := ⟨_, rfl⟩
          rw [Hen.out] at hend
          rw [hend] at e1 e2
          have E1 := Lib.hid e1
          have E2 := Lib.hid e2
          clear e1 e2 hend
          have g0 := keepP HR2.out.pure gw0
          clear e0 gw0 hopn
          go_wp2_with fail
          refine region_heldF (fun w' => w'.cell? ⟨o.p, 0, none⟩ = some (.pointer (some ⟨o.pm, 0, none⟩)) ∧ w'.cell? ⟨o.pm, 0, none⟩ = some (.slice (some ⟨b, ob, none⟩) o.cs.length cA) ∧ w'.cell? ⟨o.pm, 1, none⟩ = some (.slice (some ⟨bo, oo, none⟩) o.cs.length co) ∧ w'.cell? ⟨bo, oo + k, none⟩ = some (.pointer (some ⟨gb, 0, none⟩)) ∧ w'.cell? ⟨b, ob + k * 4, none⟩ = some (.int .i64 13) ∧ w'.cell? ⟨b, ob + k * 4 + 1, none⟩ = some (.int .i64 an) ∧ w'.cell? ⟨b, ob + k * 4 + 2, none⟩ = some (.int .i64 bn) ∧ w'.cell? ⟨b, ob + k * 4 + 3, none⟩ = some (.int .i64 0))
            (List.range 20) [20, 21, 22] (fun l => List.take 20 l) (fun l => List.drop 20 l) (by kernel_rfl) (by kernel_rfl) (by kernel_rfl) (by kernel_rfl) (fun c a d v w h => by cases d <;> exact h) (by exact ⟨p0, m0, m1, g0, c0, c1, c2, c3⟩) ?_
          simp only [List.take_succ_cons, List.take_zero, List.drop_succ_cons, List.drop_zero, List.cons_append, List.nil_append]
          apply held_of
          · exact rfl
          · intro w' hS
            obtain ⟨s0, s1, s2, s3, s4, s5, s6, s7⟩ := hS
            go_simp
            try exact rfl
          try go_simp
          apply held_of
          · exact rfl
          · intro w' hS
            obtain ⟨s0, s1, s2, s3, s4, s5, s6, s7⟩ := hS
            go_simp
            try exact rfl
          try go_simp
          apply held_of
          · exact rfl
          · intro w' hS
            obtain ⟨s0, s1, s2, s3, s4, s5, s6, s7⟩ := hS
            go_simp
            try exact rfl
          try go_simp
          apply held_of
          · exact rfl
          · intro w' hS
            obtain ⟨s0, s1, s2, s3, s4, s5, s6, s7⟩ := hS
            go_simp
            try exact rfl
          try go_simp
          apply held_of
          · exact rfl
          · intro w' hS
            obtain ⟨s0, s1, s2, s3, s4, s5, s6, s7⟩ := hS
            go_simp
            try exact rfl
          try go_simp
          apply held_of
          · exact rfl
          · intro w' hS
            obtain ⟨s0, s1, s2, s3, s4, s5, s6, s7⟩ := hS
            go_simp
            try exact rfl
          try go_simp
          apply held_of
          · exact rfl
          · intro w' hS
            obtain ⟨s0, s1, s2, s3, s4, s5, s6, s7⟩ := hS
            go_simp
            try exact rfl
          try go_simp
          apply held_of
          · exact rfl
          · intro w' hS
            obtain ⟨s0, s1, s2, s3, s4, s5, s6, s7⟩ := hS
            go_simp
            try exact rfl
          try go_simp
          apply held_of
          · exact rfl
          · intro w' hS
            obtain ⟨s0, s1, s2, s3, s4, s5, s6, s7⟩ := hS
            go_simp
            try exact rfl
          try go_simp
          apply held_of
          · exact rfl
          · intro w' hS
            obtain ⟨s0, s1, s2, s3, s4, s5, s6, s7⟩ := hS
            go_simp
            try exact rfl
          try go_simp
          apply held_of
          · exact rfl
          · intro w' hS
            obtain ⟨s0, s1, s2, s3, s4, s5, s6, s7⟩ := hS
            go_simp
            try exact rfl
          try go_simp
          apply held_of
          · exact rfl
          · intro w' hS
            obtain ⟨s0, s1, s2, s3, s4, s5, s6, s7⟩ := hS
            go_simp
            try exact rfl
          try go_simp
          apply held_of
          · exact rfl
          · intro w' hS
            obtain ⟨s0, s1, s2, s3, s4, s5, s6, s7⟩ := hS
            go_simp
            try exact rfl
          try go_simp
          apply held_of
          · exact rfl
          · intro w' hS
            obtain ⟨s0, s1, s2, s3, s4, s5, s6, s7⟩ := hS
            go_simp
            try exact rfl
          try go_simp
          apply held_of
          · exact rfl
          · intro w' hS
            obtain ⟨s0, s1, s2, s3, s4, s5, s6, s7⟩ := hS
            go_simp
            try exact rfl
          try go_simp
          apply held_of
          · exact rfl
          · intro w' hS
            obtain ⟨s0, s1, s2, s3, s4, s5, s6, s7⟩ := hS
            go_simp
            try exact rfl
          try go_simp
          apply held_of
          · exact rfl
          · intro w' hS
            obtain ⟨s0, s1, s2, s3, s4, s5, s6, s7⟩ := hS
            go_simp
            try exact rfl
          try go_simp
          apply held_of
          · exact rfl
          · intro w' hS
            obtain ⟨s0, s1, s2, s3, s4, s5, s6, s7⟩ := hS
            go_simp
            try exact rfl
          try go_simp
          apply held_of
          · exact rfl
          · intro w' hS
            obtain ⟨s0, s1, s2, s3, s4, s5, s6, s7⟩ := hS
            go_simp
            try exact rfl
          try go_simp
          apply held_of
          · exact rfl
          · intro w' hS
            obtain ⟨s0, s1, s2, s3, s4, s5, s6, s7⟩ := hS
            go_simp
            try exact rfl
          try go_simp
          refine held_nil ?_
          unfold Tail
          go_wp2
          refine And.intro (by exact ⟨keepP (by repeat (first | assumption | exact Pure.refl _ | refine Pure.drewN ?_ _ | refine Pure.drew ?_ | refine Pure.alloc ?_ _ | refine Pure.setCell ?_ (by simp <;> omega) _)) p0, keepP (by repeat (first | assumption | exact Pure.refl _ | refine Pure.drewN ?_ _ | refine Pure.drew ?_ | refine Pure.alloc ?_ _ | refine Pure.setCell ?_ (by simp <;> omega) _)) m0, keepP (by repeat (first | assumption | exact Pure.refl _ | refine Pure.drewN ?_ _ | refine Pure.drew ?_ | refine Pure.alloc ?_ _ | refine Pure.setCell ?_ (by simp <;> omega) _)) m1, keepP (by repeat (first | assumption | exact Pure.refl _ | refine Pure.drewN ?_ _ | refine Pure.drew ?_ | refine Pure.alloc ?_ _ | refine Pure.setCell ?_ (by simp <;> omega) _)) g0, keepP (by repeat (first | assumption | exact Pure.refl _ | refine Pure.drewN ?_ _ | refine Pure.drew ?_ | refine Pure.alloc ?_ _ | refine Pure.setCell ?_ (by simp <;> omega) _)) c0, keepP (by repeat (first | assumption | exact Pure.refl _ | refine Pure.drewN ?_ _ | refine Pure.drew ?_ | refine Pure.alloc ?_ _ | refine Pure.setCell ?_ (by simp <;> omega) _)) c1, keepP (by repeat (first | assumption | exact Pure.refl _ | refine Pure.drewN ?_ _ | refine Pure.drew ?_ | refine Pure.alloc ?_ _ | refine Pure.setCell ?_ (by simp <;> omega) _)) c2, keepP (by repeat (first | assumption | exact Pure.refl _ | refine Pure.drewN ?_ _ | refine Pure.drew ?_ | refine Pure.alloc ?_ _ | refine Pure.setCell ?_ (by simp <;> omega) _)) c3⟩) ?_
          unfold Tail
          go_wp2
          refine And.intro (by exact ⟨keepP (by repeat (first | assumption | exact Pure.refl _ | refine Pure.drewN ?_ _ | refine Pure.drew ?_ | refine Pure.alloc ?_ _ | refine Pure.setCell ?_ (by simp <;> omega) _)) p0, keepP (by repeat (first | assumption | exact Pure.refl _ | refine Pure.drewN ?_ _ | refine Pure.drew ?_ | refine Pure.alloc ?_ _ | refine Pure.setCell ?_ (by simp <;> omega) _)) m0, keepP (by repeat (first | assumption | exact Pure.refl _ | refine Pure.drewN ?_ _ | refine Pure.drew ?_ | refine Pure.alloc ?_ _ | refine Pure.setCell ?_ (by simp <;> omega) _)) m1, keepP (by repeat (first | assumption | exact Pure.refl _ | refine Pure.drewN ?_ _ | refine Pure.drew ?_ | refine Pure.alloc ?_ _ | refine Pure.setCell ?_ (by simp <;> omega) _)) g0, keepP (by repeat (first | assumption | exact Pure.refl _ | refine Pure.drewN ?_ _ | refine Pure.drew ?_ | refine Pure.alloc ?_ _ | refine Pure.setCell ?_ (by simp <;> omega) _)) c0, keepP (by repeat (first | assumption | exact Pure.refl _ | refine Pure.drewN ?_ _ | refine Pure.drew ?_ | refine Pure.alloc ?_ _ | refine Pure.setCell ?_ (by simp <;> omega) _)) c1, keepP (by repeat (first | assumption | exact Pure.refl _ | refine Pure.drewN ?_ _ | refine Pure.drew ?_ | refine Pure.alloc ?_ _ | refine Pure.setCell ?_ (by simp <;> omega) _)) c2, keepP (by repeat (first | assumption | exact Pure.refl _ | refine Pure.drewN ?_ _ | refine Pure.drew ?_ | refine Pure.alloc ?_ _ | refine Pure.setCell ?_ (by simp <;> omega) _)) c3⟩) ?_
          unfold Tail
          have hen1 : en < o.cs.length := by rw [← Hen.out]; exact Hseg.out.loop.2.2.2.1
          have HL := Lib.hid (Tr.len_loop (an : Int) (bn : Int) t1 tk)
          have HXW := Lib.hid (BoxI.alloc w2 ⟨13, an, bn, 0⟩)
          have HCC : Hid (msz s' + 10 * (1 + bn * t1.cost + tk.cost) ≤ 1099511627000) := Hco
          clear c0 c1 c2 c3 p0 m0 m1 g0
          go_wp2_with fail
          go_loopg [106, 12] bn (fun g2 i l wr => ∃ (j y2 : Nat) (s2 : LS) (vb5 va5 : Value), g2 + j = bn ∧ i = .int .i64 j ∧ l = .int .i64 y2 ∧ y2 < 2 ^ o.rm.n ∧ ORun o wr vb5 va5 s2 ∧ OStep o w2 vb2 va2 wr vb5 va5 ∧ BoxI wr w2.heap.size ⟨13, an, bn, 0⟩ ∧ ¬ o.own vb5 va5 w2.heap.size ∧ msz s2 + 10 * (g2 * t1.cost) + 10 * tk.cost ≤ 1099511627000 ∧ turns (run o.rm.n o.rm.m t1 (k + 1)) o.rm.n an bn mask (beat k mask s') = turns (run o.rm.n o.rm.m t1 (k + 1)) o.rm.n an g2 y2 s2)
          case atStart => exact ⟨0, mask, beat k mask s', vb2, va2, rfl, rfl, rfl, HMASK.out, HR2.out.keep (by exact (by repeat (first | assumption | exact Pure.refl _ | refine Pure.drewN ?_ _ | refine Pure.drew ?_ | refine Pure.alloc ?_ _ | refine Pure.setCell ?_ (by simp <;> omega) _))), OStep.of_pure (by exact (by repeat (first | assumption | exact Pure.refl _ | refine Pure.drewN ?_ _ | refine Pure.drew ?_ | refine Pure.alloc ?_ _ | refine Pure.setCell ?_ (by simp <;> omega) _))), HXW.out.pure (by exact (by repeat (first | assumption | exact Pure.refl _ | refine Pure.drewN ?_ _ | refine Pure.drew ?_ | refine Pure.alloc ?_ _ | refine Pure.setCell ?_ (by simp <;> omega) _))), HNO.out, by have h1 := HCC.out; have h2 := HB1.out; generalize bn * t1.cost = X at h1 ⊢; omega, rfl⟩
          case round =>
            obtain ⟨j, y2, s2, vb5, va5, hg2, rfl, rfl, hy2, hr5, hs5, hx5, hno5, hc5, ht5⟩ := hrel
            have Hg2 := Lib.hid hg2
            have HY2 := Lib.hid hy2
            have HR5 := Lib.hid hr5
            have HS5 := Lib.hid hs5
            have HX5 := Lib.hid hx5
            have HN5 := Lib.hid hno5
            have HC5 := Lib.hid hc5
            have HT5 := Lib.hid ht5
            have hjn : j ≤ bn := by omega
            have q2 := keepP hr5.pure E2.out
            have hby := hx5.lt
            obtain ⟨y0, y1, y2', y3⟩ := hx5
            clear hg2 hy2 hr5 hs5 hno5 hc5 ht5
            simp only at y0 y1 y2' y3
            by_cases hjb : j < bn
            · obtain ⟨g3, rfl⟩ : ∃ g3, gk = g3 + 1 := ⟨gk - 1, by have := Hg2.out; omega⟩
              have HC9 : Hid (msz s2 + 10 * (g3 * t1.cost + t1.cost) + 10 * tk.cost ≤ 1099511627000) := Lib.hid (by have h := HC5.out; rw [show (g3 + 1) * t1.cost = g3 * t1.cost + t1.cost from Nat.succ_mul g3 t1.cost] at h; exact h)
              go_wp2_with fail
              refine (iact_any o _ vb5 va5 _ s2.R s2.M y2 an HR5.out.obj HR5.out.rm HY2.out han).mono ?_
              rintro e w6 ⟨rfl, hp6⟩
              have HR6 := Lib.hid (HR5.out.keep hp6)
              have HX6 := Lib.hid (HX5.out.pure hp6)
              have HS6 := Lib.hid (HS5.out.trans (OStep.of_pure hp6))
              obtain ⟨yn, Hyn⟩ : ∃ yn, Hid (onesTo s2.R y2 an o.rm.n = yn) := ⟨_, rfl⟩
              have HYN : Hid (yn < 2 ^ o.rm.n) := Lib.hid (by rw [← Hyn.out]; exact onesTo_lt _ _ _ _)
              rw [Hyn.out]
              have hc1 := Lib.hid (run_msz o.rm.n o.rm.m hn8 t1 (k + 1) yn s2)
              have q3 := keepP HR6.out.pure E2.out
              clear hp6 q2 y0 y1 y2' y3
              go_wp2_with fail
              refine (HIH.out t1 (k + 1) yn s2 vb5 va5 _ _ _ (by have := HL.out; have := HSZ.out; have := Htl.out; omega) Hok.out.2.2.1 Hseg.out.loop.2.1 (by have := Hen.out;  omega) HYN.out (by have h := HC9.out; generalize g3 * t1.cost = X at h; omega) HR6.out (by omega) (by have := Hen.out;  omega)).mono ?_
              rintro e w7 ⟨rfl, vb7, va7, hr7, hs7⟩
              have H7 := Lib.hid hr7
              have H7s := Lib.hid (HS6.out.trans hs7)
              have H7x := Lib.hid (HX6.out.step hs7 HN5.out)
              have H7n := Lib.hid (IObj.own_lies HN5.out hs7.2.1 hs7.2.2 HX6.out.lt)
              clear hr7 hs7
              go_wp2_with fail
              go_roundg g3
              case measure => omega
              case rel =>
                exact ⟨j + 1, yn, _, vb7, va7, by have := Hg2.out; omega, by go_num, rfl, HYN.out, H7.out, H7s.out, H7x.out, H7n.out, by have h := HC9.out; have h1 := hc1.out; generalize g3 * t1.cost = X at h ⊢; omega, by rw [HT5.out, turns_succ, Hyn.out]⟩
            · have hz : gk = 0 := by have := Hg2.out; omega
              have hfin : turns (run o.rm.n o.rm.m t1 (k + 1)) o.rm.n an bn mask (beat k mask s') = s2 := by rw [HT5.out, hz]; rfl
              have Hfin := Lib.hid hfin
              have HC3 : Hid (msz s2 + 10 * tk.cost ≤ 1099511627000) := Lib.hid (by have h := HC5.out; generalize gk * t1.cost = X at h; omega)
              clear hfin hz
              go_wp2_with fail
              go_roundg tk.len
              case measure => have := Hgk.out; have := HL.out; omega
              case rel =>
                exact ⟨tk, en + 1, _, vb5, va5, rfl, by have := Hto.out; have := HL.out; have := Hen.out; omega, by have := Htl.out; have := HL.out; omega, by go_num, Hok.out.2.2.2, by rw [← Hen.out]; exact Hseg.out.loop.2.2.2.2, HC3.out, HR5.out, HST2.out.trans HS5.out, by rw [← Hrun.out, ← Hen.out]; show _ = (if mask = 0 then _ else _ : LS); rw [if_neg HM0.out, Int.toNat_natCast, Int.toNat_natCast, Hfin.out]⟩

end Go.Proofs.Ytokdfgodmhekmaa
