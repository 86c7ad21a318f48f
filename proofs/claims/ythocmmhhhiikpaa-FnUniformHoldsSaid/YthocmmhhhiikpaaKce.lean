/- A block of instructions in lockstep, as the program walks through it with a function that looks on. The reference's comparison of registers between lanes. No condition. -/
import Derived.Test.YthocmmhhhiikpaaKai
import Derived.Test.YthocmmhhhiikpaaKaj
import Derived.Test.YthocmmhhhiikpaaKbc
import Derived.Test.YthocmmhhhiikpaaKcb

namespace Go.Proofs.Ythocmmhhhiikpaa
open Go.RowKit

/-- What is told of every step. -/
def UH (U : Nat → Nat → (Nat → Nat → Int) → Prop) (H : List (Nat × Nat × (Nat → Nat → Int))) : Prop := ∀ x ∈ H, U x.1 x.2.1 x.2.2
def BeatOk (o : IObj) (U : Nat → Nat → (Nat → Nat → Int) → Prop) : Prop := ∀ (w : World) (vb va : Value) (s : LS) (i mask : Nat), ORun o w vb va s → U i mask s.R → i < o.cs.length → mask < 2 ^ o.rm.n → s.H.length + 1 ≤ 1099511627776 →
  Calls Try.prog 85 #[.pointer (some ⟨o.p, 0, none⟩), .int .i64 i, .int .i64 mask] w (StepP o w vb va (beat i mask s))
section
variable {U : Nat → Nat → (Nat → Nat → Int) → Prop} {n m k mask : Nat} {s : LS}
theorem UH.ext {s s' : LS} (h : UH U s'.H) (e : Ext s s') : UH U s.H := by
  obtain ⟨X, hX⟩ := e
  intro x hx
  exact h x (by rw [hX]; exact List.mem_append_left _ hx)
theorem UH.first {t : Tr} (h : UH U (run n m t k mask s).H) (h0 : mask ≠ 0) (ht : 0 < t.len) : U k mask s.R :=
  (h.ext (run_first n m t k mask s h0 ht)) (k, mask, s.R) (by simp [beat])
theorem UH.ite {a : Int} {t tk : Tr} (h : UH U (run n m (.ite a t tk) k mask s).H) (h0 : mask ≠ 0) : UH U (run n m t (k + 1) (onesTo s.R mask a.toNat n) (beat k mask s)).H := by
  have e : run n m (.ite a t tk) k mask s = run n m tk (k + 1 + t.len + 1) mask (run n m t (k + 1) (onesTo s.R mask a.toNat n) (beat k mask s)) := if_neg h0
  rw [e] at h
  exact h.ext (run_ext n m tk _ mask _)
theorem UH.itee {a : Int} {t e tk : Tr} (h : UH U (run n m (.itee a t e tk) k mask s).H) (h0 : mask ≠ 0) : UH U (run n m t (k + 1) (onesTo s.R mask a.toNat n) (beat k mask s)).H ∧
    UH U (run n m e (k + 1 + t.len + 1) (del mask (onesTo s.R mask a.toNat n)) (run n m t (k + 1) (onesTo s.R mask a.toNat n) (beat k mask s))).H := by
  have e1 : run n m (.itee a t e tk) k mask s = run n m tk (k + 1 + t.len + 1 + e.len + 1) mask (run n m e (k + 1 + t.len + 1) (del mask (onesTo s.R mask a.toNat n)) (run n m t (k + 1) (onesTo s.R mask a.toNat n) (beat k mask s))) := if_neg h0
  rw [e1] at h
  have h2 := h.ext (run_ext n m tk _ mask _)
  exact ⟨h2.ext (run_ext n m e _ _ _), h2⟩
theorem UH.loop {a b : Int} {t tk : Tr} (h : UH U (run n m (.loop a b t tk) k mask s).H) (h0 : mask ≠ 0) : UH U (turns (run n m t (k + 1)) n a.toNat b.toNat mask (beat k mask s)).H := by
  have e : run n m (.loop a b t tk) k mask s = run n m tk (k + 1 + t.len + 1) mask (turns (run n m t (k + 1)) n a.toNat b.toNat mask (beat k mask s)) := if_neg h0
  rw [e] at h
  exact h.ext (run_ext n m tk _ mask _)
theorem UH.turn {t : Tr} {i a b y : Nat} (h : UH U (turns (run n m t i) n a b y s).H) : UH U s.H := h.ext (ext_turns (fun y s => run_ext n m t i y s) b y s)
end

set_option maxHeartbeats 8000000 in
set_option maxRecDepth 100000 in
theorem iblockU_any (o : IObj) (hv : PValid o.cs) (U : Nat → Nat → (Nat → Nat → Int) → Prop) (hlook : BeatOk o U) : ∀ (sz : Nat) (t : Tr) (i mask : Nat) (s : LS) (vb va : Value) (w : World) (fr tz : Int), t.len ≤ sz → t.Ok → Seg o.cs i t → i + t.len ≤ o.cs.length → mask < 2 ^ o.rm.n →
    msz s + 10 * t.cost ≤ 1099511627000 → UH U (run o.rm.n o.rm.m t i mask s).H → ORun o w vb va s → fr = (i : Nat) → tz = ((i + t.len : Nat) : Int) →
    Calls Try.prog 70 #[.pointer (some ⟨o.p, 0, none⟩), .int .i64 fr, .int .i64 tz, .int .i64 mask] w (StepP o w vb va (run o.rm.n o.rm.m t i mask s)) := by
  intro sz
  induction sz with
  | zero =>
    intro t i mask s vb va w fr tz hsz hok hseg hic hmask hcost hU hrun hfr hto
    obtain rfl := Tr.len_zero (show t.len = 0 by omega)
    subst hfr hto
    have HR := Lib.hid hrun
    clear hrun
    have hl0 : Tr.nil.len = 0 := rfl
    rw [hl0, Nat.add_zero]
    clear hl0 hsz hcost hU
    go_enter Try.func70, Try.ntmps70
    go_wp2_with fail
    go_loopg [8] 0 (fun gk i' wr => i' = .int .i64 i ∧ wr = w)
    case atStart => exact ⟨rfl, rfl⟩
    case round =>
      obtain ⟨rfl, rfl⟩ := hrel
      go_wp2_with fail
      go_end0
      exact ⟨rfl, vb, va, HR.out, OStep.refl _ _ _ _⟩
  | succ sz ih =>
    intro t i mask s vb va w fr tz hsz hok hseg hic hmask hcost hU hrun hfr hto
    subst hfr
    have HIH := Lib.hid ih
    have HV := Lib.hid hv
    have HLK := Lib.hid hlook
    have HUH := Lib.hid hU
    have HTO := Lib.hid hto
    have HR := Lib.hid hrun
    have HSEG := Lib.hid hseg
    have HOK := Lib.hid hok
    have HCO := Lib.hid hcost
    have HSZ := Lib.hid hsz
    have hn8 := hrun.rm.n8
    have hsmall := hv.2.1
    have hm256 : mask < 256 := Nat.lt_of_lt_of_le hmask (powI hn8)
    have HMASK := Lib.hid hmask
    obtain ⟨A, cA, hvl, hnc, hcm⟩ := hrun.codes.form
    have HVL := Lib.hid hvl
    have htoc : tz ≤ (o.cs.length : Int) := by rw [hto]; exact_mod_cast hic
    clear ih hv hlook hU hto hrun hseg hok hcost hsz hic hvl
    go_enter Try.func70, Try.ntmps70
    go_wp2_with fail
    go_loopg [8] t.len (fun gk kk wr => ∃ (t' : Tr) (k : Nat) (s' : LS) (vb' va' : Value), gk = t'.len ∧ ((k + t'.len : Nat) : Int) = tz ∧ t'.len ≤ t.len ∧ kk = .int .i64 k ∧ t'.Ok ∧ Seg o.cs k t' ∧ msz s' + 10 * t'.cost ≤ 1099511627000 ∧ ORun o wr vb' va' s' ∧ OStep o w vb va wr vb' va' ∧ run o.rm.n o.rm.m t' k mask s' = run o.rm.n o.rm.m t i mask s)
    case atStart => exact ⟨t, i, s, vb, va, rfl, HTO.out.symm, Nat.le_refl _, rfl, HOK.out, HSEG.out, HCO.out, HR.out, OStep.refl _ _ _ _, rfl⟩
    case round =>
      clear HR HSEG HOK HCO HTO
      obtain ⟨t', k, s', vb', va', hgk, hto, htl, rfl, hok, hseg, hco, hr, hst, hrun⟩ := hrel
      have Hgk := Lib.hid hgk
      have Hto := Lib.hid hto
      have Htl := Lib.hid htl
      have Hok := Lib.hid hok
      have Hseg := Lib.hid hseg
      have Hco := Lib.hid hco
      have Hr := Lib.hid hr
      have Hst := Lib.hid hst
      have Hrun := Lib.hid hrun
      clear hgk hto htl hok hseg hco hst hrun hr
      by_cases hm0 : mask = 0
      · subst hm0
        have hfin : run o.rm.n o.rm.m t i 0 s = s' := by rw [← Hrun.out, run_zero]
        have Hfin := Lib.hid hfin
        clear hfin
        by_cases hlt : (k : Int) < tz
        · go_wp2_with fail
          go_end0
          exact ⟨rfl, vb', va', by rw [Hfin.out]; exact Hr.out, Hst.out⟩
        · go_wp2_with fail
          go_end0
          exact ⟨rfl, vb', va', by rw [Hfin.out]; exact Hr.out, Hst.out⟩
      by_cases hlt : (k : Int) < tz
      case neg =>
        have hz : t' = .nil := Tr.len_zero (by have := Hto.out; omega)
        subst hz
        have Hfin : Hid (run o.rm.n o.rm.m t i mask s = s') := Lib.hid (by rw [← Hrun.out]; rfl)
        clear hm0
        go_wp2_with fail
        go_end0
        exact ⟨rfl, vb', va', by rw [Hfin.out]; exact Hr.out, Hst.out⟩
      case pos =>
        have HM0 := Lib.hid hm0
        have hmne : ((mask : Int) != 0) = true := by rw [bne_iff_ne]; omega
        clear hm0
        have hk : k < o.cs.length := by omega
        have hk0 : (0 : Int) ≤ (k : Int) := by omega
        have hkI : (k : Int) < (o.cs.length : Int) := by omega
        have HUR : Hid (UH U (run o.rm.n o.rm.m t' k mask s').H) := Lib.hid (by rw [Hrun.out]; exact HUH.out)
        have HUK : Hid (U k mask s'.R) := Lib.hid (UH.first HUR.out HM0.out (by have := Hto.out; omega))
        have Hms : Hid (s'.H.length + 1 ≤ 1099511627776) := Lib.hid (by have := Hco.out; unfold msz at this; omega)
        have HB1 : Hid (msz (beat k mask s') = msz s' + 1) := Lib.hid (beat_msz k mask s')
        go_wp2_with fail
        refine (HLK.out _ vb' va' s' k mask Hr.out HUK.out hk HMASK.out Hms.out).mono ?_
        rintro e w2 ⟨rfl, vb2, va2, hr2, hs2⟩
        have HR2 := Lib.hid hr2
        have HST2 := Lib.hid (Hst.out.trans hs2)
        obtain ⟨p0, p1, p2, p3, p4, p5, p6⟩ := hr2.obj.facts
        have m0 := keepP hr2.pure hr2.mach.1
        have m1 := keepP hr2.pure hr2.mach.2
        rw [HVL.out] at m0
        have hcd := hr2.codes.keep hr2.pure
        rw [HVL.out] at hcd
        obtain ⟨b, ob, rfl, hb, hc⟩ := hcd.at_ hk
        obtain ⟨cd, Hcd⟩ : ∃ cd, Hid (o.cs.getD k default = cd) := ⟨_, rfl⟩
        rw [Hcd.out] at hc
        obtain ⟨c0, c1, c2, c3⟩ := hc
        have hcok : CdOk cd := by rw [← Hcd.out]; exact HV.out.1 _ (cdOk_mem hk)
        have HCOK := Lib.hid hcok
        obtain ⟨op, ca, cb, cc⟩ := cd
        simp only at c0 c1 c2 c3
        obtain ⟨Ao, co, hvo, hco2, hco3, bo, oo, rfl, hbo, hown⟩ := hr2.tabs.own hk
        rw [hvo] at m1
        have HOWN := Lib.hid hown
        have HNO : Hid (¬ o.own vb2 va2 w2.heap.size) := Lib.hid (fun e => absurd (hr2.own_hi _ e) (by omega))
        clear hr2 hs2 p1 p2 p3 p4 p5 p6 hcd hcok hown
        cases t' with
        | nil => exact absurd Hto.out (by have : Tr.nil.len = 0 := rfl; omega)
        | op cx tk =>
          have hce : cx = ⟨op, ca, cb, cc⟩ := Hseg.out.op.1.symm.trans Hcd.out
          subst hce
          have HPL := Lib.hid Hok.out.1
          have g0 : w2.cell? ⟨bo, oo + k, none⟩ = some (.pointer none) := keepP HR2.out.pure (HOWN.out.2 (by have h := HPL.out; unfold ownOf; rw [Hcd.out, if_neg (by unfold Opens; rintro (h1 | h1); exact h.2.1 h1; exact h.2.2.2.1 h1), if_neg (by rintro (h1 | h1); exact h.2.2.1 h1; exact h.2.2.2.2 h1)]))
          have d11 : (op == 11) = false := by rw [beq_eq_false_iff_ne]; exact HPL.out.2.1
          have d13 : (op == 13) = false := by rw [beq_eq_false_iff_ne]; exact HPL.out.2.2.2.1
          go_wp2_with fail
          refine region_heldF (fun w' => w'.cell? ⟨o.p, 0, none⟩ = some (.pointer (some ⟨o.pm, 0, none⟩)) ∧ w'.cell? ⟨o.pm, 0, none⟩ = some (.slice (some ⟨b, ob, none⟩) o.cs.length cA) ∧ w'.cell? ⟨o.pm, 1, none⟩ = some (.slice (some ⟨bo, oo, none⟩) o.cs.length co) ∧ w'.cell? ⟨bo, oo + k, none⟩ = some (.pointer none) ∧ w'.cell? ⟨b, ob + k * 4, none⟩ = some (.int .i64 op) ∧ w'.cell? ⟨b, ob + k * 4 + 1, none⟩ = some (.int .i64 ca) ∧ w'.cell? ⟨b, ob + k * 4 + 2, none⟩ = some (.int .i64 cb) ∧ w'.cell? ⟨b, ob + k * 4 + 3, none⟩ = some (.int .i64 cc))
            (List.range 20) [20, 21, 22] (fun l => List.take 20 l) (fun l => List.drop 20 l) (by kernel_rfl) (by kernel_rfl) (by kernel_rfl) (by kernel_rfl) (fun c a d v w h => by cases d <;> exact h) (by exact ⟨p0, m0, m1, g0, c0, c1, c2, c3⟩) ?_
          simp only [List.take_succ_cons, List.take_zero, List.drop_succ_cons, List.drop_zero]
          iterate 20
            apply held_of
            · exact rfl
            · intro w' hS
              obtain ⟨s0, s1, s2, s3, s4, s5, s6, s7⟩ := hS
              go_simp
              try exact rfl
            try go_simp
          refine held_nil ?_
          unfold Tail
          go_wp2
          refine And.intro (by exact ⟨keepP (by repeat (first | assumption | exact Pure.refl _ | refine Pure.drewN ?_ _ | refine Pure.drew ?_ | refine Pure.alloc ?_ _ | refine Pure.setCell ?_ (by simp <;> omega) _)) p0, keepP (by repeat (first | assumption | exact Pure.refl _ | refine Pure.drewN ?_ _ | refine Pure.drew ?_ | refine Pure.alloc ?_ _ | refine Pure.setCell ?_ (by simp <;> omega) _)) m0, keepP (by repeat (first | assumption | exact Pure.refl _ | refine Pure.drewN ?_ _ | refine Pure.drew ?_ | refine Pure.alloc ?_ _ | refine Pure.setCell ?_ (by simp <;> omega) _)) m1, keepP (by repeat (first | assumption | exact Pure.refl _ | refine Pure.drewN ?_ _ | refine Pure.drew ?_ | refine Pure.alloc ?_ _ | refine Pure.setCell ?_ (by simp <;> omega) _)) g0, keepP (by repeat (first | assumption | exact Pure.refl _ | refine Pure.drewN ?_ _ | refine Pure.drew ?_ | refine Pure.alloc ?_ _ | refine Pure.setCell ?_ (by simp <;> omega) _)) c0, keepP (by repeat (first | assumption | exact Pure.refl _ | refine Pure.drewN ?_ _ | refine Pure.drew ?_ | refine Pure.alloc ?_ _ | refine Pure.setCell ?_ (by simp <;> omega) _)) c1, keepP (by repeat (first | assumption | exact Pure.refl _ | refine Pure.drewN ?_ _ | refine Pure.drew ?_ | refine Pure.alloc ?_ _ | refine Pure.setCell ?_ (by simp <;> omega) _)) c2, keepP (by repeat (first | assumption | exact Pure.refl _ | refine Pure.drewN ?_ _ | refine Pure.drew ?_ | refine Pure.alloc ?_ _ | refine Pure.setCell ?_ (by simp <;> omega) _)) c3⟩) ?_
          unfold Tail
          go_wp2
          refine And.intro (by exact ⟨keepP (by repeat (first | assumption | exact Pure.refl _ | refine Pure.drewN ?_ _ | refine Pure.drew ?_ | refine Pure.alloc ?_ _ | refine Pure.setCell ?_ (by simp <;> omega) _)) p0, keepP (by repeat (first | assumption | exact Pure.refl _ | refine Pure.drewN ?_ _ | refine Pure.drew ?_ | refine Pure.alloc ?_ _ | refine Pure.setCell ?_ (by simp <;> omega) _)) m0, keepP (by repeat (first | assumption | exact Pure.refl _ | refine Pure.drewN ?_ _ | refine Pure.drew ?_ | refine Pure.alloc ?_ _ | refine Pure.setCell ?_ (by simp <;> omega) _)) m1, keepP (by repeat (first | assumption | exact Pure.refl _ | refine Pure.drewN ?_ _ | refine Pure.drew ?_ | refine Pure.alloc ?_ _ | refine Pure.setCell ?_ (by simp <;> omega) _)) g0, keepP (by repeat (first | assumption | exact Pure.refl _ | refine Pure.drewN ?_ _ | refine Pure.drew ?_ | refine Pure.alloc ?_ _ | refine Pure.setCell ?_ (by simp <;> omega) _)) c0, keepP (by repeat (first | assumption | exact Pure.refl _ | refine Pure.drewN ?_ _ | refine Pure.drew ?_ | refine Pure.alloc ?_ _ | refine Pure.setCell ?_ (by simp <;> omega) _)) c1, keepP (by repeat (first | assumption | exact Pure.refl _ | refine Pure.drewN ?_ _ | refine Pure.drew ?_ | refine Pure.alloc ?_ _ | refine Pure.setCell ?_ (by simp <;> omega) _)) c2, keepP (by repeat (first | assumption | exact Pure.refl _ | refine Pure.drewN ?_ _ | refine Pure.drew ?_ | refine Pure.alloc ?_ _ | refine Pure.setCell ?_ (by simp <;> omega) _)) c3⟩) ?_
          unfold Tail
          go_wp2_with fail
          refine (iexec_any o _ vb2 va2 (beat k mask s') k mask ⟨op, ca, cb, cc⟩ HV.out (HR2.out.keep (by exact (by repeat (first | assumption | exact Pure.refl _ | refine Pure.drewN ?_ _ | refine Pure.drew ?_ | refine Pure.alloc ?_ _ | refine Pure.setCell ?_ (by simp <;> omega) _)))) hk Hcd.out HPL.out HMASK.out (by have := Hco.out; have := HB1.out; unfold msz at *; omega) (by have := Hco.out; have := HB1.out; unfold msz at *; omega)).mono ?_
          rintro e w3 ⟨rfl, vb3, va3, hr3, hs3⟩
          have H3 := Lib.hid hr3
          have H3s := Lib.hid (HST2.out.trans ((OStep.of_pure (by exact (by repeat (first | assumption | exact Pure.refl _ | refine Pure.drewN ?_ _ | refine Pure.drew ?_ | refine Pure.alloc ?_ _ | refine Pure.setCell ?_ (by simp <;> omega) _)))).trans hs3))
          clear hr3 hs3
          go_wp2_with fail
          go_roundg tk.len
          case measure => have := Hgk.out; have := Tr.len_op ⟨op, ca, cb, cc⟩ tk; omega
          case rel =>
            have hx := execM_msz ⟨op, ca, cb, cc⟩ (n := o.rm.n) (m := o.rm.m) (mask := mask) (beat k mask s') hn8
            exact ⟨tk, k + 1, _, vb3, va3, rfl, by have := Hto.out; have := Tr.len_op ⟨op, ca, cb, cc⟩ tk; omega, by have := Htl.out; have := Tr.len_op ⟨op, ca, cb, cc⟩ tk; omega, by go_num, Hok.out.2, Hseg.out.op.2.2, by have h1 := Hco.out; have h2 := HB1.out; simp only [Tr.cost] at h1; omega, H3.out, H3s.out, by rw [← Hrun.out]; show _ = (if mask = 0 then _ else _ : LS); rw [if_neg HM0.out]; rfl⟩
        | ite a t1 tk =>
          have hce : (⟨op, ca, cb, cc⟩ : Cd) = cIf a := Hcd.out.symm.trans Hseg.out.ite.1
          injection hce with e1 e2 e3 e4
          subst e1 e2 e3 e4
          obtain ⟨ha0, ha3⟩ := Hok.out.1
          obtain ⟨an, rfl⟩ := Int.eq_ofNat_of_zero_le ha0
          have han : an < 4 := by omega
          have hend := (end_ite Hok.out Hseg.out).1
          have hopn : Opens (o.cs.getD k default) := by rw [Hcd.out]; exact .inl rfl
          obtain ⟨gb, gw0, hgb, e0, e1, e2⟩ := HOWN.out.1 k (by unfold ownOf; rw [if_pos hopn]) hk hopn
          obtain ⟨en, Hen⟩ : ∃ en, Hid (k + 1 + t1.len = en) := ⟨_, rfl⟩
          rw [Hen.out] at hend
          rw [hend] at e1 e2
          have E1 := Lib.hid e1
          have E2 := Lib.hid e2
          clear e1 e2 hend
          have g0 := keepP HR2.out.pure gw0
          clear e0 gw0 hopn
          go_wp2_with fail
          refine region_heldF (fun w' => w'.cell? ⟨o.p, 0, none⟩ = some (.pointer (some ⟨o.pm, 0, none⟩)) ∧ w'.cell? ⟨o.pm, 0, none⟩ = some (.slice (some ⟨b, ob, none⟩) o.cs.length cA) ∧ w'.cell? ⟨o.pm, 1, none⟩ = some (.slice (some ⟨bo, oo, none⟩) o.cs.length co) ∧ w'.cell? ⟨bo, oo + k, none⟩ = some (.pointer (some ⟨gb, 0, none⟩)) ∧ w'.cell? ⟨b, ob + k * 4, none⟩ = some (.int .i64 11) ∧ w'.cell? ⟨b, ob + k * 4 + 1, none⟩ = some (.int .i64 an) ∧ w'.cell? ⟨b, ob + k * 4 + 2, none⟩ = some (.int .i64 0) ∧ w'.cell? ⟨b, ob + k * 4 + 3, none⟩ = some (.int .i64 0))
            (List.range 20) [20, 21, 22] (fun l => List.take 20 l) (fun l => List.drop 20 l) (by kernel_rfl) (by kernel_rfl) (by kernel_rfl) (by kernel_rfl) (fun c a d v w h => by cases d <;> exact h) (by exact ⟨p0, m0, m1, g0, c0, c1, c2, c3⟩) ?_
          simp only [List.take_succ_cons, List.take_zero, List.drop_succ_cons, List.drop_zero]
          iterate 20
            apply held_of
            · exact rfl
            · intro w' hS
              obtain ⟨s0, s1, s2, s3, s4, s5, s6, s7⟩ := hS
              go_simp
              try exact rfl
            try go_simp
          refine held_nil ?_
          unfold Tail
          go_wp2
          refine And.intro (by exact ⟨keepP (by repeat (first | assumption | exact Pure.refl _ | refine Pure.drewN ?_ _ | refine Pure.drew ?_ | refine Pure.alloc ?_ _ | refine Pure.setCell ?_ (by simp <;> omega) _)) p0, keepP (by repeat (first | assumption | exact Pure.refl _ | refine Pure.drewN ?_ _ | refine Pure.drew ?_ | refine Pure.alloc ?_ _ | refine Pure.setCell ?_ (by simp <;> omega) _)) m0, keepP (by repeat (first | assumption | exact Pure.refl _ | refine Pure.drewN ?_ _ | refine Pure.drew ?_ | refine Pure.alloc ?_ _ | refine Pure.setCell ?_ (by simp <;> omega) _)) m1, keepP (by repeat (first | assumption | exact Pure.refl _ | refine Pure.drewN ?_ _ | refine Pure.drew ?_ | refine Pure.alloc ?_ _ | refine Pure.setCell ?_ (by simp <;> omega) _)) g0, keepP (by repeat (first | assumption | exact Pure.refl _ | refine Pure.drewN ?_ _ | refine Pure.drew ?_ | refine Pure.alloc ?_ _ | refine Pure.setCell ?_ (by simp <;> omega) _)) c0, keepP (by repeat (first | assumption | exact Pure.refl _ | refine Pure.drewN ?_ _ | refine Pure.drew ?_ | refine Pure.alloc ?_ _ | refine Pure.setCell ?_ (by simp <;> omega) _)) c1, keepP (by repeat (first | assumption | exact Pure.refl _ | refine Pure.drewN ?_ _ | refine Pure.drew ?_ | refine Pure.alloc ?_ _ | refine Pure.setCell ?_ (by simp <;> omega) _)) c2, keepP (by repeat (first | assumption | exact Pure.refl _ | refine Pure.drewN ?_ _ | refine Pure.drew ?_ | refine Pure.alloc ?_ _ | refine Pure.setCell ?_ (by simp <;> omega) _)) c3⟩) ?_
          unfold Tail
          go_wp2
          refine And.intro (by exact ⟨keepP (by repeat (first | assumption | exact Pure.refl _ | refine Pure.drewN ?_ _ | refine Pure.drew ?_ | refine Pure.alloc ?_ _ | refine Pure.setCell ?_ (by simp <;> omega) _)) p0, keepP (by repeat (first | assumption | exact Pure.refl _ | refine Pure.drewN ?_ _ | refine Pure.drew ?_ | refine Pure.alloc ?_ _ | refine Pure.setCell ?_ (by simp <;> omega) _)) m0, keepP (by repeat (first | assumption | exact Pure.refl _ | refine Pure.drewN ?_ _ | refine Pure.drew ?_ | refine Pure.alloc ?_ _ | refine Pure.setCell ?_ (by simp <;> omega) _)) m1, keepP (by repeat (first | assumption | exact Pure.refl _ | refine Pure.drewN ?_ _ | refine Pure.drew ?_ | refine Pure.alloc ?_ _ | refine Pure.setCell ?_ (by simp <;> omega) _)) g0, keepP (by repeat (first | assumption | exact Pure.refl _ | refine Pure.drewN ?_ _ | refine Pure.drew ?_ | refine Pure.alloc ?_ _ | refine Pure.setCell ?_ (by simp <;> omega) _)) c0, keepP (by repeat (first | assumption | exact Pure.refl _ | refine Pure.drewN ?_ _ | refine Pure.drew ?_ | refine Pure.alloc ?_ _ | refine Pure.setCell ?_ (by simp <;> omega) _)) c1, keepP (by repeat (first | assumption | exact Pure.refl _ | refine Pure.drewN ?_ _ | refine Pure.drew ?_ | refine Pure.alloc ?_ _ | refine Pure.setCell ?_ (by simp <;> omega) _)) c2, keepP (by repeat (first | assumption | exact Pure.refl _ | refine Pure.drewN ?_ _ | refine Pure.drew ?_ | refine Pure.alloc ?_ _ | refine Pure.setCell ?_ (by simp <;> omega) _)) c3⟩) ?_
          unfold Tail
          go_wp2_with fail
          refine (iact_any o _ vb2 va2 _ s'.R s'.M mask an (HR2.out.obj.pure (by exact (by repeat (first | assumption | exact Pure.refl _ | refine Pure.drewN ?_ _ | refine Pure.drew ?_ | refine Pure.alloc ?_ _ | refine Pure.setCell ?_ (by simp <;> omega) _)))) (HR2.out.rm.pure (by exact (by repeat (first | assumption | exact Pure.refl _ | refine Pure.drewN ?_ _ | refine Pure.drew ?_ | refine Pure.alloc ?_ _ | refine Pure.setCell ?_ (by simp <;> omega) _)))) HMASK.out han).mono ?_
          rintro e w3 ⟨rfl, hp3⟩
          have hp23 : Pure w2 w3 := Pure.trans (by exact (by repeat (first | assumption | exact Pure.refl _ | refine Pure.drewN ?_ _ | refine Pure.drew ?_ | refine Pure.alloc ?_ _ | refine Pure.setCell ?_ (by simp <;> omega) _))) hp3
          have HR3 := Lib.hid (HR2.out.keep hp23)
          have HST3 := Lib.hid (HST2.out.trans (OStep.of_pure hp23))
          obtain ⟨y, Hy⟩ : ∃ y, Hid (onesTo s'.R mask an o.rm.n = y) := ⟨_, rfl⟩
          have hy : y < 2 ^ o.rm.n := by rw [← Hy.out]; exact onesTo_lt _ _ _ _
          have hy256 := Nat.lt_of_lt_of_le hy (powI hn8)
          have HYM := Lib.hid hy
          rw [Hy.out]
          have q1 := keepP HR3.out.pure E1.out
          have q2 := keepP HR3.out.pure E2.out
          clear hy hp3 hp23 p0 m0 m1 g0 c0 c1 c2 c3
          have hen1 : en < o.cs.length := by rw [← Hen.out]; exact Hseg.out.ite.2.2.2.1
          have HL := Lib.hid (Tr.len_ite (an : Int) t1 tk)
          have HCC : Hid (msz s' + 10 * (1 + t1.cost + tk.cost) ≤ 1099511627000) := Hco
          have hc1 := Lib.hid (run_msz o.rm.n o.rm.m hn8 t1 (k + 1) y (beat k mask s'))
          go_wp2_with fail
          refine (HIH.out t1 (k + 1) y (beat k mask s') vb2 va2 _ _ _ (by have := HL.out; have := HSZ.out; have := Htl.out; omega) Hok.out.2.1 Hseg.out.ite.2.1 (by have := Hen.out;  omega) HYM.out (by have h1 := HCC.out; have h2 := HB1.out; omega) (by have h := UH.ite HUR.out HM0.out; rw [Int.toNat_natCast, Hy.out] at h; exact h) HR3.out (by omega) (by have := Hen.out;  omega)).mono ?_
          rintro e w4 ⟨rfl, vb4, va4, hr4, hs4⟩
          have H4 := Lib.hid hr4
          have H4s := Lib.hid (HST3.out.trans hs4)
          have q2 := keepP hr4.pure E2.out
          clear hr4 hs4 q1
          go_wp2_with fail
          go_roundg tk.len
          case measure => have := Hgk.out; have := HL.out; omega
          case rel =>
            exact ⟨tk, en + 1, _, vb4, va4, rfl, by have := Hto.out; have := HL.out; have := Hen.out; omega, by have := Htl.out; have := HL.out; omega, by go_num, Hok.out.2.2, by rw [← Hen.out]; exact Hseg.out.ite.2.2.2.2, by have h1 := HCC.out; have h2 := HB1.out; have h3 := hc1.out; omega, H4.out, H4s.out, by rw [← Hrun.out, ← Hen.out]; show _ = (if mask = 0 then _ else _ : LS); rw [if_neg HM0.out, Int.toNat_natCast, Hy.out]⟩
        | itee a t1 t2 tk =>
          have hce : (⟨op, ca, cb, cc⟩ : Cd) = cIf a := Hcd.out.symm.trans Hseg.out.itee.1
          injection hce with e1 e2 e3 e4
          subst e1 e2 e3 e4
          obtain ⟨ha0, ha3⟩ := Hok.out.1
          obtain ⟨an, rfl⟩ := Int.eq_ofNat_of_zero_le ha0
          have han : an < 4 := by omega
          have hend := (end_itee Hok.out Hseg.out).1
          have hopn : Opens (o.cs.getD k default) := by rw [Hcd.out]; exact .inl rfl
          obtain ⟨gb, gw0, hgb, e0, e1, e2⟩ := HOWN.out.1 k (by unfold ownOf; rw [if_pos hopn]) hk hopn
          obtain ⟨on, Hon⟩ : ∃ on, Hid (k + 1 + t1.len = on) := ⟨_, rfl⟩
          obtain ⟨en, Hen⟩ : ∃ en, Hid (k + 1 + t1.len + 1 + t2.len = en) := ⟨_, rfl⟩
          rw [Hen.out, Hon.out] at hend
          rw [hend] at e1 e2
          have E1 := Lib.hid e1
          have E2 := Lib.hid e2
          clear e1 e2 hend
          have g0 := keepP HR2.out.pure gw0
          clear e0 gw0 hopn
          go_wp2_with fail
          refine region_heldF (fun w' => w'.cell? ⟨o.p, 0, none⟩ = some (.pointer (some ⟨o.pm, 0, none⟩)) ∧ w'.cell? ⟨o.pm, 0, none⟩ = some (.slice (some ⟨b, ob, none⟩) o.cs.length cA) ∧ w'.cell? ⟨o.pm, 1, none⟩ = some (.slice (some ⟨bo, oo, none⟩) o.cs.length co) ∧ w'.cell? ⟨bo, oo + k, none⟩ = some (.pointer (some ⟨gb, 0, none⟩)) ∧ w'.cell? ⟨b, ob + k * 4, none⟩ = some (.int .i64 11) ∧ w'.cell? ⟨b, ob + k * 4 + 1, none⟩ = some (.int .i64 an) ∧ w'.cell? ⟨b, ob + k * 4 + 2, none⟩ = some (.int .i64 0) ∧ w'.cell? ⟨b, ob + k * 4 + 3, none⟩ = some (.int .i64 0))
            (List.range 20) [20, 21, 22] (fun l => List.take 20 l) (fun l => List.drop 20 l) (by kernel_rfl) (by kernel_rfl) (by kernel_rfl) (by kernel_rfl) (fun c a d v w h => by cases d <;> exact h) (by exact ⟨p0, m0, m1, g0, c0, c1, c2, c3⟩) ?_
          simp only [List.take_succ_cons, List.take_zero, List.drop_succ_cons, List.drop_zero]
          iterate 20
            apply held_of
            · exact rfl
            · intro w' hS
              obtain ⟨s0, s1, s2, s3, s4, s5, s6, s7⟩ := hS
              go_simp
              try exact rfl
            try go_simp
          refine held_nil ?_
          unfold Tail
          go_wp2
          refine And.intro (by exact ⟨keepP (by repeat (first | assumption | exact Pure.refl _ | refine Pure.drewN ?_ _ | refine Pure.drew ?_ | refine Pure.alloc ?_ _ | refine Pure.setCell ?_ (by simp <;> omega) _)) p0, keepP (by repeat (first | assumption | exact Pure.refl _ | refine Pure.drewN ?_ _ | refine Pure.drew ?_ | refine Pure.alloc ?_ _ | refine Pure.setCell ?_ (by simp <;> omega) _)) m0, keepP (by repeat (first | assumption | exact Pure.refl _ | refine Pure.drewN ?_ _ | refine Pure.drew ?_ | refine Pure.alloc ?_ _ | refine Pure.setCell ?_ (by simp <;> omega) _)) m1, keepP (by repeat (first | assumption | exact Pure.refl _ | refine Pure.drewN ?_ _ | refine Pure.drew ?_ | refine Pure.alloc ?_ _ | refine Pure.setCell ?_ (by simp <;> omega) _)) g0, keepP (by repeat (first | assumption | exact Pure.refl _ | refine Pure.drewN ?_ _ | refine Pure.drew ?_ | refine Pure.alloc ?_ _ | refine Pure.setCell ?_ (by simp <;> omega) _)) c0, keepP (by repeat (first | assumption | exact Pure.refl _ | refine Pure.drewN ?_ _ | refine Pure.drew ?_ | refine Pure.alloc ?_ _ | refine Pure.setCell ?_ (by simp <;> omega) _)) c1, keepP (by repeat (first | assumption | exact Pure.refl _ | refine Pure.drewN ?_ _ | refine Pure.drew ?_ | refine Pure.alloc ?_ _ | refine Pure.setCell ?_ (by simp <;> omega) _)) c2, keepP (by repeat (first | assumption | exact Pure.refl _ | refine Pure.drewN ?_ _ | refine Pure.drew ?_ | refine Pure.alloc ?_ _ | refine Pure.setCell ?_ (by simp <;> omega) _)) c3⟩) ?_
          unfold Tail
          go_wp2
          refine And.intro (by exact ⟨keepP (by repeat (first | assumption | exact Pure.refl _ | refine Pure.drewN ?_ _ | refine Pure.drew ?_ | refine Pure.alloc ?_ _ | refine Pure.setCell ?_ (by simp <;> omega) _)) p0, keepP (by repeat (first | assumption | exact Pure.refl _ | refine Pure.drewN ?_ _ | refine Pure.drew ?_ | refine Pure.alloc ?_ _ | refine Pure.setCell ?_ (by simp <;> omega) _)) m0, keepP (by repeat (first | assumption | exact Pure.refl _ | refine Pure.drewN ?_ _ | refine Pure.drew ?_ | refine Pure.alloc ?_ _ | refine Pure.setCell ?_ (by simp <;> omega) _)) m1, keepP (by repeat (first | assumption | exact Pure.refl _ | refine Pure.drewN ?_ _ | refine Pure.drew ?_ | refine Pure.alloc ?_ _ | refine Pure.setCell ?_ (by simp <;> omega) _)) g0, keepP (by repeat (first | assumption | exact Pure.refl _ | refine Pure.drewN ?_ _ | refine Pure.drew ?_ | refine Pure.alloc ?_ _ | refine Pure.setCell ?_ (by simp <;> omega) _)) c0, keepP (by repeat (first | assumption | exact Pure.refl _ | refine Pure.drewN ?_ _ | refine Pure.drew ?_ | refine Pure.alloc ?_ _ | refine Pure.setCell ?_ (by simp <;> omega) _)) c1, keepP (by repeat (first | assumption | exact Pure.refl _ | refine Pure.drewN ?_ _ | refine Pure.drew ?_ | refine Pure.alloc ?_ _ | refine Pure.setCell ?_ (by simp <;> omega) _)) c2, keepP (by repeat (first | assumption | exact Pure.refl _ | refine Pure.drewN ?_ _ | refine Pure.drew ?_ | refine Pure.alloc ?_ _ | refine Pure.setCell ?_ (by simp <;> omega) _)) c3⟩) ?_
          unfold Tail
          go_wp2_with fail
          refine (iact_any o _ vb2 va2 _ s'.R s'.M mask an (HR2.out.obj.pure (by exact (by repeat (first | assumption | exact Pure.refl _ | refine Pure.drewN ?_ _ | refine Pure.drew ?_ | refine Pure.alloc ?_ _ | refine Pure.setCell ?_ (by simp <;> omega) _)))) (HR2.out.rm.pure (by exact (by repeat (first | assumption | exact Pure.refl _ | refine Pure.drewN ?_ _ | refine Pure.drew ?_ | refine Pure.alloc ?_ _ | refine Pure.setCell ?_ (by simp <;> omega) _)))) HMASK.out han).mono ?_
          rintro e w3 ⟨rfl, hp3⟩
          have hp23 : Pure w2 w3 := Pure.trans (by exact (by repeat (first | assumption | exact Pure.refl _ | refine Pure.drewN ?_ _ | refine Pure.drew ?_ | refine Pure.alloc ?_ _ | refine Pure.setCell ?_ (by simp <;> omega) _))) hp3
          have HR3 := Lib.hid (HR2.out.keep hp23)
          have HST3 := Lib.hid (HST2.out.trans (OStep.of_pure hp23))
          obtain ⟨y, Hy⟩ : ∃ y, Hid (onesTo s'.R mask an o.rm.n = y) := ⟨_, rfl⟩
          have hy : y < 2 ^ o.rm.n := by rw [← Hy.out]; exact onesTo_lt _ _ _ _
          have hy256 := Nat.lt_of_lt_of_le hy (powI hn8)
          have HYM := Lib.hid hy
          rw [Hy.out]
          have q1 := keepP HR3.out.pure E1.out
          have q2 := keepP HR3.out.pure E2.out
          clear hy hp3 hp23 p0 m0 m1 g0 c0 c1 c2 c3
          have hen1 : en < o.cs.length := by rw [← Hen.out]; exact Hseg.out.itee.2.2.2.2.2.1
          have hon1 : on < en := by have := Hen.out; have := Hon.out; omega
          have HL := Lib.hid (Tr.len_itee (an : Int) t1 t2 tk)
          have HCC : Hid (msz s' + 10 * (1 + t1.cost + t2.cost + tk.cost) ≤ 1099511627000) := Hco
          have hc1 := Lib.hid (run_msz o.rm.n o.rm.m hn8 t1 (k + 1) y (beat k mask s'))
          go_wp2_with fail
          refine (HIH.out t1 (k + 1) y (beat k mask s') vb2 va2 _ _ _ (by have := HL.out; have := HSZ.out; have := Htl.out; omega) Hok.out.2.1 Hseg.out.itee.2.1 (by have := Hen.out; have := Hon.out; omega) HYM.out (by have h1 := HCC.out; have h2 := HB1.out; omega) (by have h := (UH.itee HUR.out HM0.out).1; rw [Int.toNat_natCast, Hy.out] at h; exact h) HR3.out (by omega) (by have := Hen.out; have := Hon.out; omega)).mono ?_
          rintro e w4 ⟨rfl, vb4, va4, hr4, hs4⟩
          have H4 := Lib.hid hr4
          have H4s := Lib.hid (HST3.out.trans hs4)
          have q1 := keepP hr4.pure E1.out
          have q2 := keepP hr4.pure E2.out
          obtain ⟨d, Hd⟩ : ∃ d, Hid (del mask y = d) := ⟨_, rfl⟩
          have hdel : bits .andNot .i64 (mask : Int) (y : Int) = (d : Int) := by rw [bits_andNot (by omega) (by omega)]; exact congrArg _ Hd.out
          have HDM : Hid (d < 2 ^ o.rm.n) := Lib.hid (by rw [← Hd.out]; exact del_lt2 y HMASK.out)
          have hc2 := Lib.hid (run_msz o.rm.n o.rm.m hn8 t2 (on + 1) d (run o.rm.n o.rm.m t1 (k + 1) y (beat k mask s')))
          clear hr4 hs4
          go_wp2_with fail
          refine region_tail 13 (by kernel_rfl) (by kernel_rfl) ?_
          simp only [List.take_succ_cons, List.take_zero, List.drop_succ_cons, List.drop_zero]
          repeat still_step
          refine wpStill_nil ?_
          go_wp2_with fail
          refine (HIH.out t2 (on + 1) d (run o.rm.n o.rm.m t1 (k + 1) y (beat k mask s')) vb4 va4 _ _ _ (by have := HL.out; have := HSZ.out; have := Htl.out; omega) Hok.out.2.2.1 (by rw [← Hon.out]; exact Hseg.out.itee.2.2.2.1) (by have := Hen.out; have := Hon.out; omega) HDM.out (by have h1 := HCC.out; have h2 := HB1.out; have h3 := hc1.out; omega) (by have h := (UH.itee HUR.out HM0.out).2; rw [Int.toNat_natCast, Hy.out, Hd.out, Hon.out] at h; exact h) (H4.out.keep (by exact (by repeat (first | assumption | exact Pure.refl _ | refine Pure.drewN ?_ _ | refine Pure.drew ?_ | refine Pure.alloc ?_ _ | refine Pure.setCell ?_ (by simp <;> omega) _)))) (by omega) (by have := Hen.out; have := Hon.out; omega)).mono ?_
          rintro e w5 ⟨rfl, vb5, va5, hr5, hs5⟩
          have H5 := Lib.hid hr5
          have H5s := Lib.hid ((H4s.out.trans (OStep.of_pure (show Pure w4 w4.drew from (by repeat (first | assumption | exact Pure.refl _ | refine Pure.drewN ?_ _ | refine Pure.drew ?_ | refine Pure.alloc ?_ _ | refine Pure.setCell ?_ (by simp <;> omega) _))))).trans hs5)
          have q2 := keepP hr5.pure E2.out
          clear hr5 hs5 q1
          go_wp2_with fail
          go_roundg tk.len
          case measure => have := Hgk.out; have := HL.out; omega
          case rel =>
            exact ⟨tk, en + 1, _, vb5, va5, rfl, by have := Hto.out; have := HL.out; have := Hen.out; omega, by have := Htl.out; have := HL.out; omega, by go_num, Hok.out.2.2.2, by rw [← Hen.out]; exact Hseg.out.itee.2.2.2.2.2.2, by have h1 := HCC.out; have h2 := HB1.out; have h3 := hc1.out; have h4 := hc2.out; omega, H5.out, H5s.out, by rw [← Hrun.out, ← Hen.out, ← Hon.out]; show _ = (if mask = 0 then _ else _ : LS); rw [if_neg HM0.out, Int.toNat_natCast, Hy.out, Hd.out]⟩
        | loop a lb t1 tk =>
          have hce : (⟨op, ca, cb, cc⟩ : Cd) = cLoop a lb := Hcd.out.symm.trans Hseg.out.loop.1
          injection hce with e1 e2 e3 e4
          subst e1 e2 e3 e4
          obtain ⟨ha0, ha3⟩ := Hok.out.1
          obtain ⟨an, rfl⟩ := Int.eq_ofNat_of_zero_le ha0
          have han : an < 4 := by omega
          have hend := (end_loop Hok.out Hseg.out).1
          have hopn : Opens (o.cs.getD k default) := by rw [Hcd.out]; exact .inr rfl
          obtain ⟨gb, gw0, hgb, e0, e1, e2⟩ := HOWN.out.1 k (by unfold ownOf; rw [if_pos hopn]) hk hopn
          obtain ⟨hb1, hb4⟩ := Hok.out.2.1
          obtain ⟨bn, rfl⟩ := Int.eq_ofNat_of_zero_le (show (0 : Int) ≤ cb by omega)
          obtain ⟨en, Hen⟩ : ∃ en, Hid (k + 1 + t1.len = en) := ⟨_, rfl⟩
          rw [Hen.out] at hend
          rw [hend] at e1 e2
          have E1 := Lib.hid e1
          have E2 := Lib.hid e2
          clear e1 e2 hend
          have g0 := keepP HR2.out.pure gw0
          clear e0 gw0 hopn
          go_wp2_with fail
          refine region_heldF (fun w' => w'.cell? ⟨o.p, 0, none⟩ = some (.pointer (some ⟨o.pm, 0, none⟩)) ∧ w'.cell? ⟨o.pm, 0, none⟩ = some (.slice (some ⟨b, ob, none⟩) o.cs.length cA) ∧ w'.cell? ⟨o.pm, 1, none⟩ = some (.slice (some ⟨bo, oo, none⟩) o.cs.length co) ∧ w'.cell? ⟨bo, oo + k, none⟩ = some (.pointer (some ⟨gb, 0, none⟩)) ∧ w'.cell? ⟨b, ob + k * 4, none⟩ = some (.int .i64 13) ∧ w'.cell? ⟨b, ob + k * 4 + 1, none⟩ = some (.int .i64 an) ∧ w'.cell? ⟨b, ob + k * 4 + 2, none⟩ = some (.int .i64 bn) ∧ w'.cell? ⟨b, ob + k * 4 + 3, none⟩ = some (.int .i64 0))
            (List.range 20) [20, 21, 22] (fun l => List.take 20 l) (fun l => List.drop 20 l) (by kernel_rfl) (by kernel_rfl) (by kernel_rfl) (by kernel_rfl) (fun c a d v w h => by cases d <;> exact h) (by exact ⟨p0, m0, m1, g0, c0, c1, c2, c3⟩) ?_
          simp only [List.take_succ_cons, List.take_zero, List.drop_succ_cons, List.drop_zero]
          iterate 20
            apply held_of
            · exact rfl
            · intro w' hS
              obtain ⟨s0, s1, s2, s3, s4, s5, s6, s7⟩ := hS
              go_simp
              try exact rfl
            try go_simp
          refine held_nil ?_
          unfold Tail
          go_wp2
          refine And.intro (by exact ⟨keepP (by repeat (first | assumption | exact Pure.refl _ | refine Pure.drewN ?_ _ | refine Pure.drew ?_ | refine Pure.alloc ?_ _ | refine Pure.setCell ?_ (by simp <;> omega) _)) p0, keepP (by repeat (first | assumption | exact Pure.refl _ | refine Pure.drewN ?_ _ | refine Pure.drew ?_ | refine Pure.alloc ?_ _ | refine Pure.setCell ?_ (by simp <;> omega) _)) m0, keepP (by repeat (first | assumption | exact Pure.refl _ | refine Pure.drewN ?_ _ | refine Pure.drew ?_ | refine Pure.alloc ?_ _ | refine Pure.setCell ?_ (by simp <;> omega) _)) m1, keepP (by repeat (first | assumption | exact Pure.refl _ | refine Pure.drewN ?_ _ | refine Pure.drew ?_ | refine Pure.alloc ?_ _ | refine Pure.setCell ?_ (by simp <;> omega) _)) g0, keepP (by repeat (first | assumption | exact Pure.refl _ | refine Pure.drewN ?_ _ | refine Pure.drew ?_ | refine Pure.alloc ?_ _ | refine Pure.setCell ?_ (by simp <;> omega) _)) c0, keepP (by repeat (first | assumption | exact Pure.refl _ | refine Pure.drewN ?_ _ | refine Pure.drew ?_ | refine Pure.alloc ?_ _ | refine Pure.setCell ?_ (by simp <;> omega) _)) c1, keepP (by repeat (first | assumption | exact Pure.refl _ | refine Pure.drewN ?_ _ | refine Pure.drew ?_ | refine Pure.alloc ?_ _ | refine Pure.setCell ?_ (by simp <;> omega) _)) c2, keepP (by repeat (first | assumption | exact Pure.refl _ | refine Pure.drewN ?_ _ | refine Pure.drew ?_ | refine Pure.alloc ?_ _ | refine Pure.setCell ?_ (by simp <;> omega) _)) c3⟩) ?_
          unfold Tail
          go_wp2
          refine And.intro (by exact ⟨keepP (by repeat (first | assumption | exact Pure.refl _ | refine Pure.drewN ?_ _ | refine Pure.drew ?_ | refine Pure.alloc ?_ _ | refine Pure.setCell ?_ (by simp <;> omega) _)) p0, keepP (by repeat (first | assumption | exact Pure.refl _ | refine Pure.drewN ?_ _ | refine Pure.drew ?_ | refine Pure.alloc ?_ _ | refine Pure.setCell ?_ (by simp <;> omega) _)) m0, keepP (by repeat (first | assumption | exact Pure.refl _ | refine Pure.drewN ?_ _ | refine Pure.drew ?_ | refine Pure.alloc ?_ _ | refine Pure.setCell ?_ (by simp <;> omega) _)) m1, keepP (by repeat (first | assumption | exact Pure.refl _ | refine Pure.drewN ?_ _ | refine Pure.drew ?_ | refine Pure.alloc ?_ _ | refine Pure.setCell ?_ (by simp <;> omega) _)) g0, keepP (by repeat (first | assumption | exact Pure.refl _ | refine Pure.drewN ?_ _ | refine Pure.drew ?_ | refine Pure.alloc ?_ _ | refine Pure.setCell ?_ (by simp <;> omega) _)) c0, keepP (by repeat (first | assumption | exact Pure.refl _ | refine Pure.drewN ?_ _ | refine Pure.drew ?_ | refine Pure.alloc ?_ _ | refine Pure.setCell ?_ (by simp <;> omega) _)) c1, keepP (by repeat (first | assumption | exact Pure.refl _ | refine Pure.drewN ?_ _ | refine Pure.drew ?_ | refine Pure.alloc ?_ _ | refine Pure.setCell ?_ (by simp <;> omega) _)) c2, keepP (by repeat (first | assumption | exact Pure.refl _ | refine Pure.drewN ?_ _ | refine Pure.drew ?_ | refine Pure.alloc ?_ _ | refine Pure.setCell ?_ (by simp <;> omega) _)) c3⟩) ?_
          unfold Tail
          have hen1 : en < o.cs.length := by rw [← Hen.out]; exact Hseg.out.loop.2.2.2.1
          have HL := Lib.hid (Tr.len_loop (an : Int) (bn : Int) t1 tk)
          have HXW := Lib.hid (BoxI.alloc w2 ⟨13, an, bn, 0⟩)
          have HCC : Hid (msz s' + 10 * (1 + bn * t1.cost + tk.cost) ≤ 1099511627000) := Hco
          clear c0 c1 c2 c3 p0 m0 m1 g0
          go_wp2_with fail
          go_loopg [106, 12] bn (fun g2 i l wr => ∃ (j y2 : Nat) (s2 : LS) (vb5 va5 : Value), g2 + j = bn ∧ i = .int .i64 j ∧ l = .int .i64 y2 ∧ y2 < 2 ^ o.rm.n ∧ ORun o wr vb5 va5 s2 ∧ OStep o w2 vb2 va2 wr vb5 va5 ∧ BoxI wr w2.heap.size ⟨13, an, bn, 0⟩ ∧ ¬ o.own vb5 va5 w2.heap.size ∧ msz s2 + 10 * (g2 * t1.cost) + 10 * tk.cost ≤ 1099511627000 ∧ turns (run o.rm.n o.rm.m t1 (k + 1)) o.rm.n an bn mask (beat k mask s') = turns (run o.rm.n o.rm.m t1 (k + 1)) o.rm.n an g2 y2 s2)
          case atStart => exact ⟨0, mask, beat k mask s', vb2, va2, rfl, rfl, rfl, HMASK.out, HR2.out.keep (by exact (by repeat (first | assumption | exact Pure.refl _ | refine Pure.drewN ?_ _ | refine Pure.drew ?_ | refine Pure.alloc ?_ _ | refine Pure.setCell ?_ (by simp <;> omega) _))), OStep.of_pure (by exact (by repeat (first | assumption | exact Pure.refl _ | refine Pure.drewN ?_ _ | refine Pure.drew ?_ | refine Pure.alloc ?_ _ | refine Pure.setCell ?_ (by simp <;> omega) _))), HXW.out.pure (by exact (by repeat (first | assumption | exact Pure.refl _ | refine Pure.drewN ?_ _ | refine Pure.drew ?_ | refine Pure.alloc ?_ _ | refine Pure.setCell ?_ (by simp <;> omega) _))), HNO.out, by have h1 := HCC.out; have h2 := HB1.out; generalize bn * t1.cost = X at h1 ⊢; omega, rfl⟩
          case round =>
            obtain ⟨j, y2, s2, vb5, va5, hg2, rfl, rfl, hy2, hr5, hs5, hx5, hno5, hc5, ht5⟩ := hrel
            have Hg2 := Lib.hid hg2
            have HY2 := Lib.hid hy2
            have HR5 := Lib.hid hr5
            have HS5 := Lib.hid hs5
            have HX5 := Lib.hid hx5
            have HN5 := Lib.hid hno5
            have HC5 := Lib.hid hc5
            have HT5 := Lib.hid ht5
            have hjn : j ≤ bn := by omega
            have q2 := keepP hr5.pure E2.out
            have hby := hx5.lt
            obtain ⟨y0, y1, y2', y3⟩ := hx5
            clear hg2 hy2 hr5 hs5 hno5 hc5 ht5
            simp only at y0 y1 y2' y3
            by_cases hjb : j < bn
            · obtain ⟨g3, rfl⟩ : ∃ g3, gk = g3 + 1 := ⟨gk - 1, by have := Hg2.out; omega⟩
              have HC9 : Hid (msz s2 + 10 * (g3 * t1.cost + t1.cost) + 10 * tk.cost ≤ 1099511627000) := Lib.hid (by have h := HC5.out; rw [show (g3 + 1) * t1.cost = g3 * t1.cost + t1.cost from Nat.succ_mul g3 t1.cost] at h; exact h)
              go_wp2_with fail
              refine (iact_any o _ vb5 va5 _ s2.R s2.M y2 an HR5.out.obj HR5.out.rm HY2.out han).mono ?_
              rintro e w6 ⟨rfl, hp6⟩
              have HR6 := Lib.hid (HR5.out.keep hp6)
              have HX6 := Lib.hid (HX5.out.pure hp6)
              have HS6 := Lib.hid (HS5.out.trans (OStep.of_pure hp6))
              obtain ⟨yn, Hyn⟩ : ∃ yn, Hid (onesTo s2.R y2 an o.rm.n = yn) := ⟨_, rfl⟩
              have HYN : Hid (yn < 2 ^ o.rm.n) := Lib.hid (by rw [← Hyn.out]; exact onesTo_lt _ _ _ _)
              rw [Hyn.out]
              have hc1 := Lib.hid (run_msz o.rm.n o.rm.m hn8 t1 (k + 1) yn s2)
              have q3 := keepP HR6.out.pure E2.out
              clear hp6 q2 y0 y1 y2' y3
              go_wp2_with fail
              refine (HIH.out t1 (k + 1) yn s2 vb5 va5 _ _ _ (by have := HL.out; have := HSZ.out; have := Htl.out; omega) Hok.out.2.2.1 Hseg.out.loop.2.1 (by have := Hen.out;  omega) HYN.out (by have h := HC9.out; generalize g3 * t1.cost = X at h; omega) (by have h := UH.loop HUR.out HM0.out; rw [Int.toNat_natCast, Int.toNat_natCast, HT5.out, turns_succ, Hyn.out] at h; exact UH.turn h) HR6.out (by omega) (by have := Hen.out;  omega)).mono ?_
              rintro e w7 ⟨rfl, vb7, va7, hr7, hs7⟩
              have H7 := Lib.hid hr7
              have H7s := Lib.hid (HS6.out.trans hs7)
              have H7x := Lib.hid (HX6.out.step hs7 HN5.out)
              have H7n := Lib.hid (IObj.own_lies HN5.out hs7.2.1 hs7.2.2 HX6.out.lt)
              clear hr7 hs7
              go_wp2_with fail
              go_roundg g3
              case measure => omega
              case rel =>
                exact ⟨j + 1, yn, _, vb7, va7, by have := Hg2.out; omega, by go_num, rfl, HYN.out, H7.out, H7s.out, H7x.out, H7n.out, by have h := HC9.out; have h1 := hc1.out; generalize g3 * t1.cost = X at h ⊢; omega, by rw [HT5.out, turns_succ, Hyn.out]⟩
            · have hz : gk = 0 := by have := Hg2.out; omega
              have hfin : turns (run o.rm.n o.rm.m t1 (k + 1)) o.rm.n an bn mask (beat k mask s') = s2 := by rw [HT5.out, hz]; rfl
              have Hfin := Lib.hid hfin
              have HC3 : Hid (msz s2 + 10 * tk.cost ≤ 1099511627000) := Lib.hid (by have h := HC5.out; generalize gk * t1.cost = X at h; omega)
              clear hfin hz
              go_wp2_with fail
              go_roundg tk.len
              case measure => have := Hgk.out; have := HL.out; omega
              case rel =>
                exact ⟨tk, en + 1, _, vb5, va5, rfl, by have := Hto.out; have := HL.out; have := Hen.out; omega, by have := Htl.out; have := HL.out; omega, by go_num, Hok.out.2.2.2, by rw [← Hen.out]; exact Hseg.out.loop.2.2.2.2, HC3.out, HR5.out, HST2.out.trans HS5.out, by rw [← Hrun.out, ← Hen.out]; show _ = (if mask = 0 then _ else _ : LS); rw [if_neg HM0.out, Int.toNat_natCast, Int.toNat_natCast, Hfin.out]⟩

end Go.Proofs.Ythocmmhhhiikpaa

namespace Go.Proofs.Ythocmmhhhiikpaa
open Go.RowKit

def firstV (f : Option Nat) : Int := match f with
  | none => -1
  | some k => (k : Int)
def rowDiff (set : Nat) (R : Nat → Nat → Int) (j f : Nat) : Nat → Bool
  | 0 => false
  | r + 1 => rowDiff set R j f r || (set.testBit r && !decide (R j r = R f r))
theorem rowDiff_any (set : Nat) (R : Nat → Nat → Int) (j f : Nat) : ((List.range 4).any fun r => set.testBit r && !decide (R j r = R f r)) = rowDiff set R j f 4 := by
  simp [List.range_succ, rowDiff, Bool.or_assoc]
theorem unev_first {set mask : Nat} {R : Nat → Nat → Int} : ∀ j k, (unevTo set mask R j).1 = some k → k < j
  | 0, k, h => by simp [unevTo] at h
  | j + 1, k, h => by
    have ih := unev_first (set := set) (mask := mask) (R := R) j
    unfold unevTo at h
    simp only at h
    split at h
    · simp only [Option.some.injEq] at h
      cases hf : (unevTo set mask R j).1 with
      | none => rw [hf] at h; simp at h; omega
      | some q => rw [hf] at h; simp at h; have := ih q hf; omega
    · have := ih k h; omega
theorem unev_off {set mask : Nat} {R : Nat → Nat → Int} {j : Nat} (h : mask.testBit j = false) : unevTo set mask R (j + 1) = unevTo set mask R j := by
  show (let (f, b) := unevTo set mask R j; if mask.testBit j then _ else _) = _
  simp [h]
theorem unev_on {set mask : Nat} {R : Nat → Nat → Int} {j : Nat} (h : mask.testBit j = true) : unevTo set mask R (j + 1) = (some ((unevTo set mask R j).1.getD j), (unevTo set mask R j).2 || rowDiff set R j ((unevTo set mask R j).1.getD j) 4) := by
  rw [← rowDiff_any]
  show (let (f, b) := unevTo set mask R j; if mask.testBit j then _ else _) = _
  simp [h]

theorem held_no {P : Program} {ops : Array Oper} {S : World → Prop} {E : Act → Prop} {o : Oper} {r : List Oper} {a : Act} (hw : Region.wanted o (yielded ops a.tmps) = false) (h : Held P ops S E r (a.put o.dst undef)) : Held P ops S E (o :: r) a := ⟨undef, .inr ⟨hw, rfl⟩, h⟩
theorem Obj8.cmpSet {o : SO} {w : World} {vt : Value} {sp un : Bool} {R : Nat → Nat → Int} {M : Nat → Int} (h : Obj8 o w vt sp un) (hr : RM o.rm w R M) (b : Bool) :
    Obj8 o (w.setCell ⟨o.p, 7, none⟩ (.bool b)) vt sp b ∧ RM o.rm (w.setCell ⟨o.p, 7, none⟩ (.bool b)) R M ∧ Chg (fun c => c = o.p) w (w.setCell ⟨o.p, 7, none⟩ (.bool b)) := by
  have hc : Chg (fun c => c = o.p) w (w.setCell ⟨o.p, 7, none⟩ (.bool b)) := Chg.of_set w _ _ _ rfl
  have hap := h.apart hr
  exact ⟨h.setUn b, hr.chg hc (fun e => hap.2.1 e.symm) (fun k hk e => hap.2.2.2 k hk e.symm) (fun e => hap.2.2.1 e.symm), hc⟩

set_option maxHeartbeats 4000000 in
set_option maxRecDepth 100000 in
theorem scmp_any (o : SO) : CmpOk o := by
  intro w vt sp un R M set mask ho h hset hm
  have HO := Lib.hid ho
  have H := Lib.hid h
  have hn8 := h.n8
  have hcr := h.cr1
  have hcr2 := h.cr2
  have hplt := ho.lt
  clear ho h
  go_enter Try.func73, Try.ntmps73
  go_wp2
  go_loopg [7, 6, 8] o.rm.n (fun gk i f _ wr => ∃ j : Nat, gk + j = o.rm.n ∧ i = .int .i64 j ∧ f = .int .i64 (firstV (unevTo set mask R j).1) ∧ Obj8 o wr vt sp (un || (unevTo set mask R j).2) ∧ RM o.rm wr R M ∧ Chg (fun b => b = o.p) w wr)
  case atStart => exact ⟨0, rfl, rfl, rfl, by simpa [unevTo] using HO.out, H.out, Chg.refl _ _⟩
  case round =>
    obtain ⟨j, hgk, rfl, rfl, ho, hr, hc⟩ := hrel
    have Hgk := Lib.hid hgk
    have HOJ := Lib.hid ho
    have HRJ := Lib.hid hr
    have HCJ := Lib.hid hc
    have hjn : j ≤ o.rm.n := by omega
    have hplt := ho.lt
    obtain ⟨p0, p1, p2, p3, p4, p5, p6, p7⟩ := ho.facts
    have HOFF := Lib.hid (unev_off (set := set) (mask := mask) (R := R) (j := j))
    have HON := Lib.hid (unev_on (set := set) (mask := mask) (R := R) (j := j))
    have HFL := Lib.hid (unev_first (set := set) (mask := mask) (R := R) j)
    have HFIN : Hid (j = o.rm.n → (unevTo set mask R j).2 = unev o.rm.n set mask R) := Lib.hid (fun e => by subst e; rfl)
    obtain ⟨f, Hf⟩ : ∃ f, Hid ((unevTo set mask R j).1 = f) := ⟨_, Lib.hid rfl⟩
    obtain ⟨bu, Hbu⟩ : ∃ bu, Hid ((unevTo set mask R j).2 = bu) := ⟨_, Lib.hid rfl⟩
    rw [Hf.out, Hbu.out] at HON
    rw [Hf.out] at HFL
    rw [Hbu.out] at HFIN HOJ
    clear hgk hr hc ho p0 p2 p3 p4 p5 p6 p7
    by_cases hlt : j < o.rm.n
    · have hnn := digit_nonneg mask j
      have hbit := digit_eq0 mask j
      obtain ⟨D, HD⟩ : ∃ D, Hid (mask.testBit j = D) := ⟨_, Lib.hid rfl⟩
      rw [HD.out] at hbit HOFF HON
      cases D
      · rw [Bool.not_false] at hbit
        rw [Hf.out]
        go_wp2
        go_roundg (o.rm.n - (j + 1))
        case measure => have := Hgk.out; omega
        case rel => exact ⟨j + 1, by have := Hgk.out; omega, by go_num, by rw [HOFF.out (by trivial), Hf.out], by rw [HOFF.out (by trivial), Hbu.out]; exact HOJ.out, HRJ.out, HCJ.out⟩
      · rw [Bool.not_true] at hbit
        have hfl : f.getD j < o.rm.n := by
          cases f with
          | none => exact hlt
          | some q => have := HFL.out q rfl; show q < _; omega
        rw [Hf.out]
        obtain ⟨fj, Hfj⟩ : ∃ fj, Hid (f.getD j = fj) := ⟨_, Lib.hid rfl⟩
        rw [Hfj.out] at hfl HON
        have hfv : decide (firstV f < 0) = f.isNone := by
          cases f with
          | none => rfl
          | some q => show decide ((q : Int) < 0) = false; simp
        have hfs : f.isNone = false → firstV f = (fj : Int) := fun hs => by
          rw [← Hfj.out]
          cases f with
          | none => cases hs
          | some q => rfl
        have HFS := Lib.hid hfs
        have hft : f.isNone = true → fj = j := fun hs => by
          rw [← Hfj.out]
          cases f with
          | none => rfl
          | some q => cases hs
        have HFT := Lib.hid hft
        clear hfs hft
        obtain ⟨fv, Hfv⟩ : ∃ fv, Hid (firstV f = fv) := ⟨_, Lib.hid rfl⟩
        rw [Hfv.out] at hfv HFS ⊢
        obtain ⟨N, HN⟩ : ∃ N, Hid (f.isNone = N) := ⟨_, Lib.hid rfl⟩
        rw [HN.out] at hfv HFS HFT
        cases N
        case' true =>
          have e := (HFT.out (by trivial)).symm
          subst e
          go_wp2_with fail
          go_loopg [8] 4 (fun g2 i wr => ∃ r : Nat, g2 + r = 4 ∧ i = .int .i64 r ∧ Obj8 o wr vt sp ((un || bu) || rowDiff set R j j r) ∧ RM o.rm wr R M ∧ Chg (fun b => b = o.p) w wr)
          case atStart => exact ⟨0, rfl, rfl, by simpa [rowDiff] using HOJ.out, HRJ.out, HCJ.out⟩
          case round =>
            obtain ⟨r, hg2, rfl, ho2, hr2, hc2⟩ := hrel
            have Hg2 := Lib.hid hg2
            have HO2 := Lib.hid ho2
            have HR2 := Lib.hid hr2
            have HC2 := Lib.hid hc2
            have hr4 : r ≤ 4 := by omega
            have hplt2 := ho2.lt
            have f7 := ho2.frozen 7
            obtain ⟨p0, p1, p2, p3, p4, p5, p6, p7⟩ := ho2.facts
            unfold RMo.vr at p2
            have HNX : Hid (rowDiff set R j j (r + 1) = (rowDiff set R j j r || (set.testBit r && !decide (R j r = R j r)))) := Lib.hid rfl
            obtain ⟨U, HU⟩ : ∃ U, Hid (((un || bu) || rowDiff set R j j r) = U) := ⟨_, Lib.hid rfl⟩
            rw [HU.out] at p7
            clear hg2 ho2 hr2 hc2 p0 p1 p3 p4 p5 p6
            by_cases hlt2 : r < 4
            · have hsn := digit_nonneg set r
              have hsb := digit_eq1 set r
              have hsb2 : (((set : Int) / 2 ^ r).tmod 2 == 1) = set.testBit r := by rw [Int.tmod_eq_emod_of_nonneg hsn]; exact hsb
              have HSB := Lib.hid hsb2
              clear hsb2
              obtain ⟨E, HE⟩ : ∃ E, Hid (set.testBit r = E) := ⟨_, Lib.hid rfl⟩
              rw [HE.out] at hsb HNX HSB
              have q1 := HR2.out.outerCell hlt
              have q2 := HR2.out.outerCell hfl
              unfold RMo.row at q1 q2
              have q3 := HR2.out.regCell hlt hlt2
              have q4 := HR2.out.regCell hfl hlt2
              obtain ⟨x, Hx⟩ : ∃ x, Hid (R j r = x) := ⟨_, Lib.hid rfl⟩
              rw [Hx.out] at q3 q4 HNX
              have hj0 : (0 : Int) ≤ (j : Int) := by omega
              have hjI : (j : Int) < (o.rm.n : Int) := by omega
              have hf0 : (0 : Int) ≤ (j : Int) := by omega
              have hfI : (j : Int) < (o.rm.n : Int) := by omega
              have hr0 : (0 : Int) ≤ (r : Int) := by omega
              have hrI : (r : Int) < 4 := by omega
              obtain ⟨V, HV⟩ : ∃ V, Hid (((un || bu) || rowDiff set R j j (r + 1)) = V) := ⟨_, Lib.hid rfl⟩
              have hv : V = (U || (E && (x != x))) := by
                have hxy : (x != x) = !decide (x = x) := by by_cases e : x = x <;> simp
                rw [← HV.out, ← HU.out, HNX.out, hxy]
                cases un <;> cases bu <;> simp
              have HS := Lib.hid (HO2.out.cmpSet HR2.out V)
              obtain ⟨Z, HZ⟩ : ∃ Z, Hid ((x != x) = Z) := ⟨_, Lib.hid rfl⟩
              have hz := HZ.out
              rw [hz] at hv
              have HVV := Lib.hid hv
              clear hv
              cases U
              case true =>
                have hV : V = true := by rw [HVV.out]; rfl
                rw [hV] at HS
                go_wp2_with fail
                refine region_heldF (fun w' => w'.cell? ⟨o.p, 7, none⟩ = some (.bool true) ∧ w'.cell? ⟨o.p, 2, none⟩ = some (.slice (some ⟨o.rm.gr, 0, none⟩) o.rm.n o.rm.cr) ∧ w'.cell? ⟨o.rm.gr, j, none⟩ = some (.slice (some ⟨o.rm.rows j, 0, none⟩) 4 4) ∧ w'.cell? ⟨o.rm.rows j, r, none⟩ = some (.int .i64 x))
                  (List.range 37) [37] (fun l => List.take 37 l) (fun l => List.drop 37 l) (by kernel_rfl) (by kernel_rfl) (by kernel_rfl) (by kernel_rfl) (fun c a d v w h => by cases d <;> exact h) (by exact ⟨keepPc (by repeat (first | assumption | exact Pure.refl _ | refine Pure.drewN ?_ _ | refine Pure.drew ?_ | refine Pure.alloc ?_ _ | refine Pure.setCell ?_ (by simp <;> omega) _)) p7, keepPc (by repeat (first | assumption | exact Pure.refl _ | refine Pure.drewN ?_ _ | refine Pure.drew ?_ | refine Pure.alloc ?_ _ | refine Pure.setCell ?_ (by simp <;> omega) _)) p2, keepPc (by repeat (first | assumption | exact Pure.refl _ | refine Pure.drewN ?_ _ | refine Pure.drew ?_ | refine Pure.alloc ?_ _ | refine Pure.setCell ?_ (by simp <;> omega) _)) q1, keepPc (by repeat (first | assumption | exact Pure.refl _ | refine Pure.drewN ?_ _ | refine Pure.drew ?_ | refine Pure.alloc ?_ _ | refine Pure.setCell ?_ (by simp <;> omega) _)) q3⟩) ?_
                simp only [List.take_succ_cons, List.take_zero, List.drop_succ_cons, List.drop_zero]
                iterate 37
                  first
                    | (refine held_no (by exact rfl) ?_)
                    | (apply held_of
                       · exact rfl
                       · intro w' hS
                         obtain ⟨s0, s1, s2, s4⟩ := hS
                         go_simp
                         try exact rfl)
                  try go_simp
                  try simp only [HSB.out]
                refine held_nil ?_
                unfold Tail
                go_wp2
                go_roundg (4 - (r + 1))
                case measure => have := Hg2.out; omega
                case rel => exact ⟨r + 1, by have := Hg2.out; omega, by go_num, by rw [HV.out, hV]; exact HS.out.1, HS.out.2.1.pure (Pure.drew (Pure.refl _)), (HC2.out.trans HS.out.2.2).trans (Chg.of_pure (Pure.drew (Pure.refl _)))⟩
              case false =>
              cases E
              case false =>
                have hV : V = false := by rw [HVV.out]; simp
                rw [hV] at HS
                go_wp2_with fail
                refine region_heldF (fun w' => w'.cell? ⟨o.p, 7, none⟩ = some (.bool false) ∧ w'.cell? ⟨o.p, 2, none⟩ = some (.slice (some ⟨o.rm.gr, 0, none⟩) o.rm.n o.rm.cr) ∧ w'.cell? ⟨o.rm.gr, j, none⟩ = some (.slice (some ⟨o.rm.rows j, 0, none⟩) 4 4) ∧ w'.cell? ⟨o.rm.rows j, r, none⟩ = some (.int .i64 x))
                  (List.range 37) [37] (fun l => List.take 37 l) (fun l => List.drop 37 l) (by kernel_rfl) (by kernel_rfl) (by kernel_rfl) (by kernel_rfl) (fun c a d v w h => by cases d <;> exact h) (by exact ⟨keepPc (by repeat (first | assumption | exact Pure.refl _ | refine Pure.drewN ?_ _ | refine Pure.drew ?_ | refine Pure.alloc ?_ _ | refine Pure.setCell ?_ (by simp <;> omega) _)) p7, keepPc (by repeat (first | assumption | exact Pure.refl _ | refine Pure.drewN ?_ _ | refine Pure.drew ?_ | refine Pure.alloc ?_ _ | refine Pure.setCell ?_ (by simp <;> omega) _)) p2, keepPc (by repeat (first | assumption | exact Pure.refl _ | refine Pure.drewN ?_ _ | refine Pure.drew ?_ | refine Pure.alloc ?_ _ | refine Pure.setCell ?_ (by simp <;> omega) _)) q1, keepPc (by repeat (first | assumption | exact Pure.refl _ | refine Pure.drewN ?_ _ | refine Pure.drew ?_ | refine Pure.alloc ?_ _ | refine Pure.setCell ?_ (by simp <;> omega) _)) q3⟩) ?_
                simp only [List.take_succ_cons, List.take_zero, List.drop_succ_cons, List.drop_zero]
                iterate 37
                  first
                    | (refine held_no (by exact rfl) ?_)
                    | (apply held_of
                       · exact rfl
                       · intro w' hS
                         obtain ⟨s0, s1, s2, s4⟩ := hS
                         go_simp
                         try exact rfl)
                  try go_simp
                  try simp only [HSB.out]
                refine held_nil ?_
                unfold Tail
                go_wp2
                go_roundg (4 - (r + 1))
                case measure => have := Hg2.out; omega
                case rel => exact ⟨r + 1, by have := Hg2.out; omega, by go_num, by rw [HV.out, hV]; exact HS.out.1, HS.out.2.1.pure (Pure.drew (Pure.refl _)), (HC2.out.trans HS.out.2.2).trans (Chg.of_pure (Pure.drew (Pure.refl _)))⟩
              case true =>
              have hz0 : Z = false := by rw [← HZ.out]; simp
              subst hz0
              have hV : V = false := by rw [HVV.out]; simp
              rw [hV] at HS
              go_wp2_with fail
              refine region_heldF (fun w' => w'.cell? ⟨o.p, 7, none⟩ = some (.bool false) ∧ w'.cell? ⟨o.p, 2, none⟩ = some (.slice (some ⟨o.rm.gr, 0, none⟩) o.rm.n o.rm.cr) ∧ w'.cell? ⟨o.rm.gr, j, none⟩ = some (.slice (some ⟨o.rm.rows j, 0, none⟩) 4 4) ∧ w'.cell? ⟨o.rm.rows j, r, none⟩ = some (.int .i64 x))
                (List.range 37) [37] (fun l => List.take 37 l) (fun l => List.drop 37 l) (by kernel_rfl) (by kernel_rfl) (by kernel_rfl) (by kernel_rfl) (fun c a d v w h => by cases d <;> exact h) (by exact ⟨keepPc (by repeat (first | assumption | exact Pure.refl _ | refine Pure.drewN ?_ _ | refine Pure.drew ?_ | refine Pure.alloc ?_ _ | refine Pure.setCell ?_ (by simp <;> omega) _)) p7, keepPc (by repeat (first | assumption | exact Pure.refl _ | refine Pure.drewN ?_ _ | refine Pure.drew ?_ | refine Pure.alloc ?_ _ | refine Pure.setCell ?_ (by simp <;> omega) _)) p2, keepPc (by repeat (first | assumption | exact Pure.refl _ | refine Pure.drewN ?_ _ | refine Pure.drew ?_ | refine Pure.alloc ?_ _ | refine Pure.setCell ?_ (by simp <;> omega) _)) q1, keepPc (by repeat (first | assumption | exact Pure.refl _ | refine Pure.drewN ?_ _ | refine Pure.drew ?_ | refine Pure.alloc ?_ _ | refine Pure.setCell ?_ (by simp <;> omega) _)) q3⟩) ?_
              simp only [List.take_succ_cons, List.take_zero, List.drop_succ_cons, List.drop_zero]
              iterate 37
                first
                  | (refine held_no (by exact rfl) ?_)
                  | (apply held_of
                     · exact rfl
                     · intro w' hS
                       obtain ⟨s0, s1, s2, s4⟩ := hS
                       go_simp
                       try exact rfl)
                try go_simp
                try simp only [HSB.out]
              refine held_nil ?_
              unfold Tail
              go_wp2
              go_roundg (4 - (r + 1))
              case measure => have := Hg2.out; omega
              case rel => exact ⟨r + 1, by have := Hg2.out; omega, by go_num, by rw [HV.out, hV]; exact HS.out.1, HS.out.2.1.pure (Pure.drew (Pure.refl _)), (HC2.out.trans HS.out.2.2).trans (Chg.of_pure (Pure.drew (Pure.refl _)))⟩
            · have hr5 : r = 4 := by omega
              subst hr5
              go_wp2
              go_roundg (o.rm.n - (j + 1))
              case measure => have := Hgk.out; omega
              case rel => exact ⟨j + 1, by have := Hgk.out; omega, by go_num, by rw [HON.out (by trivial)] <;> rfl, by rw [HON.out (by trivial), ← Bool.or_assoc]; exact HO2.out, HR2.out, HC2.out⟩
        case' false =>
          have e := HFS.out (by trivial)
          subst e
          go_wp2_with fail
          go_loopg [8] 4 (fun g2 i wr => ∃ r : Nat, g2 + r = 4 ∧ i = .int .i64 r ∧ Obj8 o wr vt sp ((un || bu) || rowDiff set R j fj r) ∧ RM o.rm wr R M ∧ Chg (fun b => b = o.p) w wr)
          case atStart => exact ⟨0, rfl, rfl, by simpa [rowDiff] using HOJ.out, HRJ.out, HCJ.out⟩
          case round =>
            obtain ⟨r, hg2, rfl, ho2, hr2, hc2⟩ := hrel
            have Hg2 := Lib.hid hg2
            have HO2 := Lib.hid ho2
            have HR2 := Lib.hid hr2
            have HC2 := Lib.hid hc2
            have hr4 : r ≤ 4 := by omega
            have hplt2 := ho2.lt
            have f7 := ho2.frozen 7
            obtain ⟨p0, p1, p2, p3, p4, p5, p6, p7⟩ := ho2.facts
            unfold RMo.vr at p2
            have HNX : Hid (rowDiff set R j fj (r + 1) = (rowDiff set R j fj r || (set.testBit r && !decide (R j r = R fj r)))) := Lib.hid rfl
            obtain ⟨U, HU⟩ : ∃ U, Hid (((un || bu) || rowDiff set R j fj r) = U) := ⟨_, Lib.hid rfl⟩
            rw [HU.out] at p7
            clear hg2 ho2 hr2 hc2 p0 p1 p3 p4 p5 p6
            by_cases hlt2 : r < 4
            · have hsn := digit_nonneg set r
              have hsb := digit_eq1 set r
              have hsb2 : (((set : Int) / 2 ^ r).tmod 2 == 1) = set.testBit r := by rw [Int.tmod_eq_emod_of_nonneg hsn]; exact hsb
              have HSB := Lib.hid hsb2
              clear hsb2
              obtain ⟨E, HE⟩ : ∃ E, Hid (set.testBit r = E) := ⟨_, Lib.hid rfl⟩
              rw [HE.out] at hsb HNX HSB
              have q1 := HR2.out.outerCell hlt
              have q2 := HR2.out.outerCell hfl
              unfold RMo.row at q1 q2
              have q3 := HR2.out.regCell hlt hlt2
              have q4 := HR2.out.regCell hfl hlt2
              obtain ⟨x, Hx⟩ : ∃ x, Hid (R j r = x) := ⟨_, Lib.hid rfl⟩
              obtain ⟨y, Hy⟩ : ∃ y, Hid (R fj r = y) := ⟨_, Lib.hid rfl⟩
              rw [Hx.out] at q3 HNX
              rw [Hy.out] at q4 HNX
              have hj0 : (0 : Int) ≤ (j : Int) := by omega
              have hjI : (j : Int) < (o.rm.n : Int) := by omega
              have hf0 : (0 : Int) ≤ (fj : Int) := by omega
              have hfI : (fj : Int) < (o.rm.n : Int) := by omega
              have hr0 : (0 : Int) ≤ (r : Int) := by omega
              have hrI : (r : Int) < 4 := by omega
              obtain ⟨V, HV⟩ : ∃ V, Hid (((un || bu) || rowDiff set R j fj (r + 1)) = V) := ⟨_, Lib.hid rfl⟩
              have hv : V = (U || (E && (x != y))) := by
                have hxy : (x != y) = !decide (x = y) := by by_cases e : x = y <;> simp [e]
                rw [← HV.out, ← HU.out, HNX.out, hxy]
                cases un <;> cases bu <;> simp
              have HS := Lib.hid (HO2.out.cmpSet HR2.out V)
              obtain ⟨Z, HZ⟩ : ∃ Z, Hid ((x != y) = Z) := ⟨_, Lib.hid rfl⟩
              have hz := HZ.out
              rw [hz] at hv
              have HVV := Lib.hid hv
              clear hv
              cases U
              case true =>
                have hV : V = true := by rw [HVV.out]; rfl
                rw [hV] at HS
                go_wp2_with fail
                refine region_heldF (fun w' => w'.cell? ⟨o.p, 7, none⟩ = some (.bool true) ∧ w'.cell? ⟨o.p, 2, none⟩ = some (.slice (some ⟨o.rm.gr, 0, none⟩) o.rm.n o.rm.cr) ∧ w'.cell? ⟨o.rm.gr, j, none⟩ = some (.slice (some ⟨o.rm.rows j, 0, none⟩) 4 4) ∧ w'.cell? ⟨o.rm.gr, fj, none⟩ = some (.slice (some ⟨o.rm.rows fj, 0, none⟩) 4 4) ∧ w'.cell? ⟨o.rm.rows j, r, none⟩ = some (.int .i64 x) ∧ w'.cell? ⟨o.rm.rows fj, r, none⟩ = some (.int .i64 y))
                  (List.range 37) [37] (fun l => List.take 37 l) (fun l => List.drop 37 l) (by kernel_rfl) (by kernel_rfl) (by kernel_rfl) (by kernel_rfl) (fun c a d v w h => by cases d <;> exact h) (by exact ⟨keepPc (by repeat (first | assumption | exact Pure.refl _ | refine Pure.drewN ?_ _ | refine Pure.drew ?_ | refine Pure.alloc ?_ _ | refine Pure.setCell ?_ (by simp <;> omega) _)) p7, keepPc (by repeat (first | assumption | exact Pure.refl _ | refine Pure.drewN ?_ _ | refine Pure.drew ?_ | refine Pure.alloc ?_ _ | refine Pure.setCell ?_ (by simp <;> omega) _)) p2, keepPc (by repeat (first | assumption | exact Pure.refl _ | refine Pure.drewN ?_ _ | refine Pure.drew ?_ | refine Pure.alloc ?_ _ | refine Pure.setCell ?_ (by simp <;> omega) _)) q1, keepPc (by repeat (first | assumption | exact Pure.refl _ | refine Pure.drewN ?_ _ | refine Pure.drew ?_ | refine Pure.alloc ?_ _ | refine Pure.setCell ?_ (by simp <;> omega) _)) q2, keepPc (by repeat (first | assumption | exact Pure.refl _ | refine Pure.drewN ?_ _ | refine Pure.drew ?_ | refine Pure.alloc ?_ _ | refine Pure.setCell ?_ (by simp <;> omega) _)) q3, keepPc (by repeat (first | assumption | exact Pure.refl _ | refine Pure.drewN ?_ _ | refine Pure.drew ?_ | refine Pure.alloc ?_ _ | refine Pure.setCell ?_ (by simp <;> omega) _)) q4⟩) ?_
                simp only [List.take_succ_cons, List.take_zero, List.drop_succ_cons, List.drop_zero]
                iterate 37
                  first
                    | (refine held_no (by exact rfl) ?_)
                    | (apply held_of
                       · exact rfl
                       · intro w' hS
                         obtain ⟨s0, s1, s2, s3, s4, s5⟩ := hS
                         go_simp
                         try exact rfl)
                  try go_simp
                  try simp only [HSB.out]
                refine held_nil ?_
                unfold Tail
                go_wp2
                go_roundg (4 - (r + 1))
                case measure => have := Hg2.out; omega
                case rel => exact ⟨r + 1, by have := Hg2.out; omega, by go_num, by rw [HV.out, hV]; exact HS.out.1, HS.out.2.1.pure (Pure.drew (Pure.refl _)), (HC2.out.trans HS.out.2.2).trans (Chg.of_pure (Pure.drew (Pure.refl _)))⟩
              case false =>
              cases E
              case false =>
                have hV : V = false := by rw [HVV.out]; simp
                rw [hV] at HS
                go_wp2_with fail
                refine region_heldF (fun w' => w'.cell? ⟨o.p, 7, none⟩ = some (.bool false) ∧ w'.cell? ⟨o.p, 2, none⟩ = some (.slice (some ⟨o.rm.gr, 0, none⟩) o.rm.n o.rm.cr) ∧ w'.cell? ⟨o.rm.gr, j, none⟩ = some (.slice (some ⟨o.rm.rows j, 0, none⟩) 4 4) ∧ w'.cell? ⟨o.rm.gr, fj, none⟩ = some (.slice (some ⟨o.rm.rows fj, 0, none⟩) 4 4) ∧ w'.cell? ⟨o.rm.rows j, r, none⟩ = some (.int .i64 x) ∧ w'.cell? ⟨o.rm.rows fj, r, none⟩ = some (.int .i64 y))
                  (List.range 37) [37] (fun l => List.take 37 l) (fun l => List.drop 37 l) (by kernel_rfl) (by kernel_rfl) (by kernel_rfl) (by kernel_rfl) (fun c a d v w h => by cases d <;> exact h) (by exact ⟨keepPc (by repeat (first | assumption | exact Pure.refl _ | refine Pure.drewN ?_ _ | refine Pure.drew ?_ | refine Pure.alloc ?_ _ | refine Pure.setCell ?_ (by simp <;> omega) _)) p7, keepPc (by repeat (first | assumption | exact Pure.refl _ | refine Pure.drewN ?_ _ | refine Pure.drew ?_ | refine Pure.alloc ?_ _ | refine Pure.setCell ?_ (by simp <;> omega) _)) p2, keepPc (by repeat (first | assumption | exact Pure.refl _ | refine Pure.drewN ?_ _ | refine Pure.drew ?_ | refine Pure.alloc ?_ _ | refine Pure.setCell ?_ (by simp <;> omega) _)) q1, keepPc (by repeat (first | assumption | exact Pure.refl _ | refine Pure.drewN ?_ _ | refine Pure.drew ?_ | refine Pure.alloc ?_ _ | refine Pure.setCell ?_ (by simp <;> omega) _)) q2, keepPc (by repeat (first | assumption | exact Pure.refl _ | refine Pure.drewN ?_ _ | refine Pure.drew ?_ | refine Pure.alloc ?_ _ | refine Pure.setCell ?_ (by simp <;> omega) _)) q3, keepPc (by repeat (first | assumption | exact Pure.refl _ | refine Pure.drewN ?_ _ | refine Pure.drew ?_ | refine Pure.alloc ?_ _ | refine Pure.setCell ?_ (by simp <;> omega) _)) q4⟩) ?_
                simp only [List.take_succ_cons, List.take_zero, List.drop_succ_cons, List.drop_zero]
                iterate 37
                  first
                    | (refine held_no (by exact rfl) ?_)
                    | (apply held_of
                       · exact rfl
                       · intro w' hS
                         obtain ⟨s0, s1, s2, s3, s4, s5⟩ := hS
                         go_simp
                         try exact rfl)
                  try go_simp
                  try simp only [HSB.out]
                refine held_nil ?_
                unfold Tail
                go_wp2
                go_roundg (4 - (r + 1))
                case measure => have := Hg2.out; omega
                case rel => exact ⟨r + 1, by have := Hg2.out; omega, by go_num, by rw [HV.out, hV]; exact HS.out.1, HS.out.2.1.pure (Pure.drew (Pure.refl _)), (HC2.out.trans HS.out.2.2).trans (Chg.of_pure (Pure.drew (Pure.refl _)))⟩
              case true =>
              have hV : V = Z := by rw [HVV.out]; simp
              rw [hV] at HS
              go_wp2_with fail
              refine region_heldF (fun w' => w'.cell? ⟨o.p, 7, none⟩ = some (.bool false) ∧ w'.cell? ⟨o.p, 2, none⟩ = some (.slice (some ⟨o.rm.gr, 0, none⟩) o.rm.n o.rm.cr) ∧ w'.cell? ⟨o.rm.gr, j, none⟩ = some (.slice (some ⟨o.rm.rows j, 0, none⟩) 4 4) ∧ w'.cell? ⟨o.rm.gr, fj, none⟩ = some (.slice (some ⟨o.rm.rows fj, 0, none⟩) 4 4) ∧ w'.cell? ⟨o.rm.rows j, r, none⟩ = some (.int .i64 x) ∧ w'.cell? ⟨o.rm.rows fj, r, none⟩ = some (.int .i64 y))
                (List.range 37) [37] (fun l => List.take 37 l) (fun l => List.drop 37 l) (by kernel_rfl) (by kernel_rfl) (by kernel_rfl) (by kernel_rfl) (fun c a d v w h => by cases d <;> exact h) (by exact ⟨keepPc (by repeat (first | assumption | exact Pure.refl _ | refine Pure.drewN ?_ _ | refine Pure.drew ?_ | refine Pure.alloc ?_ _ | refine Pure.setCell ?_ (by simp <;> omega) _)) p7, keepPc (by repeat (first | assumption | exact Pure.refl _ | refine Pure.drewN ?_ _ | refine Pure.drew ?_ | refine Pure.alloc ?_ _ | refine Pure.setCell ?_ (by simp <;> omega) _)) p2, keepPc (by repeat (first | assumption | exact Pure.refl _ | refine Pure.drewN ?_ _ | refine Pure.drew ?_ | refine Pure.alloc ?_ _ | refine Pure.setCell ?_ (by simp <;> omega) _)) q1, keepPc (by repeat (first | assumption | exact Pure.refl _ | refine Pure.drewN ?_ _ | refine Pure.drew ?_ | refine Pure.alloc ?_ _ | refine Pure.setCell ?_ (by simp <;> omega) _)) q2, keepPc (by repeat (first | assumption | exact Pure.refl _ | refine Pure.drewN ?_ _ | refine Pure.drew ?_ | refine Pure.alloc ?_ _ | refine Pure.setCell ?_ (by simp <;> omega) _)) q3, keepPc (by repeat (first | assumption | exact Pure.refl _ | refine Pure.drewN ?_ _ | refine Pure.drew ?_ | refine Pure.alloc ?_ _ | refine Pure.setCell ?_ (by simp <;> omega) _)) q4⟩) ?_
              simp only [List.take_succ_cons, List.take_zero, List.drop_succ_cons, List.drop_zero]
              iterate 37
                first
                  | (refine held_no (by exact rfl) ?_)
                  | (apply held_of
                     · exact rfl
                     · intro w' hS
                       obtain ⟨s0, s1, s2, s3, s4, s5⟩ := hS
                       go_simp
                       try exact rfl)
                try go_simp
                try simp only [HSB.out]
              refine held_nil ?_
              unfold Tail
              go_wp2
              go_roundg (4 - (r + 1))
              case measure => have := Hg2.out; omega
              case rel => exact ⟨r + 1, by have := Hg2.out; omega, by go_num, by rw [HV.out, hV]; exact HS.out.1, HS.out.2.1.pure (Pure.drew (Pure.refl _)), (HC2.out.trans HS.out.2.2).trans (Chg.of_pure (Pure.drew (Pure.refl _)))⟩
            · have hr5 : r = 4 := by omega
              subst hr5
              go_wp2
              go_roundg (o.rm.n - (j + 1))
              case measure => have := Hgk.out; omega
              case rel => exact ⟨j + 1, by have := Hgk.out; omega, by go_num, by rw [HON.out (by trivial)] <;> rfl, by rw [HON.out (by trivial), ← Bool.or_assoc]; exact HO2.out, HR2.out, HC2.out⟩
    · have hjl : j = o.rm.n := by omega
      rw [Hf.out]
      go_wp2
      go_end0
      exact ⟨rfl, by rw [← HFIN.out hjl]; exact HOJ.out, HRJ.out, HCJ.out⟩

end Go.Proofs.Ythocmmhhhiikpaa
