/- The registers that are still wanted, as the reference finds them on valid programs: the walk. No condition. -/
import Derived.Test.YtmhaaihgepldhaaLiveS
namespace Go.Proofs.Ytmhaaihgepldhaa
open Go.RowKit
--CUT
set_option maxHeartbeats 4000000 in
set_option maxRecDepth 100000 in
theorem slive_ok (v : Value) (cs : List Cd) (w : World) (h : Codes w v cs) (hv : PValid cs) :
    Calls Try.prog 37 #[v] w (LPost cs w) := by
  have H := Lib.hid h
  have HV := Lib.hid hv
  have hsmall := hv.2.1
  obtain ⟨A, c, rfl, hnc, hcm⟩ := h.form
  clear h hv
  go_enter Try.func37, Try.ntmps37
  go_wp2_with fail
  refine (spv_any _ cs _ H.out (by omega) true (by simp [HV.out])).mono ?_
  rintro e w1 ⟨rfl, hp1⟩
  go_wp2_with fail
  refine (sgraph_ok _ cs _ (H.out.keep hp1) HV.out).mono ?_
  rintro e w2 ⟨vg, rfl, hg, hp2⟩
  have HG := Lib.hid hg
  have hp12 := hp1.trans hp2
  clear hg
  go_wp2_with (at_make; go_must (refine wl_make elInt rfl _ _ rfl w.heap.size _ _ _ _ (cs.length + 1) rfl rfl (by omega) (by omega) (by omega) (by omega) hp12.size ?_); intro w3 hown hp hsz; have hO := Lib.hid (OwnO.of_own hown); have hp3 := Lib.hid hp; clear hown hp)
  have hS : SetsO w3 w.heap.size w2.heap.size (cs.length + 1) (fun _ => 0) := ⟨_, hO.out, fun j hj => by rw [zeros_get _ _ _ (by simpa using hj)]; simp [Nat.mod_one]⟩
  have HS := Lib.hid hS
  clear hS hO
  go_loopg [5] (room cs.length (fun _ => 0) + 1) (fun gk fl wr => ∃ (b : Bool) (live : Nat → Nat), fl = .bool b ∧ (b = true → room cs.length live < gk) ∧ (b = false → ∀ x, x < cs.length → live x = FL (succs cs) (wrOf cs) (rdOf cs) live x) ∧ LInv (succs cs) (wrOf cs) (rdOf cs) cs.length live ∧ Pure w2 wr ∧ SetsO wr w.heap.size w2.heap.size (cs.length + 1) live)
  case atStart => exact ⟨true, _, rfl, (fun _ => Nat.lt_succ_self _), (fun h => by cases h), LInv.start, hp3.out, HS.out⟩
  case round =>
    clear HS hp3
    obtain ⟨b, live0, rfl, hgk, hfix, hinv, hpr, hs⟩ := hrel
    have Hgk := Lib.hid hgk
    have Hfix := Lib.hid hfix
    have HI := Lib.hid hinv
    have HS := Lib.hid hs
    clear hgk hfix hinv hs
    cases b
    · go_wp2
      go_ret
      exact ⟨_, live0, rfl, HI.out.least (Hfix.out (by trivial)), HS.out.own, hp12.trans hpr⟩
    · go_wp2
      go_loopg [6, 5] cs.length (fun g2 i fl wr => ∃ (j : Nat) (b : Bool) (live : Nat → Nat), g2 = j ∧ i = .int .i64 ((j : Int) - 1) ∧ fl = .bool b ∧ j ≤ cs.length ∧ RInv cs j b live0 live ∧ Pure w2 wr ∧ SetsO wr w.heap.size w2.heap.size (cs.length + 1) live)
      case atStart => exact ⟨cs.length, false, live0, rfl, (by go_num), rfl, Nat.le_refl _, RInv.start HI.out, hpr, HS.out⟩
      case round =>
        clear HS HI
        obtain ⟨j, b, live, hg2, rfl, rfl, hjn, hR, hp, hs⟩ := hrel
        have Hg2 := Lib.hid hg2
        clear hg2
        have HR := Lib.hid hR
        have HS := Lib.hid hs
        clear hR hs
        by_cases hj : 0 < j
        · obtain ⟨k, rfl⟩ : ∃ k, j = k + 1 := ⟨j - 1, by omega⟩
          have hz : ((k + 1 : Nat) : Int) - 1 = k := by omega
          rw [hz]
          clear hz hj
          have hk : k < cs.length := by omega
          obtain ⟨b', o, rfl, hb, hc⟩ := H.out.at_ hk
          obtain ⟨cd, Hcd⟩ : ∃ cd, Hid (cs.getD k default = cd) := ⟨_, rfl⟩
          rw [Hcd.out] at hc
          have HC := Lib.hid hc
          have hok : CdOk cd := by rw [← Hcd.out]; exact HV.out.1 _ (cdOk_mem hk)
          have HOK := Lib.hid hok
          clear hc hok
          have hrow : ∀ x ∈ (graph cs).getD k [], 0 ≤ x ∧ x < ((cs.length + 1 : Nat) : Int) := fun x hx => by
            have := (graph_valid HV.out).mem hx
            rw [graph_length] at this
            omega
          have hlen64 : ((graph cs).getD k []).length ≤ 64 := by rw [graph_lt hk]; exact succs_len cs k
          have Hrow := Lib.hid hrow
          have Hlen := Lib.hid hlen64
          clear hrow hlen64
          have hpw := hp12.trans hp
          go_wp2_with fail
          refine (l19_any vg _ (graph cs) (cs.length + 1) k live _ (HG.out.keep hp) HS.out.sets HR.out.1.lt (by rw [graph_length]; omega) Hrow.out Hlen.out).mono ?_
          rintro e w4 ⟨rfl, hp4⟩
          rw [graph_lt hk]
          obtain ⟨s1, Hs1⟩ : ∃ s, Hid (orAll live (succs cs k) = s) := ⟨_, rfl⟩
          rw [Hs1.out]
          have hpw4 := hpw.trans hp4
          have hs1 : s1 < 16 := by rw [← Hs1.out]; exact orAll_lt HR.out.1.lt _
          obtain ⟨c0, c1, c2, c3⟩ := HC.out.keep hpw4 hb
          go_wp2_with fail
          refine (swrites_any cd _ HOK.out).mono ?_
          rintro e w5 ⟨rfl, hp5⟩
          have hpw5 := hpw4.trans hp5
          clear c0 c1 c2 c3
          obtain ⟨c0, c1, c2, c3⟩ := HC.out.keep hpw5 hb
          obtain ⟨g, Hg⟩ : ∃ g, Hid (wrg cd = g) := ⟨_, rfl⟩
          obtain ⟨p, Hp⟩ : ∃ p, Hid (wst cd = p) := ⟨_, rfl⟩
          have hgc := wrg_cases HOK.out
          rw [Hg.out, Hp.out] at hgc
          rw [Hg.out]
          obtain ⟨s2, Hs2⟩ : ∃ s, Hid (del s1 p = s) := ⟨_, rfl⟩
          have hp16 : p < 16 := by rw [← Hp.out]; exact wr_lt HOK.out
          have hs2 : s2 < 16 := by rw [← Hs2.out]; exact del_lt hs1 hp16
          rcases hgc with ⟨hg0, hg3, hgp⟩ | ⟨rfl, hp0⟩
          case' inl =>
            have hshl : wrap64 (2 ^ g.toNat) = (p : Int) := by rw [hgp]; exact shl_pw hg0 hg3
            have hdel : bits .andNot .i64 (s1 : Int) (p : Int) = (s2 : Int) := by rw [not16 hs1 hp16]; exact congrArg _ Hs2.out
            clear hgp
            go_wp2_with fail
            refine (screads_any cd _ HOK.out).mono ?_
            rintro e w6 ⟨rfl, hp6⟩
            clear hshl hdel hg0 hg3
          case' inr =>
            have hs12 : s2 = s1 := by rw [← Hs2.out, hp0, del_zero]
            subst hs12
            go_wp2_with fail
            refine (screads_any cd _ HOK.out).mono ?_
            rintro e w6 ⟨rfl, hp6⟩
            clear hp0
          all_goals
            have hpw6 := hpw5.trans hp6
            have hp26 := hp.trans (hp4.trans (hp5.trans hp6))
            clear c0 c1 c2 c3
            obtain ⟨c0, c1, c2, c3⟩ := HC.out.keep hpw6 hb
            obtain ⟨r, Hr⟩ : ∃ r, Hid (rd cd = r) := ⟨_, rfl⟩
            rw [Hr.out]
            have hr16 : r < 16 := by rw [← Hr.out]; exact rd_lt HOK.out
            obtain ⟨s3, Hs3⟩ : ∃ s, Hid (s2 ||| r = s) := ⟨_, rfl⟩
            have hs3 : s3 < 16 := by rw [← Hs3.out]; exact or_lt hs2 hr16
            have hor : bits .or .i64 (s2 : Int) (r : Int) = (s3 : Int) := by rw [or16 hs2 hr16]; exact congrArg _ Hs3.out
            have HS6 := Lib.hid (HS.out.pure (hp4.trans (hp5.trans hp6)))
            by_cases h14 : cd.op = 14
            · have d14 : (cd.op == 14) = true := by simp [h14]
              obtain ⟨pb, o2, bi⟩ := (HV.out.pi hk).2.2 (by rw [Hcd.out]; exact h14)
              have HBI := Lib.hid bi
              have hpbk : pb < k := bi.lt
              have Hlp : Hid (loopPart cs k = if (cs.getD pb default).op = 13 then pw (cs.getD pb default).a else 0) := by
                refine Lib.hid ?_
                unfold loopPart
                rw [bi.ar, Int.toNat_natCast, Hcd.out]
                simp only [h14, true_and]
              clear bi
              have H14 := Lib.hid h14
              clear h14
              go_wp2_with fail
              refine (l4Around_any _ cs k _ _ (H.out.keep hpw6) (by omega) (by omega) HBI.out.ar).mono ?_
              rintro e w7 ⟨rfl, hp7⟩
              have hpw7 := hpw6.trans hp7
              have hp27 := hp26.trans hp7
              have HS7 := Lib.hid (HS6.out.pure hp7)
              clear c0 c1 c2 c3
              obtain ⟨bb, ob, hab, hbb, hcb⟩ := H.out.at_ (k := pb) (by omega)
              injection hab with hab
              injection hab with hab1 hab2
              subst hab1 hab2
              obtain ⟨cb, Hcb⟩ : ∃ cb, Hid (cs.getD pb default = cb) := ⟨_, rfl⟩
              rw [Hcb.out] at hcb Hlp
              have hokb : CdOk cb := by rw [← Hcb.out]; exact HV.out.1 _ (cdOk_mem (by omega))
              have hab3 : 0 ≤ cb.a ∧ cb.a ≤ 3 := hokb.regs.1
              obtain ⟨ha0, ha3⟩ := hab3
              have Hopb : Hid (Opens cb) := Lib.hid (by rw [← Hcb.out]; exact HBI.out.op)
              obtain ⟨c0, c1, c2, c3⟩ := hcb.keep hpw7 hb
              clear hokb hbb
              by_cases h13 : cb.op = 13
              · have d13 : (cb.op == 13) = true := by simp [h13]
                have Hlp2 : Hid (loopPart cs k = pw cb.a) := Lib.hid (by rw [Hlp.out, if_pos h13])
                clear h13
                go_wp2_with fail
                refine (l4Around_any _ cs k _ _ (H.out.keep hpw7) (by omega) (by omega) HBI.out.ar).mono ?_
                rintro e w8 ⟨rfl, hp8⟩
                have hpw8 := hpw7.trans hp8
                have hp28 := hp27.trans hp8
                have HS8 := Lib.hid (HS7.out.pure hp8)
                clear c0 c1 c2 c3
                obtain ⟨c0, c1, c2, c3⟩ := hcb.keep hpw8 hb
                have hshl : wrap64 (2 ^ cb.a.toNat) = ((pw cb.a : Nat) : Int) := shl_pw ha0 ha3
                obtain ⟨pa, Hpa⟩ : ∃ pa, Hid (pw cb.a = pa) := ⟨_, rfl⟩
                rw [Hpa.out] at hshl
                have hpa16 : pa < 16 := by rw [← Hpa.out]; exact pw_lt ha3
                obtain ⟨s4, Hs4⟩ : ∃ s, Hid (s3 ||| pa = s) := ⟨_, rfl⟩
                have hs4 : s4 < 16 := by rw [← Hs4.out]; exact or_lt hs3 hpa16
                have hor2 : bits .or .i64 (s3 : Int) (pa : Int) = (s4 : Int) := by rw [or16 hs3 hpa16]; exact congrArg _ Hs4.out
                obtain ⟨f1, f2, f3, f4⟩ := HS8.out.facts (k := k) (by omega)
                obtain ⟨lk, Hlk⟩ : ∃ s, Hid (live k = s) := ⟨_, rfl⟩
                rw [Hlk.out] at f1
                have hF : FL (succs cs) (wrOf cs) (rdOf cs) live k = s4 := by
                  unfold FL wrOf rdOf loopPart
                  rw [Hcd.out]
                  have e := Hlp2.out
                  unfold loopPart at e
                  rw [Hcd.out] at e
                  rw [e, Hs1.out, Hp.out, Hr.out, Hs2.out, Hpa.out, ← Nat.or_assoc, Hs3.out, Hs4.out]
                have HF := Lib.hid hF
                clear hF
                have hstep := HR.out.step HV.out hk
                rw [HF.out, Hlk.out] at hstep
                obtain ⟨D, HD⟩ : ∃ D, Hid (decide (s4 ≠ lk) = D) := ⟨_, rfl⟩
                have hne : ((s4 : Int) != (lk : Int)) = D := by rw [← HD.out, Bool.eq_iff_iff, bne_iff_ne, decide_eq_true_eq]; omega
                rw [HD.out] at hstep
                have Hstep := Lib.hid hstep
                have Hput := Lib.hid (HS8.out.put (k := k) (v := s4) (by omega))
                have HPP : Hid (Pure w2 (w8.setCell ⟨w2.heap.size, k, none⟩ (.int .i64 (s4 : Nat)))) := Lib.hid (Pure.setCell hp28 (Nat.le_refl _) _)
                clear hstep
                cases b
                · go_wp2
                  go_roundg k
                  case measure => have := Hg2.out; omega
                  case rel => exact ⟨k, D, _, rfl, (by go_num), rfl, by omega, (by have := Hstep.out; simpa using this), HPP.out, Hput.out⟩
                · go_wp2
                  go_roundg k
                  case measure => have := Hg2.out; omega
                  case rel => exact ⟨k, true, _, rfl, (by go_num), rfl, by omega, (by have := Hstep.out; simpa using this), HPP.out, Hput.out⟩
              · have d13 : (cb.op == 13) = false := by simp [h13]
                have Hlp2 : Hid (loopPart cs k = 0) := Lib.hid (by rw [Hlp.out, if_neg h13])
                clear h13
                obtain ⟨f1, f2, f3, f4⟩ := HS7.out.facts (k := k) (by omega)
                obtain ⟨lk, Hlk⟩ : ∃ s, Hid (live k = s) := ⟨_, rfl⟩
                rw [Hlk.out] at f1
                have hF : FL (succs cs) (wrOf cs) (rdOf cs) live k = s3 := by
                  unfold FL wrOf rdOf loopPart
                  rw [Hcd.out]
                  have e := Hlp2.out
                  unfold loopPart at e
                  rw [Hcd.out] at e
                  rw [e, Hs1.out, Hp.out, Hr.out, Nat.or_zero, Hs2.out, Hs3.out]
                have HF := Lib.hid hF
                clear hF
                have hstep := HR.out.step HV.out hk
                rw [HF.out, Hlk.out] at hstep
                obtain ⟨D, HD⟩ : ∃ D, Hid (decide (s3 ≠ lk) = D) := ⟨_, rfl⟩
                have hne : ((s3 : Int) != (lk : Int)) = D := by rw [← HD.out, Bool.eq_iff_iff, bne_iff_ne, decide_eq_true_eq]; omega
                rw [HD.out] at hstep
                have Hstep := Lib.hid hstep
                have Hput := Lib.hid (HS7.out.put (k := k) (v := s3) (by omega))
                have HPP : Hid (Pure w2 (w7.setCell ⟨w2.heap.size, k, none⟩ (.int .i64 (s3 : Nat)))) := Lib.hid (Pure.setCell hp27 (Nat.le_refl _) _)
                clear hstep
                cases b
                · go_wp2
                  go_roundg k
                  case measure => have := Hg2.out; omega
                  case rel => exact ⟨k, D, _, rfl, (by go_num), rfl, by omega, (by have := Hstep.out; simpa using this), HPP.out, Hput.out⟩
                · go_wp2
                  go_roundg k
                  case measure => have := Hg2.out; omega
                  case rel => exact ⟨k, true, _, rfl, (by go_num), rfl, by omega, (by have := Hstep.out; simpa using this), HPP.out, Hput.out⟩
            · have d14 : (cd.op == 14) = false := by simp [h14]
              have H14 := Lib.hid h14
              clear h14
              obtain ⟨f1, f2, f3, f4⟩ := HS6.out.facts (k := k) (by omega)
              obtain ⟨lk, Hlk⟩ : ∃ s, Hid (live k = s) := ⟨_, rfl⟩
              rw [Hlk.out] at f1
              have hF : FL (succs cs) (wrOf cs) (rdOf cs) live k = s3 := by
                unfold FL wrOf rdOf loopPart
                rw [Hcd.out, if_neg (fun h => H14.out h.1), Hs1.out, Hp.out, Hr.out, Nat.or_zero, Hs2.out, Hs3.out]
              have HF := Lib.hid hF
              clear hF
              have hstep := HR.out.step HV.out hk
              rw [HF.out, Hlk.out] at hstep
              obtain ⟨D, HD⟩ : ∃ D, Hid (decide (s3 ≠ lk) = D) := ⟨_, rfl⟩
              have hne : ((s3 : Int) != (lk : Int)) = D := by rw [← HD.out, Bool.eq_iff_iff, bne_iff_ne, decide_eq_true_eq]; omega
              rw [HD.out] at hstep
              have Hstep := Lib.hid hstep
              have Hput := Lib.hid (HS6.out.put (k := k) (v := s3) (by omega))
              have HPP : Hid (Pure w2 (w6.setCell ⟨w2.heap.size, k, none⟩ (.int .i64 (s3 : Nat)))) := Lib.hid (Pure.setCell hp26 (Nat.le_refl _) _)
              clear hstep
              cases b
              · go_wp2
                go_roundg k
                case measure => have := Hg2.out; omega
                case rel => exact ⟨k, D, _, rfl, (by go_num), rfl, by omega, (by have := Hstep.out; simpa using this), HPP.out, Hput.out⟩
              · go_wp2
                go_roundg k
                case measure => have := Hg2.out; omega
                case rel => exact ⟨k, true, _, rfl, (by go_num), rfl, by omega, (by have := Hstep.out; simpa using this), HPP.out, Hput.out⟩
        · have hj0 : j = 0 := by omega
          subst hj0
          go_wp2
          have hg0 := Hgk.out (by trivial)
          have hR := HR.out
          go_roundg (if b = true then room cs.length live + 1 else 0)
          case measure =>
            cases b
            · simp; omega
            · have := hR.2.2 rfl; simp; omega
          case rel =>
            refine ⟨b, live, rfl, (fun h => by rw [if_pos h]; omega), (fun h x hx => ?_), hR.1, hp, HS.out⟩
            obtain ⟨rfl, h2⟩ := hR.2.1 h
            exact h2 x (Nat.zero_le _) hx

end Go.Proofs.Ytmhaaihgepldhaa
