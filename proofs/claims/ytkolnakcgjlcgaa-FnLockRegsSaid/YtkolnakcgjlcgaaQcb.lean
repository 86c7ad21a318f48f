/- Which lanes are valid, as the program finds it. No condition. -/
import Derived.Test.YtkolnakcgjlcgaaQba
import Derived.Test.YtkolnakcgjlcgaaQca

namespace Go.Proofs.Ytkolnakcgjlcgaa
open Go.RowKit

theorem lps_b {cs : List Cd} {k j : Nat} (hj : j < ((lps cs k).map fun p => (cs.getD p default).b).length) : ((lps cs k).map fun p => (cs.getD p default).b).getD j 0 = (cs.getD ((lps cs k).getD j 0) default).b := by
  have h2 : j < (lps cs k).length := by simpa using hj
  rw [List.getD_eq_getElem?_getD, List.getElem?_map, List.getElem?_eq_getElem h2, List.getD_eq_getElem?_getD (l := lps cs k), List.getElem?_eq_getElem h2]
  rfl
theorem lps_bb {cs : List Cd} (h : PValid cs) {k : Nat} (hk : k ≤ cs.length) : ∀ j, j < ((lps cs k).map fun p => (cs.getD p default).b).length → 0 ≤ ((lps cs k).map fun p => (cs.getD p default).b).getD j 0 ∧ ((lps cs k).map fun p => (cs.getD p default).b).getD j 0 ≤ 255 := by
  intro j hj
  rw [lps_b hj]
  obtain ⟨_, a, b, c, e, h1, h2⟩ := lps_in h hk j (by simpa using hj)
  rw [e]
  exact ⟨h1, h2⟩
theorem stk_opens {cs : List Cd} (h : PValid cs) {k : Nat} (hk : k ≤ cs.length) {j : Nat} (hj : j < (stkPos cs k).length) : (stkPos cs k).getD j 0 < k ∧ Opens (cs.getD ((stkPos cs k).getD j 0) default) := by
  obtain ⟨st, h1, h2⟩ := h.stk hk
  have e : stkPos cs k = (st.map (·.1)).reverse := by unfold stkPos; rw [h1]; rfl
  have hm : (stkPos cs k).getD j 0 ∈ stkPos cs k := by simp [List.getD_eq_getElem?_getD, hj]
  generalize (stkPos cs k).getD j 0 = x at hm
  rw [e, List.mem_reverse, List.mem_map] at hm
  obtain ⟨y, hy, rfl⟩ := hm
  obtain ⟨i, hi, rfl⟩ := List.getElem_of_mem hy
  refine ⟨h2.lt i hi, ?_⟩
  obtain ⟨o, _, hh⟩ := h2.ends i hi
  rcases hh with hh | hh | hh
  · exact .inl hh.2.1
  · exact .inl hh.2.1
  · exact .inr hh.2.1

set_option maxHeartbeats 4000000 in
set_option maxRecDepth 100000 in
theorem ilv_any (R T v : Value) (l : Lx) (cs : List Cd) (w : World) (hr : Ints w R l.rs) (ht : Ints w T l.ts) (h : Codes w v cs) (hs : cs.length ≤ 1048576) (B : Bool) (hB : B = true ↔ LaneOk cs l) :
    Calls Try.prog 89 #[lnVX R l.at_ T l.wt, v] w fun e w' => e = .returned (.bool B) ∧ Pure w w' := by
  unfold lnVX
  have HB := Lib.hid hB
  have H := Lib.hid h
  have HR := Lib.hid hr
  have HT := Lib.hid ht
  obtain ⟨A, c, rfl, hnc, hcm⟩ := h.form
  obtain ⟨Ar, cr, rfl⟩ := hr.form
  obtain ⟨At, ct, rfl⟩ := ht.form
  clear h hr ht hB
  obtain ⟨wz, Hwz⟩ : ∃ wz, Hid (w.alloc (.cells #[.slice Ar l.rs.length cr, .int .i64 l.at_, .slice At l.ts.length ct, .bool l.wt] 43) = wz) := ⟨_, Lib.hid rfl⟩
  have HPZ : Hid (Pure w wz) := Lib.hid (by rw [← Hwz.out]; exact (by repeat (first | assumption | exact Pure.refl _ | refine Pure.drewN ?_ _ | refine Pure.drew ?_ | refine Pure.alloc ?_ _ | refine Pure.setCell ?_ (by simp <;> omega) _)))
  have HZ : Hid (wz.heap[w.heap.size]? = some (.cells #[.slice Ar l.rs.length cr, .int .i64 l.at_, .slice At l.ts.length ct, .bool l.wt] 43 (0, 0))) := Lib.hid (by rw [← Hwz.out]; exact heap_alloc_new w _)
  by_cases hv : PValid cs
  · have HV := Lib.hid hv
    have h40 := hv.2.1
    clear hv
    by_cases ha : 0 ≤ l.at_ ∧ l.at_ ≤ (cs.length : Int)
    · obtain ⟨ha0, ha1⟩ := ha
      have HA0 := Lib.hid ha0
      obtain ⟨at_, Hat⟩ : ∃ at_ : Nat, Hid (l.at_ = (at_ : Int)) := ⟨l.at_.toNat, Lib.hid (by omega)⟩
      have hatl : at_ ≤ cs.length := by have := Hat.out; omega
      have HTN : Hid (l.at_.toNat = at_) := Lib.hid (by have := Hat.out; omega)
      by_cases hn : l.rs.length = 4
      · have HN := Lib.hid hn
        have hn4 : ((l.rs.length : Int) != 4) = false := by simp [hn]
        clear hn
        obtain ⟨bw, hbw⟩ : ∃ bw : Bool, bw = true ↔ ∀ x ∈ l.rs, Word x := by classical exact ⟨decide (∀ x ∈ l.rs, Word x), by simp⟩
        have HBW := Lib.hid hbw
        clear hbw
        go_enter Try.func89, Try.ntmps89
        go_wp2_with fail
        rw [Hwz.out]
        refine (ipv_any _ cs _ (H.out.keep HPZ.out) hs true (by simp only [true_iff]; exact HV.out)).mono ?_
        rintro e w1 ⟨rfl, hp1⟩
        obtain ⟨k0, _⟩ := row_pure hp1 HZ.out 0
        obtain ⟨k1, _⟩ := row_pure hp1 HZ.out 1
        have HZ1 := Lib.hid ((Chg.of_pure (S := fun _ => False) hp1).heap HZ.out id)
        simp only [List.getElem?_toArray, List.getElem?_cons_zero, List.getElem?_cons_succ] at k0 k1
        have HP1 := Lib.hid (HPZ.out.trans hp1)
        clear hp1
        go_wp2_with fail
        refine (within_any _ _ _ _ true (by simp only [true_iff]; exact ⟨HA0.out, ha1⟩)).mono ?_
        rintro e w2 ⟨rfl, rfl⟩
        go_wp2_with fail
        refine (ilnvcf_any _ l.rs _ (HR.out.keep HP1.out) (by have := HN.out; omega) bw HBW.out).mono ?_
        rintro e w2 ⟨rfl, hp2⟩
        have HZ2 := Lib.hid ((Chg.of_pure (S := fun _ => False) hp2).heap HZ1.out id)
        have HP2 := Lib.hid (HP1.out.trans hp2)
        clear hp2 k0 k1
        obtain ⟨k0, _⟩ := row_pure (Pure.refl _) HZ2.out 0
        obtain ⟨k1, _⟩ := row_pure (Pure.refl _) HZ2.out 1
        obtain ⟨k2, _⟩ := row_pure (Pure.refl _) HZ2.out 2
        obtain ⟨k3, _⟩ := row_pure (Pure.refl _) HZ2.out 3
        simp only [List.getElem?_toArray, List.getElem?_cons_zero, List.getElem?_cons_succ] at k0 k1 k2 k3
        cases bw
        · have HBF := Lib.hid (b_no HB.out (fun q => by have := HBW.out.2 q.w; cases this))
          go_wp2
          go_ret
          exact ⟨by rw [HBF.out]; rfl, HP2.out⟩
        · by_cases hw : l.wt = true → 0 < l.at_ ∧ (cs.getD (at_ - 1) default).op = 10
          · have HW := Lib.hid hw
            clear hw
            rw [Hat.out] at k1
            cases hwt : l.wt
            · rw [hwt] at k3
              have HWT := Lib.hid hwt
              clear hwt
              by_cases hlt : at_ < cs.length
              · have hlti : (at_ : Int) < (cs.length : Int) := by omega
                go_wp2_with fail
                refine (blocks_any _ cs _ (H.out.keep HP2.out) h40).mono ?_
                rintro e w3 ⟨hp3, hbk⟩
                rw [HV.out.2.2] at hbk
                obtain ⟨va, vo, rfl, htab⟩ := hbk
                have htab := htab rfl
                have HTB := Lib.hid htab
                obtain ⟨pb, _, hop, Rw, hva, hrow⟩ := htab
                have HOP := Lib.hid hop
                obtain ⟨Av, cv, rfl, _, _, hva4⟩ := hva
                obtain ⟨gb, go, rfl, hgb, hvc⟩ := hva4 (by omega)
                have hrc := hvc at_ (by omega)
                obtain ⟨As, cas, eR, _, _, hs4⟩ := hrow at_ hlt
                rw [eR] at hrc
                have HS4 := Lib.hid hs4
                have HZ3 := Lib.hid ((Chg.of_pure (S := fun _ => False) hp3).heap HZ2.out id)
                obtain ⟨m0, _⟩ := row_pure (Pure.refl _) HZ3.out 0
                obtain ⟨m1, _⟩ := row_pure (Pure.refl _) HZ3.out 1
                obtain ⟨m2, _⟩ := row_pure (Pure.refl _) HZ3.out 2
                simp only [List.getElem?_toArray, List.getElem?_cons_zero, List.getElem?_cons_succ] at m0 m1 m2
                rw [Hat.out] at m1
                try rw [hkx] at m1
                obtain ⟨sn, Hsn⟩ : ∃ sn, Hid ((stkPos cs at_).length = sn) := ⟨_, Lib.hid rfl⟩
                rw [Hsn.out] at hrc
                have HP3 := Lib.hid (HP2.out.trans hp3)
                have hsn3 : sn ≤ 3 := by rw [← Hsn.out, stkOf_pos, List.length_reverse]; exact stkOf_len HV.out hatl
                clear hp3 k0 k1 k2 k3 hop hrow hva4 hvc hs4 eR
                go_wp2_with fail
                clear m0 m1 m2 hrc
                go_loopg [69, 5] sn (fun gk i q wr => ∃ j : Nat, gk + j = sn ∧ i = .int .i64 j ∧ Pure w3 wr ∧ wr.ownsRow w3.heap.size 3 1 q (lbs cs ((stkPos cs at_).take j)).length ((lbs cs ((stkPos cs at_).take j)).map (.int .i64)))
                case atStart => exact ⟨0, rfl, rfl, Pure.refl _, by rw [List.take_zero]; exact World.ownsRow_nil _ _ _ _⟩
                case round =>
                  obtain ⟨j, hgk, rfl, hp, hown⟩ := hrel
                  have Hgk := Lib.hid hgk
                  have HPR := Lib.hid hp
                  have hjs : j ≤ sn := by omega
                  obtain ⟨BL, HBL⟩ : ∃ BL, Hid (lbs cs ((stkPos cs at_).take j) = BL) := ⟨_, Lib.hid rfl⟩
                  rw [HBL.out] at hown
                  have hbl3 : BL.length ≤ 3 := by
                    have h1 := lbs_le (cs := cs) (xs := (stkPos cs at_).take j)
                    rw [HBL.out, List.length_take] at h1; omega
                  have HQ := Lib.hid hown
                  obtain ⟨Aq, cq, rfl⟩ := (Ints.of_map hown).form
                  clear hgk hp hown
                  by_cases hj : j < sn
                  · obtain ⟨sb, so, rfl, hsb, hsc⟩ := HS4.out (by rw [Hsn.out]; omega)
                    have hsx := (HPR.out.cell sb _ hsb).trans (hsc j (by rw [Hsn.out]; omega))
                    have hjl : j < (stkPos cs at_).length := by rw [Hsn.out]; exact hj
                    have HNL := Lib.hid (lbs_step (cs := cs) hjl)
                    obtain ⟨hpl, hpo⟩ := stk_opens HV.out hatl hjl
                    obtain ⟨p, Hp⟩ : ∃ p, Hid ((stkPos cs at_).getD j 0 = p) := ⟨_, Lib.hid rfl⟩
                    rw [Hp.out] at hsx HNL hpl hpo
                    have hpc : p < cs.length := by omega
                    obtain ⟨hb1, hb2, _, _⟩ := HOP.out p hpc hpo
                    have hb3 := (HPR.out.cell (pb p) 0 hb1).trans hb2
                    obtain ⟨b7, o7, e7, hb7, hca⟩ := H.out.at_ hpc
                    first | subst e7 | (injection e7 with e7; injection e7 with e7 e8; subst e7; subst e8)
                    obtain ⟨cd, Hcd⟩ : ∃ cd, Hid (cs.getD p default = cd) := ⟨_, Lib.hid rfl⟩
                    rw [Hcd.out] at hca HNL
                    obtain ⟨t0, t1, t2, t3⟩ := hca.keep (HP3.out.trans HPR.out) hb7
                    have hpi : (p : Int) < cs.length := by omega
                    have hjsi : (j : Int) < sn := by omega
                    have hbw1 : pb p < wr.heap.size := Nat.lt_of_lt_of_le hb1 HPR.out.size
                    unfold ptr at hsx
                    rw [HBL.out] at HNL
                    obtain ⟨op, ca, cb, cc⟩ := cd
                    clear hca hsc hb1 hb2
                    by_cases h13 : op = 13
                    · subst h13
                      rw [if_pos rfl] at HNL
                      obtain ⟨wq, Hwq⟩ : ∃ wq, Hid (wr.alloc (.cells #[.int .i64 cb] 3) = wq) := ⟨_, Lib.hid rfl⟩
                      have hpq : Pure wr wq := by rw [← Hwq.out]; exact (by repeat (first | assumption | exact Pure.refl _ | refine Pure.drewN ?_ _ | refine Pure.drew ?_ | refine Pure.alloc ?_ _ | refine Pure.setCell ?_ (by simp <;> omega) _))
                      have HPQ := Lib.hid (HPR.out.trans hpq)
                      have hq0 : wq.heap[wr.heap.size]? = some (.cells #[.int .i64 cb] 3 (0, 0)) := by rw [← Hwq.out]; exact heap_alloc_new wr _
                      have HLIT := Lib.hid (fun i u (hu : [Value.int .i64 cb][i]? = some u) => (show wq.cell? ⟨wr.heap.size, i, none⟩ = some u from (cell_of_row _ _ i _ _ _ hq0).trans (by rw [List.getElem?_toArray]; exact hu)))
                      have HQO := Lib.hid (own_pure HQ.out hpq)
                      have HQS : Hid (w3.heap.size ≤ wq.heap.size) := Lib.hid (by have := HPQ.out.size; omega)
                      have hwq0 := Hwq.out
                      rw [← hwq0] at HLIT HQO HQS
                      have Hwq0 := Lib.hid hwq0
                      clear hwq0 hq0 hpq
                      go_wp2_with (at_builtin; go_must (refine wl_append elInt rfl _ _ rfl w3.heap.size _ BL.length _ rfl HQO.out wr.heap.size 1 1 [.int .i64 cb] rfl rfl HLIT.out (by intro u hu; simp at hu; subst hu; rfl) (by omega) (by omega) HQS.out ?_); intro v5 w5 hown5 hg5; go_must (rw [Hwq0.out] at hg5; have HO5 := Lib.hid hown5; have HP5 := Lib.hid (Pure.grown (w0 := w3) HPQ.out hg5 (fun g hg => (own_lt HQ.out g hg).1)); clear hown5 hg5))
                      go_roundg (sn - (j + 1))
                      case measure => have := Hgk.out; omega
                      case rel => exact ⟨j + 1, by have := Hgk.out; omega, by go_num, HP5.out, by rw [HNL.out, List.length_append, List.map_append]; exact HO5.out⟩
                    · rw [if_neg h13] at HNL
                      have d13 : (op == 13) = false := by rw [beq_eq_false_iff_ne]; exact h13
                      go_wp2_with fail
                      go_roundg (sn - (j + 1))
                      case measure => have := Hgk.out; omega
                      case rel => exact ⟨j + 1, by have := Hgk.out; omega, by go_num, HPR.out, by rw [HNL.out]; exact HQ.out⟩
                  · have hjs' : j = sn := by omega
                    subst hjs'
                    obtain ⟨W, HWW⟩ : ∃ W, Hid (wr = W) := ⟨_, Lib.hid rfl⟩
                    have HBE : Hid (BL = (lps cs at_).map fun p => (cs.getD p default).b) := Lib.hid (by rw [← HBL.out, ← Hsn.out, List.take_length]; exact lbs_all)
                    have HBB : Hid (∀ j, j < BL.length → 0 ≤ BL.getD j 0 ∧ BL.getD j 0 ≤ 255) := Lib.hid (by rw [HBE.out]; exact lps_bb HV.out hatl)
                    have HPW := Lib.hid (HP3.out.trans HPR.out)
                    have HZW := Lib.hid ((Chg.of_pure (S := fun _ => False) HPR.out).heap HZ3.out id)
                    rw [HWW.out] at HQ HPW HZW ⊢
                    obtain ⟨r0, _⟩ := row_pure (Pure.refl _) HZW.out 0
                    obtain ⟨r1, _⟩ := row_pure (Pure.refl _) HZW.out 1
                    obtain ⟨r2, _⟩ := row_pure (Pure.refl _) HZW.out 2
                    obtain ⟨r3, _⟩ := row_pure (Pure.refl _) HZW.out 3
                    simp only [List.getElem?_toArray, List.getElem?_cons_zero, List.getElem?_cons_succ] at r0 r1 r2 r3
                    by_cases htl : BL.length = l.ts.length
                    · have HTL := Lib.hid htl
                      have htl2 : ((BL.length : Int) != l.ts.length) = false := by simp [htl]
                      clear htl
                      go_wp2_with fail
                      clear r0 r1 r2 r3
                      go_loopg [103] BL.length (fun gk i wr => ∃ j : Nat, gk + j = BL.length ∧ i = .int .i64 j ∧ Pure W wr ∧ ∀ x, x < j → 0 ≤ l.ts.getD x 0 ∧ l.ts.getD x 0 ≤ BL.getD x 0 - 1)
                      case atStart => exact ⟨0, rfl, rfl, Pure.refl _, fun x hx => absurd hx (by omega)⟩
                      case round =>
                        obtain ⟨j, hgk, rfl, hp3, htn⟩ := hrel
                        have Hgk2 := Lib.hid hgk
                        have HP3 := Lib.hid hp3
                        have HTT := Lib.hid htn
                        have hjL : j ≤ BL.length := by omega
                        clear hgk hp3 htn
                        by_cases hj2 : j < BL.length
                        · obtain ⟨bt, ot, rfl, hbt, hxt⟩ := ints_at (HT.out.keep (HPW.out.trans HP3.out)) (show j < l.ts.length by rw [← HTL.out]; exact hj2)
                          obtain ⟨x, Hx⟩ : ∃ x, Hid (l.ts.getD j 0 = x) := ⟨_, Lib.hid rfl⟩
                          rw [Hx.out] at hxt
                          have hjt : j < l.ts.length := by rw [← HTL.out]; exact hj2
                          obtain ⟨bl, ol, rfl, hbl, hxl⟩ := ints_at ((Ints.of_map HQ.out).keep HP3.out) hj2
                          obtain ⟨y, Hy⟩ : ∃ y, Hid (BL.getD j 0 = y) := ⟨_, Lib.hid rfl⟩
                          rw [Hy.out] at hxl
                          have hyb := HBB.out j hj2
                          rw [Hy.out] at hyb
                          have hji : (j : Int) < BL.length := by omega
                          have hjti : (j : Int) < l.ts.length := by omega
                          obtain ⟨bv, hbv⟩ : ∃ bv : Bool, bv = true ↔ (0 ≤ x ∧ x ≤ y - 1) := ⟨decide (0 ≤ x ∧ x ≤ y - 1), by simp⟩
                          have HBV := Lib.hid hbv
                          clear hbv
                          go_wp2_with fail
                          refine (within_any _ _ _ _ bv HBV.out).mono ?_
                          rintro e w9 ⟨rfl, rfl⟩
                          cases bv
                          · have HBF := Lib.hid (b_no HB.out (fun q => by
                              have h1 := q.t j hjt
                              rw [HTN.out, Hx.out, ← lps_b (cs := cs) (k := at_) (by rw [← HBE.out]; exact hj2), ← HBE.out, Hy.out] at h1
                              have := HBV.out.2 h1; cases this))
                            go_wp2
                            go_ret
                            exact ⟨by rw [HBF.out]; rfl, HPW.out.trans HP3.out⟩
                          · go_wp2
                            go_roundg (BL.length - (j + 1))
                            case measure => have := Hgk2.out; omega
                            case rel => exact ⟨j + 1, by have := Hgk2.out; omega, by go_num, HP3.out, fun z hz => by
                              by_cases e : z = j
                              · subst e; rw [Hx.out, Hy.out]; exact HBV.out.1 (by trivial)
                              · exact HTT.out z (by omega)⟩
                        · have hjL' : j = BL.length := by omega
                          have HBT : Hid (B = true) := Lib.hid (HB.out.2 ⟨HV.out, HN.out, HA0.out, ha1, HBW.out.1 (by trivial), by rw [HTN.out, ← HTL.out, HBE.out]; simp, fun k hk => by
                            have hk2 : k < BL.length := by have := HTL.out; omega
                            rw [HTN.out, ← lps_b (cs := cs) (k := at_) (by rw [← HBE.out]; exact hk2), ← HBE.out]
                            exact HTT.out k (by omega), fun hw => by rw [HTN.out]; exact HW.out hw⟩)
                          subst hjL'
                          have hge : (l.ts.length : Int) ≤ (BL.length : Int) := by have := HTL.out; omega
                          have hge2 : l.ts.length ≤ BL.length := by omega
                          go_wp2
                          go_ret
                          exact ⟨by rw [HBT.out]; rfl, HPW.out.trans HP3.out⟩
                    · have HBF := Lib.hid (b_no HB.out (fun q => by have h1 := q.tl; rw [HTN.out] at h1; have h2 := HBE.out; apply htl; rw [h2, List.length_map]; exact h1))
                      have htl2 : ((BL.length : Int) != l.ts.length) = true := by rw [bne_iff_ne]; omega
                      go_wp2
                      go_ret
                      exact ⟨by rw [HBF.out]; rfl, HPW.out⟩
              · have hle : at_ = cs.length := by omega
                have hLz : (lps cs at_).length = 0 := by unfold lps; rw [hle, stkOf_end HV.out]; rfl
                have HLz := Lib.hid hLz
                have hgl : ¬ ((at_ : Int) < (cs.length : Int)) := by omega
                clear hLz
                by_cases htl : l.ts.length = 0
                · have HTL := Lib.hid htl
                  have htl2 : ((0 : Int) != l.ts.length) = false := by simp [htl]
                  have htl3 : ¬ ((0 : Int) < (l.ts.length : Int)) := by omega
                  clear htl
                  go_wp2_with fail
                  go_loopg [103] 0 (fun gk i wr => gk = 0 ∧ i = .int .i64 0 ∧ Pure w2 wr)
                  case atStart => exact ⟨rfl, rfl, Pure.refl _⟩
                  case round =>
                    obtain ⟨hgk, rfl, hp3⟩ := hrel
                    have HP3 := Lib.hid hp3
                    clear hp3
                    have HBT : Hid (B = true) := Lib.hid (HB.out.2 ⟨HV.out, HN.out, HA0.out, ha1, HBW.out.1 (by trivial), by rw [HTN.out, HLz.out, HTL.out], fun k hk => by have := HTL.out; omega, fun hw => by rw [HTN.out]; exact HW.out hw⟩)
                    go_wp2
                    go_ret
                    exact ⟨by rw [HBT.out]; rfl, HP2.out.trans HP3.out⟩
                · have HBF := Lib.hid (b_no HB.out (fun q => by have h1 := q.tl; rw [HTN.out, HLz.out] at h1; exact htl h1.symm))
                  have htl2 : ((0 : Int) != l.ts.length) = true := by rw [bne_iff_ne]; omega
                  go_wp2
                  go_ret
                  exact ⟨by rw [HBF.out]; rfl, HP2.out⟩
            · rw [hwt] at k3
              obtain ⟨h0, h10⟩ := HW.out hwt
              obtain ⟨a1, rfl⟩ : ∃ a1, at_ = a1 + 1 := ⟨at_ - 1, by have := Hat.out; omega⟩
              rw [Nat.add_sub_cancel] at h10
              have ha1c : a1 < cs.length := by omega
              obtain ⟨b, o, rfl, hb, hca⟩ := H.out.at_ ha1c
              obtain ⟨cd, Hcd⟩ : ∃ cd, Hid (cs.getD a1 default = cd) := ⟨_, Lib.hid rfl⟩
              rw [Hcd.out] at hca h10
              obtain ⟨q0, q1, q2, q3⟩ := hca.keep HP2.out hb
              have hai : (a1 : Int) < cs.length := by omega
              have hk1 : ((a1 + 1 : Nat) : Int) = (a1 : Int) + 1 := by omega
              have hkx := hk1
              rw [hk1] at k1
              have d0 : ((a1 : Int) + 1 == 0) = false := by rw [beq_eq_false_iff_ne]; omega
              obtain ⟨op, ca, cb, cc⟩ := cd
              obtain rfl : op = 10 := h10
              have HWT := Lib.hid hwt
              have H0 := Lib.hid h0
              clear hca hk1 h0 hwt
              by_cases hlt : (a1 + 1) < cs.length
              · have hlti : ((a1 : Int) + 1) < (cs.length : Int) := by omega
                go_wp2_with fail
                refine (blocks_any _ cs _ (H.out.keep HP2.out) h40).mono ?_
                rintro e w3 ⟨hp3, hbk⟩
                rw [HV.out.2.2] at hbk
                obtain ⟨va, vo, rfl, htab⟩ := hbk
                have htab := htab rfl
                have HTB := Lib.hid htab
                obtain ⟨pb, _, hop, Rw, hva, hrow⟩ := htab
                have HOP := Lib.hid hop
                obtain ⟨Av, cv, rfl, _, _, hva4⟩ := hva
                obtain ⟨gb, go, rfl, hgb, hvc⟩ := hva4 (by omega)
                have hrc := hvc (a1 + 1) (by omega)
                obtain ⟨As, cas, eR, _, _, hs4⟩ := hrow (a1 + 1) hlt
                rw [eR] at hrc
                have HS4 := Lib.hid hs4
                have HZ3 := Lib.hid ((Chg.of_pure (S := fun _ => False) hp3).heap HZ2.out id)
                obtain ⟨m0, _⟩ := row_pure (Pure.refl _) HZ3.out 0
                obtain ⟨m1, _⟩ := row_pure (Pure.refl _) HZ3.out 1
                obtain ⟨m2, _⟩ := row_pure (Pure.refl _) HZ3.out 2
                simp only [List.getElem?_toArray, List.getElem?_cons_zero, List.getElem?_cons_succ] at m0 m1 m2
                rw [Hat.out] at m1
                try rw [hkx] at m1
                obtain ⟨sn, Hsn⟩ : ∃ sn, Hid ((stkPos cs (a1 + 1)).length = sn) := ⟨_, Lib.hid rfl⟩
                rw [Hsn.out] at hrc
                have HP3 := Lib.hid (HP2.out.trans hp3)
                have hsn3 : sn ≤ 3 := by rw [← Hsn.out, stkOf_pos, List.length_reverse]; exact stkOf_len HV.out hatl
                clear hp3 k0 k1 k2 k3 hop hrow hva4 hvc hs4 eR
                go_wp2_with fail
                clear m0 m1 m2 hrc
                go_loopg [69, 5] sn (fun gk i q wr => ∃ j : Nat, gk + j = sn ∧ i = .int .i64 j ∧ Pure w3 wr ∧ wr.ownsRow w3.heap.size 3 1 q (lbs cs ((stkPos cs (a1 + 1)).take j)).length ((lbs cs ((stkPos cs (a1 + 1)).take j)).map (.int .i64)))
                case atStart => exact ⟨0, rfl, rfl, Pure.refl _, by rw [List.take_zero]; exact World.ownsRow_nil _ _ _ _⟩
                case round =>
                  obtain ⟨j, hgk, rfl, hp, hown⟩ := hrel
                  have Hgk := Lib.hid hgk
                  have HPR := Lib.hid hp
                  have hjs : j ≤ sn := by omega
                  obtain ⟨BL, HBL⟩ : ∃ BL, Hid (lbs cs ((stkPos cs (a1 + 1)).take j) = BL) := ⟨_, Lib.hid rfl⟩
                  rw [HBL.out] at hown
                  have hbl3 : BL.length ≤ 3 := by
                    have h1 := lbs_le (cs := cs) (xs := (stkPos cs (a1 + 1)).take j)
                    rw [HBL.out, List.length_take] at h1; omega
                  have HQ := Lib.hid hown
                  obtain ⟨Aq, cq, rfl⟩ := (Ints.of_map hown).form
                  clear hgk hp hown
                  by_cases hj : j < sn
                  · obtain ⟨sb, so, rfl, hsb, hsc⟩ := HS4.out (by rw [Hsn.out]; omega)
                    have hsx := (HPR.out.cell sb _ hsb).trans (hsc j (by rw [Hsn.out]; omega))
                    have hjl : j < (stkPos cs (a1 + 1)).length := by rw [Hsn.out]; exact hj
                    have HNL := Lib.hid (lbs_step (cs := cs) hjl)
                    obtain ⟨hpl, hpo⟩ := stk_opens HV.out hatl hjl
                    obtain ⟨p, Hp⟩ : ∃ p, Hid ((stkPos cs (a1 + 1)).getD j 0 = p) := ⟨_, Lib.hid rfl⟩
                    rw [Hp.out] at hsx HNL hpl hpo
                    have hpc : p < cs.length := by omega
                    obtain ⟨hb1, hb2, _, _⟩ := HOP.out p hpc hpo
                    have hb3 := (HPR.out.cell (pb p) 0 hb1).trans hb2
                    obtain ⟨b7, o7, e7, hb7, hca⟩ := H.out.at_ hpc
                    first | subst e7 | (injection e7 with e7; injection e7 with e7 e8; subst e7; subst e8)
                    obtain ⟨cd, Hcd⟩ : ∃ cd, Hid (cs.getD p default = cd) := ⟨_, Lib.hid rfl⟩
                    rw [Hcd.out] at hca HNL
                    obtain ⟨t0, t1, t2, t3⟩ := hca.keep (HP3.out.trans HPR.out) hb7
                    have hpi : (p : Int) < cs.length := by omega
                    have hjsi : (j : Int) < sn := by omega
                    have hbw1 : pb p < wr.heap.size := Nat.lt_of_lt_of_le hb1 HPR.out.size
                    unfold ptr at hsx
                    rw [HBL.out] at HNL
                    obtain ⟨op, ca, cb, cc⟩ := cd
                    clear hca hsc hb1 hb2
                    by_cases h13 : op = 13
                    · subst h13
                      rw [if_pos rfl] at HNL
                      obtain ⟨wq, Hwq⟩ : ∃ wq, Hid (wr.alloc (.cells #[.int .i64 cb] 3) = wq) := ⟨_, Lib.hid rfl⟩
                      have hpq : Pure wr wq := by rw [← Hwq.out]; exact (by repeat (first | assumption | exact Pure.refl _ | refine Pure.drewN ?_ _ | refine Pure.drew ?_ | refine Pure.alloc ?_ _ | refine Pure.setCell ?_ (by simp <;> omega) _))
                      have HPQ := Lib.hid (HPR.out.trans hpq)
                      have hq0 : wq.heap[wr.heap.size]? = some (.cells #[.int .i64 cb] 3 (0, 0)) := by rw [← Hwq.out]; exact heap_alloc_new wr _
                      have HLIT := Lib.hid (fun i u (hu : [Value.int .i64 cb][i]? = some u) => (show wq.cell? ⟨wr.heap.size, i, none⟩ = some u from (cell_of_row _ _ i _ _ _ hq0).trans (by rw [List.getElem?_toArray]; exact hu)))
                      have HQO := Lib.hid (own_pure HQ.out hpq)
                      have HQS : Hid (w3.heap.size ≤ wq.heap.size) := Lib.hid (by have := HPQ.out.size; omega)
                      have hwq0 := Hwq.out
                      rw [← hwq0] at HLIT HQO HQS
                      have Hwq0 := Lib.hid hwq0
                      clear hwq0 hq0 hpq
                      go_wp2_with (at_builtin; go_must (refine wl_append elInt rfl _ _ rfl w3.heap.size _ BL.length _ rfl HQO.out wr.heap.size 1 1 [.int .i64 cb] rfl rfl HLIT.out (by intro u hu; simp at hu; subst hu; rfl) (by omega) (by omega) HQS.out ?_); intro v5 w5 hown5 hg5; go_must (rw [Hwq0.out] at hg5; have HO5 := Lib.hid hown5; have HP5 := Lib.hid (Pure.grown (w0 := w3) HPQ.out hg5 (fun g hg => (own_lt HQ.out g hg).1)); clear hown5 hg5))
                      go_roundg (sn - (j + 1))
                      case measure => have := Hgk.out; omega
                      case rel => exact ⟨j + 1, by have := Hgk.out; omega, by go_num, HP5.out, by rw [HNL.out, List.length_append, List.map_append]; exact HO5.out⟩
                    · rw [if_neg h13] at HNL
                      have d13 : (op == 13) = false := by rw [beq_eq_false_iff_ne]; exact h13
                      go_wp2_with fail
                      go_roundg (sn - (j + 1))
                      case measure => have := Hgk.out; omega
                      case rel => exact ⟨j + 1, by have := Hgk.out; omega, by go_num, HPR.out, by rw [HNL.out]; exact HQ.out⟩
                  · have hjs' : j = sn := by omega
                    subst hjs'
                    obtain ⟨W, HWW⟩ : ∃ W, Hid (wr = W) := ⟨_, Lib.hid rfl⟩
                    have HBE : Hid (BL = (lps cs (a1 + 1)).map fun p => (cs.getD p default).b) := Lib.hid (by rw [← HBL.out, ← Hsn.out, List.take_length]; exact lbs_all)
                    have HBB : Hid (∀ j, j < BL.length → 0 ≤ BL.getD j 0 ∧ BL.getD j 0 ≤ 255) := Lib.hid (by rw [HBE.out]; exact lps_bb HV.out hatl)
                    have HPW := Lib.hid (HP3.out.trans HPR.out)
                    have HZW := Lib.hid ((Chg.of_pure (S := fun _ => False) HPR.out).heap HZ3.out id)
                    rw [HWW.out] at HQ HPW HZW ⊢
                    obtain ⟨r0, _⟩ := row_pure (Pure.refl _) HZW.out 0
                    obtain ⟨r1, _⟩ := row_pure (Pure.refl _) HZW.out 1
                    obtain ⟨r2, _⟩ := row_pure (Pure.refl _) HZW.out 2
                    obtain ⟨r3, _⟩ := row_pure (Pure.refl _) HZW.out 3
                    simp only [List.getElem?_toArray, List.getElem?_cons_zero, List.getElem?_cons_succ] at r0 r1 r2 r3
                    by_cases htl : BL.length = l.ts.length
                    · have HTL := Lib.hid htl
                      have htl2 : ((BL.length : Int) != l.ts.length) = false := by simp [htl]
                      clear htl
                      go_wp2_with fail
                      clear r0 r1 r2 r3
                      go_loopg [103] BL.length (fun gk i wr => ∃ j : Nat, gk + j = BL.length ∧ i = .int .i64 j ∧ Pure W wr ∧ ∀ x, x < j → 0 ≤ l.ts.getD x 0 ∧ l.ts.getD x 0 ≤ BL.getD x 0 - 1)
                      case atStart => exact ⟨0, rfl, rfl, Pure.refl _, fun x hx => absurd hx (by omega)⟩
                      case round =>
                        obtain ⟨j, hgk, rfl, hp3, htn⟩ := hrel
                        have Hgk2 := Lib.hid hgk
                        have HP3 := Lib.hid hp3
                        have HTT := Lib.hid htn
                        have hjL : j ≤ BL.length := by omega
                        clear hgk hp3 htn
                        by_cases hj2 : j < BL.length
                        · obtain ⟨bt, ot, rfl, hbt, hxt⟩ := ints_at (HT.out.keep (HPW.out.trans HP3.out)) (show j < l.ts.length by rw [← HTL.out]; exact hj2)
                          obtain ⟨x, Hx⟩ : ∃ x, Hid (l.ts.getD j 0 = x) := ⟨_, Lib.hid rfl⟩
                          rw [Hx.out] at hxt
                          have hjt : j < l.ts.length := by rw [← HTL.out]; exact hj2
                          obtain ⟨bl, ol, rfl, hbl, hxl⟩ := ints_at ((Ints.of_map HQ.out).keep HP3.out) hj2
                          obtain ⟨y, Hy⟩ : ∃ y, Hid (BL.getD j 0 = y) := ⟨_, Lib.hid rfl⟩
                          rw [Hy.out] at hxl
                          have hyb := HBB.out j hj2
                          rw [Hy.out] at hyb
                          have hji : (j : Int) < BL.length := by omega
                          have hjti : (j : Int) < l.ts.length := by omega
                          obtain ⟨bv, hbv⟩ : ∃ bv : Bool, bv = true ↔ (0 ≤ x ∧ x ≤ y - 1) := ⟨decide (0 ≤ x ∧ x ≤ y - 1), by simp⟩
                          have HBV := Lib.hid hbv
                          clear hbv
                          go_wp2_with fail
                          refine (within_any _ _ _ _ bv HBV.out).mono ?_
                          rintro e w9 ⟨rfl, rfl⟩
                          cases bv
                          · have HBF := Lib.hid (b_no HB.out (fun q => by
                              have h1 := q.t j hjt
                              rw [HTN.out, Hx.out, ← lps_b (cs := cs) (k := (a1 + 1)) (by rw [← HBE.out]; exact hj2), ← HBE.out, Hy.out] at h1
                              have := HBV.out.2 h1; cases this))
                            go_wp2
                            go_ret
                            exact ⟨by rw [HBF.out]; rfl, HPW.out.trans HP3.out⟩
                          · go_wp2
                            go_roundg (BL.length - (j + 1))
                            case measure => have := Hgk2.out; omega
                            case rel => exact ⟨j + 1, by have := Hgk2.out; omega, by go_num, HP3.out, fun z hz => by
                              by_cases e : z = j
                              · subst e; rw [Hx.out, Hy.out]; exact HBV.out.1 (by trivial)
                              · exact HTT.out z (by omega)⟩
                        · have hjL' : j = BL.length := by omega
                          have HBT : Hid (B = true) := Lib.hid (HB.out.2 ⟨HV.out, HN.out, HA0.out, ha1, HBW.out.1 (by trivial), by rw [HTN.out, ← HTL.out, HBE.out]; simp, fun k hk => by
                            have hk2 : k < BL.length := by have := HTL.out; omega
                            rw [HTN.out, ← lps_b (cs := cs) (k := (a1 + 1)) (by rw [← HBE.out]; exact hk2), ← HBE.out]
                            exact HTT.out k (by omega), fun hw => by rw [HTN.out]; exact HW.out hw⟩)
                          subst hjL'
                          have hge : (l.ts.length : Int) ≤ (BL.length : Int) := by have := HTL.out; omega
                          have hge2 : l.ts.length ≤ BL.length := by omega
                          go_wp2
                          go_ret
                          exact ⟨by rw [HBT.out]; rfl, HPW.out.trans HP3.out⟩
                    · have HBF := Lib.hid (b_no HB.out (fun q => by have h1 := q.tl; rw [HTN.out] at h1; have h2 := HBE.out; apply htl; rw [h2, List.length_map]; exact h1))
                      have htl2 : ((BL.length : Int) != l.ts.length) = true := by rw [bne_iff_ne]; omega
                      go_wp2
                      go_ret
                      exact ⟨by rw [HBF.out]; rfl, HPW.out⟩
              · have hle : (a1 + 1) = cs.length := by omega
                have hLz : (lps cs (a1 + 1)).length = 0 := by unfold lps; rw [hle, stkOf_end HV.out]; rfl
                have HLz := Lib.hid hLz
                have hgl : ¬ (((a1 : Int) + 1) < (cs.length : Int)) := by omega
                clear hLz
                by_cases htl : l.ts.length = 0
                · have HTL := Lib.hid htl
                  have htl2 : ((0 : Int) != l.ts.length) = false := by simp [htl]
                  have htl3 : ¬ ((0 : Int) < (l.ts.length : Int)) := by omega
                  clear htl
                  go_wp2_with fail
                  go_loopg [103] 0 (fun gk i wr => gk = 0 ∧ i = .int .i64 0 ∧ Pure w2 wr)
                  case atStart => exact ⟨rfl, rfl, Pure.refl _⟩
                  case round =>
                    obtain ⟨hgk, rfl, hp3⟩ := hrel
                    have HP3 := Lib.hid hp3
                    clear hp3
                    have HBT : Hid (B = true) := Lib.hid (HB.out.2 ⟨HV.out, HN.out, HA0.out, ha1, HBW.out.1 (by trivial), by rw [HTN.out, HLz.out, HTL.out], fun k hk => by have := HTL.out; omega, fun hw => by rw [HTN.out]; exact HW.out hw⟩)
                    go_wp2
                    go_ret
                    exact ⟨by rw [HBT.out]; rfl, HP2.out.trans HP3.out⟩
                · have HBF := Lib.hid (b_no HB.out (fun q => by have h1 := q.tl; rw [HTN.out, HLz.out] at h1; exact htl h1.symm))
                  have htl2 : ((0 : Int) != l.ts.length) = true := by rw [bne_iff_ne]; omega
                  go_wp2
                  go_ret
                  exact ⟨by rw [HBF.out]; rfl, HP2.out⟩
          · have hw1 : l.wt = true := by
              cases hq : l.wt
              · exact absurd (fun h => by rw [hq] at h; cases h) hw
              · rfl
            have HBF := Lib.hid (b_no HB.out (fun q => hw (fun h => by have := q.b h; rw [HTN.out] at this; exact this)))
            rw [hw1] at k3
            rw [Hat.out] at k1
            by_cases h0 : at_ = 0
            · subst h0
              go_wp2_with fail
              go_ret
              exact ⟨by rw [HBF.out]; rfl, HP2.out⟩
            · obtain ⟨a1, rfl⟩ : ∃ a1, at_ = a1 + 1 := ⟨at_ - 1, by omega⟩
              have ha1c : a1 < cs.length := by omega
              obtain ⟨b, o, rfl, hb, hca⟩ := H.out.at_ ha1c
              obtain ⟨cd, Hcd⟩ : ∃ cd, Hid (cs.getD a1 default = cd) := ⟨_, Lib.hid rfl⟩
              rw [Hcd.out] at hca
              obtain ⟨q0, q1, q2, q3⟩ := hca.keep HP2.out hb
              have hai : (a1 : Int) < cs.length := by omega
              have hk1 : ((a1 + 1 : Nat) : Int) = (a1 : Int) + 1 := by omega
              rw [hk1] at k1
              have d0 : ((a1 : Int) + 1 == 0) = false := by rw [beq_eq_false_iff_ne]; omega
              obtain ⟨op, ca, cb, cc⟩ := cd
              have h10 : op ≠ 10 := fun e => hw (fun _ => ⟨by have := Hat.out; omega, by rw [Nat.add_sub_cancel, Hcd.out]; exact e⟩)
              have d10 : (op != 10) = true := by rw [bne_iff_ne]; exact h10
              clear hca hk1 hw
              go_wp2_with fail
              go_ret
              exact ⟨by rw [HBF.out]; rfl, HP2.out⟩
      · have HBF := Lib.hid (b_no HB.out (fun q => hn q.n))
        have hn4 : ((l.rs.length : Int) != 4) = true := by rw [bne_iff_ne]; omega
        go_enter Try.func89, Try.ntmps89
        go_wp2_with fail
        rw [Hwz.out]
        refine (ipv_any _ cs _ (H.out.keep HPZ.out) hs true (by simp only [true_iff]; exact HV.out)).mono ?_
        rintro e w1 ⟨rfl, hp1⟩
        obtain ⟨k0, _⟩ := row_pure hp1 HZ.out 0
        obtain ⟨k1, _⟩ := row_pure hp1 HZ.out 1
        simp only [List.getElem?_toArray, List.getElem?_cons_zero, List.getElem?_cons_succ] at k0 k1
        have HP1 := Lib.hid (HPZ.out.trans hp1)
        clear hp1
        go_wp2_with fail
        refine (within_any _ _ _ _ true (by simp only [true_iff]; exact ⟨HA0.out, ha1⟩)).mono ?_
        rintro e w2 ⟨rfl, rfl⟩
        go_wp2
        go_ret
        exact ⟨by rw [HBF.out]; rfl, HP1.out⟩
    · have HBF := Lib.hid (b_no HB.out (fun q => ha ⟨q.a0, q.a1⟩))
      have HA := Lib.hid ha
      clear ha
      go_enter Try.func89, Try.ntmps89
      go_wp2_with fail
      rw [Hwz.out]
      refine (ipv_any _ cs _ (H.out.keep HPZ.out) hs true (by simp only [true_iff]; exact HV.out)).mono ?_
      rintro e w1 ⟨rfl, hp1⟩
      obtain ⟨k0, _⟩ := row_pure hp1 HZ.out 0
      obtain ⟨k1, _⟩ := row_pure hp1 HZ.out 1
      simp only [List.getElem?_toArray, List.getElem?_cons_zero, List.getElem?_cons_succ] at k0 k1
      have HP1 := Lib.hid (HPZ.out.trans hp1)
      clear hp1
      go_wp2_with fail
      refine (within_any _ _ _ _ false (by simp only [Bool.false_eq_true, false_iff]; exact HA.out)).mono ?_
      rintro e w2 ⟨rfl, rfl⟩
      go_wp2
      go_ret
      exact ⟨by rw [HBF.out]; rfl, HP1.out⟩
  · have HBF := Lib.hid (b_no HB.out (fun q => hv q.p))
    have HV := Lib.hid hv
    clear hv
    go_enter Try.func89, Try.ntmps89
    go_wp2_with fail
    rw [Hwz.out]
    refine (ipv_any _ cs _ (H.out.keep HPZ.out) hs false (by simp only [Bool.false_eq_true, false_iff]; exact HV.out)).mono ?_
    rintro e w1 ⟨rfl, hp1⟩
    have HP1 := Lib.hid (HPZ.out.trans hp1)
    clear hp1
    go_wp2
    go_ret
    exact ⟨by rw [HBF.out]; rfl, HP1.out⟩

end Go.Proofs.Ytkolnakcgjlcgaa
