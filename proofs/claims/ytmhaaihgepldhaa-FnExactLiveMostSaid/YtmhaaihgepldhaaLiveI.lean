/- The registers that are still wanted, as the program finds them on valid programs. No condition. -/
import Derived.Test.YtmhaaihgepldhaaLiveS
import Derived.Test.YtmhaaihgepldhaaIGraph2
namespace Go.Proofs.Ytmhaaihgepldhaa
open Go.RowKit
--CUT
theorem orAll_take (live : Nat → Nat) {row : List Int} {j y : Nat} (h : row.getD j 0 = y) (hj : j < row.length) : orAll live (row.take (j + 1)) = orAll live (row.take j) ||| live y := by
  rw [List.take_add_one]
  have : row[j]? = some (y : Int) := by simp [List.getD_eq_getElem?_getD, hj] at h; simp [hj, h]
  rw [this]
  show List.foldl _ 0 (List.take j row ++ [(y : Int)]) = _
  rw [List.foldl_append]
  rfl
theorem ownOf_end {cs : List Cd} {k b : Nat} (h : (cs.getD k default).op = 14) (ha : aroundAt cs k = b) : ownOf cs k = some b := by
  unfold ownOf
  rw [if_neg (by unfold Opens; omega), if_pos (.inr h), ha]; rfl
theorem rd_end {c : Cd} (h : c.op = 14) : rd c = 0 := by
  unfold rd
  rw [if_neg (by omega), if_neg (by omega), if_neg (by omega), if_neg (by omega), if_neg (by omega)]

set_option maxHeartbeats 4000000 in
set_option maxRecDepth 100000 in
theorem ilive_ok (v : Value) (cs : List Cd) (w : World) (h : Codes w v cs) (hv : PValid cs) :
    Calls Try.prog 78 #[v] w (LPost cs w) := by
  have H := Lib.hid h
  have HV := Lib.hid hv
  have hsmall := hv.2.1
  obtain ⟨A, c, rfl, hnc, hcm⟩ := h.form
  clear h hv
  go_enter Try.func78, Try.ntmps78
  go_wp2_with fail
  refine (igraph_ok _ cs _ H.out HV.out).mono ?_
  rintro e w1 ⟨vg, rfl, hg, hp1⟩
  have HG := Lib.hid hg
  obtain ⟨Ag, cg, hvg, hg1, hg2, hg3⟩ := hg
  rw [graph_length] at hvg
  subst hvg
  clear hg3
  go_wp2_with fail
  refine (blocks_any _ cs _ (H.out.keep hp1) hsmall).mono ?_
  rintro e w2 ⟨hp2, hm⟩
  rw [HV.out.2.2] at hm
  obtain ⟨va, vo, rfl, ht⟩ := hm
  have HT := Lib.hid (ht rfl)
  clear ht
  have hp12 := hp1.trans hp2
  go_wp2_with (at_make; go_must (refine wl_make elInt rfl _ _ rfl w.heap.size _ _ _ _ (cs.length + 1) rfl rfl (by omega) (by omega) (by omega) (by omega) hp12.size ?_); intro w3 hown hp hsz; have hO := Lib.hid (OwnO.of_own hown); have hp3 := Lib.hid hp; clear hown hp)
  have hS : SetsO w3 w.heap.size w2.heap.size (cs.length + 1) (fun _ => 0) := ⟨_, hO.out, fun j hj => by rw [zeros_get _ _ _ (by simpa using hj)]; simp [Nat.mod_one]⟩
  have HS := Lib.hid hS
  clear hS hO
  go_loopg [8] (room cs.length (fun _ => 0) + 1) (fun gk fl wr => ∃ (b : Bool) (live : Nat → Nat), fl = .bool b ∧ (b = true → room cs.length live < gk) ∧ (b = false → ∀ x, x < cs.length → live x = FL (succs cs) (wrOf cs) (rdOf cs) live x) ∧ LInv (succs cs) (wrOf cs) (rdOf cs) cs.length live ∧ Pure w2 wr ∧ SetsO wr w.heap.size w2.heap.size (cs.length + 1) live)
  case atStart => exact ⟨true, _, rfl, (fun _ => Nat.lt_succ_self _), (fun h => by cases h), LInv.start, hp3.out, HS.out⟩
  case round =>
    clear HS hp3
    obtain ⟨b, live0, rfl, hgk, hfix, hinv, hpr, hs⟩ := hrel
    have Hgk := Lib.hid hgk
    have Hfix := Lib.hid hfix
    have HI := Lib.hid hinv
    have HS := Lib.hid hs
    clear hgk hfix hinv hs
    cases b
    · go_wp2
      go_ret
      exact ⟨_, live0, rfl, HI.out.least (Hfix.out (by trivial)), HS.out.own, hp12.trans hpr⟩
    · go_wp2
      go_loopg [9, 8] cs.length (fun g2 i fl wr => ∃ (j : Nat) (b : Bool) (live : Nat → Nat), g2 = j ∧ i = .int .i64 ((j : Int) - 1) ∧ fl = .bool b ∧ j ≤ cs.length ∧ RInv cs j b live0 live ∧ Pure w2 wr ∧ SetsO wr w.heap.size w2.heap.size (cs.length + 1) live)
      case atStart => exact ⟨cs.length, false, live0, rfl, (by go_num), rfl, Nat.le_refl _, RInv.start HI.out, hpr, HS.out⟩
      case round =>
        clear HS HI
        obtain ⟨j, b, live, hg2, rfl, rfl, hjn, hR, hp, hs⟩ := hrel
        have Hg2 := Lib.hid hg2
        clear hg2
        have HR := Lib.hid hR
        have HS := Lib.hid hs
        clear hR hs
        by_cases hj : 0 < j
        · obtain ⟨k, rfl⟩ : ∃ k, j = k + 1 := ⟨j - 1, by omega⟩
          have hz : ((k + 1 : Nat) : Int) - 1 = k := by omega
          rw [hz]
          clear hz hj
          have hk : k < cs.length := by omega
          obtain ⟨b', o, rfl, hb, hc⟩ := H.out.at_ hk
          obtain ⟨cd, Hcd⟩ : ∃ cd, Hid (cs.getD k default = cd) := ⟨_, rfl⟩
          rw [Hcd.out] at hc
          have HC := Lib.hid hc
          have hok : CdOk cd := by rw [← Hcd.out]; exact HV.out.1 _ (cdOk_mem hk)
          have HOK := Lib.hid hok
          clear hc hok
          have hpw := hp12.trans hp
          -- the row of the graph
          obtain ⟨Ag', cg', hvg', _, _, hg3⟩ := HG.out.keep (hp2.trans hp)
          rw [graph_length] at hvg' hg3
          injection hvg' with e1 e2 e3
          subst e1 e3
          obtain ⟨bg, og, rfl, hbg, hcell⟩ := hg3 (by omega)
          obtain ⟨rv, hrv1, hrv2⟩ := hcell k (by omega)
          rw [graph_lt hk] at hrv2
          have hrow : ∀ x ∈ succs cs k, 0 ≤ x ∧ x < ((cs.length + 1 : Nat) : Int) := fun x hx => by
            have hx2 : x ∈ (graph cs).getD k [] := by rw [graph_lt hk]; exact hx
            have := (graph_valid HV.out).mem hx2
            rw [graph_length] at this
            omega
          have hlen64 : (succs cs k).length ≤ 64 := succs_len cs k
          have Hrow := Lib.hid hrow
          have HRV := Lib.hid hrv2
          obtain ⟨Ar, cr, rfl⟩ := hrv2.form
          clear hrow hg3 hcell hrv2
          obtain ⟨row, Hrw⟩ : ∃ row, Hid (succs cs k = row) := ⟨_, rfl⟩
          rw [Hrw.out] at HRV Hrow hlen64 hrv1
          obtain ⟨wo, rfl⟩ : ∃ wo : World, wo = wr := ⟨_, rfl⟩
          obtain ⟨c0, c1, c2, c3⟩ := HC.out.keep hpw hb
          have hbw : b' < wo.heap.size := Nat.lt_of_lt_of_le hb hpw.size
          go_wp2_with fail
          refine (icreads_any cd _ HOK.out).mono ?_
          rintro e w4 ⟨rfl, hp4⟩
          obtain ⟨x0, x1, x2, x3, hp04⟩ := boxed hp4
          have hbx : wo.heap.size < w4.heap.size := World.block_lt_of_cell? _ _ x0
          have g1 := (hp04.cell bg (og + k) hbg).trans hrv1
          clear c0 c1 c2 c3 hp4 hrv1
          have hpw4 := hpw.trans hp04
          have hp24 := hp.trans hp04
          obtain ⟨r, Hr⟩ : ∃ r, Hid (rd cd = r) := ⟨_, rfl⟩
          rw [Hr.out]
          have hr16 : r < 16 := by rw [← Hr.out]; exact rd_lt HOK.out
          obtain ⟨p, Hp⟩ : ∃ p, Hid (wst cd = p) := ⟨_, rfl⟩
          have hp16 : p < 16 := by rw [← Hp.out]; exact wr_lt HOK.out
          have hbg4 : bg < w4.heap.size := Nat.lt_of_lt_of_le hbg hp04.size
          by_cases h14 : cd.op = 14
          · have d14 : (cd.op == 14) = true := by simp [h14]
            obtain ⟨pb, o2, bi⟩ := (HV.out.pi hk).2.2 (by rw [Hcd.out]; exact h14)
            have HBI := Lib.hid bi
            have hpbk : pb < k := bi.lt
            have hlp : rdOf cs k = if (cs.getD pb default).op = 13 then pw (cs.getD pb default).a else 0 := by
              unfold rdOf loopPart
              rw [bi.ar, Int.toNat_natCast, Hcd.out, rd_end h14, Nat.zero_or]
              simp only [h14, true_and]
            have Hlp := Lib.hid hlp
            have hr0 : r = 0 := by rw [← Hr.out]; exact rd_end h14
            clear bi hlp
            obtain ⟨A2, c2, rfl, hc2, hcm2, b2, ob2, rfl, hb2, hown2⟩ := (HT.out.keep hp24).own hk
            obtain ⟨gb, y1, hgb, y2, _, _⟩ := hown2.1 pb (ownOf_end (by rw [Hcd.out]; exact h14) HBI.out.ar) (by omega) HBI.out.op
            clear hown2 h14
            obtain ⟨bb, ob, hab, hbb, hcb⟩ := H.out.at_ (k := pb) (by omega)
            injection hab with hab
            injection hab with hab1 hab2
            subst hab1 hab2
            obtain ⟨cb, Hcb⟩ : ∃ cb, Hid (cs.getD pb default = cb) := ⟨_, rfl⟩
            rw [Hcb.out] at hcb Hlp
            have hokb : CdOk cb := by rw [← Hcb.out]; exact HV.out.1 _ (cdOk_mem (by omega))
            have hab3 : 0 ≤ cb.a ∧ cb.a ≤ 3 := hokb.regs.1
            obtain ⟨ha0, ha3⟩ := hab3
            obtain ⟨c0, c1, c2, c3⟩ := hcb.keep hpw4 hb
            have hbw4 : b' < w4.heap.size := Nat.lt_of_lt_of_le hbw hp04.size
            clear hokb hbb
            by_cases h13 : cb.op = 13
            · have d13 : (cb.op == 13) = true := by simp [h13]
              have hshl : wrap64 (2 ^ cb.a.toNat) = ((pw cb.a : Nat) : Int) := shl_pw ha0 ha3
              obtain ⟨pa, Hpa⟩ : ∃ pa, Hid (pw cb.a = pa) := ⟨_, rfl⟩
              rw [Hpa.out] at hshl
              have Hshl := Lib.hid hshl
              clear hr0 hr16 Hr
              have hr16 : pa < 16 := by rw [← Hpa.out]; exact pw_lt ha3
              have HRD : Hid (rdOf cs k = pa) := Lib.hid (by rw [Hlp.out, if_pos h13, Hpa.out])
              clear h13
              go_wp2
              simp only [hshl]
              clear hshl
              go_loopg [64, 11] row.length (fun g3 i s wq => ∃ m : Nat, g3 + m = row.length ∧ i = .int .i64 m ∧ s = .int .i64 (pa ||| del (orAll live (row.take m)) p : Nat) ∧ Pure w4 wq)
              case atStart => exact ⟨0, rfl, rfl, by simp [orAll, zero_del]; first | done | exact Hshl.out, (by repeat (first | assumption | exact Pure.refl _ | refine Pure.drewN ?_ _ | refine Pure.drew ?_ | refine Pure.alloc ?_ _ | refine Pure.setCell ?_ (by simp <;> omega) _))⟩
              case round =>
                obtain ⟨m, hg3, rfl, rfl, hq⟩ := hrel
                have Hg3 := Lib.hid hg3
                have hmn : m ≤ row.length := by omega
                clear hg3 g1
                obtain ⟨a, Ha⟩ : ∃ a, Hid (pa ||| del (orAll live (row.take m)) p = a) := ⟨_, rfl⟩
                rw [Ha.out]
                have ha16 : a < 16 := by rw [← Ha.out]; exact or_lt hr16 (del_lt (orAll_lt HR.out.1.lt _) hp16)
                have HSq := Lib.hid (HS.out.pure (hp04.trans hq))
                have hp2q := hp24.trans hq
                by_cases hm : m < row.length
                · obtain ⟨Ar', cr', hv', _, _, h5⟩ := HRV.out.keep (hp04.trans hq)
                  injection hv' with e1 e2 e3
                  subst e1 e3
                  obtain ⟨br, or_, rfl, hbr, hcr⟩ := h5 (by omega)
                  obtain ⟨x, Hx⟩ : ∃ x, Hid (row.getD m 0 = x) := ⟨_, rfl⟩
                  have q1 := hcr m (by omega)
                  simp only [Hx.out] at q1
                  have hxm : x ∈ row := by have := Hx.out; subst this; simp [List.getD_eq_getElem?_getD, hm]
                  obtain ⟨hx0, hxm2⟩ := Hrow.out x hxm
                  obtain ⟨y, rfl⟩ := Int.eq_ofNat_of_zero_le hx0
                  have hy : y < cs.length + 1 := by omega
                  clear h5 hcr hxm
                  obtain ⟨f1, f2, f3, f4⟩ := HSq.out.facts (k := y) hy
                  have y0 := (hq.cell _ _ hbx).trans x0
                  have y1 := (hq.cell _ _ hbx).trans x1
                  have y2 := (hq.cell _ _ hbx).trans x2
                  have y3 := (hq.cell _ _ hbx).trans x3
                  have hv : live y < 16 := HR.out.1.lt y
                  have hnext := orAll_take live Hx.out hm
                  obtain ⟨u, Hu⟩ : ∃ u, Hid (live y = u) := ⟨_, rfl⟩
                  rw [Hu.out] at f1 hv hnext
                  obtain ⟨d, Hd⟩ : ∃ d, Hid (del u p = d) := ⟨_, rfl⟩
                  have hd16 : d < 16 := by rw [← Hd.out]; exact del_lt hv hp16
                  have hdel : bits .andNot .i64 (u : Int) (p : Int) = (d : Int) := by rw [not16 hv hp16]; exact congrArg _ Hd.out
                  obtain ⟨a2, Ha2⟩ : ∃ a2, Hid (a ||| d = a2) := ⟨_, rfl⟩
                  have hor : bits .or .i64 (a : Int) (d : Int) = (a2 : Int) := by rw [or16 ha16 hd16]; exact congrArg _ Ha2.out
                  have Hnext : Hid (pa ||| del (orAll live (row.take (m + 1))) p = a2) := Lib.hid (by rw [hnext, del_or, ← Nat.or_assoc, Ha.out, Hd.out, Ha2.out])
                  clear hnext x0 x1 x2 x3
                  go_wp2
                  go_region_with (first | (go_at_call 91; go_must (refine (iwritten_any cd _ HOK.out).mono ?_); rintro e w9 ⟨rfl, hp9⟩; rw [Hp.out]; have f1' := (hp9.cell w2.heap.size y (by simpa using f3)).trans (by simpa using f1)))
                  all_goals
                    have hq2 : Pure w4 w9 := by
                      refine Pure.trans ?_ hp9
                      exact (by repeat (first | assumption | exact Pure.refl _ | refine Pure.drewN ?_ _ | refine Pure.drew ?_ | refine Pure.alloc ?_ _ | refine Pure.setCell ?_ (by simp <;> omega) _))
                    go_wp2
                    go_roundg (row.length - (m + 1))
                    case measure => have := Hg3.out; omega
                    case rel => exact ⟨m + 1, by have := Hg3.out; omega, by go_num, by rw [Hnext.out], (by repeat (first | assumption | exact Pure.refl _ | refine Pure.drewN ?_ _ | refine Pure.drew ?_ | refine Pure.alloc ?_ _ | refine Pure.setCell ?_ (by simp <;> omega) _))⟩
                · have hml : m = row.length := by omega
                  subst hml
                  obtain ⟨f1, f2, f3, f4⟩ := HSq.out.facts (k := k) (by omega)
                  obtain ⟨lk, Hlk⟩ : ∃ s, Hid (live k = s) := ⟨_, rfl⟩
                  rw [Hlk.out] at f1
                  have hF : FL (succs cs) (wrOf cs) (rdOf cs) live k = a := by
                    have e := Ha.out
                    rw [List.take_length] at e
                    unfold FL wrOf
                    rw [Hcd.out, Hrw.out, Hp.out, HRD.out, Nat.or_comm]; exact e
                  have HF := Lib.hid hF
                  clear hF x0 x1 x2 x3
                  have hstep := HR.out.step HV.out hk
                  rw [HF.out, Hlk.out] at hstep
                  obtain ⟨D, HD⟩ : ∃ D, Hid (decide (a ≠ lk) = D) := ⟨_, rfl⟩
                  have hne : ((a : Int) != (lk : Int)) = D := by rw [← HD.out, Bool.eq_iff_iff, bne_iff_ne, decide_eq_true_eq]; omega
                  rw [HD.out] at hstep
                  have Hstep := Lib.hid hstep
                  have Hput := Lib.hid (HSq.out.put (k := k) (v := a) (by omega))
                  have HPP : Hid (Pure w2 (wr.setCell ⟨w2.heap.size, k, none⟩ (.int .i64 (a : Nat)))) := Lib.hid (Pure.setCell hp2q (Nat.le_refl _) _)
                  clear hstep
                  cases b
                  · go_wp2
                    go_roundg k
                    case measure => have := Hg2.out; omega
                    case rel => exact ⟨k, D, _, rfl, (by go_num), rfl, by omega, (by have := Hstep.out; simpa using this), HPP.out, Hput.out⟩
                  · go_wp2
                    go_roundg k
                    case measure => have := Hg2.out; omega
                    case rel => exact ⟨k, true, _, rfl, (by go_num), rfl, by omega, (by have := Hstep.out; simpa using this), HPP.out, Hput.out⟩
            · have d13 : (cb.op == 13) = false := by simp [h13]
              have HRD : Hid (rdOf cs k = r) := Lib.hid (by rw [Hlp.out, if_neg h13, hr0])
              clear h13 hr0
              go_wp2
              go_loopg [64, 11] row.length (fun g3 i s wq => ∃ m : Nat, g3 + m = row.length ∧ i = .int .i64 m ∧ s = .int .i64 (r ||| del (orAll live (row.take m)) p : Nat) ∧ Pure w4 wq)
              case atStart => exact ⟨0, rfl, rfl, by simp [orAll, zero_del], (by repeat (first | assumption | exact Pure.refl _ | refine Pure.drewN ?_ _ | refine Pure.drew ?_ | refine Pure.alloc ?_ _ | refine Pure.setCell ?_ (by simp <;> omega) _))⟩
              case round =>
                obtain ⟨m, hg3, rfl, rfl, hq⟩ := hrel
                have Hg3 := Lib.hid hg3
                have hmn : m ≤ row.length := by omega
                clear hg3 g1
                obtain ⟨a, Ha⟩ : ∃ a, Hid (r ||| del (orAll live (row.take m)) p = a) := ⟨_, rfl⟩
                rw [Ha.out]
                have ha16 : a < 16 := by rw [← Ha.out]; exact or_lt hr16 (del_lt (orAll_lt HR.out.1.lt _) hp16)
                have HSq := Lib.hid (HS.out.pure (hp04.trans hq))
                have hp2q := hp24.trans hq
                by_cases hm : m < row.length
                · obtain ⟨Ar', cr', hv', _, _, h5⟩ := HRV.out.keep (hp04.trans hq)
                  injection hv' with e1 e2 e3
                  subst e1 e3
                  obtain ⟨br, or_, rfl, hbr, hcr⟩ := h5 (by omega)
                  obtain ⟨x, Hx⟩ : ∃ x, Hid (row.getD m 0 = x) := ⟨_, rfl⟩
                  have q1 := hcr m (by omega)
                  simp only [Hx.out] at q1
                  have hxm : x ∈ row := by have := Hx.out; subst this; simp [List.getD_eq_getElem?_getD, hm]
                  obtain ⟨hx0, hxm2⟩ := Hrow.out x hxm
                  obtain ⟨y, rfl⟩ := Int.eq_ofNat_of_zero_le hx0
                  have hy : y < cs.length + 1 := by omega
                  clear h5 hcr hxm
                  obtain ⟨f1, f2, f3, f4⟩ := HSq.out.facts (k := y) hy
                  have y0 := (hq.cell _ _ hbx).trans x0
                  have y1 := (hq.cell _ _ hbx).trans x1
                  have y2 := (hq.cell _ _ hbx).trans x2
                  have y3 := (hq.cell _ _ hbx).trans x3
                  have hv : live y < 16 := HR.out.1.lt y
                  have hnext := orAll_take live Hx.out hm
                  obtain ⟨u, Hu⟩ : ∃ u, Hid (live y = u) := ⟨_, rfl⟩
                  rw [Hu.out] at f1 hv hnext
                  obtain ⟨d, Hd⟩ : ∃ d, Hid (del u p = d) := ⟨_, rfl⟩
                  have hd16 : d < 16 := by rw [← Hd.out]; exact del_lt hv hp16
                  have hdel : bits .andNot .i64 (u : Int) (p : Int) = (d : Int) := by rw [not16 hv hp16]; exact congrArg _ Hd.out
                  obtain ⟨a2, Ha2⟩ : ∃ a2, Hid (a ||| d = a2) := ⟨_, rfl⟩
                  have hor : bits .or .i64 (a : Int) (d : Int) = (a2 : Int) := by rw [or16 ha16 hd16]; exact congrArg _ Ha2.out
                  have Hnext : Hid (r ||| del (orAll live (row.take (m + 1))) p = a2) := Lib.hid (by rw [hnext, del_or, ← Nat.or_assoc, Ha.out, Hd.out, Ha2.out])
                  clear hnext x0 x1 x2 x3
                  go_wp2
                  go_region_with (first | (go_at_call 91; go_must (refine (iwritten_any cd _ HOK.out).mono ?_); rintro e w9 ⟨rfl, hp9⟩; rw [Hp.out]; have f1' := (hp9.cell w2.heap.size y (by simpa using f3)).trans (by simpa using f1)))
                  all_goals
                    have hq2 : Pure w4 w9 := by
                      refine Pure.trans ?_ hp9
                      exact (by repeat (first | assumption | exact Pure.refl _ | refine Pure.drewN ?_ _ | refine Pure.drew ?_ | refine Pure.alloc ?_ _ | refine Pure.setCell ?_ (by simp <;> omega) _))
                    go_wp2
                    go_roundg (row.length - (m + 1))
                    case measure => have := Hg3.out; omega
                    case rel => exact ⟨m + 1, by have := Hg3.out; omega, by go_num, by rw [Hnext.out], (by repeat (first | assumption | exact Pure.refl _ | refine Pure.drewN ?_ _ | refine Pure.drew ?_ | refine Pure.alloc ?_ _ | refine Pure.setCell ?_ (by simp <;> omega) _))⟩
                · have hml : m = row.length := by omega
                  subst hml
                  obtain ⟨f1, f2, f3, f4⟩ := HSq.out.facts (k := k) (by omega)
                  obtain ⟨lk, Hlk⟩ : ∃ s, Hid (live k = s) := ⟨_, rfl⟩
                  rw [Hlk.out] at f1
                  have hF : FL (succs cs) (wrOf cs) (rdOf cs) live k = a := by
                    have e := Ha.out
                    rw [List.take_length] at e
                    unfold FL wrOf
                    rw [Hcd.out, Hrw.out, Hp.out, HRD.out, Nat.or_comm]; exact e
                  have HF := Lib.hid hF
                  clear hF x0 x1 x2 x3
                  have hstep := HR.out.step HV.out hk
                  rw [HF.out, Hlk.out] at hstep
                  obtain ⟨D, HD⟩ : ∃ D, Hid (decide (a ≠ lk) = D) := ⟨_, rfl⟩
                  have hne : ((a : Int) != (lk : Int)) = D := by rw [← HD.out, Bool.eq_iff_iff, bne_iff_ne, decide_eq_true_eq]; omega
                  rw [HD.out] at hstep
                  have Hstep := Lib.hid hstep
                  have Hput := Lib.hid (HSq.out.put (k := k) (v := a) (by omega))
                  have HPP : Hid (Pure w2 (wr.setCell ⟨w2.heap.size, k, none⟩ (.int .i64 (a : Nat)))) := Lib.hid (Pure.setCell hp2q (Nat.le_refl _) _)
                  clear hstep
                  cases b
                  · go_wp2
                    go_roundg k
                    case measure => have := Hg2.out; omega
                    case rel => exact ⟨k, D, _, rfl, (by go_num), rfl, by omega, (by have := Hstep.out; simpa using this), HPP.out, Hput.out⟩
                  · go_wp2
                    go_roundg k
                    case measure => have := Hg2.out; omega
                    case rel => exact ⟨k, true, _, rfl, (by go_num), rfl, by omega, (by have := Hstep.out; simpa using this), HPP.out, Hput.out⟩
          · have d14 : (cd.op == 14) = false := by simp [h14]
            have HRD : Hid (rdOf cs k = r) := Lib.hid (by unfold rdOf loopPart; rw [Hcd.out, if_neg (fun h => h14 h.1), Hr.out, Nat.or_zero])
            clear h14
            go_wp2
            go_loopg [64, 11] row.length (fun g3 i s wq => ∃ m : Nat, g3 + m = row.length ∧ i = .int .i64 m ∧ s = .int .i64 (r ||| del (orAll live (row.take m)) p : Nat) ∧ Pure w4 wq)
            case atStart => exact ⟨0, rfl, rfl, by simp [orAll, zero_del], (by repeat (first | assumption | exact Pure.refl _ | refine Pure.drewN ?_ _ | refine Pure.drew ?_ | refine Pure.alloc ?_ _ | refine Pure.setCell ?_ (by simp <;> omega) _))⟩
            case round =>
              obtain ⟨m, hg3, rfl, rfl, hq⟩ := hrel
              have Hg3 := Lib.hid hg3
              have hmn : m ≤ row.length := by omega
              clear hg3 g1
              obtain ⟨a, Ha⟩ : ∃ a, Hid (r ||| del (orAll live (row.take m)) p = a) := ⟨_, rfl⟩
              rw [Ha.out]
              have ha16 : a < 16 := by rw [← Ha.out]; exact or_lt hr16 (del_lt (orAll_lt HR.out.1.lt _) hp16)
              have HSq := Lib.hid (HS.out.pure (hp04.trans hq))
              have hp2q := hp24.trans hq
              by_cases hm : m < row.length
              · obtain ⟨Ar', cr', hv', _, _, h5⟩ := HRV.out.keep (hp04.trans hq)
                injection hv' with e1 e2 e3
                subst e1 e3
                obtain ⟨br, or_, rfl, hbr, hcr⟩ := h5 (by omega)
                obtain ⟨x, Hx⟩ : ∃ x, Hid (row.getD m 0 = x) := ⟨_, rfl⟩
                have q1 := hcr m (by omega)
                simp only [Hx.out] at q1
                have hxm : x ∈ row := by have := Hx.out; subst this; simp [List.getD_eq_getElem?_getD, hm]
                obtain ⟨hx0, hxm2⟩ := Hrow.out x hxm
                obtain ⟨y, rfl⟩ := Int.eq_ofNat_of_zero_le hx0
                have hy : y < cs.length + 1 := by omega
                clear h5 hcr hxm
                obtain ⟨f1, f2, f3, f4⟩ := HSq.out.facts (k := y) hy
                have y0 := (hq.cell _ _ hbx).trans x0
                have y1 := (hq.cell _ _ hbx).trans x1
                have y2 := (hq.cell _ _ hbx).trans x2
                have y3 := (hq.cell _ _ hbx).trans x3
                have hv : live y < 16 := HR.out.1.lt y
                have hnext := orAll_take live Hx.out hm
                obtain ⟨u, Hu⟩ : ∃ u, Hid (live y = u) := ⟨_, rfl⟩
                rw [Hu.out] at f1 hv hnext
                obtain ⟨d, Hd⟩ : ∃ d, Hid (del u p = d) := ⟨_, rfl⟩
                have hd16 : d < 16 := by rw [← Hd.out]; exact del_lt hv hp16
                have hdel : bits .andNot .i64 (u : Int) (p : Int) = (d : Int) := by rw [not16 hv hp16]; exact congrArg _ Hd.out
                obtain ⟨a2, Ha2⟩ : ∃ a2, Hid (a ||| d = a2) := ⟨_, rfl⟩
                have hor : bits .or .i64 (a : Int) (d : Int) = (a2 : Int) := by rw [or16 ha16 hd16]; exact congrArg _ Ha2.out
                have Hnext : Hid (r ||| del (orAll live (row.take (m + 1))) p = a2) := Lib.hid (by rw [hnext, del_or, ← Nat.or_assoc, Ha.out, Hd.out, Ha2.out])
                clear hnext x0 x1 x2 x3
                go_wp2
                go_region_with (first | (go_at_call 91; go_must (refine (iwritten_any cd _ HOK.out).mono ?_); rintro e w9 ⟨rfl, hp9⟩; rw [Hp.out]; have f1' := (hp9.cell w2.heap.size y (by simpa using f3)).trans (by simpa using f1)))
                all_goals
                  have hq2 : Pure w4 w9 := by
                    refine Pure.trans ?_ hp9
                    exact (by repeat (first | assumption | exact Pure.refl _ | refine Pure.drewN ?_ _ | refine Pure.drew ?_ | refine Pure.alloc ?_ _ | refine Pure.setCell ?_ (by simp <;> omega) _))
                  go_wp2
                  go_roundg (row.length - (m + 1))
                  case measure => have := Hg3.out; omega
                  case rel => exact ⟨m + 1, by have := Hg3.out; omega, by go_num, by rw [Hnext.out], (by repeat (first | assumption | exact Pure.refl _ | refine Pure.drewN ?_ _ | refine Pure.drew ?_ | refine Pure.alloc ?_ _ | refine Pure.setCell ?_ (by simp <;> omega) _))⟩
              · have hml : m = row.length := by omega
                subst hml
                obtain ⟨f1, f2, f3, f4⟩ := HSq.out.facts (k := k) (by omega)
                obtain ⟨lk, Hlk⟩ : ∃ s, Hid (live k = s) := ⟨_, rfl⟩
                rw [Hlk.out] at f1
                have hF : FL (succs cs) (wrOf cs) (rdOf cs) live k = a := by
                  have e := Ha.out
                  rw [List.take_length] at e
                  unfold FL wrOf
                  rw [Hcd.out, Hrw.out, Hp.out, HRD.out, Nat.or_comm]; exact e
                have HF := Lib.hid hF
                clear hF x0 x1 x2 x3
                have hstep := HR.out.step HV.out hk
                rw [HF.out, Hlk.out] at hstep
                obtain ⟨D, HD⟩ : ∃ D, Hid (decide (a ≠ lk) = D) := ⟨_, rfl⟩
                have hne : ((a : Int) != (lk : Int)) = D := by rw [← HD.out, Bool.eq_iff_iff, bne_iff_ne, decide_eq_true_eq]; omega
                rw [HD.out] at hstep
                have Hstep := Lib.hid hstep
                have Hput := Lib.hid (HSq.out.put (k := k) (v := a) (by omega))
                have HPP : Hid (Pure w2 (wr.setCell ⟨w2.heap.size, k, none⟩ (.int .i64 (a : Nat)))) := Lib.hid (Pure.setCell hp2q (Nat.le_refl _) _)
                clear hstep
                cases b
                · go_wp2
                  go_roundg k
                  case measure => have := Hg2.out; omega
                  case rel => exact ⟨k, D, _, rfl, (by go_num), rfl, by omega, (by have := Hstep.out; simpa using this), HPP.out, Hput.out⟩
                · go_wp2
                  go_roundg k
                  case measure => have := Hg2.out; omega
                  case rel => exact ⟨k, true, _, rfl, (by go_num), rfl, by omega, (by have := Hstep.out; simpa using this), HPP.out, Hput.out⟩
        · have hj0 : j = 0 := by omega
          subst hj0
          go_wp2
          have hg0 := Hgk.out (by trivial)
          have hR := HR.out
          go_roundg (if b = true then room cs.length live + 1 else 0)
          case measure =>
            cases b
            · simp; omega
            · have := hR.2.2 rfl; simp; omega
          case rel =>
            refine ⟨b, live, rfl, (fun h => by rw [if_pos h]; omega), (fun h x hx => ?_), hR.1, hp, HS.out⟩
            obtain ⟨rfl, h2⟩ := hR.2.1 h
            exact h2 x (Nat.zero_le _) hx

end Go.Proofs.Ytmhaaihgepldhaa
