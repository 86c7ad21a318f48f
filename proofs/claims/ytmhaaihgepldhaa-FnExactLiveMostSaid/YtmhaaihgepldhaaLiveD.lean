/- DeadPlaces, the reference's and the program's, and the law that they answer alike. No condition. -/
import Derived.Test.YtmhaaihgepldhaaLiveL
import Derived.Test.YtmhaaihgepldhaaAppE
import Derived.Test.YtmhaaihgepldhaaBit8
namespace Go.Proofs.Ytmhaaihgepldhaa
open Go.RowKit

def isDead (cs : List Cd) (L : Nat → Nat) (k : Nat) : Bool := decide (0 ≤ wrg (cs.getD k default)) && !(orAll L (succs cs k)).testBit (wrg (cs.getD k default)).toNat
def deads (cs : List Cd) (L : Nat → Nat) : Nat → List Int
  | 0 => []
  | k + 1 => if isDead cs L k then deads cs L k ++ [(k : Int)] else deads cs L k
theorem sets_of_own {w : World} {B m : Nat} {v : Value} {L : Nat → Nat} (h : OwnO w B 3 1 v m ((List.range m).map fun j => .int .i64 (L j : Nat))) : Sets w v m L := by
  unfold Sets
  refine Cells.of_ownO h fun j hj => ?_
  have : j < m := by omega
  simp [this]
theorem deads_len (cs : List Cd) (L : Nat → Nat) : ∀ n, (deads cs L n).length ≤ n
  | 0 => by simp [deads]
  | n + 1 => by
    have := deads_len cs L n
    unfold deads
    split
    · simp; omega
    · omega
/-- What DeadPlaces answers. -/
def DdP (cs : List Cd) (xs : List Int) : Prop :=
  (PValid cs → ∃ L, Least (succs cs) (wrOf cs) (rdOf cs) cs.length L ∧ xs = deads cs L cs.length) ∧ (¬ PValid cs → xs = [])
theorem DdP.unique {cs : List Cd} {xs ys : List Int} (h : DdP cs ys) (k : DdP cs xs) : xs = ys := by
  by_cases hv : PValid cs
  · obtain ⟨L, h1, rfl⟩ := h.1 hv
    obtain ⟨M, k1, rfl⟩ := k.1 hv
    rw [h1.unique k1]
  · rw [h.2 hv, k.2 hv]
theorem Least.lt16 {cs : List Cd} {L : Nat → Nat} (hv : PValid cs) (h : Least (succs cs) (wrOf cs) (rdOf cs) cs.length L) (k : Nat) : L k < 16 := by
  -- the sets of 15 everywhere else: one step of the rules stays below 16
  have key : ∀ m k, cs.length - k ≤ m → ∀ i, 4 ≤ i → (L k).testBit i = false := by
    let M : Nat → Nat := fun j => if j < cs.length then (L j) % 16 else 0
    have hM : Sol (succs cs) (wrOf cs) (rdOf cs) cs.length M := by
      refine ⟨fun j hj => if_neg (by omega), fun j hj => ?_⟩
      have e1 : M j = L j % 16 := if_pos hj
      rw [e1, h.1.2 j hj]
      have hz : ∀ x : Nat, M x = L x % 16 := fun x => by
        by_cases hx : x < cs.length
        · exact if_pos hx
        · rw [h.1.1 x (by omega)]; exact if_neg hx
      have ho : ∀ xs : List Int, orAll M xs = orAll L xs % 16 := by
        intro xs
        induction xs with
        | nil => rfl
        | cons x r ih => rw [orAll_cons, orAll_cons, ih, hz, ← Nat.or_mod_two_pow (n := 4)]
      unfold FL
      rw [ho]
      have hR := rdOf_lt hv j
      have hW := wrOf_lt hv j
      apply Nat.eq_of_testBit_eq
      intro i
      rw [show (16 : Nat) = 2 ^ 4 by rfl, Nat.testBit_mod_two_pow, Nat.testBit_or, Nat.testBit_or, del_bit, del_bit, Nat.testBit_mod_two_pow]
      by_cases hi : i < 4
      · simp [hi]
      · have : (rdOf cs j).testBit i = false := Nat.testBit_lt_two_pow (Nat.lt_of_lt_of_le hR (by
          calc 16 = 2 ^ 4 := rfl
            _ ≤ 2 ^ i := Nat.pow_le_pow_right (by decide) (by omega)))
        simp [hi, this]
    intro m k _ i hi
    by_cases hb : (L k).testBit i = true
    · have := h.2 M hM k i hb
      have e : M k = if k < cs.length then (L k) % 16 else 0 := rfl
      rw [e] at this
      split at this
      · rw [show (16 : Nat) = 2 ^ 4 by rfl, Nat.testBit_mod_two_pow] at this
        simp at this; omega
      · simp at this
    · simpa using hb
  by_cases h16 : L k < 16
  · exact h16
  · exfalso
    obtain ⟨i, hi, hb⟩ := Nat.exists_ge_and_testBit_of_ge_two_pow (n := 4) (x := L k) (by omega)
    have := key _ k (Nat.le_refl _) i hi
    rw [hb] at this; cases this
theorem deads_succ (cs : List Cd) (L : Nat → Nat) (k : Nat) : deads cs L (k + 1) = if isDead cs L k then deads cs L k ++ [(k : Int)] else deads cs L k := rfl
theorem isDead_neg {cs : List Cd} {L : Nat → Nat} {k : Nat} (h : wrg (cs.getD k default) = -1) : isDead cs L k = false := by
  unfold isDead; rw [h]; rfl
theorem isDead_pos {cs : List Cd} {L : Nat → Nat} {k g : Nat} (h : wrg (cs.getD k default) = g) : isDead cs L k = !(orAll L (succs cs k)).testBit g := by
  unfold isDead; rw [h]; simp
theorem del_pw (g s : Nat) : del (2 ^ g) s = if s.testBit g then 0 else 2 ^ g := by
  apply Nat.eq_of_testBit_eq
  intro i
  rw [del_bit, Nat.testBit_two_pow]
  by_cases e : g = i
  · subst e; cases s.testBit g <;> simp
  · have : decide (g = i) = false := by simp [e]
    rw [this, Bool.false_and]
    split
    · simp
    · rw [Nat.testBit_two_pow]; exact this.symm

set_option maxHeartbeats 1000000 in
theorem sdead_ok (v : Value) (cs : List Cd) (w : World) (h : Codes w v cs) (hv : PValid cs) :
    Calls Try.prog 45 #[v] w (ResInts (DdP cs) w) := by
  have H := Lib.hid h
  have HV := Lib.hid hv
  have hsmall := hv.2.1
  obtain ⟨A, c, rfl, hnc, hcm⟩ := h.form
  clear h hv
  have hO0 : Hid (OwnO (w.alloc (.cells #[] 3)) w.heap.size 3 1 (.slice (some ⟨w.heap.size, 0, none⟩) 0 0) 0 []) := Lib.hid (OwnO.empty_lit (Nat.le_refl _))
  have hpa := Lib.hid (Pure.alloc (Pure.refl w) (.cells #[] 3))
  go_enter Try.func45, Try.ntmps45
  go_wp2_with fail
  refine (slive_ok _ cs _ (H.out.keep hpa.out) HV.out).mono ?_
  rintro e w1 ⟨v1, L, rfl, hL, hO, hp1⟩
  have HL := Lib.hid hL
  have HLT := Lib.hid (fun k => hL.lt16 HV.out k)
  have HO := Lib.hid hO
  have hpw1 := hpa.out.trans hp1
  clear hL
  go_wp2_with fail
  refine (sgraph_ok _ cs _ (H.out.keep hpw1) HV.out).mono ?_
  rintro e w2 ⟨vg, rfl, hg, hp2⟩
  have HG := Lib.hid hg
  have hpw2 := hpw1.trans hp2
  have HS : Hid (Sets w2 v1 (cs.length + 1) L) := Lib.hid (sets_of_own (hO.pure hp2))
  have hOE : Hid (OwnO w2 w.heap.size 3 1 (.slice (some ⟨w.heap.size, 0, none⟩) 0 0) 0 []) := Lib.hid (hO0.out.pure (hp1.trans hp2))
  obtain ⟨A1, c1, rfl⟩ := hO.form
  clear hg hO hO0
  go_wp2
  go_loopg [6, 3] cs.length (fun gk i q wr => ∃ k : Nat, gk + k = cs.length ∧ i = .int .i64 k ∧ OwnE (.slice (some ⟨w.heap.size, 0, none⟩) 0 0) wr w2.heap.size 3 1 q (deads cs L k).length ((deads cs L k).map (.int .i64)) ∧ Pure w2 wr)
  case atStart => exact ⟨0, rfl, rfl, OwnE.start _ _ _ _ _, Pure.refl _⟩
  case round =>
    obtain ⟨k, hgk, rfl, hq, hp⟩ := hrel
    have Hgk := Lib.hid hgk
    have HQ := Lib.hid hq
    have hkn : k ≤ cs.length := by omega
    have hpw := hpw2.trans hp
    have hdl := deads_len cs L k
    clear hgk hq
    obtain ⟨Aq, cq, rfl⟩ := HQ.out.form
    by_cases hlt : k < cs.length
    · obtain ⟨b, o, rfl, hb, hc⟩ := H.out.at_ hlt
      obtain ⟨cd, Hcd⟩ : ∃ cd, Hid (cs.getD k default = cd) := ⟨_, rfl⟩
      rw [Hcd.out] at hc
      have hok : CdOk cd := by rw [← Hcd.out]; exact HV.out.1 _ (cdOk_mem hlt)
      have HOK := Lib.hid hok
      obtain ⟨q0, q1, q2, q3⟩ := hc.keep hpw hb
      clear hc hok
      go_wp2_with fail
      refine (swrites_any cd _ HOK.out).mono ?_
      rintro e w3 ⟨rfl, hp3⟩
      have hpp := hp.trans hp3
      have hgc := wrg_cases HOK.out
      rcases hgc with ⟨hg0, hg3, hgp⟩ | ⟨hg1, hgp⟩
      · obtain ⟨g, hg⟩ := Int.eq_ofNat_of_zero_le hg0
        have Hw : Hid (wrg (cs.getD k default) = g) := Lib.hid (by rw [Hcd.out]; exact hg)
        rw [hg] at hg0 hg3 ⊢
        have hrow : ∀ x ∈ (graph cs).getD k [], 0 ≤ x ∧ x < ((cs.length + 1 : Nat) : Int) := fun x hx => by
          have := (graph_valid HV.out).mem hx
          rw [graph_length] at this
          omega
        have hlen64 : ((graph cs).getD k []).length ≤ 64 := by rw [graph_lt hlt]; exact succs_len cs k
        have Hrow := Lib.hid hrow
        have Hlen := Lib.hid hlen64
        clear hrow hlen64 hg hgp
        go_wp2_with fail
        refine (l19_any vg _ (graph cs) (cs.length + 1) k L _ (HG.out.keep hpp) (Cells.keep HS.out hpp) HLT.out (by rw [graph_length]; omega) Hrow.out Hlen.out).mono ?_
        rintro e w4 ⟨rfl, hp4⟩
        rw [graph_lt hlt]
        obtain ⟨s, Hs⟩ : ∃ s, Hid (orAll L (succs cs k) = s) := ⟨_, rfl⟩
        rw [Hs.out]
        have hpp4 := hpp.trans hp4
        have HQ4 := Lib.hid (HQ.out.pure (hp3.trans hp4))
        have hnn := digit_nonneg s g
        have hdead : isDead cs L k = !s.testBit g := by rw [isDead_pos Hw.out, Hs.out]
        have hbit := digit_eq0 s g
        obtain ⟨D, HD⟩ : ∃ D, Hid (s.testBit g = D) := ⟨_, rfl⟩
        rw [HD.out] at hdead hbit
        have Hnext := Lib.hid (deads_succ cs L k)
        have Hdead := Lib.hid hdead
        clear hdead
        cases D
        · have hbit' : (((s : Int) / 2 ^ g) % 2 == 0) = true := hbit
          have hN : deads cs L (k + 1) = deads cs L k ++ [(k : Int)] := by rw [Hnext.out, Hdead.out]; rfl
          have HN := Lib.hid hN
          clear hbit hN
          go_wp2_with (at_builtin; go_must (refine wl_append1E elInt rfl _ _ rfl w.heap.size w2.heap.size (.slice Aq (deads cs L k).length cq) (deads cs L k).length _ rfl HQ4.out w4.heap.size 1 [.int .i64 (k : Int)] rfl rfl rfl rfl (by decide) (by omega) hpp4.size ?_); intro q' wq hq' hpq; have HQ' := Lib.hid hq'; have HPQ := Lib.hid (hpq w2 (Nat.le_refl _) hpp4); clear hq' hpq)
          go_roundg (cs.length - (k + 1))
          case measure => have := Hgk.out; omega
          case rel =>
            refine ⟨k + 1, by have := Hgk.out; omega, by go_num, ?_, HPQ.out⟩
            rw [HN.out]
            refine .inl ?_
            have := HQ'.out
            simpa using this
        · have hbit' : (((s : Int) / 2 ^ g) % 2 == 0) = false := hbit
          have hN : deads cs L (k + 1) = deads cs L k := by rw [Hnext.out, Hdead.out]; rfl
          have HN := Lib.hid hN
          clear hbit hN
          go_wp2
          go_roundg (cs.length - (k + 1))
          case measure => have := Hgk.out; omega
          case rel => exact ⟨k + 1, by have := Hgk.out; omega, by go_num, by rw [HN.out]; exact HQ4.out, hpp4⟩
      · have hN : deads cs L (k + 1) = deads cs L k := by rw [deads_succ, isDead_neg (by rw [Hcd.out]; exact hg1)]; rfl
        have HN := Lib.hid hN
        rw [hg1]
        clear hN hg1 hgp
        go_wp2
        go_roundg (cs.length - (k + 1))
        case measure => have := Hgk.out; omega
        case rel => exact ⟨k + 1, by have := Hgk.out; omega, by go_num, by rw [HN.out]; exact HQ.out.pure hp3, hpp⟩
    · have hkl : k = cs.length := by omega
      subst hkl
      go_wp2
      go_ret
      refine ⟨_, _, rfl, ⟨fun _ => ⟨L, HL.out, rfl⟩, fun hn => absurd HV.out hn⟩, by omega, ?_, hpw⟩
      exact HQ.out.own (hOE.out.pure hp) hpw2.size

set_option maxHeartbeats 2000000 in
theorem idead_ok (v : Value) (cs : List Cd) (w : World) (h : Codes w v cs) (hv : PValid cs) :
    Calls Try.prog 80 #[v] w (ResInts (DdP cs) w) := by
  have H := Lib.hid h
  have HV := Lib.hid hv
  have hsmall := hv.2.1
  obtain ⟨A, c, rfl, hnc, hcm⟩ := h.form
  clear h hv
  go_enter Try.func80, Try.ntmps80
  go_wp2_with fail
  refine (igraph_ok _ cs _ H.out HV.out).mono ?_
  rintro e w1 ⟨vg, rfl, hg, hp1⟩
  have HG := Lib.hid hg
  obtain ⟨Ag, cg, hvg, hg1, hg2, hg3⟩ := hg
  rw [graph_length] at hvg
  subst hvg
  clear hg3
  go_wp2_with fail
  refine (ilive_ok _ cs _ (H.out.keep hp1) HV.out).mono ?_
  rintro e w2 ⟨v1, L, rfl, hL, hO, hp2⟩
  have HL := Lib.hid hL
  have HLT := Lib.hid (fun k => hL.lt16 HV.out k)
  have hpw2 := hp1.trans hp2
  have HS : Hid (Sets w2 v1 (cs.length + 1) L) := Lib.hid (sets_of_own hO)
  obtain ⟨A1, c1, rfl⟩ := hO.form
  clear hL hO
  go_wp2
  go_loopg [17, 5] cs.length (fun gk i q wr => ∃ k : Nat, gk + k = cs.length ∧ i = .int .i64 k ∧ OwnO wr w2.heap.size 3 1 q (deads cs L k).length ((deads cs L k).map (.int .i64)) ∧ Pure w2 wr)
  case atStart => exact ⟨0, rfl, rfl, OwnO.of_own (World.ownsRow_nil _ _ _ _), Pure.refl _⟩
  case round =>
    obtain ⟨k, hgk, rfl, hq, hp⟩ := hrel
    have Hgk := Lib.hid hgk
    have HQ := Lib.hid hq
    have hkn : k ≤ cs.length := by omega
    have hpw := hpw2.trans hp
    have hdl := deads_len cs L k
    clear hgk
    obtain ⟨Aq, cq, rfl⟩ := hq.form
    clear hq
    by_cases hlt : k < cs.length
    · obtain ⟨b, o, rfl, hb, hc⟩ := H.out.at_ hlt
      obtain ⟨cd, Hcd⟩ : ∃ cd, Hid (cs.getD k default = cd) := ⟨_, rfl⟩
      rw [Hcd.out] at hc
      have hok : CdOk cd := by rw [← Hcd.out]; exact HV.out.1 _ (cdOk_mem hlt)
      have HOK := Lib.hid hok
      obtain ⟨q0, q1, q2, q3⟩ := hc.keep hpw hb
      have hbw : b < wr.heap.size := Nat.lt_of_lt_of_le hb hpw.size
      clear hc hok
      -- the row of the graph
      obtain ⟨Ag', cg', hvg', _, _, hg3⟩ := HG.out.keep (hp2.trans hp)
      rw [graph_length] at hvg' hg3
      injection hvg' with e1 e2 e3
      subst e1 e3
      obtain ⟨bg, og, rfl, hbg, hcell⟩ := hg3 (by omega)
      obtain ⟨rv, g1, hrv2⟩ := hcell k (by omega)
      rw [graph_lt hlt] at hrv2
      have hrow : ∀ x ∈ succs cs k, 0 ≤ x ∧ x < ((cs.length + 1 : Nat) : Int) := fun x hx => by
        have hx2 : x ∈ (graph cs).getD k [] := by rw [graph_lt hlt]; exact hx
        have := (graph_valid HV.out).mem hx2
        rw [graph_length] at this
        omega
      have hlen64 : (succs cs k).length ≤ 64 := succs_len cs k
      have Hrow := Lib.hid hrow
      have HRV := Lib.hid hrv2
      obtain ⟨Ar, cr, rfl⟩ := hrv2.form
      clear hrow hg3 hcell hrv2
      obtain ⟨row, Hrw⟩ : ∃ row, Hid (succs cs k = row) := ⟨_, rfl⟩
      rw [Hrw.out] at HRV Hrow hlen64 g1
      obtain ⟨wo, rfl⟩ : ∃ wo : World, wo = wr := ⟨_, rfl⟩
      go_wp2
      go_loopg [27, 8] row.length (fun g3 i s wq => ∃ m : Nat, g3 + m = row.length ∧ i = .int .i64 m ∧ s = .int .i64 (orAll L (row.take m) : Nat) ∧ Pure (wo.alloc (.cells #[.int .i64 cd.op, .int .i64 cd.a, .int .i64 cd.b, .int .i64 cd.c] 65)) wq)
      case atStart => exact ⟨0, rfl, rfl, rfl, Pure.refl _⟩
      case round =>
        obtain ⟨m, hg3, rfl, rfl, hq⟩ := hrel
        have Hg3 := Lib.hid hg3
        have hmn : m ≤ row.length := by omega
        clear hg3
        obtain ⟨x0, x1, x2, x3, hpo⟩ := boxed hq
        obtain ⟨a, Ha⟩ : ∃ a, Hid (orAll L (row.take m) = a) := ⟨_, rfl⟩
        rw [Ha.out]
        have ha16 : a < 16 := by rw [← Ha.out]; exact orAll_lt HLT.out _
        have hpp := hp.trans hpo
        by_cases hm : m < row.length
        · obtain ⟨Ar', cr', hv', _, _, h5⟩ := HRV.out.keep hpo
          injection hv' with e1 e2 e3
          subst e1 e3
          obtain ⟨br, or_, rfl, hbr, hcr⟩ := h5 (by omega)
          obtain ⟨x, Hx⟩ : ∃ x, Hid (row.getD m 0 = x) := ⟨_, rfl⟩
          have r1 := hcr m (by omega)
          simp only [Hx.out] at r1
          have hxm : x ∈ row := by have := Hx.out; subst this; simp [List.getD_eq_getElem?_getD, hm]
          obtain ⟨hx0, hxm2⟩ := Hrow.out x hxm
          obtain ⟨y, rfl⟩ := Int.eq_ofNat_of_zero_le hx0
          have hy : y < cs.length + 1 := by omega
          clear h5 hcr hxm
          obtain ⟨As, cs', hvs, _, _, h6⟩ := Cells.keep HS.out hpp
          injection hvs with e1 e2 e3
          subst e1 e3
          obtain ⟨bs, os, rfl, hbs, hcs⟩ := h6 (by omega)
          have r2 : wr.cell? ⟨bs, os + y, none⟩ = some (.int .i64 (L y : Nat)) := hcs y (by omega)
          clear h6 hcs
          have hv : L y < 16 := HLT.out y
          have hnext := orAll_take L Hx.out hm
          obtain ⟨u, Hu⟩ : ∃ u, Hid (L y = u) := ⟨_, rfl⟩
          rw [Hu.out] at r2 hv hnext
          obtain ⟨a2, Ha2⟩ : ∃ a2, Hid (a ||| u = a2) := ⟨_, rfl⟩
          have hor : bits .or .i64 (a : Int) (u : Int) = (a2 : Int) := by rw [or16 ha16 hv]; exact congrArg _ Ha2.out
          have Hnext : Hid (orAll L (row.take (m + 1)) = a2) := Lib.hid (by rw [hnext, Ha.out, Ha2.out])
          clear hnext x0 x1 x2 x3 hpo
          have HP := Lib.hid hq
          clear hq
          go_wp2
          go_roundg (row.length - (m + 1))
          case measure => have := Hg3.out; omega
          case rel => exact ⟨m + 1, by have := Hg3.out; omega, by go_num, by rw [Hnext.out], HP.out⟩
        · have hml : m = row.length := by omega
          subst hml
          go_wp2_with fail
          refine (iwritten_any cd _ HOK.out).mono ?_
          rintro e w4 ⟨rfl, hp4⟩
          have hpp4 := hpp.trans hp4
          have HQ4 := Lib.hid (HQ.out.pure (hpo.trans hp4))
          have hp16 : wst cd < 16 := wr_lt HOK.out
          have hgc := wrg_cases HOK.out
          have has : orAll L (succs cs k) = a := by rw [Hrw.out]; have := Ha.out; rwa [List.take_length] at this
          have hdead : isDead cs L k = decide (del (wst cd) a ≠ 0) := by
            rcases hgc with ⟨hg0, hg3, hgp⟩ | ⟨hg1, hgp⟩
            · obtain ⟨g, hg⟩ := Int.eq_ofNat_of_zero_le hg0
              rw [isDead_pos (g := g) (by rw [Hcd.out]; exact hg), has, hgp, hg]
              unfold pw
              rw [Int.toNat_natCast, del_pw]
              cases a.testBit g <;> simp
            · rw [isDead_neg (by rw [Hcd.out]; exact hg1), hgp, zero_del]; simp
          obtain ⟨p, Hp⟩ : ∃ p, Hid (wst cd = p) := ⟨_, rfl⟩
          rw [Hp.out] at hp16 hdead ⊢
          obtain ⟨d, Hd⟩ : ∃ d, Hid (del p a = d) := ⟨_, rfl⟩
          rw [Hd.out] at hdead
          have hdel : bits .andNot .i64 (p : Int) (a : Int) = (d : Int) := by rw [not16 hp16 ha16]; exact congrArg _ Hd.out
          have Hnext := Lib.hid (deads_succ cs L k)
          have Hdead := Lib.hid hdead
          clear hdead has hgc x0 x1 x2 x3
          by_cases hd0 : d = 0
          · subst hd0
            have hN : deads cs L (k + 1) = deads cs L k := by rw [Hnext.out, Hdead.out]; rfl
            have HN := Lib.hid hN
            clear hN
            go_wp2
            go_roundg (cs.length - (k + 1))
            case measure => have := Hgk.out; omega
            case rel => exact ⟨k + 1, by have := Hgk.out; omega, by go_num, by rw [HN.out]; exact HQ4.out, hpp4⟩
          · have hdb : ((d : Int) != 0) = true := by rw [bne_iff_ne]; omega
            have hN : deads cs L (k + 1) = deads cs L k ++ [(k : Int)] := by rw [Hnext.out, Hdead.out, if_pos (by simpa using hd0)]
            have HN := Lib.hid hN
            clear hN hd0
            go_wp2_with (at_builtin; go_must (refine wl_append1F elInt rfl _ _ rfl w2.heap.size (.slice Aq (deads cs L k).length cq) (deads cs L k).length _ rfl HQ4.out w4.heap.size 1 [.int .i64 (k : Int)] rfl rfl rfl rfl (by decide) (by omega) hpp4.size ?_); intro q' wq hq' hgq _; have HQ' := Lib.hid hq'; have HPQ := Lib.hid (Pure.grown hpp4 hgq (fun g hg => (HQ4.out.lt g hg).1)); clear hq' hgq)
            go_roundg (cs.length - (k + 1))
            case measure => have := Hgk.out; omega
            case rel =>
              refine ⟨k + 1, by have := Hgk.out; omega, by go_num, ?_, HPQ.out⟩
              rw [HN.out]
              have := HQ'.out
              simpa using this
    · have hkl : k = cs.length := by omega
      subst hkl
      go_wp2
      go_ret
      refine ⟨_, _, rfl, ⟨fun _ => ⟨L, HL.out, rfl⟩, fun hn => absurd HV.out hn⟩, by omega, ?_, hpw⟩
      exact HQ.out.base' hpw2.size

set_option maxHeartbeats 1000000 in
set_option maxRecDepth 100000 in
/-- The reference's graph of a program that is not valid. -/
theorem sgraph_no (v : Value) (cs : List Cd) (w : World) (h : Codes w v cs) (hlen : cs.length ≤ 1048576) (hv : ¬ PValid cs) :
    Calls Try.prog 33 #[v] w fun e w' => (∃ v, e = .returned v ∧ IntRows w' v []) ∧ Pure w w' := by
  have H := Lib.hid h
  have HV := Lib.hid hv
  obtain ⟨A, c, rfl, hnc, hcm⟩ := h.form
  clear h hv
  have hO0 : Hid (OwnO (w.alloc (.cells #[] 53)) w.heap.size 53 1 (.slice (some ⟨w.heap.size, 0, none⟩) 0 0) 0 []) := Lib.hid (OwnO.empty_lit (Nat.le_refl _))
  have hpa := Lib.hid (Pure.alloc (Pure.refl w) (.cells #[] 53))
  go_enter Try.func33, Try.ntmps33
  go_wp2
  go_loopg [4, 3] 0 (fun gk i q wr => i = .int .i64 0 ∧ q = .slice (some ⟨w.heap.size, 0, none⟩) 0 0 ∧ Pure w wr)
  case atStart => exact ⟨rfl, rfl, hpa.out⟩
  case round =>
    obtain ⟨rfl, rfl, hp⟩ := hrel
    by_cases h0 : 0 < cs.length
    · go_wp2_with fail
      refine (spv_any _ cs _ (H.out.keep hp) hlen false (by simp [HV.out])).mono ?_
      rintro e w1 ⟨rfl, hp1⟩
      have hpp := hp.trans hp1
      go_wp2_with fail
      refine (spv_any _ cs _ (H.out.keep hpp) hlen false (by simp [HV.out])).mono ?_
      rintro e w2 ⟨rfl, hp2⟩
      go_wp2
      go_ret
      exact ⟨⟨_, rfl, _, _, rfl, Nat.le_refl _, by simp, fun h => absurd h (by simp)⟩, hpp.trans hp2⟩
    · go_wp2_with fail
      refine (spv_any _ cs _ (H.out.keep hp) hlen false (by simp [HV.out])).mono ?_
      rintro e w2 ⟨rfl, hp2⟩
      go_wp2
      go_ret
      exact ⟨⟨_, rfl, _, _, rfl, Nat.le_refl _, by simp, fun h => absurd h (by simp)⟩, hp.trans hp2⟩

set_option maxHeartbeats 1000000 in
set_option maxRecDepth 100000 in
theorem sdd_any (v : Value) (cs : List Cd) (w : World) (h : Codes w v cs) (hlen : cs.length ≤ 1048576) :
    Calls Try.prog 45 #[v] w (ResInts (DdP cs) w) := by
  by_cases hv : PValid cs
  · exact sdead_ok v cs w h hv
  · have H := Lib.hid h
    have HV := Lib.hid hv
    obtain ⟨A, c, rfl, hnc, hcm⟩ := h.form
    clear h hv
    have hO0 : Hid (OwnO (w.alloc (.cells #[] 3)) w.heap.size 3 1 (.slice (some ⟨w.heap.size, 0, none⟩) 0 0) 0 []) := Lib.hid (OwnO.empty_lit (Nat.le_refl _))
    have hpa := Lib.hid (Pure.alloc (Pure.refl w) (.cells #[] 3))
    go_enter Try.func45, Try.ntmps45
    go_wp2_with fail
    refine (slv_any _ cs _ (H.out.keep hpa.out) hlen).mono ?_
    rintro e w1 ⟨v1, xs, rfl, hx, _, hO, hp1⟩
    have hx0 := hx.2 HV.out
    subst hx0
    clear hx
    have hpw1 := hpa.out.trans hp1
    obtain ⟨A1, c1, hv1⟩ := hO.form
    rw [List.length_nil] at hv1
    subst hv1
    clear hO
    go_wp2_with fail
    refine (sgraph_no _ cs _ (H.out.keep hpw1) hlen HV.out).mono ?_
    rintro e w2 ⟨⟨vg, rfl, _⟩, hp2⟩
    have hpw2 := hpw1.trans hp2
    have HO2 := Lib.hid (hO0.out.pure (hp1.trans hp2))
    go_wp2
    go_loopg [6, 3] 0 (fun gk i q wr => i = .int .i64 0 ∧ q = .slice (some ⟨w.heap.size, 0, none⟩) 0 0 ∧ wr = w2)
    case atStart => exact ⟨rfl, rfl, rfl⟩
    case round =>
      obtain ⟨rfl, rfl, rfl⟩ := hrel
      by_cases h0 : 0 < cs.length
      · go_wp2
        go_ret
        exact ⟨_, [], rfl, ⟨fun h => absurd h HV.out, fun _ => rfl⟩, by simp, HO2.out, hpw2⟩
      · go_wp2
        go_ret
        exact ⟨_, [], rfl, ⟨fun h => absurd h HV.out, fun _ => rfl⟩, by simp, HO2.out, hpw2⟩

set_option maxHeartbeats 1000000 in
theorem idd_any (v : Value) (cs : List Cd) (w : World) (h : Codes w v cs) (hlen : cs.length ≤ 1048576) :
    Calls Try.prog 46 #[v] w (ResInts (DdP cs) w) := by
  have H := Lib.hid h
  obtain ⟨A, c, rfl, hnc, hcm⟩ := h.form
  clear h
  by_cases hv : PValid cs
  · have HV := Lib.hid hv
    clear hv
    go_enter Try.func46, Try.ntmps46
    go_wp2_with fail
    refine (ipv_any _ cs _ H.out hlen true (by simp [HV.out])).mono ?_
    rintro e w1 ⟨rfl, hp1⟩
    go_wp2_with fail
    refine (idead_ok _ cs _ (H.out.keep hp1) HV.out).mono ?_
    rintro e w2 ⟨v2, xs, rfl, h1, h2, h3, h4⟩
    have H1 := Lib.hid h1; clear h1
    have HO : Hid (OwnO w2 w.heap.size 3 1 v2 xs.length (xs.map (.int .i64))) := Lib.hid (OwnO.base' h3 hp1.size)
    have hp := hp1.trans h4
    clear h3
    go_wp2
    go_ret
    exact ⟨_, _, rfl, H1.out, h2, HO.out, hp⟩
  · have HV := Lib.hid hv
    clear hv
    go_enter Try.func46, Try.ntmps46
    go_wp2_with fail
    refine (ipv_any _ cs _ H.out hlen false (by simp [HV.out])).mono ?_
    rintro e w1 ⟨rfl, hp1⟩
    go_wp2
    go_ret
    exact ⟨_, [], rfl, ⟨fun h => absurd h HV.out, fun _ => rfl⟩, by simp, OwnO.of_own (World.ownsRow_nil _ _ _ _), hp1⟩

set_option maxHeartbeats 1000000 in
theorem law_FnExactDeadPlaces (v : Value) (cs : List Cd) (w : World) (h : Codes w v cs) :
    Calls Try.prog 12 #[v] w fun e w' => e = .returned (.bool true) ∧ Pure w w' := by
  have H := Lib.hid h
  obtain ⟨A, c, rfl, hnc, hcm⟩ := h.form
  clear h
  go_enter Try.func12, Try.ntmps12
  go_wp2_with fail
  refine (szCodeS_any _ _ _ _ H.out (by omega) (by omega)).mono ?_
  rintro e w' ⟨rfl, rfl⟩
  by_cases h0 : (1048576 : Int) < cs.length
  · rw [if_pos h0]
    go_wp2
    go_ret
    exact ⟨rfl, Pure.refl _⟩
  rw [if_neg h0]
  have hlen : cs.length ≤ 1048576 := by omega
  have hge : ¬ ((1048576 : Int) - cs.length < 0) := by omega
  clear h0
  go_wp2_with fail
  refine (toCodeS_any _ cs _ H.out hlen).mono ?_
  rintro e w1 ⟨v1, rfl, hv1, hp1⟩
  have HV1 := Lib.hid hv1; clear hv1
  have hqw1 := hp1
  go_wp2_with fail
  refine (sdd_any _ cs _ (codes_of_own HV1.out) hlen).mono ?_
  rintro e w2 ⟨v2, xs2, rfl, px2, hl2, ho2, hp2⟩
  have PX2 := Lib.hid px2; clear px2
  have HL2 := Lib.hid hl2; clear hl2
  have HO2 := Lib.hid ho2; clear ho2
  have hqw2 := hqw1.trans hp2
  go_wp2_with fail
  refine (toCodeS_any _ cs _ (H.out.keep hqw2) hlen).mono ?_
  rintro e w3 ⟨v3, rfl, hv3, hp3⟩
  have HV3 := Lib.hid hv3; clear hv3
  have hqw3 := hqw2.trans hp3
  go_wp2_with fail
  refine (idd_any _ cs _ (codes_of_own HV3.out) hlen).mono ?_
  rintro e w4 ⟨v4, ys4, rfl, px4, hl4, ho4, hp4⟩
  have HO4 := Lib.hid ho4; clear ho4
  obtain rfl : xs2 = ys4 := DdP.unique px4 PX2.out
  clear px4
  clear hl4
  have hn : xs2.length ≤ 1048576 := HL2.out
  have hqw4 := hqw3.trans hp4
  go_wp2_with fail
  refine (eqIntS_any _ _ xs2 xs2 _ (Ints.of_ownO' HO4.out) ((Ints.of_ownO' HO2.out).keep (hp3.trans hp4)) true (by simp)).mono ?_
  rintro e w5 ⟨rfl, hz5⟩
  have hp5 := Pure.of_quiet hz5; clear hz5
  have hqw5 := hqw4.trans hp5
  go_wp2_with fail
  refine (toCodeS_any _ cs _ (H.out.keep hqw5) hlen).mono ?_
  rintro e w6 ⟨v6, rfl, hv6, hp6⟩
  have HV6 := Lib.hid hv6; clear hv6
  have hqw6 := hqw5.trans hp6
  go_wp2_with fail
  refine (eqCodeS_same _ _ cs _ ((codes_of_own HV3.out).keep ((hp4.trans hp5).trans hp6)) (codes_of_own HV6.out)).mono ?_
  rintro e w7 ⟨rfl, hp7⟩
  have hqw7 := hqw6.trans hp7
  go_wp2_with fail
  refine (markCodeS_any _ _ _ _ _ _ (HV3.out.pure (((hp4.trans hp5).trans hp6).trans hp7)) (by omega) (by omega) (by omega)).mono ?_
  rintro e w8 ⟨rfl, hg8⟩
  have HG8 := Lib.hid hg8; clear hg8
  have hqw8 : Pure w w8 := Pure.grown hqw7 HG8.out (fun g hg => Nat.le_trans hqw2.size (HV3.out.lt g hg).1)
  have HI2 : Hid (Ints w8 v2 xs2) := Lib.hid (Ints.other ((Ints.of_ownO' HO2.out).keep ((((hp3.trans hp4).trans hp5).trans hp6).trans hp7)) HG8.out (own_apart HO2.out HV3.out (Nat.le_refl _)))
  have HJ4 : Hid (OwnO w8 w3.heap.size 3 1 v4 xs2.length (xs2.map (.int .i64))) := Lib.hid ((HO4.out.pure ((hp5.trans hp6).trans hp7)).kept HG8.out (own_apart' HV3.out HO4.out (Nat.le_refl _)))
  have hge1 : ¬ ((1 : Int) + 4 * cs.length < 0) := by omega
  go_wp2_with fail
  refine (eqIntS_any _ _ xs2 xs2 _ (Ints.of_ownO' HJ4.out) HI2.out true (by simp)).mono ?_
  rintro e w9 ⟨rfl, hz9⟩
  have hp9 := Pure.of_quiet hz9; clear hz9
  have hqw9 := hqw8.trans hp9
  go_wp2_with fail
  refine (markIntS_any _ _ _ _ _ _ (HJ4.out.pure hp9) (by omega) (by omega) (by omega)).mono ?_
  rintro e w10 ⟨rfl, hm10, hg10⟩
  have HG10 := Lib.hid hg10; clear hg10
  have HM10 := Lib.hid hm10; clear hm10
  have hqw10 : Pure w w10 := Pure.grown hqw9 HG10.out (fun g hg => Nat.le_trans hqw3.size (HO4.out.lt g hg).1)
  have HI10 : Hid (Ints w10 v2 xs2) := Lib.hid (Ints.other (HI2.out.keep hp9) HG10.out (own_apart HO2.out HO4.out hp3.size))
  have hge2 : ¬ ((1 : Int) + xs2.length < 0) := by omega
  have hd2 : ((1 : Int) + xs2.length != 1 + xs2.length) = false := by simp
  go_wp2_with fail
  refine (heldIntS_any _ _ _ _ (ints_marked HM10.out) (by omega) (by omega) (by omega)).mono ?_
  rintro e w11 ⟨rfl, hp11⟩
  have hqw11 := hqw10.trans hp11
  go_wp2_with fail
  refine (toCodeS_any _ cs _ (H.out.keep hqw11) hlen).mono ?_
  rintro e w12 ⟨v12, rfl, hv12, hp12⟩
  have HV12 := Lib.hid hv12; clear hv12
  have hqw12 := hqw11.trans hp12
  go_wp2_with fail
  refine (idd_any _ cs _ (codes_of_own HV12.out) hlen).mono ?_
  rintro e w13 ⟨v13, ys13, rfl, px13, hl13, ho13, hp13⟩
  obtain rfl : xs2 = ys13 := DdP.unique px13 PX2.out
  have HO13 := Lib.hid ho13; clear ho13 px13 hl13
  have hqw13 := hqw12.trans hp13
  go_wp2_with fail
  refine (eqIntS_any _ _ xs2 xs2 _ (Ints.of_ownO' HO13.out) (HI10.out.keep ((hp11.trans hp12).trans hp13)) true (by simp)).mono ?_
  rintro e w14 ⟨rfl, hz14⟩
  have hp14 := Pure.of_quiet hz14; clear hz14
  have hqw14 := hqw13.trans hp14
  go_wp2_with fail
  refine (heldIntS_any _ _ _ _ ((ints_marked HM10.out).keep (((hp11.trans hp12).trans hp13).trans hp14)) (by omega) (by omega) (by omega)).mono ?_
  rintro e w15 ⟨rfl, hp15⟩
  have hqw15 := hqw14.trans hp15
  go_wp2
  go_ret
  exact ⟨rfl, hqw15⟩


end Go.Proofs.Ytmhaaihgepldhaa
