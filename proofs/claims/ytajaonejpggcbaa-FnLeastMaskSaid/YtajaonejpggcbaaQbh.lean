/- Valid lanes and their steps, in plain Lean: turns are short and small, a step stays in the program. A step of a crowd, of any kind, as the reference makes it. Bytes that are read. The reader that the drawn inputs come from: it yields numbers, and changes nothing but its own counter. A region that draws its order, walked by what holds of the operations that are through: each operation once, whatever the order. No condition. -/
import Derived.Laws.BitsAllLaws
import Derived.Test.YtajaonejpggcbaaQaa
import Derived.Test.YtajaonejpggcbaaQad
import Derived.Test.YtajaonejpggcbaaQaf
import Derived.Test.YtajaonejpggcbaaQag
import Derived.Test.YtajaonejpggcbaaQah
import Derived.Test.YtajaonejpggcbaaQai
import Derived.Test.YtajaonejpggcbaaQbg

namespace Go.Proofs.Ytajaonejpggcbaa

theorem lpsOp13 (cs : List Cd) (k : Nat) : ∀ i, ∀ x ∈ lpsTo cs k i, (cs.getD x default).op = 13
  | 0, x, hx => by simp [lpsTo] at hx
  | i + 1, x, hx => by
    unfold lpsTo at hx
    split at hx
    · rename_i h
      rcases List.mem_cons.1 hx with rfl | hx
      · exact h
      · exact lpsOp13 cs k i x hx
    · exact lpsOp13 cs k i x hx
theorem lpsTo_mono (cs : List Cd) (k i : Nat) : (lpsTo cs k 1).length ≤ (lpsTo cs k (i + 1)).length := by
  induction i with
  | zero => exact Nat.le_refl _
  | succ i ih =>
    refine Nat.le_trans ih ?_
    show _ ≤ (if _ then _ else _ : List Nat).length
    split
    · simp
    · exact Nat.le_refl _
section
variable {cs : List Cd} {l : Lx}
theorem LaneOk.short (h : LaneOk cs l) : l.ts.length ≤ 3 := by
  have h1 := h.tl
  have h2 := lpsTo_len cs l.at_.toNat (stkOf cs l.at_.toNat).length
  have h3 := stkOf_len h.p (k := l.at_.toNat) (by have := h.a1; have := h.a0; omega)
  unfold lps at h1
  omega
theorem LaneOk.turns (h : LaneOk cs l) : ∀ x ∈ l.ts, (0 : Int) ≤ x ∧ x ≤ 3 := by
  intro x hx
  obtain ⟨k, hk, rfl⟩ := List.getElem_of_mem hx
  have ht := h.t k hk
  have e : l.ts.getD k 0 = l.ts[k] := by simp [List.getD_eq_getElem?_getD, hk]
  rw [e] at ht
  have hkl : k < (lps cs l.at_.toNat).length := by rw [h.tl]; exact hk
  have e2 : (lps cs l.at_.toNat).getD k 0 = (lps cs l.at_.toNat)[k] := by simp [List.getD_eq_getElem?_getD, hkl]
  rw [e2] at ht
  have hm : (lps cs l.at_.toNat)[k] ∈ lps cs l.at_.toNat := List.getElem_mem hkl
  have hop := lpsOp13 cs l.at_.toNat _ _ hm
  have hlt := lpsTo_lt h.p (k := l.at_.toNat) (by have := h.a1; have := h.a0; omega) _ (Nat.le_refl _) _ hm
  have hc : CdOk (cs.getD (lps cs l.at_.toNat)[k] default) := h.p.1 _ (cdOk_mem (by have := h.a1; have := h.a0; omega))
  have hb : (cs.getD (lps cs l.at_.toNat)[k] default).b ≤ 4 := by
    unfold CdOk at hc
    rcases hc with hc | hc | hc | hc | hc | hc
    · omega
    · omega
    · omega
    · omega
    · exact hc.2.2.1.2
    · omega
  omega
theorem LaneOk.inLoop (h : LaneOk cs l) (hlt : l.at_.toNat < cs.length) (h14 : (cs.getD l.at_.toNat default).op = 14) (h13 : (cs.getD (aroundAt cs l.at_.toNat).toNat default).op = 13) : 0 < l.ts.length := by
  obtain ⟨bb, oo, bi⟩ := (h.p.pi hlt).2.2 h14
  have har := bi.ar
  have hf := stkOf_first h.p (k := l.at_.toNat) (by omega)
  rw [har] at hf h13
  by_cases hs : 0 < (stkOf cs l.at_.toNat).length
  · rw [if_pos hs] at hf
    have e : (stkOf cs l.at_.toNat).getD 0 0 = bb := by omega
    have h1 : (lpsTo cs l.at_.toNat 1).length = 1 := by
      unfold lpsTo
      rw [if_pos (by rw [e]; simpa using h13)]
      simp [lpsTo]
    obtain ⟨i, hi⟩ : ∃ i, (stkOf cs l.at_.toNat).length = i + 1 := ⟨_, (Nat.succ_pred_eq_of_pos hs).symm⟩
    have h2 := lpsTo_mono cs l.at_.toNat i
    have h3 := h.tl
    unfold lps at h3
    rw [hi] at h3
    omega
  · rw [if_neg hs] at hf; omega
end
theorem lnStep_le {cs : List Cd} {m id : Nat} {l : Ln} {M : Nat → Int} (hv : PValid cs) (hlt : l.at_ < cs.length) : (lnStep cs m id l M).at_ ≤ cs.length := by
  have hpi := hv.pi hlt
  unfold lnStep
  simp only
  split
  · exact hlt
  · split
    · rename_i h10 h11
      split
      · show outAt cs l.at_ ≤ cs.length
        obtain ⟨e, o, bi⟩ := hpi.1 (.inl h11)
        have h1 := bi.lt; have h2 := bi.le
        unfold outAt
        rw [bi.ends]
        rcases bi.el with rfl | ⟨q, rfl, h3, h4, _⟩
        · simp; omega
        · simp; omega
      · exact hlt
    · split
      · rename_i h12
        obtain ⟨b, e, bi⟩ := hpi.2.1 h12
        have h1 := bi.lt; have h2 := bi.le
        have har : aroundAt cs l.at_ = b := by
          rcases bi.el with e' | ⟨q, e', _, _, _, e3, _⟩
          · omega
          · have : q = l.at_ := by omega
            subst this; exact e3
        show ((endAt cs (aroundAt cs l.at_).toNat).1 + 1).toNat ≤ cs.length
        rw [har, Int.toNat_natCast, bi.ends]
        simp; omega
      · split
        · rename_i h13
          split
          · show ((endAt cs l.at_).1 + 1).toNat ≤ cs.length
            obtain ⟨e, o, bi⟩ := hpi.1 (.inr h13)
            have h1 := bi.lt; have h2 := bi.le
            rw [bi.ends]; simp; omega
          · exact hlt
        · split
          · rename_i h14
            obtain ⟨b, o, bi⟩ := hpi.2.2 h14
            have h1 := bi.lt; have h2 := bi.le
            split
            · split
              · show (aroundAt cs l.at_).toNat + 1 ≤ cs.length
                rw [bi.ar]; simp; omega
              · exact hlt
            · exact hlt
          · exact hlt

end Go.Proofs.Ytajaonejpggcbaa

namespace Go.Proofs.Ytajaonejpggcbaa
open Go.RowKit

def StepC (w : World) (e : Ending) (w' : World) : Prop :=
  (e = .returned (.agg #[.slice none 0 0, .slice none 0 0]) ∧ Pure w w') ∨ ∃ n gl cl gm m cm vr vt L M, e = .returned (crwV n gl cl gm m cm) ∧ CrW w.heap.size w' n gl cl gm m cm vr vt L M ∧ Pure w w'
theorem CrW.qrun {u w : World} {n gl cl gm m cm : Nat} {vr vt : Nat → Value} {L : Nat → Ln} {M : Nat → Int} {v : Value} {cs : List Cd} (h : CrW u.heap.size w n gl cl gm m cm vr vt L M) (hp : Pure u w) (hc : Codes u v cs) (hg : ∀ k, k < n → ∀ r, Word ((L k).R r)) :
    QRun ⟨u, cs, v, n, m, gl, cl, gm, cm⟩ w vr vt L M := ⟨hp, hc, h.n1, h.n8, h.cl1, h.cl2, h.gl0, h.lanes, h.lnb, h.mem, h.ne, hg⟩

theorem step_end {u w w1 : World} {cs : List Cd} {v : Value} {n m gl cl gm cm : Nat} {vr vt : Nat → Value} {L : Nat → Ln} {M : Nat → Int} {x0 x1 : Value} (h : QRun ⟨w1, cs, v, n, m, gl, cl, gm, cm⟩ u vr vt L M) (hw : Pure w w1 ∧ w.heap.size + 2 ≤ w1.heap.size) :
    CrW w.heap.size ((u.setCell ⟨w.heap.size + 1, 0, none⟩ x0).setCell ⟨w.heap.size + 1, 1, none⟩ x1) n gl cl gm m cm vr vt L M ∧ Pure w ((u.setCell ⟨w.heap.size + 1, 0, none⟩ x0).setCell ⟨w.heap.size + 1, 1, none⟩ x1) := by
  have hcw : ∀ (u : World) (i : Nat) (x : Value), Chg (fun b => b = w.heap.size + 1) u (u.setCell ⟨w.heap.size + 1, i, none⟩ x) := fun u i x => Chg.of_set u _ _ _ rfl
  have hc := (hcw u 0 x0).trans (hcw _ 1 x1)
  exact ⟨(h.crw.chg hc (fun b e => by have := hw.2; show b < w1.heap.size; omega)).less (by have := hw.2; show _ ≤ w1.heap.size; omega), Chg.pure (hw.1.trans h.pure) hc (fun b e => by omega)⟩

set_option maxHeartbeats 4000000 in
set_option maxRecDepth 100000 in
theorem sstepc_any (vl vm v : Value) (c : Cx) (cs : List Cd) (k : Nat) (w : World) (hl : Lanes w vl c.ls) (hm : Ints w vm c.mem) (h : Codes w v cs) (hs : cs.length ≤ 1048576) (hs1 : c.ls.length ≤ 1048576) (hs2 : c.mem.length ≤ 1048576) (hk : k < c.ls.length) :
    Calls Try.prog 101 #[.agg #[vl, vm], v, .int .i64 (k : Nat)] w (StepC w) := by
  have H := Lib.hid h
  have HL := Lib.hid hl
  have HM := Lib.hid hm
  obtain ⟨Al, c0, rfl, _⟩ := hl.form
  obtain ⟨Am, m0, rfl⟩ := hm.form
  obtain ⟨A, cc, rfl, hnc, hcm⟩ := h.form
  clear h hl hm
  obtain ⟨wz, Hwz⟩ : ∃ wz, Hid ((w.alloc (.cells #[.slice Al c.ls.length c0, .slice Am c.mem.length m0] 33)).alloc (.cells #[.slice none 0 0, .slice none 0 0] 33) = wz) := ⟨_, Lib.hid rfl⟩
  have HPZ : Hid (Pure w wz) := Lib.hid (by rw [← Hwz.out]; exact (by repeat (first | assumption | exact Pure.refl _ | refine Pure.drewN ?_ _ | refine Pure.drew ?_ | refine Pure.alloc ?_ _ | refine Pure.setCell ?_ (by simp <;> omega) _)))
  have HZC : Hid (wz.heap[w.heap.size]? = some (.cells #[.slice Al c.ls.length c0, .slice Am c.mem.length m0] 33 (0, 0))) := Lib.hid (by
    rw [← Hwz.out]; exact (Chg.of_pure (S := fun _ => False) ((Pure.refl (w.alloc _)).alloc _)).heap (heap_alloc_new w _) id)
  have HZR : Hid (wz.heap[w.heap.size + 1]? = some (.cells #[.slice none 0 0, .slice none 0 0] 33 (0, 0))) := Lib.hid (by
    rw [← Hwz.out]
    have := heap_alloc_new (w.alloc (.cells #[.slice Al c.ls.length c0, .slice Am c.mem.length m0] 33)) (.cells #[.slice none 0 0, .slice none 0 0] 33)
    simpa using this)
  have HZS : Hid (wz.heap.size = w.heap.size + 2) := Lib.hid (by rw [← Hwz.out]; simp)
  obtain ⟨B, hB⟩ : ∃ B : Bool, B = true ↔ CrowdOk cs c := by classical exact ⟨decide (CrowdOk cs c), by simp⟩
  have HB := Lib.hid hB
  clear hB
  go_enter Try.func101, Try.ntmps101
  go_wp2_with fail
  rw [Hwz.out]
  refine (scv2_any _ _ _ c cs _ (HL.out.keep HPZ.out) (HM.out.keep HPZ.out) (H.out.keep HPZ.out) hs hs1 hs2 B HB.out).mono ?_
  rintro e w1 ⟨rfl, hp1⟩
  have HP1 := Lib.hid hp1
  obtain ⟨k0, kf0⟩ := row_pure hp1 HZR.out 0
  obtain ⟨k1, kf1⟩ := row_pure hp1 HZR.out 1
  obtain ⟨b0, _⟩ := row_pure hp1 HZC.out 0
  obtain ⟨b1, _⟩ := row_pure hp1 HZC.out 1
  simp only [List.getElem?_toArray, List.getElem?_cons_zero, List.getElem?_cons_succ] at k0 k1 b0 b1
  clear hp1
  cases B
  · go_wp2
    refine bodyPost_ret (v := .agg #[.slice none 0 0, .slice none 0 0]) (by simp [results, Try.results101, go_sem, k0, k1]) rfl ?_
    have hcw : ∀ (u : World) (i : Nat) (x : Value), Chg (fun b => b = w.heap.size + 1) u (u.setCell ⟨w.heap.size + 1, i, none⟩ x) := fun u i x => Chg.of_set u _ _ _ rfl
    exact .inl ⟨rfl, Chg.pure (HPZ.out.trans HP1.out) ((hcw _ _ _).trans (hcw _ _ _)) (fun b e => by omega)⟩
  have hok : CrowdOk cs c := HB.out.1 rfl
  have HOK := Lib.hid hok
  obtain ⟨n, hnn⟩ : ∃ n, c.ls.length = n := ⟨_, rfl⟩
  obtain ⟨m, hmm⟩ : ∃ m, c.mem.length = m := ⟨_, rfl⟩
  have HNN := Lib.hid hnn
  have HMM := Lib.hid hmm
  have h40 := hok.p.2.1
  have hn8 : n ≤ 8 := by rw [← hnn]; exact hok.n8
  rw [hnn] at HL b0 hk
  rw [hmm] at HM b1
  have HLM := Lib.hid (show Lanes w (.slice Al n c0) c.ls from HL.out)
  clear hok hnn hmm HB
  go_wp2_with fail
  refine (l1In_any _ _ _ _ true (by simp only [true_iff]; omega)).mono ?_
  rintro e w' ⟨rfl, rfl⟩
  go_wp2_with fail
  refine (l7copy_any _ _ c cs n m _ (HL.out.keep (HPZ.out.trans HP1.out)) (HM.out.keep (HPZ.out.trans HP1.out)) HOK.out HNN.out HMM.out).mono ?_
  rintro e w2 ⟨gl, cl, gm, cm, vr, vt, rfl, hcw, hp2⟩
  unfold crwV
  obtain ⟨L, HLL⟩ : ∃ L, Hid (lnX c = L) := ⟨_, Lib.hid rfl⟩
  obtain ⟨M, HMW⟩ : ∃ M : Nat → Int, Hid ((fun j => c.mem.getD j 0) = M) := ⟨_, Lib.hid rfl⟩
  rw [HLL.out, HMW.out] at hcw
  have hw1 : w.heap.size + 2 ≤ w1.heap.size := by have := HP1.out.size; have := HZS.out; omega
  have HW1 : Hid (Pure w w1 ∧ w.heap.size + 2 ≤ w1.heap.size) := Lib.hid ⟨HPZ.out.trans HP1.out, hw1⟩
  have hgl1 : w1.heap.size ≤ gl := hcw.gl0
  have hgl2 : gl < w2.heap.size := hcw.gl_lt
  have hgm1 : w1.heap.size ≤ gm ∧ gm < w2.heap.size := hcw.mem.own.lt gm rfl
  have hgne : gm ≠ gl := hcw.ne_gl.1
  have HLA : Hid (∀ j, j < n → (L j).at_ ≤ cs.length) := Lib.hid (fun j hj => by
    rw [← HLL.out]
    have hlk := HOK.out.l j (by rw [HNN.out]; exact hj)
    show (c.ls.getD j default).at_.toNat ≤ cs.length
    have := hlk.a1; have := hlk.a0; omega)
  have HLG : Hid (∀ j, j < n → ∀ r, Word ((L j).R r)) := Lib.hid (fun j hj r => by
    rw [← HLL.out]
    have hlk := HOK.out.l j (by rw [HNN.out]; exact hj)
    show Word ((c.ls.getD j default).rs.getD r 0)
    by_cases hr : r < (c.ls.getD j default).rs.length
    · exact hlk.w _ (getD_mem hr)
    · have : (c.ls.getD j default).rs.getD r 0 = 0 := by rw [List.getD_eq_getElem?_getD, List.getElem?_eq_none (by omega)]; rfl
      rw [this]; exact ⟨Int.le_refl 0, by decide⟩)
  have hq2 : QRun ⟨w1, cs, .slice A cs.length cc, n, m, gl, cl, gm, cm⟩ w2 vr vt L M := hcw.qrun hp2 (H.out.keep (HPZ.out.trans HP1.out)) HLG.out
  obtain ⟨w3, Hw3⟩ : ∃ w3, Hid (w2.alloc (.cells #[.slice (some ⟨gl, 0, none⟩) n cl, .slice (some ⟨gm, 0, none⟩) m cm] 33) = w3) := ⟨_, Lib.hid rfl⟩
  have hp3 : Pure w2 w3 := by rw [← Hw3.out]; exact (by repeat (first | assumption | exact Pure.refl _ | refine Pure.drewN ?_ _ | refine Pure.drew ?_ | refine Pure.alloc ?_ _ | refine Pure.setCell ?_ (by simp <;> omega) _))
  have HX3 : Hid (w3.heap[w2.heap.size]? = some (.cells #[.slice (some ⟨gl, 0, none⟩) n cl, .slice (some ⟨gm, 0, none⟩) m cm] 33 (0, 0))) := Lib.hid (by rw [← Hw3.out]; exact heap_alloc_new w2 _)
  have HR3 : Hid (w3.heap[w.heap.size + 1]? = some (.cells #[.slice none 0 0, .slice none 0 0] 33 (0, 0))) := Lib.hid ((Chg.of_pure (S := fun _ => False) ((HP1.out.trans hp2).trans hp3)).heap HZR.out id)
  have HQ3 := Lib.hid (hq2.keep hp3)
  have HPW3 := Lib.hid ((HP1.out.trans hp2).trans hp3)
  have HP13 := Lib.hid (hp2.trans hp3)
  have x0 := (cell_of_row _ _ 0 _ _ _ HX3.out).trans (show _ = some (Value.slice (some ⟨gl, 0, none⟩) n cl) from rfl)
  have x1 := (cell_of_row _ _ 1 _ _ _ HX3.out).trans (show _ = some (Value.slice (some ⟨gm, 0, none⟩) m cm) from rfl)
  obtain ⟨q0, q1, q2, q3, qf⟩ := HQ3.out.cells (k := k) hk
  obtain ⟨⟨g1, cg, hvr⟩, _, hot⟩ := HQ3.out.lnb k hk
  obtain ⟨At, ct, hvt⟩ := hot.form
  simp only at q0 q1 q2 q3 qf
  rw [hvr] at q0
  rw [hvt] at q2
  obtain ⟨a, Ha⟩ : ∃ a, Hid ((L k).at_ = a) := ⟨_, Lib.hid rfl⟩
  obtain ⟨W, HWb⟩ : ∃ W, Hid ((L k).W = W) := ⟨_, Lib.hid rfl⟩
  obtain ⟨tl, Htl⟩ : ∃ tl, Hid ((L k).T.length = tl) := ⟨_, Lib.hid rfl⟩
  rw [Ha.out] at q1
  rw [HWb.out] at q3
  rw [Htl.out] at q2
  have hkI : (k : Int) < (n : Int) := by omega
  have hk0 : (0 : Int) ≤ (k : Int) := by omega
  clear k0 k1 kf0 kf1 b0 b1 hp2 hp3 hq2 hcw
  by_cases hgo : W = false ∧ a < cs.length
  · obtain ⟨rfl, hlt⟩ := hgo
    have hlk := HOK.out.l k (by rw [HNN.out]; exact hk)
    have hLk : L k = lnOf (c.ls.getD k default) := by rw [← HLL.out]; rfl
    obtain ⟨l', Hl'⟩ : ∃ l', Hid (lnStep cs m k (L k) M = l') := ⟨_, Lib.hid rfl⟩
    have hltL : (L k).at_ < cs.length := by rw [Ha.out]; exact hlt
    have hatT : (L k).at_ = (c.ls.getD k default).at_.toNat := by rw [hLk]; rfl
    have HSTk : Hid (∀ u, Pure w3 u → Calls Try.prog 93 #[lnV (vr k) (vt k) (L k), .slice A cs.length cc, .int .i64 (k : Nat), .slice (some ⟨gm, 0, none⟩) m cm] u (StepLP u w1.heap.size gm m cm l' (lnMem cs m (L k) M))) := Lib.hid (fun u hu => by
      rw [← Hl'.out]
      have hqu := HQ3.out.keep hu
      refine l6step_any _ cs k gm m cm w1.heap.size (vr k) (vt k) (L k) M u (H.out.keep (((HPZ.out.trans HP1.out).trans HP13.out).trans hu)) HOK.out.p (hqu.lnb k hk).read hqu.mem (by omega) hltL ?_ ?_ ?_ (HLG.out k hk) HWb.out
      · rw [hLk]; have := hlk.short; show (c.ls.getD k default).ts.length ≤ 40; omega
      · rw [hLk]; exact hlk.turns
      · rw [hatT]; intro h14 h13
        rw [hLk]; exact hlk.inLoop (by rw [← hatT]; exact hltL) h14 h13)
    have HLDk : Hid (∀ (u u2 : World) (vr' vt' : Value), Pure w3 u → LnB u2 u.heap.size vr' vt' l' → SMem u2 w1.heap.size gm m cm (lnMem cs m (L k) M) → Chg (fun b => b = gm) u u2 →
        QRun ⟨w1, cs, .slice A cs.length cc, n, m, gl, cl, gm, cm⟩ ((((u2.setCell ⟨gl, k * 4, none⟩ vr').setCell ⟨gl, k * 4 + 1, none⟩ (.int .i64 (l'.at_ : Nat))).setCell ⟨gl, k * 4 + 2, none⟩ vt').setCell ⟨gl, k * 4 + 3, none⟩ (.bool l'.W)) (upV vr k vr') (upV vt k vt') (upL L k l') (lnMem cs m (L k) M) ∧
        Chg (fun b => b = gl) u2 ((((u2.setCell ⟨gl, k * 4, none⟩ vr').setCell ⟨gl, k * 4 + 1, none⟩ (.int .i64 (l'.at_ : Nat))).setCell ⟨gl, k * 4 + 2, none⟩ vt').setCell ⟨gl, k * 4 + 3, none⟩ (.bool l'.W))) := Lib.hid (fun u u2 vr' vt' hu hb hm hc => by
      refine (HQ3.out.keep hu).laid hk hb hm hc ?_
      rw [← Hl'.out]
      exact fun r => lnStep_good HOK.out.p hltL (by omega) (HLG.out k hk) HQ3.out.mem.good r)
    have HAF : Hid (∀ j, j < n → (upL L k l' j).at_ ≤ cs.length) := Lib.hid (fun j hj => by
      unfold upL
      split
      · rw [← Hl'.out]; exact lnStep_le HOK.out.p hltL
      · exact HLA.out j hj)
    unfold lnV at HSTk
    rw [hvr, hvt] at HSTk
    rw [Ha.out, HWb.out, Htl.out] at HSTk
    have hd : decide ((a : Int) < (cs.length : Int)) = true := by rw [decide_eq_true_iff]; omega
    clear hvr hvt hot hlk hLk hltL hatT
    have hwe := Hw3.out
    clear Hw3
    subst hwe
    obtain ⟨w3, Hw3⟩ : ∃ w3, Hid (w2.alloc (.cells #[.slice (some ⟨gl, 0, none⟩) n cl, .slice (some ⟨gm, 0, none⟩) m cm] 33) = w3) := ⟨_, Lib.hid rfl⟩
    go_wp2
    rw [Hw3.out] at HX3 HR3 HQ3 HPW3 HP13 x0 x1 q0 q1 q2 q3 qf HSTk HLDk ⊢
    have HSZ : Hid (gl < w3.heap.size ∧ gm < w3.heap.size ∧ w2.heap.size < w3.heap.size ∧ w.heap.size + 1 < w3.heap.size) := Lib.hid (by rw [← Hw3.out]; simp; omega)
    clear Hw3
    refine region_heldF (fun w' => w'.cell? ⟨w2.heap.size, 0, none⟩ = some (.slice (some ⟨gl, 0, none⟩) n cl) ∧ w'.cell? ⟨w2.heap.size, 1, none⟩ = some (.slice (some ⟨gm, 0, none⟩) m cm) ∧ w'.cell? ⟨gl, k * 4, none⟩ = some (.slice (some ⟨g1, 0, none⟩) 4 cg) ∧ w'.cell? ⟨gl, k * 4 + 1, none⟩ = some (.int .i64 (a : Int)) ∧ w'.cell? ⟨gl, k * 4 + 2, none⟩ = some (.slice At tl ct) ∧ w'.cell? ⟨gl, k * 4 + 3, none⟩ = some (.bool false))
      (List.range 12) [12, 13, 14] (fun l => List.take 12 l) (fun l => List.drop 12 l) (by kernel_rfl) (by kernel_rfl) (by kernel_rfl) (by kernel_rfl) (fun c a d v w h => by cases d <;> exact h) (by exact ⟨keepP (by repeat (first | assumption | exact Pure.refl _ | refine Pure.drewN ?_ _ | refine Pure.drew ?_ | refine Pure.alloc ?_ _ | refine Pure.setCell ?_ (by simp <;> omega) _)) x0, keepP (by repeat (first | assumption | exact Pure.refl _ | refine Pure.drewN ?_ _ | refine Pure.drew ?_ | refine Pure.alloc ?_ _ | refine Pure.setCell ?_ (by simp <;> omega) _)) x1, keepP (by repeat (first | assumption | exact Pure.refl _ | refine Pure.drewN ?_ _ | refine Pure.drew ?_ | refine Pure.alloc ?_ _ | refine Pure.setCell ?_ (by simp <;> omega) _)) q0, keepP (by repeat (first | assumption | exact Pure.refl _ | refine Pure.drewN ?_ _ | refine Pure.drew ?_ | refine Pure.alloc ?_ _ | refine Pure.setCell ?_ (by simp <;> omega) _)) q1, keepP (by repeat (first | assumption | exact Pure.refl _ | refine Pure.drewN ?_ _ | refine Pure.drew ?_ | refine Pure.alloc ?_ _ | refine Pure.setCell ?_ (by simp <;> omega) _)) q2, keepP (by repeat (first | assumption | exact Pure.refl _ | refine Pure.drewN ?_ _ | refine Pure.drew ?_ | refine Pure.alloc ?_ _ | refine Pure.setCell ?_ (by simp <;> omega) _)) q3⟩) ?_
    simp only [List.take_succ_cons, List.take_zero, List.drop_succ_cons, List.drop_zero]
    iterate 12
      apply held_of
      · exact rfl
      · intro w' hS
        obtain ⟨s0, s1, s2, s3, s4, s5⟩ := hS
        go_simp
        try exact rfl
      try go_simp
    refine held_nil ?_
    unfold Tail
    go_wp2_with fail
    refine (HSTk.out _ (show Pure w3 w3.drew from (by repeat (first | assumption | exact Pure.refl _ | refine Pure.drewN ?_ _ | refine Pure.drew ?_ | refine Pure.alloc ?_ _ | refine Pure.setCell ?_ (by simp <;> omega) _)))).mono ?_
    rintro e w6 ⟨vr', vt', rfl, hb6, hm6, hc6⟩
    have hz := HLDk.out _ w6 vr' vt' (show Pure w3 w3.drew from (by repeat (first | assumption | exact Pure.refl _ | refine Pure.drewN ?_ _ | refine Pure.drew ?_ | refine Pure.alloc ?_ _ | refine Pure.setCell ?_ (by simp <;> omega) _))) hb6 hm6 hc6
    have HZ := Lib.hid hz
    obtain ⟨⟨g6, c6, rfl⟩, _, ho6⟩ := hb6
    obtain ⟨A6, d6, rfl⟩ := ho6.form
    have hb3 : gm ≠ w2.heap.size := by omega
    have e0 := keepC hc6 (fun e => hb3 e.symm) (keepP (show Pure w3 w3.drew from (by repeat (first | assumption | exact Pure.refl _ | refine Pure.drewN ?_ _ | refine Pure.drew ?_ | refine Pure.alloc ?_ _ | refine Pure.setCell ?_ (by simp <;> omega) _))) x0)
    have e1 := keepC hc6 (fun e => hb3 e.symm) (keepP (show Pure w3 w3.drew from (by repeat (first | assumption | exact Pure.refl _ | refine Pure.drewN ?_ _ | refine Pure.drew ?_ | refine Pure.alloc ?_ _ | refine Pure.setCell ?_ (by simp <;> omega) _))) x1)
    have e2 := keepC hc6 (fun e => hgne e.symm) (keepP (show Pure w3 w3.drew from (by repeat (first | assumption | exact Pure.refl _ | refine Pure.drewN ?_ _ | refine Pure.drew ?_ | refine Pure.alloc ?_ _ | refine Pure.setCell ?_ (by simp <;> omega) _))) q0)
    have e3 := keepC hc6 (fun e => hgne e.symm) (keepP (show Pure w3 w3.drew from (by repeat (first | assumption | exact Pure.refl _ | refine Pure.drewN ?_ _ | refine Pure.drew ?_ | refine Pure.alloc ?_ _ | refine Pure.setCell ?_ (by simp <;> omega) _))) q1)
    have e4 := keepC hc6 (fun e => hgne e.symm) (keepP (show Pure w3 w3.drew from (by repeat (first | assumption | exact Pure.refl _ | refine Pure.drewN ?_ _ | refine Pure.drew ?_ | refine Pure.alloc ?_ _ | refine Pure.setCell ?_ (by simp <;> omega) _))) q2)
    have e5 := keepC hc6 (fun e => hgne e.symm) (keepP (show Pure w3 w3.drew from (by repeat (first | assumption | exact Pure.refl _ | refine Pure.drewN ?_ _ | refine Pure.drew ?_ | refine Pure.alloc ?_ _ | refine Pure.setCell ?_ (by simp <;> omega) _))) q3)
    obtain ⟨cur, b1, _⟩ := HQ3.out.lanes
    simp only at b1
    have b6 := hc6.heap (show w3.drew.heap[gl]? = _ from b1) (fun e => hgne e.symm)
    have f0 := frozen_of_row w6 gl (k * 4) _ _ b6
    have f1 := frozen_of_row w6 gl (k * 4 + 1) _ _ b6
    have f2 := frozen_of_row w6 gl (k * 4 + 2) _ _ b6
    have f3 := frozen_of_row w6 gl (k * 4 + 3) _ _ b6
    have HX6 : Hid (w6.heap[w2.heap.size]? = some (.cells #[.slice (some ⟨gl, 0, none⟩) n cl, .slice (some ⟨gm, 0, none⟩) m cm] 33 (0, 0))) := Lib.hid (hc6.heap (show w3.drew.heap[w2.heap.size]? = _ from HX3.out) (fun e => hb3 e.symm))
    have HR6 : Hid (w6.heap[w.heap.size + 1]? = some (.cells #[.slice none 0 0, .slice none 0 0] 33 (0, 0))) := Lib.hid (hc6.heap (show w3.drew.heap[w.heap.size + 1]? = _ from HR3.out) (fun e => by have h1 : w.heap.size + 1 = gm := e; omega))
    unfold lnV
    clear hz b1 b6 hm6 hc6 x0 x1 q0 q1 q2 q3
    go_wp2_with fail
    refine And.intro (by exact ⟨e0, e1, e2, e3, e4, e5⟩) ?_
    unfold Tail
    go_wp2
    refine And.intro (by exact ⟨e0, e1, e2, e3, e4, e5⟩) ?_
    unfold Tail
    have HQF := Lib.hid HZ.out.1
    have HXF := Lib.hid (HZ.out.2.heap HX6.out (fun e => by have h1 : w2.heap.size = gl := e; omega))
    have HRF := Lib.hid (HZ.out.2.heap HR6.out (fun e => by have h1 : w.heap.size + 1 = gl := e; omega))
    clear HX6 HR6 HX3 HR3
    -- the barrier, and the crowd's return
    go_wp2_with fail
    refine (sfree_any ⟨w1, cs, .slice A cs.length cc, n, m, gl, cl, gm, cm⟩ _ _ _ _ _ HQF.out h40 HAF.out).mono ?_
    rintro e w7 ⟨rfl, hq7, hc7⟩
    have hx7 := hc7.heap HXF.out (fun e => by have h1 : w2.heap.size = gl := e; omega)
    have hr7 := hc7.heap HRF.out (fun e => by have h1 : w.heap.size + 1 = gl := e; omega)
    have x0 := (cell_of_row _ _ 0 _ _ _ hx7).trans (show _ = some (Value.slice (some ⟨gl, 0, none⟩) n cl) from rfl)
    have x1 := (cell_of_row _ _ 1 _ _ _ hx7).trans (show _ = some (Value.slice (some ⟨gm, 0, none⟩) m cm) from rfl)
    have k0 := (cell_of_row _ _ 0 _ _ _ hr7).trans (show _ = some (Value.slice none 0 0) from rfl)
    have k1 := (cell_of_row _ _ 1 _ _ _ hr7).trans (show _ = some (Value.slice none 0 0) from rfl)
    have kf0 := frozen_of_row _ _ 0 _ _ hr7
    have kf1 := frozen_of_row _ _ 1 _ _ hr7
    have HQ7 := Lib.hid hq7
    clear hq7 hc7 hx7 hr7
    go_wp2
    refine bodyPost_ret (v := .agg #[.slice (some ⟨gl, 0, none⟩) n cl, .slice (some ⟨gm, 0, none⟩) m cm]) (by simp [results, Try.results101, go_sem, k0, k1]) rfl ?_
    exact .inr ⟨n, gl, cl, gm, m, cm, _, _, _, _, rfl, step_end HQ7.out HW1.out⟩
  · have hwe := Hw3.out
    clear Hw3
    subst hwe
    have HQF := Lib.hid HQ3.out
    have HXF := Lib.hid HX3.out
    have HRF := Lib.hid HR3.out
    have HAF := Lib.hid HLA.out
    clear HQ3 HX3 HR3 hvr hvt hot
    cases W
    · have hnl : ¬ a < cs.length := fun h => hgo ⟨rfl, h⟩
      have hd : decide ((a : Int) < (cs.length : Int)) = false := by rw [decide_eq_false_iff_not]; omega
      have hle2 : cs.length ≤ a := by omega
      clear hnl hgo
      -- the barrier, and the crowd's return
      go_wp2_with fail
      refine (sfree_any ⟨w1, cs, .slice A cs.length cc, n, m, gl, cl, gm, cm⟩ _ _ _ _ _ HQF.out h40 HAF.out).mono ?_
      rintro e w7 ⟨rfl, hq7, hc7⟩
      have hx7 := hc7.heap HXF.out (fun e => by have h1 : w2.heap.size = gl := e; omega)
      have hr7 := hc7.heap HRF.out (fun e => by have h1 : w.heap.size + 1 = gl := e; omega)
      have x0 := (cell_of_row _ _ 0 _ _ _ hx7).trans (show _ = some (Value.slice (some ⟨gl, 0, none⟩) n cl) from rfl)
      have x1 := (cell_of_row _ _ 1 _ _ _ hx7).trans (show _ = some (Value.slice (some ⟨gm, 0, none⟩) m cm) from rfl)
      have k0 := (cell_of_row _ _ 0 _ _ _ hr7).trans (show _ = some (Value.slice none 0 0) from rfl)
      have k1 := (cell_of_row _ _ 1 _ _ _ hr7).trans (show _ = some (Value.slice none 0 0) from rfl)
      have kf0 := frozen_of_row _ _ 0 _ _ hr7
      have kf1 := frozen_of_row _ _ 1 _ _ hr7
      have HQ7 := Lib.hid hq7
      clear hq7 hc7 hx7 hr7
      go_wp2
      refine bodyPost_ret (v := .agg #[.slice (some ⟨gl, 0, none⟩) n cl, .slice (some ⟨gm, 0, none⟩) m cm]) (by simp [results, Try.results101, go_sem, k0, k1]) rfl ?_
      exact .inr ⟨n, gl, cl, gm, m, cm, _, _, _, _, rfl, step_end HQ7.out HW1.out⟩
    · clear hgo
      -- the barrier, and the crowd's return
      go_wp2_with fail
      refine (sfree_any ⟨w1, cs, .slice A cs.length cc, n, m, gl, cl, gm, cm⟩ _ _ _ _ _ HQF.out h40 HAF.out).mono ?_
      rintro e w7 ⟨rfl, hq7, hc7⟩
      have hx7 := hc7.heap HXF.out (fun e => by have h1 : w2.heap.size = gl := e; omega)
      have hr7 := hc7.heap HRF.out (fun e => by have h1 : w.heap.size + 1 = gl := e; omega)
      have x0 := (cell_of_row _ _ 0 _ _ _ hx7).trans (show _ = some (Value.slice (some ⟨gl, 0, none⟩) n cl) from rfl)
      have x1 := (cell_of_row _ _ 1 _ _ _ hx7).trans (show _ = some (Value.slice (some ⟨gm, 0, none⟩) m cm) from rfl)
      have k0 := (cell_of_row _ _ 0 _ _ _ hr7).trans (show _ = some (Value.slice none 0 0) from rfl)
      have k1 := (cell_of_row _ _ 1 _ _ _ hr7).trans (show _ = some (Value.slice none 0 0) from rfl)
      have kf0 := frozen_of_row _ _ 0 _ _ hr7
      have kf1 := frozen_of_row _ _ 1 _ _ hr7
      have HQ7 := Lib.hid hq7
      clear hq7 hc7 hx7 hr7
      go_wp2
      refine bodyPost_ret (v := .agg #[.slice (some ⟨gl, 0, none⟩) n cl, .slice (some ⟨gm, 0, none⟩) m cm]) (by simp [results, Try.results101, go_sem, k0, k1]) rfl ?_
      exact .inr ⟨n, gl, cl, gm, m, cm, _, _, _, _, rfl, step_end HQ7.out HW1.out⟩

end Go.Proofs.Ytajaonejpggcbaa

namespace Go.Proofs.Ytajaonejpggcbaa
open Go.RowKit

def Bytes (w : World) (v : Value) (bs : List Int) : Prop := (Cells w v bs.length 1 fun j => .int .u8 (bs.getD j 0)) ∧ ∀ x ∈ bs, 0 ≤ x ∧ x ≤ 255
theorem Bytes.keep {w w' : World} {v : Value} {bs : List Int} (h : Bytes w v bs) (hp : Pure w w') : Bytes w' v bs := ⟨Cells.keep h.1 hp, h.2⟩
theorem Bytes.form {w : World} {v : Value} {bs : List Int} (h : Bytes w v bs) : ∃ A c, v = .slice A bs.length c ∧ bs.length ≤ c ∧ c ≤ 9223372036854775807 := by
  obtain ⟨⟨A, c, h1, h2, h3, _⟩, _⟩ := h
  exact ⟨A, c, h1, h2, h3⟩
theorem Bytes.at_ {w : World} {A : Option Addr} {n c : Nat} {bs : List Int} (h : Bytes w (.slice A n c) bs) {k : Nat} (hk : k < bs.length) : ∃ b o, A = some ⟨b, o, none⟩ ∧ b < w.heap.size ∧ ∀ j, j < bs.length → w.cell? ⟨b, o + j, none⟩ = some (.int .u8 (bs.getD j 0)) := by
  obtain ⟨⟨A', c', hv, _, _, h4⟩, _⟩ := h
  injection hv with e1 e2 e3
  subst e1
  obtain ⟨b, o, he, hb, hc⟩ := h4 (by omega)
  exact ⟨b, o, he, hb, fun j hj => hc j (by omega)⟩
theorem Bytes.range {w : World} {v : Value} {bs : List Int} (h : Bytes w v bs) {k : Nat} (hk : k < bs.length) : 0 ≤ bs.getD k 0 ∧ bs.getD k 0 ≤ 255 := by
  have : bs.getD k 0 ∈ bs := by simp [List.getD_eq_getElem?_getD, hk]
  exact h.2 _ this
/-- The first bytes. -/
theorem Bytes.take {w : World} {A : Option Addr} {n c : Nat} {bs : List Int} (h : Bytes w (.slice A n c) bs) {k : Nat} (hk : k ≤ bs.length) : Bytes w (.slice A k c) (bs.take k) := by
  obtain ⟨⟨A', c', hv, h2, h3, h4⟩, hr⟩ := h
  injection hv with e1 e2 e3
  subst e1 e3
  have hl : (bs.take k).length = k := by simp; omega
  refine ⟨⟨A, c, by rw [hl], by rw [hl]; omega, h3, fun hn => ?_⟩, fun x hx => hr x (List.mem_of_mem_take hx)⟩
  rw [hl] at hn
  obtain ⟨b, o, he, hb, hc⟩ := h4 (by omega)
  refine ⟨b, o, he, hb, fun j hj => ?_⟩
  rw [hl] at hj
  rw [hc j (by omega)]
  have : j < k := by omega
  simp [List.getD_eq_getElem?_getD, this]

end Go.Proofs.Ytajaonejpggcbaa

namespace Go.Proofs.Ytajaonejpggcbaa
open Go.RowKit

/-- The reader's block, in a world that has grown out of w0. -/
structure Rdr (w0 w : World) (p : Nat) (vb : Value) (bs : List Int) (c : Nat) : Prop where
  pure : Pure w0 w
  lo : w0.heap.size ≤ p
  bytes : Bytes w0 vb bs
  len : bs.length ≤ 2000
  cell : w.heap[p]? = some (.cells #[vb, .int .i64 (c : Nat)] 134 (0, 0))
section
variable {w0 w w' : World} {p c : Nat} {vb : Value} {bs : List Int}
theorem Rdr.keep (h : Rdr w0 w p vb bs c) (hp : Pure w w') : Rdr w0 w' p vb bs c :=
  ⟨h.pure.trans hp, h.lo, h.bytes, h.len, (Chg.of_pure (S := fun _ => False) hp).heap h.cell id⟩
theorem Rdr.chg {S : Nat → Prop} (h : Rdr w0 w p vb bs c) (hc : Chg S w w') (hS : ∀ k, S k → w0.heap.size ≤ k) (hp : ¬ S p) : Rdr w0 w' p vb bs c :=
  ⟨Chg.pure h.pure hc hS, h.lo, h.bytes, h.len, hc.heap h.cell hp⟩
theorem Rdr.lt (h : Rdr w0 w p vb bs c) : p < w.heap.size := (Array.getElem?_eq_some_iff.1 h.cell).1
theorem Rdr.set (h : Rdr w0 w p vb bs c) : Rdr w0 (w.setCell ⟨p, 1, none⟩ (.int .i64 ((c + 1 : Nat) : Int))) p vb bs (c + 1) := by
  refine ⟨Pure.setCell h.pure h.lo _, h.lo, h.bytes, h.len, ?_⟩
  rw [heap_setCell_same w p 1 _ _ _ h.cell]; rfl
end

/-- The reader, drawn from at most C times. -/
def Rb (w0 w : World) (p : Nat) (vb : Value) (bs : List Int) (C : Nat) : Prop := ∃ c, c ≤ C ∧ Rdr w0 w p vb bs c
theorem Rb.keep {w0 w w' : World} {p C : Nat} {vb : Value} {bs : List Int} (h : Rb w0 w p vb bs C) (hp : Pure w w') : Rb w0 w' p vb bs C := by
  obtain ⟨c, h1, h2⟩ := h; exact ⟨c, h1, h2.keep hp⟩
theorem Rb.more {w0 w : World} {p C D : Nat} {vb : Value} {bs : List Int} (h : Rb w0 w p vb bs C) (hD : C ≤ D) : Rb w0 w p vb bs D := by
  obtain ⟨c, h1, h2⟩ := h; exact ⟨c, by omega, h2⟩
theorem Rb.chg {S : Nat → Prop} {w0 w w' : World} {p C : Nat} {vb : Value} {bs : List Int} (h : Rb w0 w p vb bs C) (hc : Chg S w w') (hS : ∀ k, S k → w0.heap.size ≤ k) (hp : ¬ S p) : Rb w0 w' p vb bs C := by
  obtain ⟨c, h1, h2⟩ := h; exact ⟨c, h1, h2.chg hc hS hp⟩
theorem Rb.lt {w0 w : World} {p C : Nat} {vb : Value} {bs : List Int} (h : Rb w0 w p vb bs C) : p < w.heap.size := by obtain ⟨c, _, h2⟩ := h; exact h2.lt
theorem Rb.pure {w0 w : World} {p C : Nat} {vb : Value} {bs : List Int} (h : Rb w0 w p vb bs C) : Pure w0 w := by obtain ⟨c, _, h2⟩ := h; exact h2.pure
theorem Rb.lo {w0 w : World} {p C : Nat} {vb : Value} {bs : List Int} (h : Rb w0 w p vb bs C) : w0.heap.size ≤ p := by obtain ⟨c, _, h2⟩ := h; exact h2.lo
theorem Rb.cell {w0 w : World} {p C : Nat} {vb : Value} {bs : List Int} (h : Rb w0 w p vb bs C) : ∃ cur, w.heap[p]? = some (.cells cur 134 (0, 0)) := by obtain ⟨c, _, h2⟩ := h; exact ⟨_, h2.cell⟩
abbrev OnlyAt (p : Nat) (w w' : World) : Prop := Chg (fun k => k = p) w w'

theorem xor_nonneg {a : Nat} (h : a < 4611686018427387904) : ∃ r : Nat, bits .xor .i64 (a : Int) ((a : Int) / 64) = (r : Int) := by
  have : ((a : Int) / 64) = ((a / 64 : Nat) : Int) := by norm_cast
  rw [this]
  exact ⟨a ^^^ (a / 64), by
    have h2 : a / 64 < 4611686018427387904 := by omega
    exact bits_xor (by omega) (by omega)⟩

set_option maxHeartbeats 2000000 in
set_option maxRecDepth 100000 in
theorem pick_any (w0 w : World) (p c : Nat) (vb : Value) (bs : List Int) (n : Nat) (h : Rdr w0 w p vb bs c) (hc : c ≤ 1099511627776) (hn : n ≤ 1048576) :
    Calls Try.prog 99 #[.pointer (some ⟨p, 0, none⟩), .int .i64 n] w fun e w' => ∃ x : Nat, e = .returned (.int .i64 x) ∧ (x < n ∨ x = 0) ∧ Rdr w0 w' p vb bs (c + 1) ∧ Chg (fun k => k = p) w w' := by
  have H := Lib.hid h
  obtain ⟨A, cp, rfl, hnc, hcm⟩ := h.bytes.form
  have hlen := h.len
  have q0 : w.cell? ⟨p, 0, none⟩ = some (.slice A bs.length cp) := (cell_of_row w p 0 _ _ _ h.cell).trans rfl
  have q1 : w.cell? ⟨p, 1, none⟩ = some (.int .i64 (c : Nat)) := (cell_of_row w p 1 _ _ _ h.cell).trans rfl
  have f1 := frozen_of_row w p 1 _ _ h.cell
  have ec : ((c + 1 : Nat) : Int) = (c : Int) + 1 := by push_cast; rfl
  have hs := h.set
  have hcg : Chg (fun k => k = p) w (w.setCell ⟨p, 1, none⟩ (.int .i64 ((c + 1 : Nat) : Int))) := Chg.of_set w p 1 _ rfl
  have z0 : (w.setCell ⟨p, 1, none⟩ (.int .i64 ((c + 1 : Nat) : Int))).cell? ⟨p, 0, none⟩ = some (.slice A bs.length cp) := (cell_of_row _ p 0 _ _ _ hs.cell).trans rfl
  have z1 : (w.setCell ⟨p, 1, none⟩ (.int .i64 ((c + 1 : Nat) : Int))).cell? ⟨p, 1, none⟩ = some (.int .i64 ((c + 1 : Nat) : Int)) := (cell_of_row _ p 1 _ _ _ hs.cell).trans rfl
  rw [ec] at hcg z0 z1
  have hs' : Rdr w0 (w.setCell ⟨p, 1, none⟩ (.int .i64 ((c : Int) + 1))) p (.slice A bs.length cp) bs (c + 1) := by rw [← ec]; exact hs
  obtain ⟨wx, Hwx⟩ : ∃ wx, Hid (w.setCell ⟨p, 1, none⟩ (.int .i64 ((c : Int) + 1)) = wx) := ⟨_, Lib.hid rfl⟩
  have HR : Hid (Rdr w0 (w.setCell ⟨p, 1, none⟩ (.int .i64 ((c : Int) + 1))) p (.slice A bs.length cp) bs (c + 1)) := Lib.hid hs'
  have HCg := Lib.hid hcg
  clear h hs hs' hcg ec
  by_cases hn0 : (n : Int) < 1
  · go_enter Try.func99, Try.ntmps99
    go_wp2
    go_ret
    exact ⟨0, rfl, .inr rfl, HR.out, HCg.out⟩
  · by_cases hb0 : bs.length = 0
    · have hbz : ((bs.length : Int) == 0) = true := by simp [hb0]
      clear hb0
      go_enter Try.func99, Try.ntmps99
      go_wp2
      go_ret
      exact ⟨0, rfl, .inr rfl, HR.out, HCg.out⟩
    · have hbz : ((bs.length : Int) == 0) = false := by simpa using hb0
      by_cases hlt : c < bs.length
      · obtain ⟨b, o, rfl, hb, hcell⟩ := HR.out.bytes.at_ hlt
        have r0 := (HR.out.pure.cell b _ hb).trans (hcell c hlt)
        have hrg := HR.out.bytes.range hlt
        obtain ⟨y, hy⟩ : ∃ y : Nat, bs.getD c 0 = y := ⟨(bs.getD c 0).toNat, by omega⟩
        rw [hy] at r0 hrg
        clear hcell hy hb0
        have htm : (y : Int).tmod (n : Int) = ((y % n : Nat) : Int) := by rw [Int.tmod_eq_emod_of_nonneg (by omega)]; norm_cast
        have hml : y % n < n := Nat.mod_lt _ (by omega)
        obtain ⟨j, Hj⟩ : ∃ j, Hid (y % n = j) := ⟨_, Lib.hid rfl⟩
        rw [Hj.out] at htm hml
        go_enter Try.func99, Try.ntmps99
        go_wp2
        go_ret
        exact ⟨j, rfl, .inl hml, HR.out, HCg.out⟩
      · have hL : 0 < bs.length := by omega
        have t1 : c % bs.length < bs.length := Nat.mod_lt _ hL
        have t2 : (c * 7 + 3) % bs.length < bs.length := Nat.mod_lt _ hL
        obtain ⟨b, o, rfl, hb, hcell⟩ := HR.out.bytes.at_ t1
        have r1 := (HR.out.pure.cell b _ hb).trans (hcell _ t1)
        have r2 := (HR.out.pure.cell b _ hb).trans (hcell _ t2)
        have g1 := HR.out.bytes.range t1
        have g2 := HR.out.bytes.range t2
        obtain ⟨y1, hy1⟩ : ∃ y : Nat, bs.getD (c % bs.length) 0 = y := ⟨(bs.getD (c % bs.length) 0).toNat, by omega⟩
        obtain ⟨y2, hy2⟩ : ∃ y : Nat, bs.getD ((c * 7 + 3) % bs.length) 0 = y := ⟨(bs.getD ((c * 7 + 3) % bs.length) 0).toNat, by omega⟩
        rw [hy1] at r1 g1
        rw [hy2] at r2 g2
        have m1 : (c : Int).tmod (bs.length : Int) = ((c % bs.length : Nat) : Int) := by rw [Int.tmod_eq_emod_of_nonneg (by omega)]; norm_cast
        have m2 : ((c : Int) * 7 + 3).tmod (bs.length : Int) = (((c * 7 + 3) % bs.length : Nat) : Int) := by rw [Int.tmod_eq_emod_of_nonneg (by omega)]; norm_cast
        have m3 : (c : Int).tdiv (bs.length : Int) = ((c / bs.length : Nat) : Int) := by rw [Int.tdiv_eq_ediv_of_nonneg (by omega)]; norm_cast
        have d3 : c / bs.length ≤ c := Nat.div_le_self _ _
        obtain ⟨j1, Hj1⟩ : ∃ j, Hid (c % bs.length = j) := ⟨_, Lib.hid rfl⟩
        obtain ⟨j2, Hj2⟩ : ∃ j, Hid ((c * 7 + 3) % bs.length = j) := ⟨_, Lib.hid rfl⟩
        obtain ⟨j3, Hj3⟩ : ∃ j, Hid (c / bs.length = j) := ⟨_, Lib.hid rfl⟩
        rw [Hj1.out] at t1 r1 m1
        rw [Hj2.out] at t2 r2 m2
        rw [Hj3.out] at m3 d3
        clear hcell hy1 hy2 hb0
        obtain ⟨u, hu⟩ : ∃ u : Nat, (y1 : Int) * 131 + (y2 : Int) * 1117 + (c : Int) * 29 + (j3 : Int) * 53 = u := ⟨y1 * 131 + y2 * 1117 + c * 29 + j3 * 53, by push_cast; rfl⟩
        have hu2 : u < 4611686018427387904 := by omega
        obtain ⟨x, hx⟩ := xor_nonneg hu2
        have htm : (x : Int).tmod (n : Int) = ((x % n : Nat) : Int) := by rw [Int.tmod_eq_emod_of_nonneg (by omega)]; norm_cast
        have hml : x % n < n := Nat.mod_lt _ (by omega)
        obtain ⟨j, Hj⟩ : ∃ j, Hid (x % n = j) := ⟨_, Lib.hid rfl⟩
        rw [Hj.out] at htm hml
        go_enter Try.func99, Try.ntmps99
        go_wp2
        go_quiet (fail)
        go_wp2
        go_ret
        exact ⟨j, rfl, .inl hml, HR.out.keep (by exact (by repeat (first | assumption | exact Pure.refl _ | refine Pure.drewN ?_ _ | refine Pure.drew ?_ | refine Pure.alloc ?_ _ | refine Pure.setCell ?_ (by simp <;> omega) _))), HCg.out.trans (Chg.of_pure (by exact (by repeat (first | assumption | exact Pure.refl _ | refine Pure.drewN ?_ _ | refine Pure.drew ?_ | refine Pure.alloc ?_ _ | refine Pure.setCell ?_ (by simp <;> omega) _))))⟩

theorem pick_t (w0 w : World) (p C : Nat) (vb : Value) (bs : List Int) (n : Nat) (N : Int) (hN : N = n) (h : Rb w0 w p vb bs C) (hc : C ≤ 1099511627776) (hn : n ≤ 1048576) (hn1 : 1 ≤ n) :
    Calls Try.prog 99 #[.pointer (some ⟨p, 0, none⟩), .int .i64 N] w fun e w' => ∃ x : Nat, e = .returned (.int .i64 x) ∧ x < n ∧ Rb w0 w' p vb bs (C + 1) ∧ OnlyAt p w w' := by
  subst hN
  obtain ⟨c, h1, h2⟩ := h
  refine (pick_any w0 w p c vb bs n h2 (by omega) hn).mono ?_
  rintro e w' ⟨x, he, hx, hr, hg⟩
  exact ⟨x, he, by omega, ⟨c + 1, by omega, hr⟩, hg⟩
set_option maxHeartbeats 1000000 in
theorem odd_any (w0 w : World) (p C : Nat) (vb : Value) (bs : List Int) (n : Nat) (N : Int) (hN : N = n) (h : Rb w0 w p vb bs C) (hc : C ≤ 1099511627776) (hn : n ≤ 1048576) :
    Calls Try.prog 102 #[.pointer (some ⟨p, 0, none⟩), .int .i64 N] w fun e w' => ∃ B : Bool, e = .returned (.bool B) ∧ Rb w0 w' p vb bs (C + 1) ∧ OnlyAt p w w' := by
  subst hN
  have H := Lib.hid h
  clear h
  by_cases h0 : (n : Int) > 0
  · go_enter Try.func102, Try.ntmps102
    go_wp2_with fail
    refine (pick_t w0 _ p C vb bs n _ rfl H.out hc hn (by omega)).mono ?_
    rintro e w1 ⟨x, rfl, hx, hr, hg⟩
    have HR := Lib.hid hr
    have HG := Lib.hid hg
    clear hr hg
    by_cases hB : (x : Int) = (n : Int) - 1
    · have hb : ((x : Int) == (n : Int) - 1) = true := by simp [hB]
      clear hB
      go_wp2
      go_ret
      exact ⟨_, rfl, HR.out, HG.out⟩
    · have hb : ((x : Int) == (n : Int) - 1) = false := by simp [hB]
      clear hB
      go_wp2
      go_ret
      exact ⟨_, rfl, HR.out, HG.out⟩
  · obtain rfl : n = 0 := by omega
    clear h0
    go_enter Try.func102, Try.ntmps102
    go_wp2
    go_ret
    exact ⟨_, rfl, H.out.more (by omega), Chg.refl _ _⟩

def OpenedP (w : World) (e : Ending) (w' : World) : Prop := ∃ p vb bs', e = .returned (.pointer (some ⟨p, 0, none⟩)) ∧ Rb w w' p vb bs' 0 ∧ Pure w w'

set_option maxHeartbeats 1000000 in
theorem draw_open (v : Value) (bs : List Int) (w : World) (h : Bytes w v bs) (hs : bs.length ≤ 1048576) : Calls Try.prog 66 #[v] w (OpenedP w) := by
  have H := Lib.hid h
  obtain ⟨A, c, rfl, hnc, hcm⟩ := h.form
  clear h
  by_cases hl : (bs.length : Int) > 2000
  · go_enter Try.func66, Try.ntmps66
    go_wp2
    go_ret
    exact ⟨w.heap.size, _, bs.take 2000, rfl, ⟨0, Nat.le_refl _, ⟨by exact (by repeat (first | assumption | exact Pure.refl _ | refine Pure.drewN ?_ _ | refine Pure.drew ?_ | refine Pure.alloc ?_ _ | refine Pure.setCell ?_ (by simp <;> omega) _)), Nat.le_refl _, H.out.take (by omega), by simp; omega, heap_alloc_new _ _⟩⟩, by exact (by repeat (first | assumption | exact Pure.refl _ | refine Pure.drewN ?_ _ | refine Pure.drew ?_ | refine Pure.alloc ?_ _ | refine Pure.setCell ?_ (by simp <;> omega) _))⟩
  · go_enter Try.func66, Try.ntmps66
    go_wp2
    go_ret
    exact ⟨w.heap.size, _, bs, rfl, ⟨0, Nat.le_refl _, ⟨by exact (by repeat (first | assumption | exact Pure.refl _ | refine Pure.drewN ?_ _ | refine Pure.drew ?_ | refine Pure.alloc ?_ _ | refine Pure.setCell ?_ (by simp <;> omega) _)), Nat.le_refl _, H.out, by omega, heap_alloc_new _ _⟩⟩, by exact (by repeat (first | assumption | exact Pure.refl _ | refine Pure.drewN ?_ _ | refine Pure.drew ?_ | refine Pure.alloc ?_ _ | refine Pure.setCell ?_ (by simp <;> omega) _))⟩

end Go.Proofs.Ytajaonejpggcbaa

namespace Go.Proofs.Ytajaonejpggcbaa
open Go.RowKit

section
variable {P : Program} {ops : Array Oper} {Q : Exit → Act → World → Prop} {md : Region.Mode}
def unl (l : Array Bool) : Nat := l.toList.countP (fun b => !b)
theorem countP_set_lt : ∀ (l : List Bool) (i : Nat), l[i]? = some false → (l.set i true).countP (fun b => !b) + 1 = l.countP (fun b => !b)
  | [], _, h => by simp at h
  | b :: r, 0, h => by simp at h; subst h; simp
  | b :: r, i + 1, h => by
    have := countP_set_lt r i (by simpa using h)
    simp only [List.set_cons_succ, List.countP_cons]
    omega
theorem unl_set {l : Array Bool} {i : Nat} (h : l.getD i true = false) : unl (l.setIfInBounds i true) + 1 = unl l := by
  have hs : l.toList[i]? = some false := by
    rw [Array.getD_eq_getD_getElem?] at h
    cases he : l[i]? with
    | none => rw [he] at h; simp at h
    | some b => rw [he] at h; simp at h; subst h; simpa using he
  unfold unl
  rw [Array.toList_setIfInBounds]
  exact countP_set_lt _ _ hs
theorem unl_pos {l : Array Bool} {i : Nat} (h : l.getD i true = false) : 0 < unl l := by have := unl_set h; omega

/-- Inv holds at the region's head; each operation that may come next keeps it: so it holds behind all of them. -/
theorem any_inv (Inv : Array Bool → Act → World → Prop) (hend : ∀ l a w, Inv l a w → Region.ready md ops l = [] → Q .normal a w)
    (hstep : ∀ l a w i o, Inv l a w → ops[i]? = some o → l.getD i true = false → (∀ e ∈ o.after, Region.binds md e = true → l.getD e.on false = true) → wpList P ops (thenK Q fun b u => Inv (l.setIfInBounds i true) b u) [o] a w) :
    ∀ (f : Nat) (l : Array Bool) (a : Act) (w : World), Inv l a w → unl l ≤ f → wpAny P md ops Q f l a w
  | 0, l, a, w, h, hf => by
    have hr : Region.ready md ops l = [] := by
      rw [List.eq_nil_iff_forall_not_mem]
      intro i hi
      have := unl_pos (mem_ready.1 hi).1
      omega
    exact ⟨hr, hend l a w h hr⟩
  | f + 1, l, a, w, h, hf => by
    refine ⟨fun hr => hend l a w h hr, fun i hi => ?_⟩
    obtain ⟨h1, o, ho, h2⟩ := mem_ready.1 hi
    refine wpOp_mono (fun b u hb => any_inv Inv hend hstep f _ b u hb (by have := unl_set h1; omega)) (wpOp_of_one ho (hstep l a w i o h ho h1 h2))
theorem unl_start (n : Nat) : unl (Array.replicate n false) = n := by simp [unl, List.countP_replicate]
def backB (ops : Array Oper) : Bool := (List.range ops.size).all fun i => ((ops[i]?).map fun o => o.after.all fun e => decide (e.on < i)).getD true
/-- When nothing may come next, all are through. -/
theorem ready_nil {l : Array Bool} (hb : backB ops = true) (hl : l.size = ops.size) (h : Region.ready md ops l = []) : ∀ i, i < ops.size → l.getD i false = true := by
  intro i
  induction i using Nat.strongRecOn with
  | ind i ih =>
    intro hi
    cases hv : l.getD i false with
    | true => rfl
    | false =>
      have hn : l.getD i true = false := by
        rw [Array.getD_eq_getD_getElem?] at hv ⊢
        have : i < l.size := by omega
        simp [this] at hv ⊢; exact hv
      have ho : ops[i]? = some ops[i] := Array.getElem?_eq_getElem hi
      have hmem : i ∈ Region.ready md ops l := mem_ready.2 ⟨hn, _, ho, fun e he _ => by
        have hbi := (List.all_eq_true.1 hb) i (List.mem_range.2 hi)
        rw [ho] at hbi
        simp only [Option.map_some, Option.getD_some] at hbi
        have := (Array.all_eq_true_iff_forall_mem.1 hbi) e he
        simp at this
        exact ih e.on this (by omega)⟩
      rw [h] at hmem; cases hmem
theorem region_inv {id : Nat} {a : Act} {w : World} {l : List Oper} (hm : P.follows .mixedOrders = true) (Inv : Array Bool → Act → World → Prop) (h0 : Inv (Array.replicate l.length false) a w.drew)
    (hend : ∀ l' a w, Inv l' a w → Region.ready .any l.toArray l' = [] → Q .normal a w)
    (hstep : ∀ l' a w i o, Inv l' a w → l.toArray[i]? = some o → l'.getD i true = false → (∀ e ∈ o.after, Region.binds .any e = true → l'.getD e.on false = true) → wpList P l.toArray (thenK Q fun b u => Inv (l'.setIfInBounds i true) b u) [o] a w) :
    (Code.region id l.toArray true).wp P Q a w :=
  wp_region_any hm (any_inv Inv hend hstep _ _ _ _ h0 (by rw [unl_start]; simp))
theorem getD_setB (l : Array Bool) (i j : Nat) (h : (l.setIfInBounds i true).getD j false = true) : l.getD j false = true ∨ i = j := by
  rw [Array.getD_eq_getD_getElem?, Array.getElem?_setIfInBounds] at h
  split at h
  · right; assumption
  · left; rw [Array.getD_eq_getD_getElem?]; exact h
end

end Go.Proofs.Ytajaonejpggcbaa
