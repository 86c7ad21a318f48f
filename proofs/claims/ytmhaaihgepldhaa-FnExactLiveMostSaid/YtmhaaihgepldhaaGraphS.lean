/- The graph of a program, as the reference makes it. No condition. -/
import Derived.Test.YtmhaaihgepldhaaSpV
import Derived.Test.YtmhaaihgepldhaaEndA
import Derived.Test.YtmhaaihgepldhaaValid
import Derived.Test.YtmhaaihgepldhaaAppF
namespace Go.Proofs.Ytmhaaihgepldhaa
open Go.RowKit

/-- A table of rows of numbers, all of the call's own. -/
def RowsO (w : World) (B : Nat) (q : Value) (n : Nat) (S : Nat → List Int) (vs : List Value) : Prop :=
  OwnO w B 53 1 q n vs ∧ ∀ j, j < n → ∃ r, vs[j]? = some r ∧ OwnO w B 3 1 r (S j).length ((S j).map (.int .i64))
theorem RowsO.pure {w w' : World} {B n : Nat} {q : Value} {S : Nat → List Int} {vs : List Value} (h : RowsO w B q n S vs) (hp : Pure w w') : RowsO w' B q n S vs :=
  ⟨h.1.pure hp, fun j hj => let ⟨r, a, b⟩ := h.2 j hj; ⟨r, a, b.pure hp⟩⟩
theorem RowsO.push {w w' : World} {B n : Nat} {q q' r : Value} {S : Nat → List Int} {vs : List Value} (h : RowsO w B q n S vs) (hr : OwnO w B 3 1 r (S n).length ((S n).map (.int .i64))) (hq : OwnO w' B 53 1 q' (n + 1) (vs ++ [r])) (hg : w.grownBy w' q.ownBlock) :
    RowsO w' B q' (n + 1) S (vs ++ [r]) := by
  refine ⟨hq, fun j hj => ?_⟩
  have hl : vs.length = n := by have := h.1.1; omega
  by_cases e : j = n
  · subst e
    exact ⟨r, by rw [List.getElem?_append_right (by omega), hl]; simp, hr.kept hg (fun g hg2 => hr.ne h.1 (by decide) g hg2)⟩
  · obtain ⟨r', a, b⟩ := h.2 j (by omega)
    exact ⟨r', by rw [List.getElem?_append_left (by omega)]; exact a, b.kept hg (fun g hg2 => b.ne h.1 (by decide) g hg2)⟩
theorem Ints.of_ownO {w : World} {B e : Nat} {v : Value} {ys : List Int} (h : OwnO w B e 1 v ys.length (ys.map (.int .i64))) : Ints w v ys := by
  unfold Ints
  refine Cells.of_ownO h fun j hj => ?_
  have : j < ys.length := by omega
  simp [List.getD_eq_getElem?_getD, this]
theorem RowsO.rows {w : World} {B n : Nat} {q : Value} {S : Nat → List Int} {vs : List Value} (h : RowsO w B q n S vs) : IntRows w q ((List.range n).map S) := by
  have hl : ((List.range n).map S).length = n := by simp
  obtain ⟨A, c, rfl⟩ := h.1.form
  have hc := Cells.of_ownO (f := fun j => vs.getD j undef) h.1 (fun j hj => by
    obtain ⟨r, a, _⟩ := h.2 j (by omega)
    simp [List.getD_eq_getElem?_getD, a])
  obtain ⟨A', c', hv, h1, h2, h3⟩ := hc
  injection hv with e1 e2 e3
  subst e1 e3
  refine ⟨A, c, by rw [hl], by omega, h2, fun hn => ?_⟩
  rw [hl] at hn
  obtain ⟨b, o, e, hb, hc⟩ := h3 hn
  refine ⟨b, o, e, hb, fun k hk => ?_⟩
  rw [hl] at hk
  obtain ⟨r, a, b2⟩ := h.2 k hk
  refine ⟨r, ?_, ?_⟩
  · rw [hc k (by omega)]; simp [List.getD_eq_getElem?_getD, a]
  · have : ((List.range n).map S).getD k [] = S k := by simp [List.getD_eq_getElem?_getD, hk]
    rw [this]
    exact Ints.of_ownO b2

/-- The rows of a program's graph, the end's among them. -/
def gRow (cs : List Cd) (j : Nat) : List Int := if j < cs.length then succs cs j else []
theorem graph_rows (cs : List Cd) : (List.range (cs.length + 1)).map (gRow cs) = graph cs := by
  unfold graph
  rw [List.range_succ, List.map_append]
  congr 1
  · refine List.map_congr_left fun j hj => ?_
    unfold gRow; rw [if_pos (by simpa using hj)]
  · simp [gRow]

def GPost (cs : List Cd) (w : World) (e : Ending) (w' : World) : Prop := ∃ v, e = .returned v ∧ IntRows w' v (graph cs) ∧ Pure w w'

set_option maxHeartbeats 2000000 in
set_option maxRecDepth 100000 in
theorem sgraph_ok (v : Value) (cs : List Cd) (w : World) (h : Codes w v cs) (hv : PValid cs) :
    Calls Try.prog 33 #[v] w (GPost cs w) := by
  have H := Lib.hid h
  have HV := Lib.hid hv
  have hsmall := hv.2.1
  obtain ⟨A, c, rfl, hnc, hcm⟩ := h.form
  clear h hv
  have hO0 : Hid (RowsO (w.alloc (.cells #[] 53)) w.heap.size (.slice (some ⟨w.heap.size, 0, none⟩) 0 0) 0 (gRow cs) []) := Lib.hid ⟨OwnO.empty_lit (Nat.le_refl _), fun j hj => absurd hj (by omega)⟩
  go_enter Try.func33, Try.ntmps33
  go_wp2
  go_loopg [4, 3] cs.length (fun gk i q wr => ∃ (k : Nat) (vs : List Value), gk + k = cs.length ∧ i = .int .i64 k ∧ Pure w wr ∧ RowsO wr w.heap.size q k (gRow cs) vs)
  case atStart => exact ⟨0, [], rfl, rfl, Pure.alloc (Pure.refl _) _, hO0.out⟩
  case round =>
    obtain ⟨k, vs, hgk, rfl, hp, hrows⟩ := hrel
    have Hgk := Lib.hid hgk
    have HR := Lib.hid hrows
    have hkn : k ≤ cs.length := by omega
    clear hgk hrows
    obtain ⟨Aq, cq, rfl⟩ := HR.out.1.form
    by_cases hlt : k < cs.length
    · obtain ⟨b, o, rfl, hb, hc⟩ := H.out.at_ hlt
      obtain ⟨cd, Hcd⟩ : ∃ cd, Hid (cs.getD k default = cd) := ⟨_, rfl⟩
      have hat := hc.keep hp hb
      rw [Hcd.out] at hat
      have hpi := HV.out.pi hlt
      unfold PI at hpi
      rw [Hcd.out] at hpi
      have HPI := Lib.hid hpi
      have q0 := hat.c0
      clear hc hat hpi
      have hbr : b < wr.heap.size := Nat.lt_of_lt_of_le hb hp.size
      go_wp2_with fail
      refine (spv_any _ cs _ (H.out.keep hp) (by omega) true (by simp [HV.out])).mono ?_
      rintro e w1 ⟨rfl, hp1⟩
      have hp2 := hp.trans hp1
      have HR1 := Lib.hid (HR.out.pure hp1)
      have p0 := (hp1.cell b (o + k * 4) hbr).trans q0
      clear q0
      have hb1 : b < w1.heap.size := Nat.lt_of_lt_of_le hbr hp1.size
      -- the row that is there first
      have hpl := Lib.hid (Pure.alloc (Pure.refl w1) (.cells #[.int .i64 ((k : Int) + 1)] 3))
      have hl0 : Hid (OwnO (w1.alloc (.cells #[.int .i64 ((k : Int) + 1)] 3)) w.heap.size 3 1 (.slice (some ⟨w1.heap.size, 0, none⟩) 1 1) 1 [.int .i64 ((k : Int) + 1)]) := Lib.hid (OwnO.lit w1 #[.int .i64 ((k : Int) + 1)] 1 hp2.size (by omega) (by simp))
      have hgr : gRow cs k = succs cs k := if_pos hlt
      by_cases hop : Opens cd
      · have hd : (cd.op == 11) = true ∨ ((cd.op == 11) = false ∧ (cd.op == 13) = true) := by
          unfold Opens at hop
          rcases hop with h | h
          · exact .inl (by simp [h])
          · exact .inr ⟨by simp [h], by simp [h]⟩
        obtain ⟨e, oo, bi⟩ := HPI.out.1 hop
        have hends := bi.ends
        have he1 := bi.lt
        have he2 := bi.le
        have hoo : -1 ≤ oo ∧ oo < e := by
          rcases bi.el with h | ⟨q, h, _, h2, _⟩
          · omega
          · omega
        obtain ⟨hoo1, hoo2⟩ := hoo
        have hrow : gRow cs k = if (if 0 ≤ oo then oo + 1 else (e : Int) + 1) = (k : Int) + 1 then [(k : Int) + 1] else [(k : Int) + 1, if 0 ≤ oo then oo + 1 else (e : Int) + 1] := by
          rw [hgr]; unfold succs; simp only []; rw [Hcd.out, if_pos hop, hends]
        have Hrow := Lib.hid hrow
        have Hends := Lib.hid hends
        clear hrow hends hop bi hgr
        by_cases ho0 : 0 ≤ oo
        · have Hr2 : Hid (gRow cs k = if oo + 1 = (k : Int) + 1 then [(k : Int) + 1] else [(k : Int) + 1, oo + 1]) := by have := Hrow.out; rw [if_pos ho0] at this; exact this
          by_cases hto : oo + 1 = (k : Int) + 1
          · have Hr3 : Hid (gRow cs k = [(k : Int) + 1]) := by have := Hr2.out; rw [if_pos hto] at this; exact this
            have hdt : (oo + 1 != (k : Int) + 1) = false := by rw [bne_eq_false_iff_eq]; exact hto
            have hdt2 : (oo != (k : Int)) = false := by rw [bne_eq_false_iff_eq]; omega
            have Hto := Lib.hid hto
            clear hto
            rcases hd with hd | ⟨hd, hd2⟩
            all_goals
              go_wp2_with (first | (go_at_call 70; go_must (refine (l4End_any _ cs k _ _ (H.out.keep (hp2.trans hpl.out)) (by omega) hlt Hends.out).mono ?_); rintro e1 w3 ⟨rfl, hp3⟩; go_must (have hpX1 := Lib.hid (hpl.out.trans hp3); have HRX := Lib.hid (HR1.out.pure hpX1.out); have HPX := Lib.hid (hp2.trans hpX1.out); have HrX := Lib.hid (show OwnO w3 w.heap.size 3 1 (.slice (some ⟨w1.heap.size, 0, none⟩) 1 1) (gRow cs k).length ((gRow cs k).map (.int .i64)) by rw [Hr3.out]; exact hl0.out.pure hp3))) | (at_builtin; go_must (refine wl_append1F elInts rfl _ _ rfl w.heap.size (.slice Aq k cq) k vs rfl HRX.out.1 w3.heap.size 1 [(.slice (some ⟨w1.heap.size, 0, none⟩) 1 1)] rfl (by simp) rfl rfl (by decide) (by omega) HPX.out.size ?_); intro q' wq hq' hg' hl'; go_must (have HF := Lib.hid (HRX.out.push HrX.out hq' hg'); have HPF := Lib.hid (HPX.out.grown hg' (fun g hg => (HRX.out.1.lt g hg).1)); obtain ⟨A9, c9, rfl⟩ := hq'.form; clear hq' hg' hl')))
              go_roundg (cs.length - (k + 1))
              case measure => have := Hgk.out; omega
              case rel => exact ⟨k + 1, _, by have := Hgk.out; omega, by go_num, HPF.out, HF.out⟩
          · have Hr3 : Hid (gRow cs k = [(k : Int) + 1, oo + 1]) := by have := Hr2.out; rw [if_neg hto] at this; exact this
            have hdt : (oo + 1 != (k : Int) + 1) = true := by rw [bne_iff_ne]; exact hto
            have hdt2 : (oo != (k : Int)) = true := by rw [bne_iff_ne]; omega
            have Hto := Lib.hid hto
            clear hto
            rcases hd with hd | ⟨hd, hd2⟩
            all_goals
              go_wp2_with (first | (go_at_call 70; go_must (refine (l4End_any _ cs k _ _ (H.out.keep (hp2.trans hpl.out)) (by omega) hlt Hends.out).mono ?_); rintro e1 w3 ⟨rfl, hp3⟩; go_must (have hl3 := Lib.hid (hl0.out.pure hp3); have hp13 := Lib.hid (hpl.out.trans hp3))) | (at_builtin; refine wl_append1F elInt rfl _ _ rfl w.heap.size (.slice (some ⟨w1.heap.size, 0, none⟩) 1 1) 1 [.int .i64 ((k : Int) + 1)] rfl hl3.out w3.heap.size 1 [.int .i64 (oo + 1)] rfl rfl rfl rfl (by decide) (by omega) (hp2.trans hp13.out).size ?_; intro r' w5 hr' hgr' hlr'; go_must (obtain ⟨A5, c5, rfl⟩ := hr'.form); go_must (have hpX1 := Lib.hid (hp13.out.grown hgr' (fun g hg => by simp [Value.ownBlock] at hg; omega)); have HRX := Lib.hid (HR1.out.pure hpX1.out); have HPX := Lib.hid (hp2.trans hpX1.out); have HrX := Lib.hid (show OwnO w5 w.heap.size 3 1 (.slice A5 2 c5) (gRow cs k).length ((gRow cs k).map (.int .i64)) by rw [Hr3.out]; exact hr')); clear hr' hgr' hlr') | (at_builtin; go_must (refine wl_append1F elInts rfl _ _ rfl w.heap.size (.slice Aq k cq) k vs rfl HRX.out.1 w5.heap.size 1 [(.slice A5 2 c5)] rfl (by simp) rfl rfl (by decide) (by omega) HPX.out.size ?_); intro q' wq hq' hg' hl'; go_must (have HF := Lib.hid (HRX.out.push HrX.out hq' hg'); have HPF := Lib.hid (HPX.out.grown hg' (fun g hg => (HRX.out.1.lt g hg).1)); obtain ⟨A9, c9, rfl⟩ := hq'.form; clear hq' hg' hl')))
              go_roundg (cs.length - (k + 1))
              case measure => have := Hgk.out; omega
              case rel => exact ⟨k + 1, _, by have := Hgk.out; omega, by go_num, HPF.out, HF.out⟩
        · have Hr2 : Hid (gRow cs k = if (e : Int) + 1 = (k : Int) + 1 then [(k : Int) + 1] else [(k : Int) + 1, (e : Int) + 1]) := by have := Hrow.out; rw [if_neg ho0] at this; exact this
          by_cases hto : (e : Int) + 1 = (k : Int) + 1
          · have Hr3 : Hid (gRow cs k = [(k : Int) + 1]) := by have := Hr2.out; rw [if_pos hto] at this; exact this
            have hdt : ((e : Int) + 1 != (k : Int) + 1) = false := by rw [bne_eq_false_iff_eq]; exact hto
            have hdt2 : ((e : Int) != (k : Int)) = false := by rw [bne_eq_false_iff_eq]; omega
            have Hto := Lib.hid hto
            clear hto
            rcases hd with hd | ⟨hd, hd2⟩
            all_goals
              go_wp2_with (first | (go_at_call 70; go_must (refine (l4End_any _ cs k _ _ (H.out.keep (hp2.trans hpl.out)) (by omega) hlt Hends.out).mono ?_); rintro e1 w3 ⟨rfl, hp3⟩; go_must (have hpX1 := Lib.hid (hpl.out.trans hp3); have HRX := Lib.hid (HR1.out.pure hpX1.out); have HPX := Lib.hid (hp2.trans hpX1.out); have HrX := Lib.hid (show OwnO w3 w.heap.size 3 1 (.slice (some ⟨w1.heap.size, 0, none⟩) 1 1) (gRow cs k).length ((gRow cs k).map (.int .i64)) by rw [Hr3.out]; exact hl0.out.pure hp3))) | (at_builtin; go_must (refine wl_append1F elInts rfl _ _ rfl w.heap.size (.slice Aq k cq) k vs rfl HRX.out.1 w3.heap.size 1 [(.slice (some ⟨w1.heap.size, 0, none⟩) 1 1)] rfl (by simp) rfl rfl (by decide) (by omega) HPX.out.size ?_); intro q' wq hq' hg' hl'; go_must (have HF := Lib.hid (HRX.out.push HrX.out hq' hg'); have HPF := Lib.hid (HPX.out.grown hg' (fun g hg => (HRX.out.1.lt g hg).1)); obtain ⟨A9, c9, rfl⟩ := hq'.form; clear hq' hg' hl')))
              go_roundg (cs.length - (k + 1))
              case measure => have := Hgk.out; omega
              case rel => exact ⟨k + 1, _, by have := Hgk.out; omega, by go_num, HPF.out, HF.out⟩
          · have Hr3 : Hid (gRow cs k = [(k : Int) + 1, (e : Int) + 1]) := by have := Hr2.out; rw [if_neg hto] at this; exact this
            have hdt : ((e : Int) + 1 != (k : Int) + 1) = true := by rw [bne_iff_ne]; exact hto
            have hdt2 : ((e : Int) != (k : Int)) = true := by rw [bne_iff_ne]; omega
            have Hto := Lib.hid hto
            clear hto
            rcases hd with hd | ⟨hd, hd2⟩
            all_goals
              go_wp2_with (first | (go_at_call 70; go_must (refine (l4End_any _ cs k _ _ (H.out.keep (hp2.trans hpl.out)) (by omega) hlt Hends.out).mono ?_); rintro e1 w3 ⟨rfl, hp3⟩; go_must (have hl3 := Lib.hid (hl0.out.pure hp3); have hp13 := Lib.hid (hpl.out.trans hp3))) | (at_builtin; refine wl_append1F elInt rfl _ _ rfl w.heap.size (.slice (some ⟨w1.heap.size, 0, none⟩) 1 1) 1 [.int .i64 ((k : Int) + 1)] rfl hl3.out w3.heap.size 1 [.int .i64 ((e : Int) + 1)] rfl rfl rfl rfl (by decide) (by omega) (hp2.trans hp13.out).size ?_; intro r' w5 hr' hgr' hlr'; go_must (obtain ⟨A5, c5, rfl⟩ := hr'.form); go_must (have hpX1 := Lib.hid (hp13.out.grown hgr' (fun g hg => by simp [Value.ownBlock] at hg; omega)); have HRX := Lib.hid (HR1.out.pure hpX1.out); have HPX := Lib.hid (hp2.trans hpX1.out); have HrX := Lib.hid (show OwnO w5 w.heap.size 3 1 (.slice A5 2 c5) (gRow cs k).length ((gRow cs k).map (.int .i64)) by rw [Hr3.out]; exact hr')); clear hr' hgr' hlr') | (at_builtin; go_must (refine wl_append1F elInts rfl _ _ rfl w.heap.size (.slice Aq k cq) k vs rfl HRX.out.1 w5.heap.size 1 [(.slice A5 2 c5)] rfl (by simp) rfl rfl (by decide) (by omega) HPX.out.size ?_); intro q' wq hq' hg' hl'; go_must (have HF := Lib.hid (HRX.out.push HrX.out hq' hg'); have HPF := Lib.hid (HPX.out.grown hg' (fun g hg => (HRX.out.1.lt g hg).1)); obtain ⟨A9, c9, rfl⟩ := hq'.form; clear hq' hg' hl')))
              go_roundg (cs.length - (k + 1))
              case measure => have := Hgk.out; omega
              case rel => exact ⟨k + 1, _, by have := Hgk.out; omega, by go_num, HPF.out, HF.out⟩
      · have hd11 : (cd.op == 11) = false := by unfold Opens at hop; rw [beq_eq_false_iff_ne]; omega
        have hd13 : (cd.op == 13) = false := by unfold Opens at hop; rw [beq_eq_false_iff_ne]; omega
        have Hop := Lib.hid hop
        clear hop
        by_cases h12 : cd.op = 12
        · have hd12 : (cd.op == 12) = true := by simp [h12]
          obtain ⟨bb, e, bi⟩ := HPI.out.2.1 h12
          have he1 := bi.lt
          have he2 := bi.le
          have har : aroundAt cs k = bb := by
            rcases bi.el with e' | ⟨q, e', _, _, _, e3, _⟩
            · omega
            · have : q = k := by omega
              subst this; exact e3
          have hrow : gRow cs k = [(e : Int) + 1] := by
            rw [hgr]; unfold succs; simp only []; rw [Hcd.out, if_neg Hop.out, if_pos h12, har, Int.toNat_natCast, bi.ends]
          have Hrow := Lib.hid hrow
          have Hends := Lib.hid bi.ends
          have Har := Lib.hid har
          clear hrow har bi hgr h12
          go_wp2_with (first | (go_at_call 71; go_must (refine (l4Around_any _ cs k _ _ (H.out.keep (hp2.trans hpl.out)) (by omega) (by omega) Har.out).mono ?_); rintro e1 w3 ⟨rfl, hp3⟩; go_must (have hp13 := Lib.hid (hpl.out.trans hp3))) | (go_at_call 70; go_must (refine (l4End_any _ cs bb _ _ (H.out.keep (hp2.trans hp13.out)) (by omega) (by omega) Hends.out).mono ?_); rintro e1 w4 ⟨rfl, hp4⟩; go_must (have hpX1 := Lib.hid ((hp13.out.trans hp4).alloc (.cells #[.int .i64 ((e : Int) + 1)] 3)); have HRX := Lib.hid (HR1.out.pure hpX1.out); have HPX := Lib.hid (hp2.trans hpX1.out); have HrX := Lib.hid (show OwnO (w4.alloc (.cells #[.int .i64 ((e : Int) + 1)] 3)) w.heap.size 3 1 (.slice (some ⟨w4.heap.size, 0, none⟩) 1 1) (gRow cs k).length ((gRow cs k).map (.int .i64)) by rw [Hrow.out]; exact OwnO.lit w4 #[.int .i64 ((e : Int) + 1)] 1 (hp2.trans (hp13.out.trans hp4)).size (by omega) (by simp)))) | (at_builtin; go_must (refine wl_append1F elInts rfl _ _ rfl w.heap.size (.slice Aq k cq) k vs rfl HRX.out.1 (w4.heap.size + 1) 1 [(.slice (some ⟨w4.heap.size, 0, none⟩) 1 1)] rfl (by simp) rfl rfl (by decide) (by omega) HPX.out.size ?_); intro q' wq hq' hg' hl'; go_must (have HF := Lib.hid (HRX.out.push HrX.out hq' hg'); have HPF := Lib.hid (HPX.out.grown hg' (fun g hg => (HRX.out.1.lt g hg).1)); obtain ⟨A9, c9, rfl⟩ := hq'.form; clear hq' hg' hl')))
          go_roundg (cs.length - (k + 1))
          case measure => have := Hgk.out; omega
          case rel => exact ⟨k + 1, _, by have := Hgk.out; omega, by go_num, HPF.out, HF.out⟩
        · have hd12 : (cd.op == 12) = false := by simp [h12]
          by_cases h14 : cd.op = 14
          · have hd14 : (cd.op == 14) = true := by simp [h14]
            obtain ⟨bb, oo, bi⟩ := HPI.out.2.2 h14
            have he1 := bi.lt
            have he2 := bi.le
            have har : aroundAt cs k = bb := bi.ar
            have hbn : bb < cs.length := by omega
            obtain ⟨b0, o0, hb0e, hb0, hc0⟩ := H.out.at_ hbn
            injection hb0e with hb0e
            injection hb0e with e1 e2
            subst e1 e2
            obtain ⟨cp, Hcp⟩ : ∃ cp, Hid (cs.getD bb default = cp) := ⟨_, rfl⟩
            rw [Hcp.out] at hc0
            have hcp := Lib.hid ((hc0.keep hp2 hb0).c0)
            clear hc0
            have hrow : gRow cs k = if cp.op = 13 then [(bb : Int) + 1, (k : Int) + 1] else [(k : Int) + 1] := by
              rw [hgr]; unfold succs; simp only []; rw [Hcd.out, if_neg Hop.out, if_neg h12, if_pos h14, har, Int.toNat_natCast, Hcp.out]
            have Hrow := Lib.hid hrow
            have Har := Lib.hid har
            clear hrow har bi hgr h12 h14
            by_cases hl13 : cp.op = 13
            · have hdl : (cp.op == 13) = true := by simp [hl13]
              have Hr3 : Hid (gRow cs k = [(bb : Int) + 1, (k : Int) + 1]) := by have := Hrow.out; rw [if_pos hl13] at this; exact this
              clear hl13
              go_wp2_with (first | (go_at_call 71; go_must (refine (l4Around_any _ cs k _ _ (H.out.keep (hp2.trans hpl.out)) (by omega) (by omega) Har.out).mono ?_); rintro e1 w3 ⟨rfl, hp3⟩; go_must (have hp13 := Lib.hid (hpl.out.trans hp3)); go_must (have hcq := (hp13.out.cell b (o + bb * 4) hb1).trans hcp.out; have hpX1 := Lib.hid (hp13.out.alloc (.cells #[.int .i64 ((bb : Int) + 1), .int .i64 ((k : Int) + 1)] 3)); have HRX := Lib.hid (HR1.out.pure hpX1.out); have HPX := Lib.hid (hp2.trans hpX1.out); have HrX := Lib.hid (show OwnO (w3.alloc (.cells #[.int .i64 ((bb : Int) + 1), .int .i64 ((k : Int) + 1)] 3)) w.heap.size 3 1 (.slice (some ⟨w3.heap.size, 0, none⟩) 2 2) (gRow cs k).length ((gRow cs k).map (.int .i64)) by rw [Hr3.out]; exact OwnO.lit w3 #[.int .i64 ((bb : Int) + 1), .int .i64 ((k : Int) + 1)] 2 (hp2.trans hp13.out).size (by omega) (by simp)))) | (at_builtin; go_must (refine wl_append1F elInts rfl _ _ rfl w.heap.size (.slice Aq k cq) k vs rfl HRX.out.1 (w3.heap.size + 1) 1 [(.slice (some ⟨w3.heap.size, 0, none⟩) 2 2)] rfl (by simp) rfl rfl (by decide) (by omega) HPX.out.size ?_); intro q' wq hq' hg' hl'; go_must (have HF := Lib.hid (HRX.out.push HrX.out hq' hg'); have HPF := Lib.hid (HPX.out.grown hg' (fun g hg => (HRX.out.1.lt g hg).1)); obtain ⟨A9, c9, rfl⟩ := hq'.form; clear hq' hg' hl')))
              go_roundg (cs.length - (k + 1))
              case measure => have := Hgk.out; omega
              case rel => exact ⟨k + 1, _, by have := Hgk.out; omega, by go_num, HPF.out, HF.out⟩
            · have hdl : (cp.op == 13) = false := by simp [hl13]
              have Hr3 : Hid (gRow cs k = [(k : Int) + 1]) := by have := Hrow.out; rw [if_neg hl13] at this; exact this
              clear hl13
              go_wp2_with (first | (go_at_call 71; go_must (refine (l4Around_any _ cs k _ _ (H.out.keep (hp2.trans hpl.out)) (by omega) (by omega) Har.out).mono ?_); rintro e1 w3 ⟨rfl, hp3⟩; go_must (have hp13 := Lib.hid (hpl.out.trans hp3)); go_must (have hcq := (hp13.out.cell b (o + bb * 4) hb1).trans hcp.out; have hpX1 := Lib.hid (hp13.out); have HRX := Lib.hid (HR1.out.pure hpX1.out); have HPX := Lib.hid (hp2.trans hpX1.out); have HrX := Lib.hid (show OwnO w3 w.heap.size 3 1 (.slice (some ⟨w1.heap.size, 0, none⟩) 1 1) (gRow cs k).length ((gRow cs k).map (.int .i64)) by rw [Hr3.out]; exact hl0.out.pure hp3))) | (at_builtin; go_must (refine wl_append1F elInts rfl _ _ rfl w.heap.size (.slice Aq k cq) k vs rfl HRX.out.1 w3.heap.size 1 [(.slice (some ⟨w1.heap.size, 0, none⟩) 1 1)] rfl (by simp) rfl rfl (by decide) (by omega) HPX.out.size ?_); intro q' wq hq' hg' hl'; go_must (have HF := Lib.hid (HRX.out.push HrX.out hq' hg'); have HPF := Lib.hid (HPX.out.grown hg' (fun g hg => (HRX.out.1.lt g hg).1)); obtain ⟨A9, c9, rfl⟩ := hq'.form; clear hq' hg' hl')))
              go_roundg (cs.length - (k + 1))
              case measure => have := Hgk.out; omega
              case rel => exact ⟨k + 1, _, by have := Hgk.out; omega, by go_num, HPF.out, HF.out⟩
          · have hd14 : (cd.op == 14) = false := by simp [h14]
            have Hr3 : Hid (gRow cs k = [(k : Int) + 1]) := by
              rw [hgr]; unfold succs; simp only []; rw [Hcd.out, if_neg Hop.out, if_neg h12, if_neg h14]; exact Lib.hid rfl
            clear h12 h14 hgr
            have hpX1 := Lib.hid hpl.out
            have HRX := Lib.hid (HR1.out.pure hpX1.out)
            have HPX := Lib.hid (hp2.trans hpX1.out)
            have HrX : Hid (OwnO (w1.alloc (.cells #[.int .i64 ((k : Int) + 1)] 3)) w.heap.size 3 1 (.slice (some ⟨w1.heap.size, 0, none⟩) 1 1) (gRow cs k).length ((gRow cs k).map (.int .i64))) := by rw [Hr3.out]; exact hl0.out
            go_wp2_with (at_builtin; go_must (refine wl_append1F elInts rfl _ _ rfl w.heap.size (.slice Aq k cq) k vs rfl HRX.out.1 (w1.heap.size + 1) 1 [(.slice (some ⟨w1.heap.size, 0, none⟩) 1 1)] rfl (by simp) rfl rfl (by decide) (by omega) HPX.out.size ?_); intro q' wq hq' hg' hl'; go_must (have HF := Lib.hid (HRX.out.push HrX.out hq' hg'); have HPF := Lib.hid (HPX.out.grown hg' (fun g hg => (HRX.out.1.lt g hg).1)); obtain ⟨A9, c9, rfl⟩ := hq'.form; clear hq' hg' hl'))
            go_roundg (cs.length - (k + 1))
            case measure => have := Hgk.out; omega
            case rel => exact ⟨k + 1, _, by have := Hgk.out; omega, by go_num, HPF.out, HF.out⟩
    · have hkl : k = cs.length := by omega
      subst hkl
      go_wp2_with fail
      refine (spv_any _ cs _ (H.out.keep hp) (by omega) true (by simp [HV.out])).mono ?_
      rintro e w1 ⟨rfl, hp1⟩
      have hp2 := hp.trans hp1
      have HR1 := Lib.hid (HR.out.pure hp1)
      have hpX1 := Lib.hid (Pure.alloc (Pure.refl w1) (.cells #[] 3))
      have HRX := Lib.hid (HR1.out.pure hpX1.out)
      have HPX := Lib.hid (hp2.trans hpX1.out)
      have hge : gRow cs cs.length = [] := if_neg (by omega)
      have HrX : Hid (OwnO (w1.alloc (.cells #[] 3)) w.heap.size 3 1 (.slice (some ⟨w1.heap.size, 0, none⟩) 0 0) (gRow cs cs.length).length ((gRow cs cs.length).map (.int .i64))) := by rw [hge]; exact OwnO.empty_lit hp2.size
      clear hge
      go_wp2_with (at_builtin; go_must (refine wl_append1F elInts rfl _ _ rfl w.heap.size (.slice Aq cs.length cq) cs.length vs rfl HRX.out.1 (w1.heap.size + 1) 1 [(.slice (some ⟨w1.heap.size, 0, none⟩) 0 0)] rfl (by simp) rfl rfl (by decide) (by omega) HPX.out.size ?_); intro q' wq hq' hg' hl'; go_must (have HF := Lib.hid (HRX.out.push HrX.out hq' hg'); have HPF := Lib.hid (HPX.out.grown hg' (fun g hg => (HRX.out.1.lt g hg).1)); obtain ⟨A9, c9, rfl⟩ := hq'.form; clear hq' hg' hl'))
      go_ret
      refine ⟨_, rfl, ?_, HPF.out⟩
      have := HF.out.rows
      rw [graph_rows] at this
      exact this

end Go.Proofs.Ytmhaaihgepldhaa
