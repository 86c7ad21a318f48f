/- The graph of a program, as the reference makes it. Which programs are valid, where blocks open, and the graph of a program, as the program finds it. The graph of a valid program, as the program makes it. The laws' helpers that write marks into slices of their own, and look for them. What the functions under comparison give: numbers and lists that a rule fixes, in memory of their own. No condition. -/
import Derived.Test.YtmhaaihgepldhaaKac
import Derived.Test.YtmhaaihgepldhaaKad
import Derived.Test.YtmhaaihgepldhaaKae
import Derived.Test.YtmhaaihgepldhaaKaf

namespace Go.Proofs.Ytmhaaihgepldhaa
open Go.RowKit

/-- A table of rows of numbers, all of the call's own. -/
def RowsO (w : World) (B : Nat) (q : Value) (n : Nat) (S : Nat → List Int) (vs : List Value) : Prop :=
  OwnO w B 53 1 q n vs ∧ ∀ j, j < n → ∃ r, vs[j]? = some r ∧ OwnO w B 3 1 r (S j).length ((S j).map (.int .i64))
theorem RowsO.pure {w w' : World} {B n : Nat} {q : Value} {S : Nat → List Int} {vs : List Value} (h : RowsO w B q n S vs) (hp : Pure w w') : RowsO w' B q n S vs :=
  ⟨h.1.pure hp, fun j hj => let ⟨r, a, b⟩ := h.2 j hj; ⟨r, a, b.pure hp⟩⟩
theorem RowsO.push {w w' : World} {B n : Nat} {q q' r : Value} {S : Nat → List Int} {vs : List Value} (h : RowsO w B q n S vs) (hr : OwnO w B 3 1 r (S n).length ((S n).map (.int .i64))) (hq : OwnO w' B 53 1 q' (n + 1) (vs ++ [r])) (hg : w.grownBy w' q.ownBlock) :
    RowsO w' B q' (n + 1) S (vs ++ [r]) := by
  refine ⟨hq, fun j hj => ?_⟩
  have hl : vs.length = n := by have := h.1.1; omega
  by_cases e : j = n
  · subst e
    exact ⟨r, by rw [List.getElem?_append_right (by omega), hl]; simp, hr.kept hg (fun g hg2 => hr.ne h.1 (by decide) g hg2)⟩
  · obtain ⟨r', a, b⟩ := h.2 j (by omega)
    exact ⟨r', by rw [List.getElem?_append_left (by omega)]; exact a, b.kept hg (fun g hg2 => b.ne h.1 (by decide) g hg2)⟩
theorem Ints.of_ownO {w : World} {B e : Nat} {v : Value} {ys : List Int} (h : OwnO w B e 1 v ys.length (ys.map (.int .i64))) : Ints w v ys := by
  unfold Ints
  refine Cells.of_ownO h fun j hj => ?_
  have : j < ys.length := by omega
  simp [List.getD_eq_getElem?_getD, this]
theorem RowsO.rows {w : World} {B n : Nat} {q : Value} {S : Nat → List Int} {vs : List Value} (h : RowsO w B q n S vs) : IntRows w q ((List.range n).map S) := by
  have hl : ((List.range n).map S).length = n := by simp
  obtain ⟨A, c, rfl⟩ := h.1.form
  have hc := Cells.of_ownO (f := fun j => vs.getD j undef) h.1 (fun j hj => by
    obtain ⟨r, a, _⟩ := h.2 j (by omega)
    simp [List.getD_eq_getElem?_getD, a])
  obtain ⟨A', c', hv, h1, h2, h3⟩ := hc
  injection hv with e1 e2 e3
  subst e1 e3
  refine ⟨A, c, by rw [hl], by omega, h2, fun hn => ?_⟩
  rw [hl] at hn
  obtain ⟨b, o, e, hb, hc⟩ := h3 hn
  refine ⟨b, o, e, hb, fun k hk => ?_⟩
  rw [hl] at hk
  obtain ⟨r, a, b2⟩ := h.2 k hk
  refine ⟨r, ?_, ?_⟩
  · rw [hc k (by omega)]; simp [List.getD_eq_getElem?_getD, a]
  · have : ((List.range n).map S).getD k [] = S k := by simp [List.getD_eq_getElem?_getD, hk]
    rw [this]
    exact Ints.of_ownO b2

/-- The rows of a program's graph, the end's among them. -/
def gRow (cs : List Cd) (j : Nat) : List Int := if j < cs.length then succs cs j else []
theorem graph_rows (cs : List Cd) : (List.range (cs.length + 1)).map (gRow cs) = graph cs := by
  unfold graph
  rw [List.range_succ, List.map_append]
  congr 1
  · refine List.map_congr_left fun j hj => ?_
    unfold gRow; rw [if_pos (by simpa using hj)]
  · simp [gRow]

def GPost (cs : List Cd) (w : World) (e : Ending) (w' : World) : Prop := ∃ v, e = .returned v ∧ IntRows w' v (graph cs) ∧ Pure w w'

set_option maxHeartbeats 2000000 in
set_option maxRecDepth 100000 in
theorem sgraph_ok (v : Value) (cs : List Cd) (w : World) (h : Codes w v cs) (hv : PValid cs) :
    Calls Try.prog 33 #[v] w (GPost cs w) := by
  have H := Lib.hid h
  have HV := Lib.hid hv
  have hsmall := hv.2.1
  obtain ⟨A, c, rfl, hnc, hcm⟩ := h.form
  clear h hv
  have hO0 : Hid (RowsO (w.alloc (.cells #[] 53)) w.heap.size (.slice (some ⟨w.heap.size, 0, none⟩) 0 0) 0 (gRow cs) []) := Lib.hid ⟨OwnO.empty_lit (Nat.le_refl _), fun j hj => absurd hj (by omega)⟩
  go_enter Try.func33, Try.ntmps33
  go_wp2
  go_loopg [4, 3] cs.length (fun gk i q wr => ∃ (k : Nat) (vs : List Value), gk + k = cs.length ∧ i = .int .i64 k ∧ Pure w wr ∧ RowsO wr w.heap.size q k (gRow cs) vs)
  case atStart => exact ⟨0, [], rfl, rfl, Pure.alloc (Pure.refl _) _, hO0.out⟩
  case round =>
    obtain ⟨k, vs, hgk, rfl, hp, hrows⟩ := hrel
    have Hgk := Lib.hid hgk
    have HR := Lib.hid hrows
    have hkn : k ≤ cs.length := by omega
    clear hgk hrows
    obtain ⟨Aq, cq, rfl⟩ := HR.out.1.form
    by_cases hlt : k < cs.length
    · obtain ⟨b, o, rfl, hb, hc⟩ := H.out.at_ hlt
      obtain ⟨cd, Hcd⟩ : ∃ cd, Hid (cs.getD k default = cd) := ⟨_, rfl⟩
      have hat := hc.keep hp hb
      rw [Hcd.out] at hat
      have hpi := HV.out.pi hlt
      unfold PI at hpi
      rw [Hcd.out] at hpi
      have HPI := Lib.hid hpi
      have q0 := hat.c0
      clear hc hat hpi
      have hbr : b < wr.heap.size := Nat.lt_of_lt_of_le hb hp.size
      go_wp2_with fail
      refine (spv_any _ cs _ (H.out.keep hp) (by omega) true (by simp [HV.out])).mono ?_
      rintro e w1 ⟨rfl, hp1⟩
      have hp2 := hp.trans hp1
      have HR1 := Lib.hid (HR.out.pure hp1)
      have p0 := (hp1.cell b (o + k * 4) hbr).trans q0
      clear q0
      have hb1 : b < w1.heap.size := Nat.lt_of_lt_of_le hbr hp1.size
      -- the row that is there first
      have hpl := Lib.hid (Pure.alloc (Pure.refl w1) (.cells #[.int .i64 ((k : Int) + 1)] 3))
      have hl0 : Hid (OwnO (w1.alloc (.cells #[.int .i64 ((k : Int) + 1)] 3)) w.heap.size 3 1 (.slice (some ⟨w1.heap.size, 0, none⟩) 1 1) 1 [.int .i64 ((k : Int) + 1)]) := Lib.hid (OwnO.lit w1 #[.int .i64 ((k : Int) + 1)] 1 hp2.size (by omega) (by simp))
      have hgr : gRow cs k = succs cs k := if_pos hlt
      by_cases hop : Opens cd
      · have hd : (cd.op == 11) = true ∨ ((cd.op == 11) = false ∧ (cd.op == 13) = true) := by
          unfold Opens at hop
          rcases hop with h | h
          · exact .inl (by simp [h])
          · exact .inr ⟨by simp [h], by simp [h]⟩
        obtain ⟨e, oo, bi⟩ := HPI.out.1 hop
        have hends := bi.ends
        have he1 := bi.lt
        have he2 := bi.le
        have hoo : -1 ≤ oo ∧ oo < e := by
          rcases bi.el with h | ⟨q, h, _, h2, _⟩
          · omega
          · omega
        obtain ⟨hoo1, hoo2⟩ := hoo
        have hrow : gRow cs k = if (if 0 ≤ oo then oo + 1 else (e : Int) + 1) = (k : Int) + 1 then [(k : Int) + 1] else [(k : Int) + 1, if 0 ≤ oo then oo + 1 else (e : Int) + 1] := by
          rw [hgr]; unfold succs; simp only []; rw [Hcd.out, if_pos hop, hends]
        have Hrow := Lib.hid hrow
        have Hends := Lib.hid hends
        clear hrow hends hop bi hgr
        by_cases ho0 : 0 ≤ oo
        · have Hr2 : Hid (gRow cs k = if oo + 1 = (k : Int) + 1 then [(k : Int) + 1] else [(k : Int) + 1, oo + 1]) := by have := Hrow.out; rw [if_pos ho0] at this; exact this
          by_cases hto : oo + 1 = (k : Int) + 1
          · have Hr3 : Hid (gRow cs k = [(k : Int) + 1]) := by have := Hr2.out; rw [if_pos hto] at this; exact this
            have hdt : (oo + 1 != (k : Int) + 1) = false := by rw [bne_eq_false_iff_eq]; exact hto
            have hdt2 : (oo != (k : Int)) = false := by rw [bne_eq_false_iff_eq]; omega
            have Hto := Lib.hid hto
            clear hto
            rcases hd with hd | ⟨hd, hd2⟩
            all_goals
              go_wp2_with (first | (go_at_call 70; go_must (refine (l4End_any _ cs k _ _ (H.out.keep (hp2.trans hpl.out)) (by omega) hlt Hends.out).mono ?_); rintro e1 w3 ⟨rfl, hp3⟩; go_must (have hpX1 := Lib.hid (hpl.out.trans hp3); have HRX := Lib.hid (HR1.out.pure hpX1.out); have HPX := Lib.hid (hp2.trans hpX1.out); have HrX := Lib.hid (show OwnO w3 w.heap.size 3 1 (.slice (some ⟨w1.heap.size, 0, none⟩) 1 1) (gRow cs k).length ((gRow cs k).map (.int .i64)) by rw [Hr3.out]; exact hl0.out.pure hp3))) | (at_builtin; go_must (refine wl_append1F elInts rfl _ _ rfl w.heap.size (.slice Aq k cq) k vs rfl HRX.out.1 w3.heap.size 1 [(.slice (some ⟨w1.heap.size, 0, none⟩) 1 1)] rfl (by simp) rfl rfl (by decide) (by omega) HPX.out.size ?_); intro q' wq hq' hg' hl'; go_must (have HF := Lib.hid (HRX.out.push HrX.out hq' hg'); have HPF := Lib.hid (HPX.out.grown hg' (fun g hg => (HRX.out.1.lt g hg).1)); obtain ⟨A9, c9, rfl⟩ := hq'.form; clear hq' hg' hl')))
              go_roundg (cs.length - (k + 1))
              case measure => have := Hgk.out; omega
              case rel => exact ⟨k + 1, _, by have := Hgk.out; omega, by go_num, HPF.out, HF.out⟩
          · have Hr3 : Hid (gRow cs k = [(k : Int) + 1, oo + 1]) := by have := Hr2.out; rw [if_neg hto] at this; exact this
            have hdt : (oo + 1 != (k : Int) + 1) = true := by rw [bne_iff_ne]; exact hto
            have hdt2 : (oo != (k : Int)) = true := by rw [bne_iff_ne]; omega
            have Hto := Lib.hid hto
            clear hto
            rcases hd with hd | ⟨hd, hd2⟩
            all_goals
              go_wp2_with (first | (go_at_call 70; go_must (refine (l4End_any _ cs k _ _ (H.out.keep (hp2.trans hpl.out)) (by omega) hlt Hends.out).mono ?_); rintro e1 w3 ⟨rfl, hp3⟩; go_must (have hl3 := Lib.hid (hl0.out.pure hp3); have hp13 := Lib.hid (hpl.out.trans hp3))) | (at_builtin; refine wl_append1F elInt rfl _ _ rfl w.heap.size (.slice (some ⟨w1.heap.size, 0, none⟩) 1 1) 1 [.int .i64 ((k : Int) + 1)] rfl hl3.out w3.heap.size 1 [.int .i64 (oo + 1)] rfl rfl rfl rfl (by decide) (by omega) (hp2.trans hp13.out).size ?_; intro r' w5 hr' hgr' hlr'; go_must (obtain ⟨A5, c5, rfl⟩ := hr'.form); go_must (have hpX1 := Lib.hid (hp13.out.grown hgr' (fun g hg => by simp [Value.ownBlock] at hg; omega)); have HRX := Lib.hid (HR1.out.pure hpX1.out); have HPX := Lib.hid (hp2.trans hpX1.out); have HrX := Lib.hid (show OwnO w5 w.heap.size 3 1 (.slice A5 2 c5) (gRow cs k).length ((gRow cs k).map (.int .i64)) by rw [Hr3.out]; exact hr')); clear hr' hgr' hlr') | (at_builtin; go_must (refine wl_append1F elInts rfl _ _ rfl w.heap.size (.slice Aq k cq) k vs rfl HRX.out.1 w5.heap.size 1 [(.slice A5 2 c5)] rfl (by simp) rfl rfl (by decide) (by omega) HPX.out.size ?_); intro q' wq hq' hg' hl'; go_must (have HF := Lib.hid (HRX.out.push HrX.out hq' hg'); have HPF := Lib.hid (HPX.out.grown hg' (fun g hg => (HRX.out.1.lt g hg).1)); obtain ⟨A9, c9, rfl⟩ := hq'.form; clear hq' hg' hl')))
              go_roundg (cs.length - (k + 1))
              case measure => have := Hgk.out; omega
              case rel => exact ⟨k + 1, _, by have := Hgk.out; omega, by go_num, HPF.out, HF.out⟩
        · have Hr2 : Hid (gRow cs k = if (e : Int) + 1 = (k : Int) + 1 then [(k : Int) + 1] else [(k : Int) + 1, (e : Int) + 1]) := by have := Hrow.out; rw [if_neg ho0] at this; exact this
          by_cases hto : (e : Int) + 1 = (k : Int) + 1
          · have Hr3 : Hid (gRow cs k = [(k : Int) + 1]) := by have := Hr2.out; rw [if_pos hto] at this; exact this
            have hdt : ((e : Int) + 1 != (k : Int) + 1) = false := by rw [bne_eq_false_iff_eq]; exact hto
            have hdt2 : ((e : Int) != (k : Int)) = false := by rw [bne_eq_false_iff_eq]; omega
            have Hto := Lib.hid hto
            clear hto
            rcases hd with hd | ⟨hd, hd2⟩
            all_goals
              go_wp2_with (first | (go_at_call 70; go_must (refine (l4End_any _ cs k _ _ (H.out.keep (hp2.trans hpl.out)) (by omega) hlt Hends.out).mono ?_); rintro e1 w3 ⟨rfl, hp3⟩; go_must (have hpX1 := Lib.hid (hpl.out.trans hp3); have HRX := Lib.hid (HR1.out.pure hpX1.out); have HPX := Lib.hid (hp2.trans hpX1.out); have HrX := Lib.hid (show OwnO w3 w.heap.size 3 1 (.slice (some ⟨w1.heap.size, 0, none⟩) 1 1) (gRow cs k).length ((gRow cs k).map (.int .i64)) by rw [Hr3.out]; exact hl0.out.pure hp3))) | (at_builtin; go_must (refine wl_append1F elInts rfl _ _ rfl w.heap.size (.slice Aq k cq) k vs rfl HRX.out.1 w3.heap.size 1 [(.slice (some ⟨w1.heap.size, 0, none⟩) 1 1)] rfl (by simp) rfl rfl (by decide) (by omega) HPX.out.size ?_); intro q' wq hq' hg' hl'; go_must (have HF := Lib.hid (HRX.out.push HrX.out hq' hg'); have HPF := Lib.hid (HPX.out.grown hg' (fun g hg => (HRX.out.1.lt g hg).1)); obtain ⟨A9, c9, rfl⟩ := hq'.form; clear hq' hg' hl')))
              go_roundg (cs.length - (k + 1))
              case measure => have := Hgk.out; omega
              case rel => exact ⟨k + 1, _, by have := Hgk.out; omega, by go_num, HPF.out, HF.out⟩
          · have Hr3 : Hid (gRow cs k = [(k : Int) + 1, (e : Int) + 1]) := by have := Hr2.out; rw [if_neg hto] at this; exact this
            have hdt : ((e : Int) + 1 != (k : Int) + 1) = true := by rw [bne_iff_ne]; exact hto
            have hdt2 : ((e : Int) != (k : Int)) = true := by rw [bne_iff_ne]; omega
            have Hto := Lib.hid hto
            clear hto
            rcases hd with hd | ⟨hd, hd2⟩
            all_goals
              go_wp2_with (first | (go_at_call 70; go_must (refine (l4End_any _ cs k _ _ (H.out.keep (hp2.trans hpl.out)) (by omega) hlt Hends.out).mono ?_); rintro e1 w3 ⟨rfl, hp3⟩; go_must (have hl3 := Lib.hid (hl0.out.pure hp3); have hp13 := Lib.hid (hpl.out.trans hp3))) | (at_builtin; refine wl_append1F elInt rfl _ _ rfl w.heap.size (.slice (some ⟨w1.heap.size, 0, none⟩) 1 1) 1 [.int .i64 ((k : Int) + 1)] rfl hl3.out w3.heap.size 1 [.int .i64 ((e : Int) + 1)] rfl rfl rfl rfl (by decide) (by omega) (hp2.trans hp13.out).size ?_; intro r' w5 hr' hgr' hlr'; go_must (obtain ⟨A5, c5, rfl⟩ := hr'.form); go_must (have hpX1 := Lib.hid (hp13.out.grown hgr' (fun g hg => by simp [Value.ownBlock] at hg; omega)); have HRX := Lib.hid (HR1.out.pure hpX1.out); have HPX := Lib.hid (hp2.trans hpX1.out); have HrX := Lib.hid (show OwnO w5 w.heap.size 3 1 (.slice A5 2 c5) (gRow cs k).length ((gRow cs k).map (.int .i64)) by rw [Hr3.out]; exact hr')); clear hr' hgr' hlr') | (at_builtin; go_must (refine wl_append1F elInts rfl _ _ rfl w.heap.size (.slice Aq k cq) k vs rfl HRX.out.1 w5.heap.size 1 [(.slice A5 2 c5)] rfl (by simp) rfl rfl (by decide) (by omega) HPX.out.size ?_); intro q' wq hq' hg' hl'; go_must (have HF := Lib.hid (HRX.out.push HrX.out hq' hg'); have HPF := Lib.hid (HPX.out.grown hg' (fun g hg => (HRX.out.1.lt g hg).1)); obtain ⟨A9, c9, rfl⟩ := hq'.form; clear hq' hg' hl')))
              go_roundg (cs.length - (k + 1))
              case measure => have := Hgk.out; omega
              case rel => exact ⟨k + 1, _, by have := Hgk.out; omega, by go_num, HPF.out, HF.out⟩
      · have hd11 : (cd.op == 11) = false := by unfold Opens at hop; rw [beq_eq_false_iff_ne]; omega
        have hd13 : (cd.op == 13) = false := by unfold Opens at hop; rw [beq_eq_false_iff_ne]; omega
        have Hop := Lib.hid hop
        clear hop
        by_cases h12 : cd.op = 12
        · have hd12 : (cd.op == 12) = true := by simp [h12]
          obtain ⟨bb, e, bi⟩ := HPI.out.2.1 h12
          have he1 := bi.lt
          have he2 := bi.le
          have har : aroundAt cs k = bb := by
            rcases bi.el with e' | ⟨q, e', _, _, _, e3, _⟩
            · omega
            · have : q = k := by omega
              subst this; exact e3
          have hrow : gRow cs k = [(e : Int) + 1] := by
            rw [hgr]; unfold succs; simp only []; rw [Hcd.out, if_neg Hop.out, if_pos h12, har, Int.toNat_natCast, bi.ends]
          have Hrow := Lib.hid hrow
          have Hends := Lib.hid bi.ends
          have Har := Lib.hid har
          clear hrow har bi hgr h12
          go_wp2_with (first | (go_at_call 71; go_must (refine (l4Around_any _ cs k _ _ (H.out.keep (hp2.trans hpl.out)) (by omega) (by omega) Har.out).mono ?_); rintro e1 w3 ⟨rfl, hp3⟩; go_must (have hp13 := Lib.hid (hpl.out.trans hp3))) | (go_at_call 70; go_must (refine (l4End_any _ cs bb _ _ (H.out.keep (hp2.trans hp13.out)) (by omega) (by omega) Hends.out).mono ?_); rintro e1 w4 ⟨rfl, hp4⟩; go_must (have hpX1 := Lib.hid ((hp13.out.trans hp4).alloc (.cells #[.int .i64 ((e : Int) + 1)] 3)); have HRX := Lib.hid (HR1.out.pure hpX1.out); have HPX := Lib.hid (hp2.trans hpX1.out); have HrX := Lib.hid (show OwnO (w4.alloc (.cells #[.int .i64 ((e : Int) + 1)] 3)) w.heap.size 3 1 (.slice (some ⟨w4.heap.size, 0, none⟩) 1 1) (gRow cs k).length ((gRow cs k).map (.int .i64)) by rw [Hrow.out]; exact OwnO.lit w4 #[.int .i64 ((e : Int) + 1)] 1 (hp2.trans (hp13.out.trans hp4)).size (by omega) (by simp)))) | (at_builtin; go_must (refine wl_append1F elInts rfl _ _ rfl w.heap.size (.slice Aq k cq) k vs rfl HRX.out.1 (w4.heap.size + 1) 1 [(.slice (some ⟨w4.heap.size, 0, none⟩) 1 1)] rfl (by simp) rfl rfl (by decide) (by omega) HPX.out.size ?_); intro q' wq hq' hg' hl'; go_must (have HF := Lib.hid (HRX.out.push HrX.out hq' hg'); have HPF := Lib.hid (HPX.out.grown hg' (fun g hg => (HRX.out.1.lt g hg).1)); obtain ⟨A9, c9, rfl⟩ := hq'.form; clear hq' hg' hl')))
          go_roundg (cs.length - (k + 1))
          case measure => have := Hgk.out; omega
          case rel => exact ⟨k + 1, _, by have := Hgk.out; omega, by go_num, HPF.out, HF.out⟩
        · have hd12 : (cd.op == 12) = false := by simp [h12]
          by_cases h14 : cd.op = 14
          · have hd14 : (cd.op == 14) = true := by simp [h14]
            obtain ⟨bb, oo, bi⟩ := HPI.out.2.2 h14
            have he1 := bi.lt
            have he2 := bi.le
            have har : aroundAt cs k = bb := bi.ar
            have hbn : bb < cs.length := by omega
            obtain ⟨b0, o0, hb0e, hb0, hc0⟩ := H.out.at_ hbn
            injection hb0e with hb0e
            injection hb0e with e1 e2
            subst e1 e2
            obtain ⟨cp, Hcp⟩ : ∃ cp, Hid (cs.getD bb default = cp) := ⟨_, rfl⟩
            rw [Hcp.out] at hc0
            have hcp := Lib.hid ((hc0.keep hp2 hb0).c0)
            clear hc0
            have hrow : gRow cs k = if cp.op = 13 then [(bb : Int) + 1, (k : Int) + 1] else [(k : Int) + 1] := by
              rw [hgr]; unfold succs; simp only []; rw [Hcd.out, if_neg Hop.out, if_neg h12, if_pos h14, har, Int.toNat_natCast, Hcp.out]
            have Hrow := Lib.hid hrow
            have Har := Lib.hid har
            clear hrow har bi hgr h12 h14
            by_cases hl13 : cp.op = 13
            · have hdl : (cp.op == 13) = true := by simp [hl13]
              have Hr3 : Hid (gRow cs k = [(bb : Int) + 1, (k : Int) + 1]) := by have := Hrow.out; rw [if_pos hl13] at this; exact this
              clear hl13
              go_wp2_with (first | (go_at_call 71; go_must (refine (l4Around_any _ cs k _ _ (H.out.keep (hp2.trans hpl.out)) (by omega) (by omega) Har.out).mono ?_); rintro e1 w3 ⟨rfl, hp3⟩; go_must (have hp13 := Lib.hid (hpl.out.trans hp3)); go_must (have hcq := (hp13.out.cell b (o + bb * 4) hb1).trans hcp.out; have hpX1 := Lib.hid (hp13.out.alloc (.cells #[.int .i64 ((bb : Int) + 1), .int .i64 ((k : Int) + 1)] 3)); have HRX := Lib.hid (HR1.out.pure hpX1.out); have HPX := Lib.hid (hp2.trans hpX1.out); have HrX := Lib.hid (show OwnO (w3.alloc (.cells #[.int .i64 ((bb : Int) + 1), .int .i64 ((k : Int) + 1)] 3)) w.heap.size 3 1 (.slice (some ⟨w3.heap.size, 0, none⟩) 2 2) (gRow cs k).length ((gRow cs k).map (.int .i64)) by rw [Hr3.out]; exact OwnO.lit w3 #[.int .i64 ((bb : Int) + 1), .int .i64 ((k : Int) + 1)] 2 (hp2.trans hp13.out).size (by omega) (by simp)))) | (at_builtin; go_must (refine wl_append1F elInts rfl _ _ rfl w.heap.size (.slice Aq k cq) k vs rfl HRX.out.1 (w3.heap.size + 1) 1 [(.slice (some ⟨w3.heap.size, 0, none⟩) 2 2)] rfl (by simp) rfl rfl (by decide) (by omega) HPX.out.size ?_); intro q' wq hq' hg' hl'; go_must (have HF := Lib.hid (HRX.out.push HrX.out hq' hg'); have HPF := Lib.hid (HPX.out.grown hg' (fun g hg => (HRX.out.1.lt g hg).1)); obtain ⟨A9, c9, rfl⟩ := hq'.form; clear hq' hg' hl')))
              go_roundg (cs.length - (k + 1))
              case measure => have := Hgk.out; omega
              case rel => exact ⟨k + 1, _, by have := Hgk.out; omega, by go_num, HPF.out, HF.out⟩
            · have hdl : (cp.op == 13) = false := by simp [hl13]
              have Hr3 : Hid (gRow cs k = [(k : Int) + 1]) := by have := Hrow.out; rw [if_neg hl13] at this; exact this
              clear hl13
              go_wp2_with (first | (go_at_call 71; go_must (refine (l4Around_any _ cs k _ _ (H.out.keep (hp2.trans hpl.out)) (by omega) (by omega) Har.out).mono ?_); rintro e1 w3 ⟨rfl, hp3⟩; go_must (have hp13 := Lib.hid (hpl.out.trans hp3)); go_must (have hcq := (hp13.out.cell b (o + bb * 4) hb1).trans hcp.out; have hpX1 := Lib.hid (hp13.out); have HRX := Lib.hid (HR1.out.pure hpX1.out); have HPX := Lib.hid (hp2.trans hpX1.out); have HrX := Lib.hid (show OwnO w3 w.heap.size 3 1 (.slice (some ⟨w1.heap.size, 0, none⟩) 1 1) (gRow cs k).length ((gRow cs k).map (.int .i64)) by rw [Hr3.out]; exact hl0.out.pure hp3))) | (at_builtin; go_must (refine wl_append1F elInts rfl _ _ rfl w.heap.size (.slice Aq k cq) k vs rfl HRX.out.1 w3.heap.size 1 [(.slice (some ⟨w1.heap.size, 0, none⟩) 1 1)] rfl (by simp) rfl rfl (by decide) (by omega) HPX.out.size ?_); intro q' wq hq' hg' hl'; go_must (have HF := Lib.hid (HRX.out.push HrX.out hq' hg'); have HPF := Lib.hid (HPX.out.grown hg' (fun g hg => (HRX.out.1.lt g hg).1)); obtain ⟨A9, c9, rfl⟩ := hq'.form; clear hq' hg' hl')))
              go_roundg (cs.length - (k + 1))
              case measure => have := Hgk.out; omega
              case rel => exact ⟨k + 1, _, by have := Hgk.out; omega, by go_num, HPF.out, HF.out⟩
          · have hd14 : (cd.op == 14) = false := by simp [h14]
            have Hr3 : Hid (gRow cs k = [(k : Int) + 1]) := by
              rw [hgr]; unfold succs; simp only []; rw [Hcd.out, if_neg Hop.out, if_neg h12, if_neg h14]; exact Lib.hid rfl
            clear h12 h14 hgr
            have hpX1 := Lib.hid hpl.out
            have HRX := Lib.hid (HR1.out.pure hpX1.out)
            have HPX := Lib.hid (hp2.trans hpX1.out)
            have HrX : Hid (OwnO (w1.alloc (.cells #[.int .i64 ((k : Int) + 1)] 3)) w.heap.size 3 1 (.slice (some ⟨w1.heap.size, 0, none⟩) 1 1) (gRow cs k).length ((gRow cs k).map (.int .i64))) := by rw [Hr3.out]; exact hl0.out
            go_wp2_with (at_builtin; go_must (refine wl_append1F elInts rfl _ _ rfl w.heap.size (.slice Aq k cq) k vs rfl HRX.out.1 (w1.heap.size + 1) 1 [(.slice (some ⟨w1.heap.size, 0, none⟩) 1 1)] rfl (by simp) rfl rfl (by decide) (by omega) HPX.out.size ?_); intro q' wq hq' hg' hl'; go_must (have HF := Lib.hid (HRX.out.push HrX.out hq' hg'); have HPF := Lib.hid (HPX.out.grown hg' (fun g hg => (HRX.out.1.lt g hg).1)); obtain ⟨A9, c9, rfl⟩ := hq'.form; clear hq' hg' hl'))
            go_roundg (cs.length - (k + 1))
            case measure => have := Hgk.out; omega
            case rel => exact ⟨k + 1, _, by have := Hgk.out; omega, by go_num, HPF.out, HF.out⟩
    · have hkl : k = cs.length := by omega
      subst hkl
      go_wp2_with fail
      refine (spv_any _ cs _ (H.out.keep hp) (by omega) true (by simp [HV.out])).mono ?_
      rintro e w1 ⟨rfl, hp1⟩
      have hp2 := hp.trans hp1
      have HR1 := Lib.hid (HR.out.pure hp1)
      have hpX1 := Lib.hid (Pure.alloc (Pure.refl w1) (.cells #[] 3))
      have HRX := Lib.hid (HR1.out.pure hpX1.out)
      have HPX := Lib.hid (hp2.trans hpX1.out)
      have hge : gRow cs cs.length = [] := if_neg (by omega)
      have HrX : Hid (OwnO (w1.alloc (.cells #[] 3)) w.heap.size 3 1 (.slice (some ⟨w1.heap.size, 0, none⟩) 0 0) (gRow cs cs.length).length ((gRow cs cs.length).map (.int .i64))) := by rw [hge]; exact OwnO.empty_lit hp2.size
      clear hge
      go_wp2_with (at_builtin; go_must (refine wl_append1F elInts rfl _ _ rfl w.heap.size (.slice Aq cs.length cq) cs.length vs rfl HRX.out.1 (w1.heap.size + 1) 1 [(.slice (some ⟨w1.heap.size, 0, none⟩) 0 0)] rfl (by simp) rfl rfl (by decide) (by omega) HPX.out.size ?_); intro q' wq hq' hg' hl'; go_must (have HF := Lib.hid (HRX.out.push HrX.out hq' hg'); have HPF := Lib.hid (HPX.out.grown hg' (fun g hg => (HRX.out.1.lt g hg).1)); obtain ⟨A9, c9, rfl⟩ := hq'.form; clear hq' hg' hl'))
      go_ret
      refine ⟨_, rfl, ?_, HPF.out⟩
      have := HF.out.rows
      rw [graph_rows] at this
      exact this

end Go.Proofs.Ytmhaaihgepldhaa

namespace Go.Proofs.Ytmhaaihgepldhaa
open Go.RowKit

set_option maxHeartbeats 1000000 in
set_option maxRecDepth 100000 in
theorem ipv_any (v : Value) (cs : List Cd) (w : World) (h : Codes w v cs) (hsmall : cs.length ≤ 1048576) (B : Bool) (hB : B = true ↔ PValid cs) :
    Calls Try.prog 68 #[v] w fun e w' => e = .returned (.bool B) ∧ Pure w w' := by
  have H := Lib.hid h
  have HB := Lib.hid hB
  obtain ⟨A, c, rfl, hnc, hcm⟩ := h.form
  clear h hB
  have HBF : Hid (¬ PValid cs → false = B) := fun h => by
    cases hb : B
    · rfl
    · exact absurd (HB.out.1 hb) h
  by_cases h40 : 40 < cs.length
  · go_enter Try.func68, Try.ntmps68
    go_wp2
    go_ret
    exact ⟨ret_bool (HBF.out (fun h => by have := h.2.1; omega)), Pure.refl _⟩
  · have h40' : cs.length ≤ 40 := by omega
    clear h40
    go_enter Try.func68, Try.ntmps68
    go_wp2
    go_loopg [13] cs.length (fun gk i wr => ∃ k : Nat, gk + k = cs.length ∧ i = .int .i64 k ∧ Pure w wr ∧ ∀ j, j < k → CdOk (cs.getD j default))
    case atStart => exact ⟨0, rfl, rfl, Pure.refl _, fun j hj => absurd hj (by omega)⟩
    case round =>
      obtain ⟨k, hgk, rfl, hp, hall⟩ := hrel
      have Hgk := Lib.hid hgk
      have Hall := Lib.hid hall
      have hkn : k ≤ cs.length := by omega
      clear hgk hall
      by_cases hlt : k < cs.length
      · obtain ⟨b, o, rfl, hb, hc⟩ := H.out.at_ hlt
        obtain ⟨cd, Hcd⟩ : ∃ cd, Hid (cs.getD k default = cd) := ⟨_, rfl⟩
        have hat := hc.keep hp hb
        rw [Hcd.out] at hat
        obtain ⟨q0, q1, q2, q3⟩ := hat
        clear hc
        have hpA := Lib.hid (Pure.alloc hp (.cells #[.int .i64 cd.op, .int .i64 cd.a, .int .i64 cd.b, .int .i64 cd.c] 65))
        by_cases hok : CdOk cd
        · have Hok := Lib.hid hok; clear hok
          have Hnext : Hid (∀ j, j < k + 1 → CdOk (cs.getD j default)) := fun j hj => by
            by_cases e : j = k
            · rw [e, Hcd.out]; exact Hok.out
            · exact Hall.out j (by omega)
          go_wp2_with fail
          refine (icv_any cd _ true (by simp [Hok.out])).mono ?_
          rintro e w1 ⟨rfl, hp1⟩
          have hp2 := Lib.hid (hpA.out.trans hp1)
          go_wp2
          go_roundg (cs.length - (k + 1))
          case measure => have := Hgk.out; omega
          case rel => exact ⟨k + 1, by have := Hgk.out; omega, by go_num, hp2.out, Hnext.out⟩
        · have Hok := Lib.hid hok; clear hok
          have hbad : ¬ PValid cs := fun h => Hok.out (by rw [← Hcd.out]; exact h.1 _ (cdOk_mem hlt))
          have Hbad := Lib.hid hbad
          clear hbad
          go_wp2_with fail
          refine (icv_any cd _ false (by simp [Hok.out])).mono ?_
          rintro e w1 ⟨rfl, hp1⟩
          have hp2 := Lib.hid (hpA.out.trans hp1)
          go_wp2
          go_ret
          exact ⟨ret_bool (HBF.out Hbad.out), hp2.out⟩
      · have hkl : k = cs.length := by omega
        subst hkl
        have Hcd : Hid (∀ c ∈ cs, CdOk c) := cdOk_all Hall.out
        go_wp2_with fail
        refine (blocks_any _ cs _ (H.out.keep hp) h40').mono ?_
        rintro e w2 ⟨hp2, hm⟩
        have hp3 := Lib.hid (hp.trans hp2)
        cases hs : sscan cs 0 [] with
        | none =>
          rw [hs] at hm
          subst hm
          have Hs := Lib.hid hs
          clear hs
          go_wp2
          go_ret
          exact ⟨ret_bool (HBF.out (fun h => by have := h.2.2; rw [Hs.out] at this; cases this)), hp3.out⟩
        | some st =>
          rw [hs] at hm
          obtain ⟨va, vo, rfl, ht⟩ := hm
          have Hs := Lib.hid hs
          have Ht := Lib.hid ht
          clear hs ht
          obtain ⟨D, HD⟩ : ∃ D, Hid (decide (st.length = 0) = D) := ⟨_, rfl⟩
          rw [HD.out]
          have hDB : D = B := by
            have h1 := HD.out
            have h2 := HB.out
            cases D
            · refine HBF.out fun h => ?_
              have := h.2.2
              rw [Hs.out] at this
              injection this with this
              simp [this] at h1
            · simp at h1
              subst h1
              exact (h2.2 ⟨Hcd.out, h40', Hs.out⟩).symm
          subst hDB
          clear HD
          go_wp2
          go_ret
          exact ⟨rfl, hp3.out⟩

set_option maxHeartbeats 1000000 in
theorem opens_any (v : Value) (cs : List Cd) (at_ : Int) (w : World) (h : Codes w v cs) (hsmall : cs.length ≤ 1048576) (B : Bool) (hB : B = true ↔ (PValid cs ∧ (0 ≤ at_ ∧ at_ ≤ (cs.length : Int) - 1) ∧ Opens (cs.getD at_.toNat default))) :
    Calls Try.prog 55 #[v, .int .i64 at_] w fun e w' => e = .returned (.bool B) ∧ Pure w w' := by
  have H := Lib.hid h
  have HB := Lib.hid hB
  obtain ⟨A, c, rfl, hnc, hcm⟩ := h.form
  clear h hB
  by_cases hv : PValid cs
  · by_cases hr : 0 ≤ at_ ∧ at_ ≤ (cs.length : Int) - 1
    · obtain ⟨k, rfl⟩ := Int.eq_ofNat_of_zero_le hr.1
      have hk : k < cs.length := by omega
      have HB' := HB.out
      rw [Int.toNat_natCast] at HB'
      have HV := Lib.hid hv
      clear hv HB
      obtain ⟨b, o, rfl, hb, hc⟩ := H.out.at_ hk
      obtain ⟨cd, Hcd⟩ : ∃ cd, Hid (cs.getD k default = cd) := ⟨_, rfl⟩
      rw [Hcd.out] at HB'
      have HB2 : Hid (B = true ↔ Opens cd) := ⟨fun h => (HB'.1 h).2.2, fun h => HB'.2 ⟨HV.out, hr, h⟩⟩
      clear HB'
      go_enter Try.func55, Try.ntmps55
      go_wp2_with fail
      refine (ipv_any _ cs _ H.out hsmall true (by simp [HV.out])).mono ?_
      rintro e w1 ⟨rfl, hp1⟩
      have hat := hc.keep hp1 hb
      rw [Hcd.out] at hat
      have q0 := hat.c0
      clear hat hc
      go_wp2_with fail
      refine (within_t _ _ _ _ hr).mono ?_
      rintro e w2 ⟨rfl, rfl⟩
      by_cases h11 : cd.op = 11
      · have hd : (cd.op == 11) = true := by simp [h11]
        have hBt : B = true := HB2.out.2 (.inl h11)
        subst hBt
        clear h11
        go_wp2
        go_ret
        exact ⟨rfl, hp1⟩
      · have hd : (cd.op == 11) = false := by simp [h11]
        by_cases h13 : cd.op = 13
        · have hd2 : (cd.op == 13) = true := by simp [h13]
          have hBt : B = true := HB2.out.2 (.inr h13)
          subst hBt
          clear h11 h13
          go_wp2
          go_ret
          exact ⟨rfl, hp1⟩
        · have hd2 : (cd.op == 13) = false := by simp [h13]
          have hBf : B = false := by
            cases hb : B
            · rfl
            · have := HB2.out.1 hb; unfold Opens at this; omega
          subst hBf
          clear h11 h13
          go_wp2
          go_ret
          exact ⟨rfl, hp1⟩
    · have hBf : B = false := by
        cases hb : B
        · rfl
        · exact absurd (HB.out.1 hb).2.1 hr
      subst hBf
      have HV := Lib.hid hv
      clear hv HB
      go_enter Try.func55, Try.ntmps55
      go_wp2_with fail
      refine (ipv_any _ cs _ H.out hsmall true (by simp [HV.out])).mono ?_
      rintro e w1 ⟨rfl, hp1⟩
      go_wp2_with fail
      refine (within_f _ _ _ _ hr).mono ?_
      rintro e w2 ⟨rfl, rfl⟩
      go_wp2
      go_ret
      exact ⟨rfl, hp1⟩
  · have hBf : B = false := by
      cases hb : B
      · rfl
      · exact absurd (HB.out.1 hb).1 hv
    subst hBf
    have HV := Lib.hid hv
    clear hv HB
    go_enter Try.func55, Try.ntmps55
    go_wp2_with fail
    refine (ipv_any _ cs _ H.out hsmall false (by simp [HV.out])).mono ?_
    rintro e w1 ⟨rfl, hp1⟩
    go_wp2
    go_ret
    exact ⟨rfl, hp1⟩

end Go.Proofs.Ytmhaaihgepldhaa

namespace Go.Proofs.Ytmhaaihgepldhaa
open Go.RowKit

theorem Tabs.own {w : World} {va vo : Value} {cs : List Cd} (h : Tabs w va vo cs) {k : Nat} (hk : k < cs.length) :
    ∃ A c, vo = .slice A cs.length c ∧ cs.length ≤ c ∧ c ≤ 9223372036854775807 ∧ ∃ b o, A = some ⟨b, o, none⟩ ∧ b < w.heap.size ∧
      ((∀ p, ownOf cs k = some p → p < cs.length → Opens (cs.getD p default) → ∃ g, w.cell? ⟨b, o + k, none⟩ = some (.pointer (some ⟨g, 0, none⟩)) ∧ g < w.heap.size ∧ w.cell? ⟨g, 0, none⟩ = some (.int .i64 p) ∧ w.cell? ⟨g, 1, none⟩ = some (.int .i64 (endAt cs p).2) ∧ w.cell? ⟨g, 2, none⟩ = some (.int .i64 (endAt cs p).1)) ∧
       (ownOf cs k = none → w.cell? ⟨b, o + k, none⟩ = some (.pointer none))) := by
  obtain ⟨pb, h1, h2, _⟩ := h
  obtain ⟨A, c, rfl, h3, h4, h5⟩ := h1
  obtain ⟨b, o, rfl, hb, hc⟩ := h5 (by omega)
  refine ⟨_, c, rfl, h3, h4, b, o, rfl, hb, fun p hp hp1 hp2 => ?_, fun hn => ?_⟩
  · obtain ⟨x1, x2, x3, x4⟩ := h2 p hp1 hp2
    refine ⟨pb p, ?_, x1, x2, x3, x4⟩
    rw [hc k (by omega)]; simp only [hp]; rfl
  · rw [hc k (by omega)]; simp only [hn]; rfl

def SuccPost (cs : List Cd) (k : Nat) (w : World) (e : Ending) (w' : World) : Prop :=
  ∃ v, e = .returned v ∧ OwnO w' w.heap.size 3 1 v (succs cs k).length ((succs cs k).map (.int .i64)) ∧ Pure w w'

theorem SuccPost.lit {cs : List Cd} {k n : Nat} {w : World} {xs : List Int} (hx : succs cs k = xs) (hn : xs.length = n) (h63 : n ≤ 64) :
    SuccPost cs k w (.returned (.slice (some ⟨w.heap.size, 0, none⟩) n n)) (w.alloc (.cells (xs.map (.int .i64)).toArray 3)) := by
  subst hn
  refine ⟨_, rfl, ?_, Pure.alloc (Pure.refl _) _⟩
  rw [hx]
  have := OwnO.lit (e := 3) (s := 1) w (xs.map (.int .i64)).toArray xs.length (Nat.le_refl _) (by omega) (by simp)
  simpa using this

set_option maxHeartbeats 1000000 in
set_option maxRecDepth 100000 in
theorem succ_ok (v va vo : Value) (cs : List Cd) (k : Nat) (w : World) (h : Codes w v cs) (hv : PValid cs) (ht : Tabs w va vo cs) (hk : k < cs.length) :
    Calls Try.prog 82 #[v, vo, .int .i64 k] w (SuccPost cs k w) := by
  have H := Lib.hid h
  obtain ⟨A, c, rfl, hnc, hcm⟩ := h.form
  clear h
  have hsmall := hv.2.1
  obtain ⟨A2, c2, rfl, hc2, hcm2, b2, o2, rfl, hb2, hown⟩ := ht.own hk
  have Hown := Lib.hid hown
  obtain ⟨b, o, rfl, hb, hc⟩ := H.out.at_ hk
  obtain ⟨cd, Hcd⟩ : ∃ cd, Hid (cs.getD k default = cd) := ⟨_, rfl⟩
  rw [Hcd.out] at hc
  have q0 := hc.c0
  have hpi := hv.pi hk
  unfold PI at hpi
  rw [Hcd.out] at hpi
  have HPI := Lib.hid hpi
  clear hpi hc hown ht hv
  by_cases hop : Opens cd
  · obtain ⟨e, oo, bi⟩ := HPI.out.1 hop
    have hends := bi.ends
    have he1 := bi.lt
    have he2 := bi.le
    have hoo : -1 ≤ oo ∧ oo < e := by
      rcases bi.el with h | ⟨q, h, _, h2, _⟩
      · omega
      · omega
    have h13o : cd.op = 13 → oo = -1 := fun h13 => by
      rcases bi.el with h | ⟨q, _, _, _, _, _, h⟩
      · exact h
      · rw [Hcd.out] at h; omega
    obtain ⟨hoo1, hoo2⟩ := hoo
    have hrow : succs cs k = if (if 0 ≤ oo then oo + 1 else (e : Int) + 1) = (k : Int) + 1 then [(k : Int) + 1] else [(k : Int) + 1, if 0 ≤ oo then oo + 1 else (e : Int) + 1] := by
      unfold succs; simp only []; rw [Hcd.out, if_pos hop, hends]
    obtain ⟨g, g1, g2, g3, g4, g5⟩ := Hown.out.1 k (by unfold ownOf; rw [Hcd.out, if_pos hop]) hk (by rw [Hcd.out]; exact hop)
    rw [hends] at g4 g5
    simp only at g4 g5
    have Hrow := Lib.hid hrow
    have hd12 : (cd.op == 12) = false := by unfold Opens at hop; rw [beq_eq_false_iff_ne]; omega
    have hd : (cd.op == 11) = true ∨ ((cd.op == 11) = false ∧ (cd.op == 13) = true ∧ oo = -1) := by
      unfold Opens at hop
      rcases hop with h | h
      · exact .inl (by simp [h])
      · exact .inr ⟨by simp [h], by simp [h], h13o h⟩
    clear hrow hends hop bi h13o HPI
    by_cases ho0 : 0 ≤ oo
    · have Hr2 : Hid (succs cs k = if oo + 1 = (k : Int) + 1 then [(k : Int) + 1] else [(k : Int) + 1, oo + 1]) := by have := Hrow.out; rw [if_pos ho0] at this; exact this
      have hd' : (cd.op == 11) = true := by
        rcases hd with h | ⟨_, _, h⟩
        · exact h
        · omega
      clear hd
      by_cases hto : oo + 1 = (k : Int) + 1
      · have Hr3 : Hid (succs cs k = [(k : Int) + 1]) := by have := Hr2.out; rw [if_pos hto] at this; exact this
        have hdt : (oo + 1 == (k : Int) + 1) = true := by rw [beq_iff_eq]; exact hto
        have Hto := Lib.hid hto
        clear hto
        go_enter Try.func82, Try.ntmps82
        go_wp2
        go_ret
        exact SuccPost.lit Hr3.out rfl (by decide)
      · have Hr3 : Hid (succs cs k = [(k : Int) + 1, oo + 1]) := by have := Hr2.out; rw [if_neg hto] at this; exact this
        have hdt : (oo + 1 == (k : Int) + 1) = false := by rw [beq_eq_false_iff_ne]; exact hto
        have Hto := Lib.hid hto
        clear hto
        go_enter Try.func82, Try.ntmps82
        go_wp2
        go_ret
        exact SuccPost.lit Hr3.out rfl (by decide)
    · have Hr2 : Hid (succs cs k = if (e : Int) + 1 = (k : Int) + 1 then [(k : Int) + 1] else [(k : Int) + 1, (e : Int) + 1]) := by have := Hrow.out; rw [if_neg ho0] at this; exact this
      have hto : ¬ ((e : Int) + 1 = (k : Int) + 1) := by omega
      have Hr3 : Hid (succs cs k = [(k : Int) + 1, (e : Int) + 1]) := by have := Hr2.out; rw [if_neg hto] at this; exact this
      have hdt : ((e : Int) + 1 == (k : Int) + 1) = false := by rw [beq_eq_false_iff_ne]; exact hto
      clear hto
      rcases hd with hd | ⟨hd, hd2, _⟩
      all_goals
        go_enter Try.func82, Try.ntmps82
        go_wp2
        go_ret
        exact SuccPost.lit Hr3.out rfl (by decide)
  · have hd11 : (cd.op == 11) = false := by unfold Opens at hop; rw [beq_eq_false_iff_ne]; omega
    have hd13 : (cd.op == 13) = false := by unfold Opens at hop; rw [beq_eq_false_iff_ne]; omega
    have Hop := Lib.hid hop
    clear hop
    by_cases h12 : cd.op = 12
    · have hd12 : (cd.op == 12) = true := by simp [h12]
      obtain ⟨bb, e, bi⟩ := HPI.out.2.1 h12
      have he1 := bi.lt
      have he2 := bi.le
      have har : aroundAt cs k = bb := by
        rcases bi.el with e' | ⟨q, e', _, _, _, e3, _⟩
        · omega
        · have : q = k := by omega
          subst this; exact e3
      have hends := bi.ends
      have hrow : succs cs k = [(e : Int) + 1] := by
        unfold succs; simp only []; rw [Hcd.out, if_neg Hop.out, if_pos h12, har, Int.toNat_natCast, bi.ends]
      obtain ⟨g, g1, g2, g3, g4, g5⟩ := Hown.out.1 bb (by unfold ownOf; rw [Hcd.out, if_neg Hop.out, if_pos (.inl h12), har, Int.toNat_natCast]) (by omega) bi.op
      rw [hends] at g4 g5
      simp only at g4 g5
      have Hrow := Lib.hid hrow
      clear hrow har bi h12 hends HPI
      go_enter Try.func82, Try.ntmps82
      go_wp2
      go_ret
      exact SuccPost.lit Hrow.out rfl (by decide)
    · have hd12 : (cd.op == 12) = false := by simp [h12]
      by_cases h14 : cd.op = 14
      · have hd14 : (cd.op == 14) = true := by simp [h14]
        obtain ⟨bb, oo, bi⟩ := HPI.out.2.2 h14
        have he1 := bi.lt
        have he2 := bi.le
        have har : aroundAt cs k = bb := bi.ar
        have hbn : bb < cs.length := by omega
        have hob := bi.op
        obtain ⟨b0, o0, hb0e, hb0, hc0⟩ := H.out.at_ hbn
        injection hb0e with hb0e
        injection hb0e with e1 e2
        subst e1 e2
        obtain ⟨cp, Hcp⟩ : ∃ cp, Hid (cs.getD bb default = cp) := ⟨_, rfl⟩
        rw [Hcp.out] at hc0 hob
        have hcp := hc0.c0
        clear hc0
        have hrow : succs cs k = if cp.op = 13 then [(bb : Int) + 1, (k : Int) + 1] else [(k : Int) + 1] := by
          unfold succs; simp only []; rw [Hcd.out, if_neg Hop.out, if_neg h12, if_pos h14, har, Int.toNat_natCast, Hcp.out]
        obtain ⟨g, g1, g2, g3, g4, g5⟩ := Hown.out.1 bb (by unfold ownOf; rw [Hcd.out, if_neg Hop.out, if_pos (.inr h14), har, Int.toNat_natCast]) (by omega) bi.op
        have Hrow := Lib.hid hrow
        clear hrow har bi h12 h14 g4 g5 HPI
        unfold Opens at hob
        by_cases hl13 : cp.op = 13
        · have hdl : (cp.op == 11) = false := by rw [hl13]; rfl
          have Hr3 : Hid (succs cs k = [(bb : Int) + 1, (k : Int) + 1]) := by have := Hrow.out; rw [if_pos hl13] at this; exact this
          clear hl13 hob
          go_enter Try.func82, Try.ntmps82
          go_wp2
          go_ret
          exact SuccPost.lit Hr3.out rfl (by decide)
        · have hdl : (cp.op == 11) = true := by rw [beq_iff_eq]; omega
          have Hr3 : Hid (succs cs k = [(k : Int) + 1]) := by have := Hrow.out; rw [if_neg hl13] at this; exact this
          clear hl13 hob
          go_enter Try.func82, Try.ntmps82
          go_wp2
          go_ret
          exact SuccPost.lit Hr3.out rfl (by decide)
      · have hd14 : (cd.op == 14) = false := by simp [h14]
        have Hr3 : Hid (succs cs k = [(k : Int) + 1]) := by
          unfold succs; simp only []; rw [Hcd.out, if_neg Hop.out, if_neg h12, if_neg h14]; exact Lib.hid rfl
        have g1 := Hown.out.2 (by unfold ownOf; rw [Hcd.out, if_neg Hop.out, if_neg (by omega)])
        clear h12 h14 HPI
        go_enter Try.func82, Try.ntmps82
        go_wp2
        go_ret
        exact SuccPost.lit Hr3.out rfl (by decide)

/-- The graph under way: the first k rows are there, the others not yet. -/
def RowsM (w : World) (B g N k : Nat) (S : Nat → List Int) : Prop :=
  ∃ ys, OwnO w B 53 1 (.slice (some ⟨g, 0, none⟩) N N) N ys ∧ (∀ j, j < k → ∃ r, ys[j]? = some r ∧ OwnO w B 3 1 r (S j).length ((S j).map (.int .i64))) ∧ ∀ j, k ≤ j → j < N → ys[j]? = some (.slice none 0 0)
theorem RowsM.pure {w w' : World} {B g N k : Nat} {S : Nat → List Int} (h : RowsM w B g N k S) (hp : Pure w w') : RowsM w' B g N k S := by
  obtain ⟨ys, h1, h2, h3⟩ := h
  exact ⟨ys, h1.pure hp, fun j hj => let ⟨r, a, b⟩ := h2 j hj; ⟨r, a, b.pure hp⟩, h3⟩
theorem RowsM.facts {w : World} {B g N k : Nat} {S : Nat → List Int} (h : RowsM w B g N k S) (hk : k < N) :
    (∃ u, w.cell? ⟨g, k, none⟩ = some u) ∧ w.frozen? ⟨g, k, none⟩ = false ∧ g < w.heap.size ∧ B ≤ g := by
  obtain ⟨ys, h1, h2, h3⟩ := h
  have := h1.cellSome k (by omega)
  rw [Nat.zero_add] at this
  exact ⟨this, h1.frozen k, (h1.lt g rfl).2, (h1.lt g rfl).1⟩
theorem RowsM.put {w : World} {B g N k : Nat} {r : Value} {S : Nat → List Int} (h : RowsM w B g N k S) (hk : k < N) (hr : OwnO w B 3 1 r (S k).length ((S k).map (.int .i64))) :
    RowsM (w.setCell ⟨g, k, none⟩ r) B g N (k + 1) S := by
  obtain ⟨ys, h1, h2, h3⟩ := h
  have hst := h1.stored k r
  rw [Nat.zero_add] at hst
  have hl : k < ys.length := by have := h1.1; omega
  have hg : w.grownBy (w.setCell ⟨g, k, none⟩ r) (some g) := grown_setCell w ⟨g, k, none⟩ r
  refine ⟨_, hst, fun j hj => ?_, fun j hj hj2 => ?_⟩
  · by_cases e : j = k
    · subst e
      exact ⟨r, by rw [List.getElem?_set_self hl], hr.kept hg (fun g' hg' => hr.ne h1 (by decide) g' hg')⟩
    · obtain ⟨r', a, b⟩ := h2 j (by omega)
      exact ⟨r', by rw [List.getElem?_set_ne (by omega)]; exact a, b.kept hg (fun g' hg' => b.ne h1 (by decide) g' hg')⟩
  · rw [List.getElem?_set_ne (by omega)]; exact h3 j (by omega) hj2
theorem RowsM.rows {w : World} {B g n : Nat} {S : Nat → List Int} (h : RowsM w B g (n + 1) n S) (hS : S n = []) : RowsO w B (.slice (some ⟨g, 0, none⟩) (n + 1) (n + 1)) (n + 1) S (h.choose) := by
  obtain ⟨h1, h2, h3⟩ := h.choose_spec
  refine ⟨h1, fun j hj => ?_⟩
  by_cases e : j = n
  · subst e
    exact ⟨_, h3 j (Nat.le_refl _) hj, by rw [hS]; exact OwnO.of_own (World.ownsRow_nil _ _ _ _)⟩
  · exact h2 j (by omega)

set_option maxHeartbeats 1000000 in
set_option maxRecDepth 100000 in
theorem igraph_ok (v : Value) (cs : List Cd) (w : World) (h : Codes w v cs) (hv : PValid cs) :
    Calls Try.prog 56 #[v] w (GPost cs w) := by
  have H := Lib.hid h
  have HV := Lib.hid hv
  have hsmall := hv.2.1
  obtain ⟨A, c, rfl, hnc, hcm⟩ := h.form
  clear h hv
  go_enter Try.func56, Try.ntmps56
  go_wp2_with fail
  refine (blocks_any _ cs _ H.out hsmall).mono ?_
  rintro e w1 ⟨hp1, hm⟩
  rw [HV.out.2.2] at hm
  obtain ⟨va, vo, rfl, ht⟩ := hm
  have HT := Lib.hid (ht rfl)
  clear ht
  go_wp2_with (at_make; go_must (refine wl_make elInts rfl _ _ rfl w.heap.size _ _ _ _ (cs.length + 1) rfl rfl (by omega) (by omega) (by omega) (by omega) hp1.size ?_); intro w2 hown hp hsz; have hO := Lib.hid (OwnO.of_own hown); have hp2 := Lib.hid hp; clear hown hp)
  have hM : RowsM w2 w.heap.size w1.heap.size (cs.length + 1) 0 (gRow cs) := by
    refine ⟨_, hO.out, fun j hj => absurd hj (by omega), fun j _ hj => ?_⟩
    rw [zeros_get _ _ _ (by simpa using hj)]; simp [Nat.mod_one]
  have HM := Lib.hid hM
  clear hM hO
  go_loopg [20, 7] cs.length (fun gk i _ wr => ∃ (k : Nat), gk + k = cs.length ∧ i = .int .i64 k ∧ Pure w1 wr ∧ RowsM wr w.heap.size w1.heap.size (cs.length + 1) k (gRow cs))
  case atStart => exact ⟨0, rfl, rfl, hp2.out, HM.out⟩
  case round =>
    clear HM hp2
    obtain ⟨k, hgk, rfl, hp, hrows⟩ := hrel
    have hpw := hp1.trans hp
    have Hgk := Lib.hid hgk
    have HM := Lib.hid hrows
    have hkn : k ≤ cs.length := by omega
    clear hgk hrows
    by_cases hlt : k < cs.length
    · go_wp2_with fail
      refine (succ_ok _ va vo cs k _ (H.out.keep hpw) HV.out (HT.out.keep hp) hlt).mono ?_
      rintro e w3 ⟨r, rfl, hr, hp3⟩
      have hpp := hp.trans hp3
      have HM3 := Lib.hid (HM.out.pure hp3)
      obtain ⟨⟨u, f1⟩, f2, f3, f4⟩ := HM3.out.facts (by omega)
      have hrow : gRow cs k = succs cs k := if_pos hlt
      have hput := Lib.hid (HM3.out.put (r := r) (by omega) (by rw [hrow]; exact OwnO.base hr hpw.size))
      have HP : Hid (Pure w1 (w3.setCell ⟨w1.heap.size, k, none⟩ r)) := Lib.hid (Pure.setCell hpp (Nat.le_refl _) _)
      obtain ⟨A9, c9, rfl⟩ := hr.form
      clear hr hrow
      go_wp2
      go_roundg (cs.length - (k + 1))
      case measure => have := Hgk.out; omega
      case rel => exact ⟨k + 1, by have := Hgk.out; omega, by go_num, HP.out, hput.out⟩
    · have hkl : k = cs.length := by omega
      subst hkl
      go_wp2
      go_ret
      refine ⟨_, rfl, ?_, hpw⟩
      have := (HM.out.rows (if_neg (by omega))).rows
      rw [graph_rows] at this
      exact this

end Go.Proofs.Ytmhaaihgepldhaa

namespace Go.Proofs.Ytmhaaihgepldhaa
open Go.RowKit

theorem grown_trans {a b c : World} {row : Option Nat} (h : a.grownBy b row) (k : b.grownBy c row) : a.grownBy c row :=
  ⟨k.os.trans h.os, k.tape.trans h.tape, k.output.trans h.output, Nat.le_trans h.size k.size, fun i hi hne => (k.block i (Nat.lt_of_lt_of_le hi h.size) hne).trans (h.block i hi hne)⟩
theorem grown_refl (w : World) (row : Option Nat) : w.grownBy w row := ⟨rfl, rfl, rfl, Nat.le_refl _, fun _ _ _ => rfl⟩

theorem grown_set {a w : World} {g i : Nat} {u : Value} (h : a.grownBy w (some g)) : a.grownBy (w.setCell ⟨g, i, none⟩ u) (some g) := grown_trans h (grown_setCell w ⟨g, i, none⟩ u)

def marked (k : Int) (n : Nat) : List Int := (List.range n).map fun (j : Nat) => k + (j : Int)
theorem marked_length (k : Int) (n : Nat) : (marked k n).length = n := by simp [marked]
theorem marked_getD (k : Int) (n j : Nat) (h : j < n) : (marked k n).getD j 0 = k + j := by simp [marked, List.getD_eq_getElem?_getD, h]

def MarkPost (B : Nat) (v : Value) (n : Nat) (k : Int) (w : World) (e : Ending) (w' : World) : Prop :=
  e = .returned (.int .i64 (k + n)) ∧ OwnO w' B 3 1 v n ((marked k n).map (.int .i64)) ∧ w.grownBy w' v.ownBlock

set_option maxHeartbeats 400000 in
theorem markIntS_any (v : Value) (n B : Nat) (ys : List Value) (k : Int) (w : World) (h : OwnO w B 3 1 v n ys) (hn : n ≤ 1099511627776) (hk0 : 0 ≤ k) (hk1 : k ≤ 1099511627776) :
    Calls Try.prog 41 #[v, .int .i64 k] w (MarkPost B v n k w) := by
  have H := Lib.hid h
  obtain ⟨A, c, rfl⟩ := h.form
  clear h
  go_enter Try.func41, Try.ntmps41
  go_wp2
  go_loopg [1, 5] n (fun gk m i wr => ∃ (j : Nat) (zs : List Value), gk + j = n ∧ i = .int .i64 j ∧ m = .int .i64 (k + j) ∧ OwnO wr B 3 1 (.slice A n c) n zs ∧ (∀ i, i < j → zs[i]? = some (.int .i64 (k + i))) ∧ w.grownBy wr (Value.slice A n c).ownBlock)
  case atStart => exact ⟨0, ys, rfl, rfl, by go_num, H.out, fun j hj => absurd hj (by omega), grown_refl _ _⟩
  case round =>
    obtain ⟨j, zs, hgk, rfl, rfl, hown, hzs, hg⟩ := hrel
    have Hgk := Lib.hid hgk
    have Hzs := Lib.hid hzs
    have Hown := Lib.hid hown
    have Hg := Lib.hid hg
    have hjn : j ≤ n := by omega
    clear hgk hzs hown hg
    by_cases hlt : j < n
    · obtain ⟨g, off, c', hv, h1, h2, h3, h4⟩ := Hown.out.formSome (by omega)
      injection hv with e1 e2 e3
      subst e1
      subst e3
      obtain ⟨u, q0⟩ := Hown.out.cellSome j (by omega)
      have f0 := Hown.out.frozen (off + j)
      have hst := Hown.out.stored j (.int .i64 (k + j))
      have HS := Lib.hid hst
      have HL : Hid (zs.length = n * 1) := Lib.hid Hown.out.1
      clear hst
      go_wp2
      go_roundg (n - (j + 1))
      case measure => have := Hgk.out; omega
      case rel =>
        refine ⟨j + 1, _, by have := Hgk.out; omega, by go_num, by go_num, HS.out, fun i hi => ?_, ?_⟩
        · by_cases e : i = j
          · subst e; rw [List.getElem?_set_self (by have := HL.out; omega)]
          · rw [List.getElem?_set_ne (by omega)]; exact Hzs.out i (by omega)
        · exact grown_trans Hg.out (grown_setCell _ _ _)
    · have hjl : j = n := by omega
      subst hjl
      go_wp2
      go_ret
      refine ⟨rfl, ?_, Hg.out⟩
      have : (marked k j).map (Value.int .i64) = zs := by
        apply List.ext_getElem?
        intro i
        by_cases hi : i < j
        · rw [Hzs.out i hi]; simp [marked, hi]
        · rw [List.getElem?_eq_none (by simp [marked]; omega), List.getElem?_eq_none (by have := Hown.out.1; omega)]
      rw [this]; exact Hown.out

set_option maxHeartbeats 400000 in
theorem heldIntS_any (v : Value) (n : Nat) (k : Int) (w : World) (h : Ints w v (marked k n)) (hn : n ≤ 1099511627776) (hk0 : 0 ≤ k) (hk1 : k ≤ 1099511627776) :
    Calls Try.prog 42 #[v, .int .i64 k] w fun e w' => e = .returned (.int .i64 (k + n)) ∧ Pure w w' := by
  have H := Lib.hid h
  obtain ⟨A, c, rfl⟩ := h.form
  rw [marked_length]
  clear h
  go_enter Try.func42, Try.ntmps42
  go_wp2
  go_loopg [1, 5] n (fun gk m i wr => ∃ (j : Nat), gk + j = n ∧ i = .int .i64 j ∧ m = .int .i64 (k + j) ∧ Pure w wr)
  case atStart => exact ⟨0, rfl, rfl, by go_num, Pure.refl _⟩
  case round =>
    obtain ⟨j, hgk, rfl, rfl, hp⟩ := hrel
    have Hgk := Lib.hid hgk
    have hjn : j ≤ n := by omega
    clear hgk
    by_cases hlt : j < n
    · obtain ⟨A', c', hv, h1, h2, h3⟩ := H.out
      injection hv with e1 e2 e3
      subst e1
      subst e3
      obtain ⟨b, o, rfl, hb, hc⟩ := h3 (by rw [marked_length]; omega)
      have q0 := (hp.cell b _ hb).trans (hc j (by rw [marked_length]; omega))
      simp only [marked_getD k n j hlt] at q0
      clear hc h3
      have hd : ((k + (j : Int)) != (k + (j : Int))) = false := by simp
      rw [marked_length] at h1
      go_wp2
      go_roundg (n - (j + 1))
      case measure => have := Hgk.out; omega
      case rel => exact ⟨j + 1, by have := Hgk.out; omega, by go_num, by go_num, hp⟩
    · have hjl : j = n := by omega
      subst hjl
      go_wp2
      go_ret
      exact ⟨rfl, hp⟩

set_option maxHeartbeats 1000000 in
theorem markCodeS_any (v : Value) (n B : Nat) (ys : List Value) (k : Int) (w : World) (h : OwnO w B 65 4 v n ys) (hn : n ≤ 1099511627776) (hk0 : 0 ≤ k) (hk1 : k ≤ 1099511627776) :
    Calls Try.prog 40 #[v, .int .i64 k] w fun e w' => e = .returned (.int .i64 (k + 4 * n)) ∧ w.grownBy w' v.ownBlock := by
  have H := Lib.hid h
  obtain ⟨A, c, rfl⟩ := h.form
  clear h
  go_enter Try.func40, Try.ntmps40
  go_wp2
  go_loopg [1, 5] n (fun gk m i wr => ∃ (j : Nat) (zs : List Value), gk + j = n ∧ i = .int .i64 j ∧ m = .int .i64 (k + 4 * j) ∧ OwnO wr B 65 4 (.slice A n c) n zs ∧ w.grownBy wr (Value.slice A n c).ownBlock)
  case atStart => exact ⟨0, ys, rfl, rfl, by go_num, H.out, grown_refl _ _⟩
  case round =>
    obtain ⟨j, zs, hgk, rfl, rfl, hown, hg⟩ := hrel
    have Hgk := Lib.hid hgk
    have Hown := Lib.hid hown
    have Hg := Lib.hid hg
    have hjn : j ≤ n := by omega
    clear hgk hown hg
    by_cases hlt : j < n
    · obtain ⟨g, off, c', hv, h1, h2, h3, h4⟩ := Hown.out.formSome (by omega)
      injection hv with e1 e2 e3
      subst e1
      subst e3
      obtain ⟨u0, q0⟩ := Hown.out.cellSome (j * 4) (by omega)
      obtain ⟨u1, q1⟩ := Hown.out.cellSome (j * 4 + 1) (by omega)
      obtain ⟨u2, q2⟩ := Hown.out.cellSome (j * 4 + 2) (by omega)
      obtain ⟨u3, q3⟩ := Hown.out.cellSome (j * 4 + 3) (by omega)
      rw [← Nat.add_assoc] at q1 q2 q3
      have f0 := Hown.out.frozen (off + j * 4)
      have f1 := Hown.out.frozen (off + j * 4 + 1)
      have f2 := Hown.out.frozen (off + j * 4 + 2)
      have f3 := Hown.out.frozen (off + j * 4 + 3)
      have s1 := Hown.out.stored (j * 4) (.int .i64 (k + 4 * j))
      have s2 := s1.stored (j * 4 + 1) (.int .i64 (k + 4 * j + 1))
      have s3 := s2.stored (j * 4 + 2) (.int .i64 (k + 4 * j + 1 + 1))
      have s4 := s3.stored (j * 4 + 3) (.int .i64 (k + 4 * j + 1 + 1 + 1))
      simp only [← Nat.add_assoc] at s4
      have HS := Lib.hid s4
      clear s1 s2 s3 s4
      go_wp2
      go_roundg (n - (j + 1))
      case measure => have := Hgk.out; omega
      case rel =>
        refine ⟨j + 1, _, by have := Hgk.out; omega, by go_num, by go_num, HS.out, ?_⟩
        exact grown_set (grown_set (grown_set (grown_set Hg.out)))
    · have hjl : j = n := by omega
      subst hjl
      go_wp2
      go_ret
      exact ⟨rfl, Hg.out⟩

end Go.Proofs.Ytmhaaihgepldhaa

namespace Go.Proofs.Ytmhaaihgepldhaa
open Go.RowKit

def ResInts (P : List Int → Prop) (w : World) (e : Ending) (w' : World) : Prop :=
  ∃ v xs, e = .returned v ∧ P xs ∧ xs.length ≤ 1048576 ∧ OwnO w' w.heap.size 3 1 v xs.length (xs.map (.int .i64)) ∧ Pure w w'
def ResInt (P : Int → Prop) (w : World) (e : Ending) (w' : World) : Prop :=
  ∃ x, e = .returned (.int .i64 x) ∧ P x ∧ Pure w w'

theorem codes_of_own {w : World} {B : Nat} {v : Value} {cs : List Cd} (h : OwnO w B 65 4 v cs.length ((List.range (cs.length * 4)).map (cdf cs))) : Codes w v cs :=
  Codes.of_ownO h rfl fun j hj => by simp [hj]
theorem Ints.of_ownO' {w : World} {B e : Nat} {v : Value} {ys : List Int} (h : OwnO w B e 1 v ys.length (ys.map (.int .i64))) : Ints w v ys := by
  unfold Ints
  refine Cells.of_ownO h fun j hj => ?_
  have : j < ys.length := by omega
  simp [List.getD_eq_getElem?_getD, this]
theorem ints_marked {w : World} {B n : Nat} {v : Value} {k : Int} (h : OwnO w B 3 1 v n ((marked k n).map (.int .i64))) : Ints w v (marked k n) := by
  refine Ints.of_ownO' (B := B) (e := 3) ?_
  rw [marked_length]; exact h
/-- What was there before a row of the call's own is not that row. -/
theorem own_apart {w1 w2 : World} {B e s n B' e' s' n' : Nat} {v v' : Value} {xs xs' : List Value} (h : OwnO w1 B e s v n xs) (h' : OwnO w2 B' e' s' v' n' xs') (hB : w1.heap.size ≤ B') : ∀ g, v.ownBlock = some g → some g ≠ v'.ownBlock := by
  intro g hg he
  have a := (h.lt g hg).2
  have b := (h'.lt g he.symm).1
  omega
theorem own_apart' {w1 w2 : World} {B e s n B' e' s' n' : Nat} {v v' : Value} {xs xs' : List Value} (h : OwnO w1 B e s v n xs) (h' : OwnO w2 B' e' s' v' n' xs') (hB : w1.heap.size ≤ B') : ∀ g, v'.ownBlock = some g → some g ≠ v.ownBlock := by
  intro g hg he
  have a := (h'.lt g hg).1
  have b := (h.lt g he.symm).2
  omega

end Go.Proofs.Ytmhaaihgepldhaa
