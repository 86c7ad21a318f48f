/- The graph of a program, as the reference makes it: its rows lie apart. Programs under way, as they are drawn: which blocks are open; in plain logic. No condition. -/
import Derived.Test.YtmhaaihgepldhaaKac
import Derived.Test.YtmhaaihgepldhaaKag
import Derived.Test.YtmhaaihgepldhaaKah

namespace Go.Proofs.Ytmhaaihgepldhaa
open Go.RowKit

/-- A table of rows of numbers, all of the call's own; the others lie apart from the first. -/
structure RowsX (w : World) (B : Nat) (q : Value) (n : Nat) (S : Nat → List Int) (vs : List Value) : Prop where
  o : RowsO w B q n S vs
  ap : ∀ j r0 r g, 1 ≤ j → vs[0]? = some r0 → vs[j]? = some r → r0.ownBlock = some g → r.ownBlock ≠ some g
theorem RowsX.start {S : Nat → List Int} (w : World) : RowsX (w.alloc (.cells #[] 53)) w.heap.size (.slice (some ⟨w.heap.size, 0, none⟩) 0 0) 0 S [] :=
  ⟨⟨OwnO.empty_lit (Nat.le_refl _), fun j hj => absurd hj (by omega)⟩, fun j r0 r g _ h => by simp at h⟩
theorem RowsX.pure {w w' : World} {B n : Nat} {q : Value} {S : Nat → List Int} {vs : List Value} (h : RowsX w B q n S vs) (hp : Pure w w') : RowsX w' B q n S vs := ⟨h.o.pure hp, h.ap⟩
theorem OwnO.less {w : World} {B B' e s n : Nat} {v : Value} {xs : List Value} (h : OwnO w B e s v n xs) (hB : B' ≤ B) : OwnO w B' e s v n xs := by
  obtain ⟨h1, h2⟩ := h
  refine ⟨h1, ?_⟩
  rcases h2 with h2 | ⟨g, off, cap, cur, a, b, c⟩
  · exact .inl h2
  · exact .inr ⟨g, off, cap, cur, a, Nat.le_trans hB b, c⟩
theorem RowsX.low {w : World} {B n : Nat} {q : Value} {S : Nat → List Int} {vs : List Value} (h : RowsX w B q n S vs) : ∀ r0 g, vs[0]? = some r0 → r0.ownBlock = some g → g < w.heap.size := by
  intro r0 g h0 hb
  have hl : vs.length = n := by have := h.o.1.1; omega
  obtain ⟨ra, e1, e2⟩ := h.o.2 0 (by have := (List.getElem?_eq_some_iff.1 h0).1; omega)
  rw [h0] at e1
  injection e1 with e1
  subst e1
  exact (e2.lt g hb).2
theorem RowsX.push {w w' : World} {B n : Nat} {q q' r : Value} {S : Nat → List Int} {vs : List Value} (h : RowsX w B q n S vs) (b0 : Nat) (hb0 : ∀ r0 g, vs[0]? = some r0 → r0.ownBlock = some g → g < b0) (hr : OwnO w b0 3 1 r (S n).length ((S n).map (.int .i64))) (hq : OwnO w' B 53 1 q' (n + 1) (vs ++ [r])) (hg : w.grownBy w' q.ownBlock) (hB : B ≤ b0) :
    RowsX w' B q' (n + 1) S (vs ++ [r]) := by
  have hl : vs.length = n := by have := h.o.1.1; omega
  refine ⟨h.o.push (hr.less hB) hq hg, fun j r0 r' g hj h0 h1 hb => ?_⟩
  by_cases hn : n = 0
  · have : vs = [] := List.length_eq_zero_iff.1 (by omega)
    subst this
    rw [List.nil_append, List.getElem?_singleton, if_neg (by omega)] at h1
    cases h1
  · rw [List.getElem?_append_left (by omega)] at h0
    by_cases hlt : j < n
    · rw [List.getElem?_append_left (by omega)] at h1
      exact h.ap j r0 r' g hj h0 h1 hb
    · have h3 := hb0 r0 g h0 hb
      rw [List.getElem?_append_right (by omega), List.getElem?_singleton] at h1
      split at h1
      · injection h1 with h1
        subst h1
        intro e
        have := (hr.lt g e).1
        omega
      · cases h1

def GXPost (cs : List Cd) (w : World) (e : Ending) (w' : World) : Prop := ∃ v vs, e = .returned v ∧ RowsX w' w.heap.size v (cs.length + 1) (gRow cs) vs ∧ Pure w w'

set_option maxHeartbeats 2000000 in
set_option maxRecDepth 100000 in
theorem sgraphx_ok (v : Value) (cs : List Cd) (w : World) (h : Codes w v cs) (hv : PValid cs) :
    Calls Try.prog 33 #[v] w (GXPost cs w) := by
  have H := Lib.hid h
  have HV := Lib.hid hv
  have hsmall := hv.2.1
  obtain ⟨A, c, rfl, hnc, hcm⟩ := h.form
  clear h hv
  have hO0 : Hid (RowsX (w.alloc (.cells #[] 53)) w.heap.size (.slice (some ⟨w.heap.size, 0, none⟩) 0 0) 0 (gRow cs) []) := Lib.hid (RowsX.start _)
  go_enter Try.func33, Try.ntmps33
  go_wp2
  go_loopg [4, 3] cs.length (fun gk i q wr => ∃ (k : Nat) (vs : List Value), gk + k = cs.length ∧ i = .int .i64 k ∧ Pure w wr ∧ RowsX wr w.heap.size q k (gRow cs) vs)
  case atStart => exact ⟨0, [], rfl, rfl, Pure.alloc (Pure.refl _) _, hO0.out⟩
  case round =>
    obtain ⟨k, vs, hgk, rfl, hp, hrows⟩ := hrel
    have Hgk := Lib.hid hgk
    have HR := Lib.hid hrows
    have hkn : k ≤ cs.length := by omega
    clear hgk hrows
    obtain ⟨Aq, cq, rfl⟩ := HR.out.o.1.form
    by_cases hlt : k < cs.length
    · obtain ⟨b, o, rfl, hb, hc⟩ := H.out.at_ hlt
      obtain ⟨cd, Hcd⟩ : ∃ cd, Hid (cs.getD k default = cd) := ⟨_, rfl⟩
      have hat := hc.keep hp hb
      rw [Hcd.out] at hat
      have hpi := HV.out.pi hlt
      unfold PI at hpi
      rw [Hcd.out] at hpi
      have HPI := Lib.hid hpi
      have q0 := hat.c0
      clear hc hat hpi
      have hbr : b < wr.heap.size := Nat.lt_of_lt_of_le hb hp.size
      go_wp2_with fail
      refine (spv_any _ cs _ (H.out.keep hp) (by omega) true (by simp [HV.out])).mono ?_
      rintro e w1 ⟨rfl, hp1⟩
      have hp2 := hp.trans hp1
      have HR1 := Lib.hid (HR.out.pure hp1)
      have p0 := (hp1.cell b (o + k * 4) hbr).trans q0
      clear q0
      have hb1 : b < w1.heap.size := Nat.lt_of_lt_of_le hbr hp1.size
      -- the row that is there first
      have hpl := Lib.hid (Pure.alloc (Pure.refl w1) (.cells #[.int .i64 ((k : Int) + 1)] 3))
      have hl0 : Hid (OwnO (w1.alloc (.cells #[.int .i64 ((k : Int) + 1)] 3)) wr.heap.size 3 1 (.slice (some ⟨w1.heap.size, 0, none⟩) 1 1) 1 [.int .i64 ((k : Int) + 1)]) := Lib.hid (OwnO.lit w1 #[.int .i64 ((k : Int) + 1)] 1 hp1.size (by omega) (by simp))
      have hgr : gRow cs k = succs cs k := if_pos hlt
      by_cases hop : Opens cd
      · have hd : (cd.op == 11) = true ∨ ((cd.op == 11) = false ∧ (cd.op == 13) = true) := by
          unfold Opens at hop
          rcases hop with h | h
          · exact .inl (by simp [h])
          · exact .inr ⟨by simp [h], by simp [h]⟩
        obtain ⟨e, oo, bi⟩ := HPI.out.1 hop
        have hends := bi.ends
        have he1 := bi.lt
        have he2 := bi.le
        have hoo : -1 ≤ oo ∧ oo < e := by
          rcases bi.el with h | ⟨q, h, _, h2, _⟩
          · omega
          · omega
        obtain ⟨hoo1, hoo2⟩ := hoo
        have hrow : gRow cs k = if (if 0 ≤ oo then oo + 1 else (e : Int) + 1) = (k : Int) + 1 then [(k : Int) + 1] else [(k : Int) + 1, if 0 ≤ oo then oo + 1 else (e : Int) + 1] := by
          rw [hgr]; unfold succs; simp only []; rw [Hcd.out, if_pos hop, hends]
        have Hrow := Lib.hid hrow
        have Hends := Lib.hid hends
        clear hrow hends hop bi hgr
        by_cases ho0 : 0 ≤ oo
        · have Hr2 : Hid (gRow cs k = if oo + 1 = (k : Int) + 1 then [(k : Int) + 1] else [(k : Int) + 1, oo + 1]) := by have := Hrow.out; rw [if_pos ho0] at this; exact this
          by_cases hto : oo + 1 = (k : Int) + 1
          · have Hr3 : Hid (gRow cs k = [(k : Int) + 1]) := by have := Hr2.out; rw [if_pos hto] at this; exact this
            have hdt : (oo + 1 != (k : Int) + 1) = false := by rw [bne_eq_false_iff_eq]; exact hto
            have hdt2 : (oo != (k : Int)) = false := by rw [bne_eq_false_iff_eq]; omega
            have Hto := Lib.hid hto
            clear hto
            rcases hd with hd | ⟨hd, hd2⟩
            all_goals
              go_wp2_with (first | (go_at_call 70; go_must (refine (l4End_any _ cs k _ _ (H.out.keep (hp2.trans hpl.out)) (by omega) hlt Hends.out).mono ?_); rintro e1 w3 ⟨rfl, hp3⟩; go_must (have hpX1 := Lib.hid (hpl.out.trans hp3); have HRX := Lib.hid (HR1.out.pure hpX1.out); have HPX := Lib.hid (hp2.trans hpX1.out); have HrX := Lib.hid (show OwnO w3 wr.heap.size 3 1 (.slice (some ⟨w1.heap.size, 0, none⟩) 1 1) (gRow cs k).length ((gRow cs k).map (.int .i64)) by rw [Hr3.out]; exact hl0.out.pure hp3))) | (at_builtin; go_must (refine wl_append1F elInts rfl _ _ rfl w.heap.size (.slice Aq k cq) k vs rfl HRX.out.o.1 w3.heap.size 1 [(.slice (some ⟨w1.heap.size, 0, none⟩) 1 1)] rfl (by simp) rfl rfl (by decide) (by omega) HPX.out.size ?_); intro q' wq hq' hg' hl'; go_must (have HF := Lib.hid (HRX.out.push wr.heap.size HR.out.low HrX.out hq' hg' hp.size); have HPF := Lib.hid (HPX.out.grown hg' (fun g hg => (HRX.out.o.1.lt g hg).1)); obtain ⟨A9, c9, rfl⟩ := hq'.form; clear hq' hg' hl')))
              go_roundg (cs.length - (k + 1))
              case measure => have := Hgk.out; omega
              case rel => exact ⟨k + 1, _, by have := Hgk.out; omega, by go_num, HPF.out, HF.out⟩
          · have Hr3 : Hid (gRow cs k = [(k : Int) + 1, oo + 1]) := by have := Hr2.out; rw [if_neg hto] at this; exact this
            have hdt : (oo + 1 != (k : Int) + 1) = true := by rw [bne_iff_ne]; exact hto
            have hdt2 : (oo != (k : Int)) = true := by rw [bne_iff_ne]; omega
            have Hto := Lib.hid hto
            clear hto
            rcases hd with hd | ⟨hd, hd2⟩
            all_goals
              go_wp2_with (first | (go_at_call 70; go_must (refine (l4End_any _ cs k _ _ (H.out.keep (hp2.trans hpl.out)) (by omega) hlt Hends.out).mono ?_); rintro e1 w3 ⟨rfl, hp3⟩; go_must (have hl3 := Lib.hid (hl0.out.pure hp3); have hp13 := Lib.hid (hpl.out.trans hp3))) | (at_builtin; refine wl_append1F elInt rfl _ _ rfl wr.heap.size (.slice (some ⟨w1.heap.size, 0, none⟩) 1 1) 1 [.int .i64 ((k : Int) + 1)] rfl hl3.out w3.heap.size 1 [.int .i64 (oo + 1)] rfl rfl rfl rfl (by decide) (by omega) (hp1.trans hp13.out).size ?_; intro r' w5 hr' hgr' hlr'; go_must (obtain ⟨A5, c5, rfl⟩ := hr'.form); go_must (have hpX1 := Lib.hid (hp13.out.grown hgr' (fun g hg => by simp [Value.ownBlock] at hg; omega)); have HRX := Lib.hid (HR1.out.pure hpX1.out); have HPX := Lib.hid (hp2.trans hpX1.out); have HrX := Lib.hid (show OwnO w5 wr.heap.size 3 1 (.slice A5 2 c5) (gRow cs k).length ((gRow cs k).map (.int .i64)) by rw [Hr3.out]; exact hr')); clear hr' hgr' hlr') | (at_builtin; go_must (refine wl_append1F elInts rfl _ _ rfl w.heap.size (.slice Aq k cq) k vs rfl HRX.out.o.1 w5.heap.size 1 [(.slice A5 2 c5)] rfl (by simp) rfl rfl (by decide) (by omega) HPX.out.size ?_); intro q' wq hq' hg' hl'; go_must (have HF := Lib.hid (HRX.out.push wr.heap.size HR.out.low HrX.out hq' hg' hp.size); have HPF := Lib.hid (HPX.out.grown hg' (fun g hg => (HRX.out.o.1.lt g hg).1)); obtain ⟨A9, c9, rfl⟩ := hq'.form; clear hq' hg' hl')))
              go_roundg (cs.length - (k + 1))
              case measure => have := Hgk.out; omega
              case rel => exact ⟨k + 1, _, by have := Hgk.out; omega, by go_num, HPF.out, HF.out⟩
        · have Hr2 : Hid (gRow cs k = if (e : Int) + 1 = (k : Int) + 1 then [(k : Int) + 1] else [(k : Int) + 1, (e : Int) + 1]) := by have := Hrow.out; rw [if_neg ho0] at this; exact this
          by_cases hto : (e : Int) + 1 = (k : Int) + 1
          · have Hr3 : Hid (gRow cs k = [(k : Int) + 1]) := by have := Hr2.out; rw [if_pos hto] at this; exact this
            have hdt : ((e : Int) + 1 != (k : Int) + 1) = false := by rw [bne_eq_false_iff_eq]; exact hto
            have hdt2 : ((e : Int) != (k : Int)) = false := by rw [bne_eq_false_iff_eq]; omega
            have Hto := Lib.hid hto
            clear hto
            rcases hd with hd | ⟨hd, hd2⟩
            all_goals
              go_wp2_with (first | (go_at_call 70; go_must (refine (l4End_any _ cs k _ _ (H.out.keep (hp2.trans hpl.out)) (by omega) hlt Hends.out).mono ?_); rintro e1 w3 ⟨rfl, hp3⟩; go_must (have hpX1 := Lib.hid (hpl.out.trans hp3); have HRX := Lib.hid (HR1.out.pure hpX1.out); have HPX := Lib.hid (hp2.trans hpX1.out); have HrX := Lib.hid (show OwnO w3 wr.heap.size 3 1 (.slice (some ⟨w1.heap.size, 0, none⟩) 1 1) (gRow cs k).length ((gRow cs k).map (.int .i64)) by rw [Hr3.out]; exact hl0.out.pure hp3))) | (at_builtin; go_must (refine wl_append1F elInts rfl _ _ rfl w.heap.size (.slice Aq k cq) k vs rfl HRX.out.o.1 w3.heap.size 1 [(.slice (some ⟨w1.heap.size, 0, none⟩) 1 1)] rfl (by simp) rfl rfl (by decide) (by omega) HPX.out.size ?_); intro q' wq hq' hg' hl'; go_must (have HF := Lib.hid (HRX.out.push wr.heap.size HR.out.low HrX.out hq' hg' hp.size); have HPF := Lib.hid (HPX.out.grown hg' (fun g hg => (HRX.out.o.1.lt g hg).1)); obtain ⟨A9, c9, rfl⟩ := hq'.form; clear hq' hg' hl')))
              go_roundg (cs.length - (k + 1))
              case measure => have := Hgk.out; omega
              case rel => exact ⟨k + 1, _, by have := Hgk.out; omega, by go_num, HPF.out, HF.out⟩
          · have Hr3 : Hid (gRow cs k = [(k : Int) + 1, (e : Int) + 1]) := by have := Hr2.out; rw [if_neg hto] at this; exact this
            have hdt : ((e : Int) + 1 != (k : Int) + 1) = true := by rw [bne_iff_ne]; exact hto
            have hdt2 : ((e : Int) != (k : Int)) = true := by rw [bne_iff_ne]; omega
            have Hto := Lib.hid hto
            clear hto
            rcases hd with hd | ⟨hd, hd2⟩
            all_goals
              go_wp2_with (first | (go_at_call 70; go_must (refine (l4End_any _ cs k _ _ (H.out.keep (hp2.trans hpl.out)) (by omega) hlt Hends.out).mono ?_); rintro e1 w3 ⟨rfl, hp3⟩; go_must (have hl3 := Lib.hid (hl0.out.pure hp3); have hp13 := Lib.hid (hpl.out.trans hp3))) | (at_builtin; refine wl_append1F elInt rfl _ _ rfl wr.heap.size (.slice (some ⟨w1.heap.size, 0, none⟩) 1 1) 1 [.int .i64 ((k : Int) + 1)] rfl hl3.out w3.heap.size 1 [.int .i64 ((e : Int) + 1)] rfl rfl rfl rfl (by decide) (by omega) (hp1.trans hp13.out).size ?_; intro r' w5 hr' hgr' hlr'; go_must (obtain ⟨A5, c5, rfl⟩ := hr'.form); go_must (have hpX1 := Lib.hid (hp13.out.grown hgr' (fun g hg => by simp [Value.ownBlock] at hg; omega)); have HRX := Lib.hid (HR1.out.pure hpX1.out); have HPX := Lib.hid (hp2.trans hpX1.out); have HrX := Lib.hid (show OwnO w5 wr.heap.size 3 1 (.slice A5 2 c5) (gRow cs k).length ((gRow cs k).map (.int .i64)) by rw [Hr3.out]; exact hr')); clear hr' hgr' hlr') | (at_builtin; go_must (refine wl_append1F elInts rfl _ _ rfl w.heap.size (.slice Aq k cq) k vs rfl HRX.out.o.1 w5.heap.size 1 [(.slice A5 2 c5)] rfl (by simp) rfl rfl (by decide) (by omega) HPX.out.size ?_); intro q' wq hq' hg' hl'; go_must (have HF := Lib.hid (HRX.out.push wr.heap.size HR.out.low HrX.out hq' hg' hp.size); have HPF := Lib.hid (HPX.out.grown hg' (fun g hg => (HRX.out.o.1.lt g hg).1)); obtain ⟨A9, c9, rfl⟩ := hq'.form; clear hq' hg' hl')))
              go_roundg (cs.length - (k + 1))
              case measure => have := Hgk.out; omega
              case rel => exact ⟨k + 1, _, by have := Hgk.out; omega, by go_num, HPF.out, HF.out⟩
      · have hd11 : (cd.op == 11) = false := by unfold Opens at hop; rw [beq_eq_false_iff_ne]; omega
        have hd13 : (cd.op == 13) = false := by unfold Opens at hop; rw [beq_eq_false_iff_ne]; omega
        have Hop := Lib.hid hop
        clear hop
        by_cases h12 : cd.op = 12
        · have hd12 : (cd.op == 12) = true := by simp [h12]
          obtain ⟨bb, e, bi⟩ := HPI.out.2.1 h12
          have he1 := bi.lt
          have he2 := bi.le
          have har : aroundAt cs k = bb := by
            rcases bi.el with e' | ⟨q, e', _, _, _, e3, _⟩
            · omega
            · have : q = k := by omega
              subst this; exact e3
          have hrow : gRow cs k = [(e : Int) + 1] := by
            rw [hgr]; unfold succs; simp only []; rw [Hcd.out, if_neg Hop.out, if_pos h12, har, Int.toNat_natCast, bi.ends]
          have Hrow := Lib.hid hrow
          have Hends := Lib.hid bi.ends
          have Har := Lib.hid har
          clear hrow har bi hgr h12
          go_wp2_with (first | (go_at_call 71; go_must (refine (l4Around_any _ cs k _ _ (H.out.keep (hp2.trans hpl.out)) (by omega) (by omega) Har.out).mono ?_); rintro e1 w3 ⟨rfl, hp3⟩; go_must (have hp13 := Lib.hid (hpl.out.trans hp3))) | (go_at_call 70; go_must (refine (l4End_any _ cs bb _ _ (H.out.keep (hp2.trans hp13.out)) (by omega) (by omega) Hends.out).mono ?_); rintro e1 w4 ⟨rfl, hp4⟩; go_must (have hpX1 := Lib.hid ((hp13.out.trans hp4).alloc (.cells #[.int .i64 ((e : Int) + 1)] 3)); have HRX := Lib.hid (HR1.out.pure hpX1.out); have HPX := Lib.hid (hp2.trans hpX1.out); have HrX := Lib.hid (show OwnO (w4.alloc (.cells #[.int .i64 ((e : Int) + 1)] 3)) wr.heap.size 3 1 (.slice (some ⟨w4.heap.size, 0, none⟩) 1 1) (gRow cs k).length ((gRow cs k).map (.int .i64)) by rw [Hrow.out]; exact OwnO.lit w4 #[.int .i64 ((e : Int) + 1)] 1 (hp1.trans (hp13.out.trans hp4)).size (by omega) (by simp)))) | (at_builtin; go_must (refine wl_append1F elInts rfl _ _ rfl w.heap.size (.slice Aq k cq) k vs rfl HRX.out.o.1 (w4.heap.size + 1) 1 [(.slice (some ⟨w4.heap.size, 0, none⟩) 1 1)] rfl (by simp) rfl rfl (by decide) (by omega) HPX.out.size ?_); intro q' wq hq' hg' hl'; go_must (have HF := Lib.hid (HRX.out.push wr.heap.size HR.out.low HrX.out hq' hg' hp.size); have HPF := Lib.hid (HPX.out.grown hg' (fun g hg => (HRX.out.o.1.lt g hg).1)); obtain ⟨A9, c9, rfl⟩ := hq'.form; clear hq' hg' hl')))
          go_roundg (cs.length - (k + 1))
          case measure => have := Hgk.out; omega
          case rel => exact ⟨k + 1, _, by have := Hgk.out; omega, by go_num, HPF.out, HF.out⟩
        · have hd12 : (cd.op == 12) = false := by simp [h12]
          by_cases h14 : cd.op = 14
          · have hd14 : (cd.op == 14) = true := by simp [h14]
            obtain ⟨bb, oo, bi⟩ := HPI.out.2.2 h14
            have he1 := bi.lt
            have he2 := bi.le
            have har : aroundAt cs k = bb := bi.ar
            have hbn : bb < cs.length := by omega
            obtain ⟨b0, o0, hb0e, hb0, hc0⟩ := H.out.at_ hbn
            injection hb0e with hb0e
            injection hb0e with e1 e2
            subst e1 e2
            obtain ⟨cp, Hcp⟩ : ∃ cp, Hid (cs.getD bb default = cp) := ⟨_, rfl⟩
            rw [Hcp.out] at hc0
            have hcp := Lib.hid ((hc0.keep hp2 hb0).c0)
            clear hc0
            have hrow : gRow cs k = if cp.op = 13 then [(bb : Int) + 1, (k : Int) + 1] else [(k : Int) + 1] := by
              rw [hgr]; unfold succs; simp only []; rw [Hcd.out, if_neg Hop.out, if_neg h12, if_pos h14, har, Int.toNat_natCast, Hcp.out]
            have Hrow := Lib.hid hrow
            have Har := Lib.hid har
            clear hrow har bi hgr h12 h14
            by_cases hl13 : cp.op = 13
            · have hdl : (cp.op == 13) = true := by simp [hl13]
              have Hr3 : Hid (gRow cs k = [(bb : Int) + 1, (k : Int) + 1]) := by have := Hrow.out; rw [if_pos hl13] at this; exact this
              clear hl13
              go_wp2_with (first | (go_at_call 71; go_must (refine (l4Around_any _ cs k _ _ (H.out.keep (hp2.trans hpl.out)) (by omega) (by omega) Har.out).mono ?_); rintro e1 w3 ⟨rfl, hp3⟩; go_must (have hp13 := Lib.hid (hpl.out.trans hp3)); go_must (have hcq := (hp13.out.cell b (o + bb * 4) hb1).trans hcp.out; have hpX1 := Lib.hid (hp13.out.alloc (.cells #[.int .i64 ((bb : Int) + 1), .int .i64 ((k : Int) + 1)] 3)); have HRX := Lib.hid (HR1.out.pure hpX1.out); have HPX := Lib.hid (hp2.trans hpX1.out); have HrX := Lib.hid (show OwnO (w3.alloc (.cells #[.int .i64 ((bb : Int) + 1), .int .i64 ((k : Int) + 1)] 3)) wr.heap.size 3 1 (.slice (some ⟨w3.heap.size, 0, none⟩) 2 2) (gRow cs k).length ((gRow cs k).map (.int .i64)) by rw [Hr3.out]; exact OwnO.lit w3 #[.int .i64 ((bb : Int) + 1), .int .i64 ((k : Int) + 1)] 2 (hp1.trans hp13.out).size (by omega) (by simp)))) | (at_builtin; go_must (refine wl_append1F elInts rfl _ _ rfl w.heap.size (.slice Aq k cq) k vs rfl HRX.out.o.1 (w3.heap.size + 1) 1 [(.slice (some ⟨w3.heap.size, 0, none⟩) 2 2)] rfl (by simp) rfl rfl (by decide) (by omega) HPX.out.size ?_); intro q' wq hq' hg' hl'; go_must (have HF := Lib.hid (HRX.out.push wr.heap.size HR.out.low HrX.out hq' hg' hp.size); have HPF := Lib.hid (HPX.out.grown hg' (fun g hg => (HRX.out.o.1.lt g hg).1)); obtain ⟨A9, c9, rfl⟩ := hq'.form; clear hq' hg' hl')))
              go_roundg (cs.length - (k + 1))
              case measure => have := Hgk.out; omega
              case rel => exact ⟨k + 1, _, by have := Hgk.out; omega, by go_num, HPF.out, HF.out⟩
            · have hdl : (cp.op == 13) = false := by simp [hl13]
              have Hr3 : Hid (gRow cs k = [(k : Int) + 1]) := by have := Hrow.out; rw [if_neg hl13] at this; exact this
              clear hl13
              go_wp2_with (first | (go_at_call 71; go_must (refine (l4Around_any _ cs k _ _ (H.out.keep (hp2.trans hpl.out)) (by omega) (by omega) Har.out).mono ?_); rintro e1 w3 ⟨rfl, hp3⟩; go_must (have hp13 := Lib.hid (hpl.out.trans hp3)); go_must (have hcq := (hp13.out.cell b (o + bb * 4) hb1).trans hcp.out; have hpX1 := Lib.hid (hp13.out); have HRX := Lib.hid (HR1.out.pure hpX1.out); have HPX := Lib.hid (hp2.trans hpX1.out); have HrX := Lib.hid (show OwnO w3 wr.heap.size 3 1 (.slice (some ⟨w1.heap.size, 0, none⟩) 1 1) (gRow cs k).length ((gRow cs k).map (.int .i64)) by rw [Hr3.out]; exact hl0.out.pure hp3))) | (at_builtin; go_must (refine wl_append1F elInts rfl _ _ rfl w.heap.size (.slice Aq k cq) k vs rfl HRX.out.o.1 w3.heap.size 1 [(.slice (some ⟨w1.heap.size, 0, none⟩) 1 1)] rfl (by simp) rfl rfl (by decide) (by omega) HPX.out.size ?_); intro q' wq hq' hg' hl'; go_must (have HF := Lib.hid (HRX.out.push wr.heap.size HR.out.low HrX.out hq' hg' hp.size); have HPF := Lib.hid (HPX.out.grown hg' (fun g hg => (HRX.out.o.1.lt g hg).1)); obtain ⟨A9, c9, rfl⟩ := hq'.form; clear hq' hg' hl')))
              go_roundg (cs.length - (k + 1))
              case measure => have := Hgk.out; omega
              case rel => exact ⟨k + 1, _, by have := Hgk.out; omega, by go_num, HPF.out, HF.out⟩
          · have hd14 : (cd.op == 14) = false := by simp [h14]
            have Hr3 : Hid (gRow cs k = [(k : Int) + 1]) := by
              rw [hgr]; unfold succs; simp only []; rw [Hcd.out, if_neg Hop.out, if_neg h12, if_neg h14]; exact Lib.hid rfl
            clear h12 h14 hgr
            have hpX1 := Lib.hid hpl.out
            have HRX := Lib.hid (HR1.out.pure hpX1.out)
            have HPX := Lib.hid (hp2.trans hpX1.out)
            have HrX : Hid (OwnO (w1.alloc (.cells #[.int .i64 ((k : Int) + 1)] 3)) wr.heap.size 3 1 (.slice (some ⟨w1.heap.size, 0, none⟩) 1 1) (gRow cs k).length ((gRow cs k).map (.int .i64))) := by rw [Hr3.out]; exact hl0.out
            go_wp2_with (at_builtin; go_must (refine wl_append1F elInts rfl _ _ rfl w.heap.size (.slice Aq k cq) k vs rfl HRX.out.o.1 (w1.heap.size + 1) 1 [(.slice (some ⟨w1.heap.size, 0, none⟩) 1 1)] rfl (by simp) rfl rfl (by decide) (by omega) HPX.out.size ?_); intro q' wq hq' hg' hl'; go_must (have HF := Lib.hid (HRX.out.push wr.heap.size HR.out.low HrX.out hq' hg' hp.size); have HPF := Lib.hid (HPX.out.grown hg' (fun g hg => (HRX.out.o.1.lt g hg).1)); obtain ⟨A9, c9, rfl⟩ := hq'.form; clear hq' hg' hl'))
            go_roundg (cs.length - (k + 1))
            case measure => have := Hgk.out; omega
            case rel => exact ⟨k + 1, _, by have := Hgk.out; omega, by go_num, HPF.out, HF.out⟩
    · have hkl : k = cs.length := by omega
      subst hkl
      go_wp2_with fail
      refine (spv_any _ cs _ (H.out.keep hp) (by omega) true (by simp [HV.out])).mono ?_
      rintro e w1 ⟨rfl, hp1⟩
      have hp2 := hp.trans hp1
      have HR1 := Lib.hid (HR.out.pure hp1)
      have hpX1 := Lib.hid (Pure.alloc (Pure.refl w1) (.cells #[] 3))
      have HRX := Lib.hid (HR1.out.pure hpX1.out)
      have HPX := Lib.hid (hp2.trans hpX1.out)
      have hge : gRow cs cs.length = [] := if_neg (by omega)
      have HrX : Hid (OwnO (w1.alloc (.cells #[] 3)) wr.heap.size 3 1 (.slice (some ⟨w1.heap.size, 0, none⟩) 0 0) (gRow cs cs.length).length ((gRow cs cs.length).map (.int .i64))) := by rw [hge]; exact OwnO.empty_lit hp1.size
      clear hge
      go_wp2_with (at_builtin; go_must (refine wl_append1F elInts rfl _ _ rfl w.heap.size (.slice Aq cs.length cq) cs.length vs rfl HRX.out.o.1 (w1.heap.size + 1) 1 [(.slice (some ⟨w1.heap.size, 0, none⟩) 0 0)] rfl (by simp) rfl rfl (by decide) (by omega) HPX.out.size ?_); intro q' wq hq' hg' hl'; go_must (have HF := Lib.hid (HRX.out.push wr.heap.size HR.out.low HrX.out hq' hg' hp.size); have HPF := Lib.hid (HPX.out.grown hg' (fun g hg => (HRX.out.o.1.lt g hg).1)); obtain ⟨A9, c9, rfl⟩ := hq'.form; clear hq' hg' hl'))
      go_ret
      exact ⟨_, _, rfl, HF.out, HPF.out⟩

end Go.Proofs.Ytmhaaihgepldhaa

namespace Go.Proofs.Ytmhaaihgepldhaa

/-- A valid instruction that is not part of the structure. -/
def PlainCd (c : Cd) : Prop := CdOk c ∧ c.op ≠ 11 ∧ c.op ≠ 12 ∧ c.op ≠ 13 ∧ c.op ≠ 14
/-- What a scan finds: nothing open (0), or one block more: an if (11), an if behind its else (12), a loop (13). -/
def Mid (dep t : Nat) (cs : List Cd) : Prop :=
  (∀ c ∈ cs, CdOk c) ∧ ∀ k (s : List (Nat × Int)), s.length ≤ dep → if t = 0 then sscan cs k s = some s else ∃ p, sscan cs k s = some ((p, (t : Int)) :: s)
section
variable {dep t : Nat} {cs ds : List Cd} {c : Cd}
theorem oks_app (h : ∀ c ∈ cs, CdOk c) (h' : ∀ c ∈ ds, CdOk c) : ∀ c ∈ cs ++ ds, CdOk c := fun c hc => (List.mem_append.1 hc).elim (h c) (h' c)
theorem oks_one (h : CdOk c) : ∀ x ∈ [c], CdOk x := fun x hx => by simp at hx; subst hx; exact h
theorem sscan_one (c : Cd) (k : Nat) (s : List (Nat × Int)) : sscan [c] k s = sstep s k c := by
  simp only [sscan]; cases sstep s k c <;> rfl
theorem Mid.nil (dep : Nat) : Mid dep 0 [] := ⟨fun c h => by simp at h, fun k s _ => by simp [sscan]⟩
theorem Mid.plain (h : Mid dep t cs) (hc : PlainCd c) : Mid dep t (cs ++ [c]) := by
  refine ⟨oks_app h.1 (oks_one hc.1), fun k s hs => ?_⟩
  have hst : ∀ (st : List (Nat × Int)) j, sstep st j c = some st := fun st j => by
    unfold sstep
    rw [if_neg (by have := hc.2; omega), if_neg (by have := hc.2; omega), if_neg (by have := hc.2; omega)]
  have := h.2 k s hs
  by_cases ht : t = 0
  · rw [if_pos ht] at this ⊢
    rw [sscan_append, this, Option.bind_some, sscan_one, hst]
  · rw [if_neg ht] at this ⊢
    obtain ⟨p, hp⟩ := this
    exact ⟨p, by rw [sscan_append, hp, Option.bind_some, sscan_one, hst]⟩
theorem Mid.opens (h : Mid dep 0 cs) (hd : dep < 3) (hc : CdOk c) (ho : c.op = (t : Int)) (ht : t = 11 ∨ t = 13) : Mid dep t (cs ++ [c]) := by
  refine ⟨oks_app h.1 (oks_one hc), fun k s hs => ?_⟩
  rw [if_neg (by omega)]
  have := h.2 k s hs
  rw [if_pos rfl] at this
  refine ⟨k + cs.length, ?_⟩
  rw [sscan_append, this, Option.bind_some, sscan_one]
  unfold sstep
  rw [if_pos (by rw [ho]; omega), if_pos (by omega), ho]
theorem Mid.els (h : Mid dep 11 cs) : Mid dep 12 (cs ++ [⟨12, 0, 0, 0⟩]) := by
  refine ⟨oks_app h.1 (oks_one (.inr (.inr (.inr (.inr (.inr ⟨.inr (.inl rfl), rfl, rfl, rfl⟩)))))), fun k s hs => ?_⟩
  rw [if_neg (by omega)]
  have := h.2 k s hs
  rw [if_neg (by omega)] at this
  obtain ⟨p, hp⟩ := this
  refine ⟨p, ?_⟩
  rw [sscan_append, hp, Option.bind_some, sscan_one]
  rfl
theorem Mid.end_ (h : Mid dep t cs) (ht : t ≠ 0) : Mid dep 0 (cs ++ [⟨14, 0, 0, 0⟩]) := by
  refine ⟨oks_app h.1 (oks_one (.inr (.inr (.inr (.inr (.inr ⟨.inr (.inr rfl), rfl, rfl, rfl⟩)))))), fun k s hs => ?_⟩
  rw [if_pos rfl]
  have := h.2 k s hs
  rw [if_neg ht] at this
  obtain ⟨p, hp⟩ := this
  rw [sscan_append, hp, Option.bind_some, sscan_one]
  rfl
theorem Mid.body (h : Mid dep t cs) (ht : t ≠ 0) (h' : Mid (dep + 1) 0 ds) : Mid dep t (cs ++ ds) := by
  refine ⟨oks_app h.1 h'.1, fun k s hs => ?_⟩
  rw [if_neg ht]
  have := h.2 k s hs
  rw [if_neg ht] at this
  obtain ⟨p, hp⟩ := this
  refine ⟨p, ?_⟩
  have h2 := h'.2 (k + cs.length) ((p, (t : Int)) :: s) (by simp; omega)
  rw [if_pos rfl] at h2
  rw [sscan_append, hp, Option.bind_some, h2]
theorem Mid.app (h : Mid dep 0 cs) (h' : Mid dep 0 ds) : Mid dep 0 (cs ++ ds) := by
  refine ⟨oks_app h.1 h'.1, fun k s hs => ?_⟩
  have h1 := h.2 k s hs
  have h2 := h'.2 (k + cs.length) s hs
  rw [if_pos rfl] at h1 h2 ⊢
  rw [sscan_append, h1, Option.bind_some, h2]
theorem Mid.valid (h : Mid 0 0 cs) (hl : cs.length ≤ 40) : PValid cs := by
  refine ⟨h.1, hl, ?_⟩
  have := h.2 0 [] (Nat.le_refl 0)
  rwa [if_pos rfl] at this
theorem regQ {z : Nat} (h : z < 4) : Reg (z : Int) := by unfold Reg; omega
theorem opsQ {o z x y : Int} (h : o ≤ 10) : (⟨o, z, x, y⟩ : Cd).op ≠ 11 ∧ (⟨o, z, x, y⟩ : Cd).op ≠ 12 ∧ (⟨o, z, x, y⟩ : Cd).op ≠ 13 ∧ (⟨o, z, x, y⟩ : Cd).op ≠ 14 :=
  ⟨by show o ≠ 11; omega, by show o ≠ 12; omega, by show o ≠ 13; omega, by show o ≠ 14; omega⟩
theorem plainQ1 {z : Nat} {y : Int} (h : z < 4) (hy : 0 ≤ y ∧ y < 256) : PlainCd ⟨1, z, y, 0⟩ := ⟨.inl ⟨rfl, regQ h, ⟨hy.1, by show y ≤ 255; have := hy.2; omega⟩, rfl⟩, opsQ (by decide)⟩
theorem plainQ2 {z : Nat} (h : z < 4) : PlainCd ⟨2, z, 0, 0⟩ := ⟨.inr (.inl ⟨.inl rfl, regQ h, rfl, rfl⟩), opsQ (by decide)⟩
theorem plainQ3 {o : Int} {z x : Nat} (ho : o = 3 ∨ o = 4 ∨ o = 5 ∨ o = 8 ∨ o = 9) (h : z < 4) (hx : x < 4) : PlainCd ⟨o, z, x, 0⟩ :=
  ⟨.inr (.inr (.inl ⟨ho, regQ h, regQ hx, rfl⟩)), opsQ (by omega)⟩
theorem plainQ4 {o : Int} {z x y : Nat} (ho : o = 6 ∨ o = 7) (h : z < 4) (hx : x < 4) (hy : y < 4) : PlainCd ⟨o, z, x, y⟩ :=
  ⟨.inr (.inr (.inr (.inl ⟨ho, regQ h, regQ hx, regQ hy⟩))), opsQ (by omega)⟩
theorem plainQ10 : PlainCd ⟨10, 0, 0, 0⟩ := ⟨.inr (.inr (.inr (.inr (.inr ⟨.inl rfl, rfl, rfl, rfl⟩)))), opsQ (by decide)⟩
theorem ifQ {z : Nat} (h : z < 4) : CdOk ⟨11, z, 0, 0⟩ := .inr (.inl ⟨.inr rfl, regQ h, rfl, rfl⟩)
theorem loopQ {z x : Nat} (h : z < 4) (hx : x < 4) : CdOk ⟨13, z, 1 + (x : Int), 0⟩ := .inr (.inr (.inr (.inr (.inl ⟨rfl, regQ h, ⟨by show (1 : Int) ≤ 1 + (x : Int); omega, by show 1 + (x : Int) ≤ 4; omega⟩, rfl⟩))))
end

end Go.Proofs.Ytmhaaihgepldhaa
