/- The reference's run by the least places: the walk. The reference's RunLeast and LeastTrace, for all arguments. What the laws' walks share. No condition. -/
import Derived.Test.YtajaonejpggcbaaKac
import Derived.Test.YtajaonejpggcbaaKdg
import Derived.Test.YtajaonejpggcbaaKdj

namespace Go.Proofs.Ytajaonejpggcbaa
open Go.RowKit

def SRunP (_n : Nat) (mem : List Int) (s : CS) (w : World) (e : Ending) (w' : World) : Prop :=
  ∃ AL nL cL v vb, e = .returned (.tuple #[.agg #[.slice AL nL cL, v], vb]) ∧ OwnO w' w.heap.size 3 1 v mem.length (memL mem.length s.M) ∧ OwnO w' w.heap.size 84 2 vb s.H.length (beatsC s.H) ∧ Pure w w'

/-- The beats grow: the lanes stay. -/
theorem qrun_beats {o : QO} {w w' W : World} {vr vt : Nat → Value} {L : Nat → Ln} {M : Nat → Int} {u : Value} {n : Nat} {xs : List Value} (h : QRun o w vr vt L M) (hb : OwnO w W.heap.size 84 2 u n xs) (hw : o.w0 = W) (hc : Chg (fun b => u.ownBlock = some b) w w') : QRun o w' vr vt L M := by
  subst hw
  obtain ⟨cur, b1, _⟩ := h.lanes
  obtain ⟨cur2, b2⟩ := h.mem.own.heap (g := o.gm) rfl
  refine h.other hc (fun b hb2 => (hb.lt b hb2).1) (fun e => hb.ne_heap b1 (by decide) _ e rfl) (fun e => hb.ne_heap b2 (by decide) _ e rfl) (fun k hk g hg e => ?_)
  rcases hg with hg | hg
  · obtain ⟨cur3, b3⟩ := (h.lnb k hk).2.1.heap hg
    exact hb.ne_heap b3 (by decide) _ e rfl
  · obtain ⟨cur3, b3⟩ := (h.lnb k hk).2.2.heap hg
    exact hb.ne_heap b3 (by decide) _ e rfl

set_option maxHeartbeats 8000000 in
set_option maxRecDepth 100000 in
theorem srunleast_any (vl vm : Value) (cs : List Cd) (n : Nat) (mem : List Int) (w : World) (h : Codes w vl cs) (hm : Ints w vm mem) (hok : RunOk cs n mem) (N : Nat) (hN : N ≤ 40000) (hd : DoneL cs n (lIter cs n mem.length N (startCS mem)).L) :
    Calls Try.prog 61 #[vl, .int .i64 (n : Nat), vm] w (SRunP n mem (lIter cs n mem.length N (startCS mem)) w) := by
  have H := Lib.hid h
  have HM := Lib.hid hm
  have HOK := Lib.hid hok
  have HD := Lib.hid hd
  have HMO : Hid (MemOk mem) := Lib.hid ⟨hok.2.2.1, hok.2.2.2⟩
  obtain ⟨hv, ⟨hn1, hn8⟩, ⟨hm1, hm32⟩, _⟩ := hok
  have HV := Lib.hid hv
  have h40 := hv.2.1
  obtain ⟨A, c, rfl, hnc, hcm⟩ := h.form
  obtain ⟨Am, cm0, rfl⟩ := hm.form
  clear h hm hv hd
  go_enter Try.func61, Try.ntmps61
  go_wp2_with fail
  refine (snewcrowd_any _ mem n _ (HM.out.keep (by repeat (first | assumption | exact Pure.refl _ | refine Pure.drewN ?_ _ | refine Pure.drew ?_ | refine Pure.alloc ?_ _ | refine Pure.setCell ?_ (by simp <;> omega) _))) HMO.out (by omega) (by omega)).mono ?_
  rintro e w1 ⟨gl, cl, gm, cmm, rows, rfl, hcr, hcl, hcl2, hp1⟩
  have HP1 := Lib.hid ((show Pure w ((w.alloc (.cells #[.slice none 0 0, .slice none 0 0] 33)).alloc (.cells #[] 84)) from (by repeat (first | assumption | exact Pure.refl _ | refine Pure.drewN ?_ _ | refine Pure.drew ?_ | refine Pure.alloc ?_ _ | refine Pure.setCell ?_ (by simp <;> omega) _))).trans hp1)
  have hb0 : OwnO ((w.alloc (.cells #[.slice none 0 0, .slice none 0 0] 33)).alloc (.cells #[] 84)) w.heap.size 84 2 (.slice (some ⟨w.heap.size + 1, 0, none⟩) 0 0) 0 [] := by
    have h := OwnO.empty_lit (w := w.alloc (.cells #[.slice none 0 0, .slice none 0 0] 33)) (B := w.heap.size) (e := 84) (s := 2) (by simp)
    rw [show (w.alloc (.cells #[.slice none 0 0, .slice none 0 0] 33)).heap.size = w.heap.size + 1 from by simp] at h
    exact h
  have hres : ((w.alloc (.cells #[.slice none 0 0, .slice none 0 0] 33)).alloc (.cells #[] 84)).heap[w.heap.size]? = some (.cells #[.slice none 0 0, .slice none 0 0] 33 (0, 0)) := (Chg.of_pure (S := fun _ => False) (show Pure _ _ from (by repeat (first | assumption | exact Pure.refl _ | refine Pure.drewN ?_ _ | refine Pure.drew ?_ | refine Pure.alloc ?_ _ | refine Pure.setCell ?_ (by simp <;> omega) _)))).heap (heap_alloc_new w _) id
  have hBT1 := hb0.pure hp1
  have hres1 := (Chg.of_pure (S := fun _ => False) hp1).heap hres id
  have hsz1 : w.heap.size + 2 ≤ w1.heap.size := by have := hp1.size; simpa using this
  have hcrB : CrowdP w.heap.size w1 n mem gl cl gm cmm rows := ⟨hcr.1.base (by simp; omega), OwnO.base' hcr.2 (by simp; omega)⟩
  obtain ⟨wc, Hwc⟩ : ∃ wc, Hid (w1.alloc (.cells #[.slice (some ⟨gl, 0, none⟩) n cl, .slice (some ⟨gm, 0, none⟩) mem.length cmm] 33) = wc) := ⟨_, Lib.hid rfl⟩
  have hpc : Pure w1 wc := by rw [← Hwc.out]; exact (by repeat (first | assumption | exact Pure.refl _ | refine Pure.drewN ?_ _ | refine Pure.drew ?_ | refine Pure.alloc ?_ _ | refine Pure.setCell ?_ (by simp <;> omega) _))
  have hgc : wc.heap[w1.heap.size]? = some (.cells #[.slice (some ⟨gl, 0, none⟩) n cl, .slice (some ⟨gm, 0, none⟩) mem.length cmm] 33 (0, 0)) := by rw [← Hwc.out]; exact heap_alloc_new w1 _
  obtain ⟨o, Ho⟩ : ∃ o, Hid ((⟨w, cs, .slice A cs.length c, n, mem.length, gl, cl, gm, cmm⟩ : QO) = o) := ⟨_, Lib.hid rfl⟩
  have HQ0 : Hid (QRun o wc (fun k => .slice (some ⟨rows k, 0, none⟩) 4 4) (fun _ => .slice none 0 0) (startCS mem).L (startCS mem).M) := Lib.hid (by rw [← Ho.out]; exact crowd_q HOK.out H.out HP1.out hcrB hcl hcl2 hpc)
  have HB0 := Lib.hid (hBT1.pure hpc)
  have HRS := Lib.hid ((Chg.of_pure (S := fun _ => False) hpc).heap hres1 id)
  have HGC := Lib.hid hgc
  obtain ⟨gc, Hgc⟩ : ∃ gc, Hid (w1.heap.size = gc) := ⟨_, Lib.hid rfl⟩
  rw [Hgc.out] at HGC
  have hgcw : w.heap.size + 2 ≤ gc := by rw [← Hgc.out]; exact hsz1
  have HW0 := Lib.hid (OnC.start HV.out n mem)
  have HDN : Hid (∀ (u : World) (vr vt : Nat → Value) (s : CS) (B : Bool), (B = true ↔ DoneL cs n s.L) → QRun o u vr vt s.L s.M → OnC cs n s.L → Calls Try.prog 92 #[.agg #[.slice (some ⟨gl, 0, none⟩) n cl, .slice (some ⟨gm, 0, none⟩) mem.length cmm], .slice A cs.length c] u fun e w' => e = .returned (.bool B) ∧ Pure u w') := Lib.hid (by
    have e := Ho.out; subst e
    exact fun u vr vt s B hB hr hw => sdone_any _ u vr vt s.L s.M hr h40 hw.le B hB)
  have HLS : Hid (∀ (u : World) (vr vt : Nat → Value) (s : CS), QRun o u vr vt s.L s.M → OnC cs n s.L → Calls Try.prog 51 #[.agg #[.slice (some ⟨gl, 0, none⟩) n cl, .slice (some ⟨gm, 0, none⟩) mem.length cmm], .slice A cs.length c] u fun e w' => e = .returned (.tuple #[.int .i64 ((leastTo cs s.L n).1 : Nat), .int .i64 ((leastTo cs s.L n).2 : Nat)]) ∧ Pure u w') := Lib.hid (by
    have e := Ho.out; subst e
    exact fun u vr vt s hr hw => sleast_any _ u vr vt s.L s.M hr h40 hw.le)
  have HFR : Hid (∀ (u : World) (vr vt : Nat → Value) (s : CS), QRun o u vr vt s.L s.M → OnC cs n s.L → Calls Try.prog 94 #[.agg #[.slice (some ⟨gl, 0, none⟩) n cl, .slice (some ⟨gm, 0, none⟩) mem.length cmm], .slice A cs.length c] u fun e w' => e = .returned (.tuple #[]) ∧ QRun o w' vr vt (passS cs n s).L (passS cs n s).M ∧ Chg (fun b => b = gl) u w') := Lib.hid (by
    have e := Ho.out; subst e
    intro u vr vt s hr hw
    rw [pass_L, pass_M]
    exact sfree_any _ u vr vt s.L s.M hr h40 hw.le)
  clear hcr hp1 hb0 hres hBT1 hres1 hcrB hpc hgc
  have HST : Hid (∀ (u : World) (vr vt : Nat → Value) (s : CS) (k : Nat), k < n → QRun o u vr vt s.L s.M → OnC cs n s.L → goesL cs.length (s.L k) = true → Calls Try.prog 93 #[lnV (vr k) (vt k) (s.L k), .slice A cs.length c, .int .i64 (k : Nat), .slice (some ⟨gm, 0, none⟩) mem.length cmm] u (StepLP u w.heap.size gm mem.length cmm (lnStep cs mem.length k (s.L k) s.M) (lnMem cs mem.length (s.L k) s.M))) := Lib.hid (by
    have e := Ho.out; subst e
    intro u vr vt s k hk hr hw hg
    obtain ⟨W, hW⟩ := hw k hk
    obtain ⟨f1, f2, f3, f4⟩ := hW.facts h40
    exact l6step_any _ cs k gm mem.length cmm w.heap.size (vr k) (vt k) (s.L k) s.M u (hr.codes.keep hr.pure) HV.out (hr.lnb k hk).read hr.mem (by omega) (goes_iff.1 hg).2 f2 f3 (f4 (goes_iff.1 hg).2) (hr.good k hk) (goes_iff.1 hg).1)
  have HLD : Hid (∀ (u u2 : World) (vr vt : Nat → Value) (s : CS) (k : Nat) (vr' vt' : Value), k < n → QRun o u vr vt s.L s.M → OnC cs n s.L → goesL cs.length (s.L k) = true → LnB u2 u.heap.size vr' vt' (lnStep cs mem.length k (s.L k) s.M) → SMem u2 w.heap.size gm mem.length cmm (lnMem cs mem.length (s.L k) s.M) → Chg (fun b => b = gm) u u2 →
      QRun o ((((u2.setCell ⟨gl, k * 4, none⟩ vr').setCell ⟨gl, k * 4 + 1, none⟩ (.int .i64 ((lnStep cs mem.length k (s.L k) s.M).at_ : Nat))).setCell ⟨gl, k * 4 + 2, none⟩ vt').setCell ⟨gl, k * 4 + 3, none⟩ (.bool (lnStep cs mem.length k (s.L k) s.M).W)) (upV vr k vr') (upV vt k vt') (laneS cs mem.length k s).L (laneS cs mem.length k s).M ∧
      Chg (fun b => b = gl) u2 ((((u2.setCell ⟨gl, k * 4, none⟩ vr').setCell ⟨gl, k * 4 + 1, none⟩ (.int .i64 ((lnStep cs mem.length k (s.L k) s.M).at_ : Nat))).setCell ⟨gl, k * 4 + 2, none⟩ vt').setCell ⟨gl, k * 4 + 3, none⟩ (.bool (lnStep cs mem.length k (s.L k) s.M).W))) := Lib.hid (by
    have e := Ho.out; subst e
    intro u u2 vr vt s k vr' vt' hk hr hw hg hb hm hc
    exact hr.laid hk hb hm hc (lnStep_good HV.out (goes_iff.1 hg).2 (by omega) (hr.good k hk) hr.mem.good))
  have HGM : Hid (o.gl = gl ∧ o.gm = gm ∧ o.n = n ∧ o.w0 = w ∧ o.m = mem.length ∧ o.cm = cmm) := Lib.hid (by rw [← Ho.out]; exact ⟨rfl, rfl, rfl, rfl, rfl, rfl⟩)
  clear hcl hcl2 Ho
  go_wp2_with fail
  rw [Hwc.out, Hgc.out]
  go_loopg [8, 10, 11, 12] N (fun gk a8 a10 a11 a12 wr => ∃ (j : Nat) (vr vt : Nat → Value), gk + j = N ∧ QRun o wr vr vt (lIter cs n mem.length j (startCS mem)).L (lIter cs n mem.length j (startCS mem)).M ∧ OnC cs n (lIter cs n mem.length j (startCS mem)).L ∧ OwnO wr w.heap.size 84 2 a8 (lIter cs n mem.length j (startCS mem)).H.length (beatsC (lIter cs n mem.length j (startCS mem)).H) ∧
    wr.heap[gc]? = some (.cells #[.slice (some ⟨gl, 0, none⟩) n cl, .slice (some ⟨gm, 0, none⟩) mem.length cmm] 33 (0, 0)) ∧ wr.heap[w.heap.size]? = some (.cells #[.slice none 0 0, .slice none 0 0] 33 (0, 0)))
  case atStart => exact ⟨0, _, _, rfl, HQ0.out, HW0.out, HB0.out, HGC.out, HRS.out⟩
  case round =>
    obtain ⟨j, vr, vt, hgk, hr, hw, hb, hgc, hrs⟩ := hrel
    have Hgk := Lib.hid hgk
    have HMR := Lib.hid hr
    have HWW := Lib.hid hw
    have HGC := Lib.hid hgc
    have HRS := Lib.hid hrs
    have hjN : j ≤ N := by omega
    have HNORM := Lib.hid (lIter_norm (cs := cs) (n := n) (m := mem.length) (s := startCS mem) (start_norm cs n) j)
    have HLN := lIter_len (cs := cs) (n := n) (m := mem.length) (s := startCS mem) j
    have HNX : Hid (lIter cs n mem.length (j + 1) (startCS mem) = leastStep cs n mem.length (lIter cs n mem.length j (startCS mem))) := Lib.hid rfl
    obtain ⟨s, Hs⟩ : ∃ s, Hid (lIter cs n mem.length j (startCS mem) = s) := ⟨_, Lib.hid rfl⟩
    rw [Hs.out] at HMR HWW HNORM HNX HLN hb
    have HBT := Lib.hid hb
    obtain ⟨Ab, cb, rfl⟩ := hb.form
    have hs0 : (startCS mem).H.length = 0 := rfl
    clear hgk hr hw hb hgc hrs HQ0 HW0 HB0
    by_cases hdn : DoneL cs n s.L
    · have HDD := Lib.hid hdn
      have HEQ : Hid (lIter cs n mem.length N (startCS mem) = s) := Lib.hid (by
        obtain ⟨d, rfl⟩ : ∃ d, N = j + d := ⟨N - j, by omega⟩
        rw [lIter_add, Hs.out, lIter_done HDD.out])
      have x0 := cell_of_row _ _ 0 _ _ _ HGC.out
      have x1 := cell_of_row _ _ 1 _ _ _ HGC.out
      simp only [List.getElem?_toArray, List.getElem?_cons_zero, List.getElem?_cons_succ] at x0 x1
      clear hdn
      go_wp2_with fail
      refine (HDN.out _ vr vt s true (by simp only [true_iff]; exact HDD.out) HMR.out HWW.out).mono ?_
      rintro e w3 ⟨rfl, hp3⟩
      have x0 := keepP hp3 x0
      have x1 := keepP hp3 x1
      have hres := (Chg.of_pure (S := fun _ => False) hp3).heap HRS.out id
      have k0 := cell_of_row _ _ 0 _ _ _ hres
      have k1 := cell_of_row _ _ 1 _ _ _ hres
      simp only [List.getElem?_toArray, List.getElem?_cons_zero, List.getElem?_cons_succ] at k0 k1
      have kf0 := frozen_of_row _ _ 0 _ _ hres
      have kf1 := frozen_of_row _ _ 1 _ _ hres
      have HMR3 := Lib.hid (HMR.out.keep hp3)
      have HB3 := Lib.hid (HBT.out.pure hp3)
      have HRS3 := Lib.hid hres
      have hgcne : w.heap.size ≠ gc := by omega
      clear hp3 hres
      go_wp2_with fail
      refine bodyPost_ret (v := .tuple #[.agg #[.slice (some ⟨gl, 0, none⟩) n cl, .slice (some ⟨gm, 0, none⟩) mem.length cmm], .slice Ab s.H.length cb]) (by simp [results, Try.results61, go_sem, k0, k1]) rfl ?_
      rw [HEQ.out]
      have hpw := HMR3.out.pure
      have hme := HMR3.out.mem.own
      rw [HGM.out.2.2.2.1] at hpw hme
      rw [HGM.out.2.1, HGM.out.2.2.2.2.1, HGM.out.2.2.2.2.2] at hme
      have hcs1 : ∀ (u : World) (i : Nat) (x : Value), Chg (fun b => b = w.heap.size) u (u.setCell ⟨w.heap.size, i, none⟩ x) := fun u i x => Chg.of_set u _ _ _ rfl
      have hch : Chg (fun b => b = w.heap.size) w3 ((w3.setCell ⟨w.heap.size, 0, none⟩ (.slice (some ⟨gl, 0, none⟩) n cl)).setCell ⟨w.heap.size, 1, none⟩ (.slice (some ⟨gm, 0, none⟩) mem.length cmm)) := (hcs1 _ _ _).trans (hcs1 _ _ _)
      refine ⟨_, _, _, _, _, rfl, hme.chg hch (fun g hg => ?_), HB3.out.chg hch (fun g hg => ?_), Chg.pure hpw hch (fun b e => by omega)⟩
      · exact hme.ne_heap HRS3.out (by decide) g hg
      · exact HB3.out.ne_heap HRS3.out (by decide) g hg
    · have HND := Lib.hid hdn
      have HGO : Hid (anyGo cs s.L n = true) := Lib.hid (HNORM.out.resolve_right HND.out)
      have hjlt : j < N := by
        rcases Nat.lt_or_ge j N with h | h
        · exact h
        · have : j = N := by omega
          subst this
          rw [Hs.out] at HD
          exact absurd HD.out hdn
      have HLE : Hid (leastStep cs n mem.length s = passS cs n (stepTo cs mem.length (leastTo cs s.L n).1 n (noteC cs (leastTo cs s.L n).2 (leastTo cs s.L n).1 s))) := Lib.hid (if_neg hdn)
      have hmk8 := least_bits cs s.L n (by omega)
      have hplt : (leastTo cs s.L n).2 < cs.length := by
        obtain ⟨l0, hl0, hg0⟩ := anyGo_iff.1 HGO.out
        exact Nat.lt_of_le_of_lt ((least_spec (cs := cs) (L := s.L) n).2.1 l0 hl0 hg0) (goes_iff.1 hg0).2
      have HGS := Lib.hid (least_goes (cs := cs) (n := n) (L := s.L))
      obtain ⟨mk, Hmk⟩ : ∃ mk, Hid ((leastTo cs s.L n).1 = mk) := ⟨_, Lib.hid rfl⟩
      obtain ⟨pl, Hpl⟩ : ∃ pl, Hid ((leastTo cs s.L n).2 = pl) := ⟨_, Lib.hid rfl⟩
      have HLSs := Lib.hid (fun u hr => HLS.out u vr vt s hr HWW.out)
      rw [Hmk.out] at hmk8
      rw [Hmk.out] at HGS
      rw [Hpl.out] at hplt
      rw [Hmk.out, Hpl.out] at HLE HLSs
      clear hdn
      have x0 := cell_of_row _ _ 0 _ _ _ HGC.out
      have x1 := cell_of_row _ _ 1 _ _ _ HGC.out
      simp only [List.getElem?_toArray, List.getElem?_cons_zero, List.getElem?_cons_succ] at x0 x1
      go_wp2_with fail
      refine (HDN.out _ vr vt s false (by simp only [Bool.false_eq_true, false_iff]; exact HND.out) HMR.out HWW.out).mono ?_
      rintro e w3 ⟨rfl, hp3⟩
      have x0 := keepP hp3 x0
      have x1 := keepP hp3 x1
      have HP3 := Lib.hid hp3
      clear hp3
      go_wp2_with fail
      refine (HLSs.out _ (HMR.out.keep HP3.out)).mono ?_
      rintro e w4 ⟨rfl, hp4⟩
      have x0 := keepP hp4 x0
      have x1 := keepP hp4 x1
      have HP4 := Lib.hid (HP3.out.trans hp4)
      have HM4 := Lib.hid (HMR.out.keep HP4.out)
      have HB4 := Lib.hid (HBT.out.pure HP4.out)
      have HG4 := Lib.hid ((Chg.of_pure (S := fun _ => False) HP4.out).heap HGC.out id)
      have HR4 := Lib.hid ((Chg.of_pure (S := fun _ => False) HP4.out).heap HRS.out id)
      have hpw := HM4.out.pure
      rw [HGM.out.2.2.2.1] at hpw
      obtain ⟨b, ob, hA, hb, hc⟩ := H.out.at_ hplt
      subst hA
      obtain ⟨c0, _, _, _⟩ := hc.keep hpw hb
      have hbw := Nat.lt_of_lt_of_le hb hpw.size
      obtain ⟨op, Hop⟩ : ∃ op, Hid ((cs.getD pl default).op = op) := ⟨_, Lib.hid rfl⟩
      rw [Hop.out] at c0
      have hpl0 : (0 : Int) ≤ (pl : Int) := by omega
      have hplI : (pl : Int) < (cs.length : Int) := by omega
      have hCw := hpw.size
      have HNW : Hid (lIter cs n mem.length (j + 1) (startCS mem) = passS cs n (stepTo cs mem.length mk n (noteC cs pl mk s))) := Lib.hid (HNX.out.trans HLE.out)
      have HNL : Hid ((noteC cs pl mk s).L = s.L) := Lib.hid rfl
      have HNM : Hid ((noteC cs pl mk s).M = s.M) := Lib.hid rfl
      have HNH : Hid ((noteC cs pl mk s).H = if quietOp (cs.getD pl default) = true then s.H else s.H ++ [(pl, mk)]) := Lib.hid rfl
      obtain ⟨s1, Hs1⟩ : ∃ s1, Hid (noteC cs pl mk s = s1) := ⟨_, Lib.hid rfl⟩
      rw [Hs1.out] at HNW HNL HNM HNH
      have HGS1 : Hid (∀ l, mk.testBit l = true → goesL cs.length (s1.L l) = true) := Lib.hid (by rw [HNL.out]; exact HGS.out)
      have HW1 : Hid (OnC cs n s1.L) := Lib.hid (by rw [HNL.out]; exact HWW.out)
      have hcases : (op != 12) = false ∨ ((op != 12) = true ∧ (op != 14) = false) ∨ ((op != 12) = true ∧ (op != 14) = true) := by
        cases (op != 12) <;> cases (op != 14) <;> simp
      have hq1 : (op != 12) = false → quietOp (cs.getD pl default) = true := fun h => by
        unfold quietOp; rw [Hop.out]; exact decide_eq_true (.inl (by simpa using h))
      have hq2 : (op != 14) = false → quietOp (cs.getD pl default) = true := fun h => by
        unfold quietOp; rw [Hop.out]; exact decide_eq_true (.inr (by simpa using h))
      have hq3 : (op != 12) = true → (op != 14) = true → quietOp (cs.getD pl default) = false := fun h1 h2 => by
        unfold quietOp; rw [Hop.out]
        exact decide_eq_false (by simp at h1 h2; omega)
      have HQ1 := Lib.hid hq1
      have HQ2 := Lib.hid hq2
      have HQ3 := Lib.hid hq3
      have hlen : s.H.length + 1 ≤ 1099511627776 := by omega
      clear hp4 hpw hc hb hq1 hq2 hq3 HLN
      rcases hcases with d12 | ⟨d12, d14⟩ | ⟨d12, d14⟩
      · go_wp2_with fail
        have HL0 : Hid (QRun o w4 vr vt s1.L s1.M) := Lib.hid (by rw [HNL.out, HNM.out]; exact HM4.out)
        have HBS : Hid (OwnO w4 w.heap.size 84 2 (.slice Ab s.H.length cb) s1.H.length (beatsC s1.H)) := Lib.hid (by rw [HNH.out, if_pos (HQ1.out d12)]; exact HB4.out)
        have HGS2 := Lib.hid (HG4.out)
        have HRS2 := Lib.hid (HR4.out)
        clear x0 x1 c0
        go_loopg [12] n (fun g2 i wr2 => ∃ (k : Nat) (vr2 vt2 : Nat → Value), g2 + k = n ∧ i = .int .i64 k ∧ QRun o wr2 vr2 vt2 (stepTo cs mem.length mk k s1).L (stepTo cs mem.length mk k s1).M ∧ OwnO wr2 w.heap.size 84 2 (.slice Ab s.H.length cb) s1.H.length (beatsC s1.H) ∧
          wr2.heap[gc]? = some (.cells #[.slice (some ⟨gl, 0, none⟩) n cl, .slice (some ⟨gm, 0, none⟩) mem.length cmm] 33 (0, 0)) ∧ wr2.heap[w.heap.size]? = some (.cells #[.slice none 0 0, .slice none 0 0] 33 (0, 0)))
        case atStart => exact ⟨0, vr, vt, rfl, rfl, HL0.out, HBS.out, HGS2.out, HRS2.out⟩
        case round =>
          obtain ⟨k, vr2, vt2, hg2, rfl, hr2, hb2, hgc2, hrs2⟩ := hrel
          have Hg2 := Lib.hid hg2
          have HM2 := Lib.hid hr2
          have HB2 := Lib.hid hb2
          have HGC2 := Lib.hid hgc2
          have HRS3 := Lib.hid hrs2
          have hkn : k ≤ n := by omega
          have x0 := cell_of_row _ _ 0 _ _ _ hgc2
          have x1 := cell_of_row _ _ 1 _ _ _ hgc2
          simp only [List.getElem?_toArray, List.getElem?_cons_zero, List.getElem?_cons_succ] at x0 x1
          have HOC := Lib.hid (OnC.steps (m := mem.length) HW1.out HGS1.out k)
          clear hg2 hr2 hb2 hgc2 hrs2 HL0 HBS HGS2
          by_cases hlt : k < n
          · have hnn := digit_nonneg mk k
            have hbit := digit_eq1 mk k
            have hnext : stepTo cs mem.length mk (k + 1) s1 = if mk.testBit k then laneS cs mem.length k (stepTo cs mem.length mk k s1) else stepTo cs mem.length mk k s1 := rfl
            have hgo : mk.testBit k = true → goesL cs.length ((stepTo cs mem.length mk k s1).L k) = true := fun h => by
              rw [step_at k k (.inl (Nat.le_refl _))]; exact HGS1.out k h
            obtain ⟨D, HD⟩ : ∃ D, Hid (mk.testBit k = D) := ⟨_, Lib.hid rfl⟩
            rw [HD.out] at hbit hnext hgo
            have Hnext := Lib.hid hnext
            have HGo := Lib.hid hgo
            obtain ⟨s2, Hs2⟩ : ∃ s2, Hid (stepTo cs mem.length mk k s1 = s2) := ⟨_, Lib.hid rfl⟩
            rw [Hs2.out] at HM2 HOC Hnext HGo
            clear hnext hgo
            cases D
            · go_wp2
              go_roundg (n - (k + 1))
              case measure => have := Hg2.out; omega
              case rel => exact ⟨k + 1, vr2, vt2, by have := Hg2.out; omega, by go_num, by rw [Hnext.out]; exact HM2.out, HB2.out, HGC2.out, HRS3.out⟩
            · have hgo := HGo.out rfl
              have HGL := Lib.hid hgo
              have hcl := HM2.out.cells (k := k) (by rw [HGM.out.2.2.1]; exact hlt)
              rw [HGM.out.1] at hcl
              obtain ⟨q0, q1, q2, q3, qf⟩ := hcl
              have hln := HM2.out.lnb k (by rw [HGM.out.2.2.1]; exact hlt)
              obtain ⟨⟨g1, cg, hvr⟩, _, hot⟩ := hln
              obtain ⟨At, ct, hvt⟩ := hot.form
              rw [hvr] at q0
              rw [hvt] at q2
              obtain ⟨l', Hl'⟩ : ∃ l', Hid (lnStep cs mem.length k (s2.L k) s2.M = l') := ⟨_, Lib.hid rfl⟩
              have HSTk : Hid (∀ u, Pure wr u → Calls Try.prog 93 #[lnV (vr2 k) (vt2 k) (s2.L k), .slice (some ⟨b, ob, none⟩) cs.length c, .int .i64 (k : Nat), .slice (some ⟨gm, 0, none⟩) mem.length cmm] u (StepLP u w.heap.size gm mem.length cmm l' (lnMem cs mem.length (s2.L k) s2.M))) := Lib.hid (fun u hu => by
                rw [← Hl'.out]
                exact HST.out u vr2 vt2 s2 k hlt (HM2.out.keep hu) HOC.out HGL.out)
              have HLDk : Hid (∀ (u u2 : World) (vr' vt' : Value), Pure wr u → LnB u2 u.heap.size vr' vt' l' → SMem u2 w.heap.size gm mem.length cmm (lnMem cs mem.length (s2.L k) s2.M) → Chg (fun b => b = gm) u u2 →
                  QRun o ((((u2.setCell ⟨gl, k * 4, none⟩ vr').setCell ⟨gl, k * 4 + 1, none⟩ (.int .i64 (l'.at_ : Nat))).setCell ⟨gl, k * 4 + 2, none⟩ vt').setCell ⟨gl, k * 4 + 3, none⟩ (.bool l'.W)) (upV vr2 k vr') (upV vt2 k vt') (laneS cs mem.length k s2).L (laneS cs mem.length k s2).M ∧
                  Chg (fun b => b = gl) u2 ((((u2.setCell ⟨gl, k * 4, none⟩ vr').setCell ⟨gl, k * 4 + 1, none⟩ (.int .i64 (l'.at_ : Nat))).setCell ⟨gl, k * 4 + 2, none⟩ vt').setCell ⟨gl, k * 4 + 3, none⟩ (.bool l'.W))) := Lib.hid (fun u u2 vr' vt' hu => by
                rw [← Hl'.out]
                exact HLD.out u u2 vr2 vt2 s2 k vr' vt' hlt (HM2.out.keep hu) HOC.out HGL.out)
              unfold lnV at HSTk
              rw [hvr, hvt] at HSTk
              obtain ⟨a, Ha⟩ : ∃ a, Hid ((s2.L k).at_ = a) := ⟨_, Lib.hid rfl⟩
              obtain ⟨W, HWb⟩ : ∃ W, Hid ((s2.L k).W = W) := ⟨_, Lib.hid rfl⟩
              obtain ⟨tl, Htl⟩ : ∃ tl, Hid ((s2.L k).T.length = tl) := ⟨_, Lib.hid rfl⟩
              rw [Ha.out] at q1
              rw [HWb.out] at q3
              rw [Htl.out] at q2
              rw [Ha.out, HWb.out, Htl.out] at HSTk
              have hk0 : (0 : Int) ≤ (k : Int) := by omega
              have hkI : (k : Int) < (n : Int) := by omega
              have hglw : gl < wr.heap.size := by have := HM2.out.glLt; rwa [HGM.out.1] at this
              have hgg : gm ≠ gl ∧ gm ≠ gc ∧ gm ≠ w.heap.size ∧ gl ≠ gc ∧ gl ≠ w.heap.size := by
                have h1 := HM2.out.ne_gl.1
                have hmo := HM2.out.mem.own
                obtain ⟨cur, b1, _⟩ := HM2.out.lanes
                rw [HGM.out.1] at h1 b1
                rw [HGM.out.2.1] at h1 hmo
                exact ⟨h1, hmo.ne_heap HGC2.out (by decide) _ rfl, hmo.ne_heap HRS3.out (by decide) _ rfl, fun e => ne_of_heap b1 HGC2.out (by decide) e, fun e => ne_of_heap b1 HRS3.out (by decide) e⟩
              have HGG := Lib.hid hgg
              have HBN : Hid (∀ g, (Value.slice Ab s.H.length cb).ownBlock = some g → g ≠ gm ∧ g ≠ gl) := Lib.hid (fun g hg => by
                obtain ⟨cur, b1, _⟩ := HM2.out.lanes
                rw [HGM.out.1] at b1
                obtain ⟨cur2, b2⟩ := (HGM.out.2.1 ▸ HM2.out.mem.own : OwnO wr _ _ _ _ _ _).heap (g := gm) rfl
                exact ⟨HB2.out.ne_heap b2 (by decide) g hg, HB2.out.ne_heap b1 (by decide) g hg⟩)
              obtain ⟨kk, Hkk⟩ : ∃ kk, Hid (k * 4 = kk) := ⟨_, Lib.hid rfl⟩
              clear hvr hvt hot hgo hgg
              go_wp2_with fail
              refine region_heldF (fun w' => w'.cell? ⟨gc, 0, none⟩ = some (.slice (some ⟨gl, 0, none⟩) n cl) ∧ w'.cell? ⟨gc, 1, none⟩ = some (.slice (some ⟨gm, 0, none⟩) mem.length cmm) ∧ w'.cell? ⟨gl, k * 4, none⟩ = some (.slice (some ⟨g1, 0, none⟩) 4 cg) ∧ w'.cell? ⟨gl, k * 4 + 1, none⟩ = some (.int .i64 (a : Int)) ∧ w'.cell? ⟨gl, k * 4 + 2, none⟩ = some (.slice At tl ct) ∧ w'.cell? ⟨gl, k * 4 + 3, none⟩ = some (.bool W))
                (List.range 12) [12, 13, 14] (fun l => List.take 12 l) (fun l => List.drop 12 l) (by kernel_rfl) (by kernel_rfl) (by kernel_rfl) (by kernel_rfl) (fun c a d v w h => by cases d <;> exact h) (by exact ⟨keepP (by repeat (first | assumption | exact Pure.refl _ | refine Pure.drewN ?_ _ | refine Pure.drew ?_ | refine Pure.alloc ?_ _ | refine Pure.setCell ?_ (by simp <;> omega) _)) x0, keepP (by repeat (first | assumption | exact Pure.refl _ | refine Pure.drewN ?_ _ | refine Pure.drew ?_ | refine Pure.alloc ?_ _ | refine Pure.setCell ?_ (by simp <;> omega) _)) x1, keepP (by repeat (first | assumption | exact Pure.refl _ | refine Pure.drewN ?_ _ | refine Pure.drew ?_ | refine Pure.alloc ?_ _ | refine Pure.setCell ?_ (by simp <;> omega) _)) q0, keepP (by repeat (first | assumption | exact Pure.refl _ | refine Pure.drewN ?_ _ | refine Pure.drew ?_ | refine Pure.alloc ?_ _ | refine Pure.setCell ?_ (by simp <;> omega) _)) q1, keepP (by repeat (first | assumption | exact Pure.refl _ | refine Pure.drewN ?_ _ | refine Pure.drew ?_ | refine Pure.alloc ?_ _ | refine Pure.setCell ?_ (by simp <;> omega) _)) q2, keepP (by repeat (first | assumption | exact Pure.refl _ | refine Pure.drewN ?_ _ | refine Pure.drew ?_ | refine Pure.alloc ?_ _ | refine Pure.setCell ?_ (by simp <;> omega) _)) q3⟩) ?_
              simp only [List.take_succ_cons, List.take_zero, List.drop_succ_cons, List.drop_zero]
              iterate 12
                apply held_of
                · exact rfl
                · intro w' hS
                  obtain ⟨s0, s1, s2, s3, s4, s5⟩ := hS
                  go_simp
                  try exact rfl
                try go_simp
              refine held_nil ?_
              unfold Tail
              go_wp2_with fail
              refine (HSTk.out _ (show Pure wr wr.drew from (by repeat (first | assumption | exact Pure.refl _ | refine Pure.drewN ?_ _ | refine Pure.drew ?_ | refine Pure.alloc ?_ _ | refine Pure.setCell ?_ (by simp <;> omega) _)))).mono ?_
              rintro e w6 ⟨vr', vt', rfl, hb6, hm6, hc6⟩
              have hz := HLDk.out _ w6 vr' vt' (show Pure wr wr.drew from (by repeat (first | assumption | exact Pure.refl _ | refine Pure.drewN ?_ _ | refine Pure.drew ?_ | refine Pure.alloc ?_ _ | refine Pure.setCell ?_ (by simp <;> omega) _))) hb6 hm6 hc6
              have HZ := Lib.hid hz
              obtain ⟨⟨g6, c6, rfl⟩, _, ho6⟩ := hb6
              obtain ⟨A6, d6, rfl⟩ := ho6.form
              have e0 := keepC hc6 (fun e => HGG.out.2.1 e.symm) (keepP (show Pure wr wr.drew from (by repeat (first | assumption | exact Pure.refl _ | refine Pure.drewN ?_ _ | refine Pure.drew ?_ | refine Pure.alloc ?_ _ | refine Pure.setCell ?_ (by simp <;> omega) _))) x0)
              have e1 := keepC hc6 (fun e => HGG.out.2.1 e.symm) (keepP (show Pure wr wr.drew from (by repeat (first | assumption | exact Pure.refl _ | refine Pure.drewN ?_ _ | refine Pure.drew ?_ | refine Pure.alloc ?_ _ | refine Pure.setCell ?_ (by simp <;> omega) _))) x1)
              have e2 := keepC hc6 (fun e => HGG.out.1 e.symm) (keepP (show Pure wr wr.drew from (by repeat (first | assumption | exact Pure.refl _ | refine Pure.drewN ?_ _ | refine Pure.drew ?_ | refine Pure.alloc ?_ _ | refine Pure.setCell ?_ (by simp <;> omega) _))) q0)
              have e3 := keepC hc6 (fun e => HGG.out.1 e.symm) (keepP (show Pure wr wr.drew from (by repeat (first | assumption | exact Pure.refl _ | refine Pure.drewN ?_ _ | refine Pure.drew ?_ | refine Pure.alloc ?_ _ | refine Pure.setCell ?_ (by simp <;> omega) _))) q1)
              have e4 := keepC hc6 (fun e => HGG.out.1 e.symm) (keepP (show Pure wr wr.drew from (by repeat (first | assumption | exact Pure.refl _ | refine Pure.drewN ?_ _ | refine Pure.drew ?_ | refine Pure.alloc ?_ _ | refine Pure.setCell ?_ (by simp <;> omega) _))) q2)
              have e5 := keepC hc6 (fun e => HGG.out.1 e.symm) (keepP (show Pure wr wr.drew from (by repeat (first | assumption | exact Pure.refl _ | refine Pure.drewN ?_ _ | refine Pure.drew ?_ | refine Pure.alloc ?_ _ | refine Pure.setCell ?_ (by simp <;> omega) _))) q3)
              obtain ⟨cur, b1, _⟩ := HM2.out.lanes
              rw [HGM.out.1] at b1
              have b6 := hc6.heap (show wr.drew.heap[gl]? = _ from b1) (fun e => HGG.out.1 e.symm)
              have f0 := frozen_of_row w6 gl (k * 4) _ _ b6
              have f1 := frozen_of_row w6 gl (k * 4 + 1) _ _ b6
              have f2 := frozen_of_row w6 gl (k * 4 + 2) _ _ b6
              have f3 := frozen_of_row w6 gl (k * 4 + 3) _ _ b6
              have HC6 := Lib.hid (hc6.trans (Chg.refl _ _))
              unfold lnV
              clear hz b1 b6 hm6
              go_wp2_with fail
              refine And.intro (by exact ⟨e0, e1, e2, e3, e4, e5⟩) ?_
              unfold Tail
              go_wp2
              refine And.intro (by exact ⟨e0, e1, e2, e3, e4, e5⟩) ?_
              unfold Tail
              go_wp2
              go_roundg (n - (k + 1))
              case measure => have := Hg2.out; omega
              case rel =>
                have HS := (Chg.of_pure (S := fun b => b = gm) (show Pure wr wr.drew from (by repeat (first | assumption | exact Pure.refl _ | refine Pure.drewN ?_ _ | refine Pure.drew ?_ | refine Pure.alloc ?_ _ | refine Pure.setCell ?_ (by simp <;> omega) _)))).trans HC6.out
                exact ⟨k + 1, _, _, by have := Hg2.out; omega, by go_num, by rw [Hnext.out]; exact HZ.out.1,
                  (HB2.out.chg HS (fun g hg => (HBN.out g hg).1)).chg HZ.out.2 (fun g hg => (HBN.out g hg).2),
                  HZ.out.2.heap (HS.heap HGC2.out (fun e => HGG.out.2.1 e.symm)) (fun e => HGG.out.2.2.2.1 e.symm), HZ.out.2.heap (HS.heap HRS3.out (fun e => HGG.out.2.2.1 e.symm)) (fun e => HGG.out.2.2.2.2 e.symm)⟩
          · have hkl : k = n := by omega
            subst hkl
            have HBN : Hid (∀ g, (Value.slice Ab s.H.length cb).ownBlock = some g → g ≠ gl) := Lib.hid (fun g hg => by
              obtain ⟨cur, b1, _⟩ := HM2.out.lanes
              rw [HGM.out.1] at b1
              exact HB2.out.ne_heap b1 (by decide) g hg)
            have HGG : Hid (gc ≠ gl ∧ w.heap.size ≠ gl) := Lib.hid (by
              obtain ⟨cur, b1, _⟩ := HM2.out.lanes
              rw [HGM.out.1] at b1
              exact ⟨fun e => ne_of_heap b1 HGC2.out (by decide) e.symm, fun e => ne_of_heap b1 HRS3.out (by decide) e.symm⟩)
            go_wp2_with fail
            refine (HFR.out _ vr2 vt2 _ HM2.out HOC.out).mono ?_
            rintro e w6 ⟨rfl, hq6, hc6⟩
            have HQ6 := Lib.hid hq6
            have HC6 := Lib.hid hc6
            clear hq6 hc6
            go_wp2
            go_roundg (N - (j + 1))
            case measure => have := Hgk.out; omega
            case rel =>
              exact ⟨j + 1, vr2, vt2, by have := Hgk.out; omega, by rw [HNW.out]; exact HQ6.out, by rw [HNW.out]; exact HOC.out.pass, by rw [HNW.out, pass_H, step_H]; exact HB2.out.chg HC6.out (fun g hg => HBN.out g hg), HC6.out.heap HGC2.out HGG.out.1, HC6.out.heap HRS3.out HGG.out.2⟩
      · go_wp2_with fail
        have HL0 : Hid (QRun o w4 vr vt s1.L s1.M) := Lib.hid (by rw [HNL.out, HNM.out]; exact HM4.out)
        have HBS : Hid (OwnO w4 w.heap.size 84 2 (.slice Ab s.H.length cb) s1.H.length (beatsC s1.H)) := Lib.hid (by rw [HNH.out, if_pos (HQ2.out d14)]; exact HB4.out)
        have HGS2 := Lib.hid (HG4.out)
        have HRS2 := Lib.hid (HR4.out)
        clear x0 x1 c0
        go_loopg [12] n (fun g2 i wr2 => ∃ (k : Nat) (vr2 vt2 : Nat → Value), g2 + k = n ∧ i = .int .i64 k ∧ QRun o wr2 vr2 vt2 (stepTo cs mem.length mk k s1).L (stepTo cs mem.length mk k s1).M ∧ OwnO wr2 w.heap.size 84 2 (.slice Ab s.H.length cb) s1.H.length (beatsC s1.H) ∧
          wr2.heap[gc]? = some (.cells #[.slice (some ⟨gl, 0, none⟩) n cl, .slice (some ⟨gm, 0, none⟩) mem.length cmm] 33 (0, 0)) ∧ wr2.heap[w.heap.size]? = some (.cells #[.slice none 0 0, .slice none 0 0] 33 (0, 0)))
        case atStart => exact ⟨0, vr, vt, rfl, rfl, HL0.out, HBS.out, HGS2.out, HRS2.out⟩
        case round =>
          obtain ⟨k, vr2, vt2, hg2, rfl, hr2, hb2, hgc2, hrs2⟩ := hrel
          have Hg2 := Lib.hid hg2
          have HM2 := Lib.hid hr2
          have HB2 := Lib.hid hb2
          have HGC2 := Lib.hid hgc2
          have HRS3 := Lib.hid hrs2
          have hkn : k ≤ n := by omega
          have x0 := cell_of_row _ _ 0 _ _ _ hgc2
          have x1 := cell_of_row _ _ 1 _ _ _ hgc2
          simp only [List.getElem?_toArray, List.getElem?_cons_zero, List.getElem?_cons_succ] at x0 x1
          have HOC := Lib.hid (OnC.steps (m := mem.length) HW1.out HGS1.out k)
          clear hg2 hr2 hb2 hgc2 hrs2 HL0 HBS HGS2
          by_cases hlt : k < n
          · have hnn := digit_nonneg mk k
            have hbit := digit_eq1 mk k
            have hnext : stepTo cs mem.length mk (k + 1) s1 = if mk.testBit k then laneS cs mem.length k (stepTo cs mem.length mk k s1) else stepTo cs mem.length mk k s1 := rfl
            have hgo : mk.testBit k = true → goesL cs.length ((stepTo cs mem.length mk k s1).L k) = true := fun h => by
              rw [step_at k k (.inl (Nat.le_refl _))]; exact HGS1.out k h
            obtain ⟨D, HD⟩ : ∃ D, Hid (mk.testBit k = D) := ⟨_, Lib.hid rfl⟩
            rw [HD.out] at hbit hnext hgo
            have Hnext := Lib.hid hnext
            have HGo := Lib.hid hgo
            obtain ⟨s2, Hs2⟩ : ∃ s2, Hid (stepTo cs mem.length mk k s1 = s2) := ⟨_, Lib.hid rfl⟩
            rw [Hs2.out] at HM2 HOC Hnext HGo
            clear hnext hgo
            cases D
            · go_wp2
              go_roundg (n - (k + 1))
              case measure => have := Hg2.out; omega
              case rel => exact ⟨k + 1, vr2, vt2, by have := Hg2.out; omega, by go_num, by rw [Hnext.out]; exact HM2.out, HB2.out, HGC2.out, HRS3.out⟩
            · have hgo := HGo.out rfl
              have HGL := Lib.hid hgo
              have hcl := HM2.out.cells (k := k) (by rw [HGM.out.2.2.1]; exact hlt)
              rw [HGM.out.1] at hcl
              obtain ⟨q0, q1, q2, q3, qf⟩ := hcl
              have hln := HM2.out.lnb k (by rw [HGM.out.2.2.1]; exact hlt)
              obtain ⟨⟨g1, cg, hvr⟩, _, hot⟩ := hln
              obtain ⟨At, ct, hvt⟩ := hot.form
              rw [hvr] at q0
              rw [hvt] at q2
              obtain ⟨l', Hl'⟩ : ∃ l', Hid (lnStep cs mem.length k (s2.L k) s2.M = l') := ⟨_, Lib.hid rfl⟩
              have HSTk : Hid (∀ u, Pure wr u → Calls Try.prog 93 #[lnV (vr2 k) (vt2 k) (s2.L k), .slice (some ⟨b, ob, none⟩) cs.length c, .int .i64 (k : Nat), .slice (some ⟨gm, 0, none⟩) mem.length cmm] u (StepLP u w.heap.size gm mem.length cmm l' (lnMem cs mem.length (s2.L k) s2.M))) := Lib.hid (fun u hu => by
                rw [← Hl'.out]
                exact HST.out u vr2 vt2 s2 k hlt (HM2.out.keep hu) HOC.out HGL.out)
              have HLDk : Hid (∀ (u u2 : World) (vr' vt' : Value), Pure wr u → LnB u2 u.heap.size vr' vt' l' → SMem u2 w.heap.size gm mem.length cmm (lnMem cs mem.length (s2.L k) s2.M) → Chg (fun b => b = gm) u u2 →
                  QRun o ((((u2.setCell ⟨gl, k * 4, none⟩ vr').setCell ⟨gl, k * 4 + 1, none⟩ (.int .i64 (l'.at_ : Nat))).setCell ⟨gl, k * 4 + 2, none⟩ vt').setCell ⟨gl, k * 4 + 3, none⟩ (.bool l'.W)) (upV vr2 k vr') (upV vt2 k vt') (laneS cs mem.length k s2).L (laneS cs mem.length k s2).M ∧
                  Chg (fun b => b = gl) u2 ((((u2.setCell ⟨gl, k * 4, none⟩ vr').setCell ⟨gl, k * 4 + 1, none⟩ (.int .i64 (l'.at_ : Nat))).setCell ⟨gl, k * 4 + 2, none⟩ vt').setCell ⟨gl, k * 4 + 3, none⟩ (.bool l'.W))) := Lib.hid (fun u u2 vr' vt' hu => by
                rw [← Hl'.out]
                exact HLD.out u u2 vr2 vt2 s2 k vr' vt' hlt (HM2.out.keep hu) HOC.out HGL.out)
              unfold lnV at HSTk
              rw [hvr, hvt] at HSTk
              obtain ⟨a, Ha⟩ : ∃ a, Hid ((s2.L k).at_ = a) := ⟨_, Lib.hid rfl⟩
              obtain ⟨W, HWb⟩ : ∃ W, Hid ((s2.L k).W = W) := ⟨_, Lib.hid rfl⟩
              obtain ⟨tl, Htl⟩ : ∃ tl, Hid ((s2.L k).T.length = tl) := ⟨_, Lib.hid rfl⟩
              rw [Ha.out] at q1
              rw [HWb.out] at q3
              rw [Htl.out] at q2
              rw [Ha.out, HWb.out, Htl.out] at HSTk
              have hk0 : (0 : Int) ≤ (k : Int) := by omega
              have hkI : (k : Int) < (n : Int) := by omega
              have hglw : gl < wr.heap.size := by have := HM2.out.glLt; rwa [HGM.out.1] at this
              have hgg : gm ≠ gl ∧ gm ≠ gc ∧ gm ≠ w.heap.size ∧ gl ≠ gc ∧ gl ≠ w.heap.size := by
                have h1 := HM2.out.ne_gl.1
                have hmo := HM2.out.mem.own
                obtain ⟨cur, b1, _⟩ := HM2.out.lanes
                rw [HGM.out.1] at h1 b1
                rw [HGM.out.2.1] at h1 hmo
                exact ⟨h1, hmo.ne_heap HGC2.out (by decide) _ rfl, hmo.ne_heap HRS3.out (by decide) _ rfl, fun e => ne_of_heap b1 HGC2.out (by decide) e, fun e => ne_of_heap b1 HRS3.out (by decide) e⟩
              have HGG := Lib.hid hgg
              have HBN : Hid (∀ g, (Value.slice Ab s.H.length cb).ownBlock = some g → g ≠ gm ∧ g ≠ gl) := Lib.hid (fun g hg => by
                obtain ⟨cur, b1, _⟩ := HM2.out.lanes
                rw [HGM.out.1] at b1
                obtain ⟨cur2, b2⟩ := (HGM.out.2.1 ▸ HM2.out.mem.own : OwnO wr _ _ _ _ _ _).heap (g := gm) rfl
                exact ⟨HB2.out.ne_heap b2 (by decide) g hg, HB2.out.ne_heap b1 (by decide) g hg⟩)
              obtain ⟨kk, Hkk⟩ : ∃ kk, Hid (k * 4 = kk) := ⟨_, Lib.hid rfl⟩
              clear hvr hvt hot hgo hgg
              go_wp2_with fail
              refine region_heldF (fun w' => w'.cell? ⟨gc, 0, none⟩ = some (.slice (some ⟨gl, 0, none⟩) n cl) ∧ w'.cell? ⟨gc, 1, none⟩ = some (.slice (some ⟨gm, 0, none⟩) mem.length cmm) ∧ w'.cell? ⟨gl, k * 4, none⟩ = some (.slice (some ⟨g1, 0, none⟩) 4 cg) ∧ w'.cell? ⟨gl, k * 4 + 1, none⟩ = some (.int .i64 (a : Int)) ∧ w'.cell? ⟨gl, k * 4 + 2, none⟩ = some (.slice At tl ct) ∧ w'.cell? ⟨gl, k * 4 + 3, none⟩ = some (.bool W))
                (List.range 12) [12, 13, 14] (fun l => List.take 12 l) (fun l => List.drop 12 l) (by kernel_rfl) (by kernel_rfl) (by kernel_rfl) (by kernel_rfl) (fun c a d v w h => by cases d <;> exact h) (by exact ⟨keepP (by repeat (first | assumption | exact Pure.refl _ | refine Pure.drewN ?_ _ | refine Pure.drew ?_ | refine Pure.alloc ?_ _ | refine Pure.setCell ?_ (by simp <;> omega) _)) x0, keepP (by repeat (first | assumption | exact Pure.refl _ | refine Pure.drewN ?_ _ | refine Pure.drew ?_ | refine Pure.alloc ?_ _ | refine Pure.setCell ?_ (by simp <;> omega) _)) x1, keepP (by repeat (first | assumption | exact Pure.refl _ | refine Pure.drewN ?_ _ | refine Pure.drew ?_ | refine Pure.alloc ?_ _ | refine Pure.setCell ?_ (by simp <;> omega) _)) q0, keepP (by repeat (first | assumption | exact Pure.refl _ | refine Pure.drewN ?_ _ | refine Pure.drew ?_ | refine Pure.alloc ?_ _ | refine Pure.setCell ?_ (by simp <;> omega) _)) q1, keepP (by repeat (first | assumption | exact Pure.refl _ | refine Pure.drewN ?_ _ | refine Pure.drew ?_ | refine Pure.alloc ?_ _ | refine Pure.setCell ?_ (by simp <;> omega) _)) q2, keepP (by repeat (first | assumption | exact Pure.refl _ | refine Pure.drewN ?_ _ | refine Pure.drew ?_ | refine Pure.alloc ?_ _ | refine Pure.setCell ?_ (by simp <;> omega) _)) q3⟩) ?_
              simp only [List.take_succ_cons, List.take_zero, List.drop_succ_cons, List.drop_zero]
              iterate 12
                apply held_of
                · exact rfl
                · intro w' hS
                  obtain ⟨s0, s1, s2, s3, s4, s5⟩ := hS
                  go_simp
                  try exact rfl
                try go_simp
              refine held_nil ?_
              unfold Tail
              go_wp2_with fail
              refine (HSTk.out _ (show Pure wr wr.drew from (by repeat (first | assumption | exact Pure.refl _ | refine Pure.drewN ?_ _ | refine Pure.drew ?_ | refine Pure.alloc ?_ _ | refine Pure.setCell ?_ (by simp <;> omega) _)))).mono ?_
              rintro e w6 ⟨vr', vt', rfl, hb6, hm6, hc6⟩
              have hz := HLDk.out _ w6 vr' vt' (show Pure wr wr.drew from (by repeat (first | assumption | exact Pure.refl _ | refine Pure.drewN ?_ _ | refine Pure.drew ?_ | refine Pure.alloc ?_ _ | refine Pure.setCell ?_ (by simp <;> omega) _))) hb6 hm6 hc6
              have HZ := Lib.hid hz
              obtain ⟨⟨g6, c6, rfl⟩, _, ho6⟩ := hb6
              obtain ⟨A6, d6, rfl⟩ := ho6.form
              have e0 := keepC hc6 (fun e => HGG.out.2.1 e.symm) (keepP (show Pure wr wr.drew from (by repeat (first | assumption | exact Pure.refl _ | refine Pure.drewN ?_ _ | refine Pure.drew ?_ | refine Pure.alloc ?_ _ | refine Pure.setCell ?_ (by simp <;> omega) _))) x0)
              have e1 := keepC hc6 (fun e => HGG.out.2.1 e.symm) (keepP (show Pure wr wr.drew from (by repeat (first | assumption | exact Pure.refl _ | refine Pure.drewN ?_ _ | refine Pure.drew ?_ | refine Pure.alloc ?_ _ | refine Pure.setCell ?_ (by simp <;> omega) _))) x1)
              have e2 := keepC hc6 (fun e => HGG.out.1 e.symm) (keepP (show Pure wr wr.drew from (by repeat (first | assumption | exact Pure.refl _ | refine Pure.drewN ?_ _ | refine Pure.drew ?_ | refine Pure.alloc ?_ _ | refine Pure.setCell ?_ (by simp <;> omega) _))) q0)
              have e3 := keepC hc6 (fun e => HGG.out.1 e.symm) (keepP (show Pure wr wr.drew from (by repeat (first | assumption | exact Pure.refl _ | refine Pure.drewN ?_ _ | refine Pure.drew ?_ | refine Pure.alloc ?_ _ | refine Pure.setCell ?_ (by simp <;> omega) _))) q1)
              have e4 := keepC hc6 (fun e => HGG.out.1 e.symm) (keepP (show Pure wr wr.drew from (by repeat (first | assumption | exact Pure.refl _ | refine Pure.drewN ?_ _ | refine Pure.drew ?_ | refine Pure.alloc ?_ _ | refine Pure.setCell ?_ (by simp <;> omega) _))) q2)
              have e5 := keepC hc6 (fun e => HGG.out.1 e.symm) (keepP (show Pure wr wr.drew from (by repeat (first | assumption | exact Pure.refl _ | refine Pure.drewN ?_ _ | refine Pure.drew ?_ | refine Pure.alloc ?_ _ | refine Pure.setCell ?_ (by simp <;> omega) _))) q3)
              obtain ⟨cur, b1, _⟩ := HM2.out.lanes
              rw [HGM.out.1] at b1
              have b6 := hc6.heap (show wr.drew.heap[gl]? = _ from b1) (fun e => HGG.out.1 e.symm)
              have f0 := frozen_of_row w6 gl (k * 4) _ _ b6
              have f1 := frozen_of_row w6 gl (k * 4 + 1) _ _ b6
              have f2 := frozen_of_row w6 gl (k * 4 + 2) _ _ b6
              have f3 := frozen_of_row w6 gl (k * 4 + 3) _ _ b6
              have HC6 := Lib.hid (hc6.trans (Chg.refl _ _))
              unfold lnV
              clear hz b1 b6 hm6
              go_wp2_with fail
              refine And.intro (by exact ⟨e0, e1, e2, e3, e4, e5⟩) ?_
              unfold Tail
              go_wp2
              refine And.intro (by exact ⟨e0, e1, e2, e3, e4, e5⟩) ?_
              unfold Tail
              go_wp2
              go_roundg (n - (k + 1))
              case measure => have := Hg2.out; omega
              case rel =>
                have HS := (Chg.of_pure (S := fun b => b = gm) (show Pure wr wr.drew from (by repeat (first | assumption | exact Pure.refl _ | refine Pure.drewN ?_ _ | refine Pure.drew ?_ | refine Pure.alloc ?_ _ | refine Pure.setCell ?_ (by simp <;> omega) _)))).trans HC6.out
                exact ⟨k + 1, _, _, by have := Hg2.out; omega, by go_num, by rw [Hnext.out]; exact HZ.out.1,
                  (HB2.out.chg HS (fun g hg => (HBN.out g hg).1)).chg HZ.out.2 (fun g hg => (HBN.out g hg).2),
                  HZ.out.2.heap (HS.heap HGC2.out (fun e => HGG.out.2.1 e.symm)) (fun e => HGG.out.2.2.2.1 e.symm), HZ.out.2.heap (HS.heap HRS3.out (fun e => HGG.out.2.2.1 e.symm)) (fun e => HGG.out.2.2.2.2 e.symm)⟩
          · have hkl : k = n := by omega
            subst hkl
            have HBN : Hid (∀ g, (Value.slice Ab s.H.length cb).ownBlock = some g → g ≠ gl) := Lib.hid (fun g hg => by
              obtain ⟨cur, b1, _⟩ := HM2.out.lanes
              rw [HGM.out.1] at b1
              exact HB2.out.ne_heap b1 (by decide) g hg)
            have HGG : Hid (gc ≠ gl ∧ w.heap.size ≠ gl) := Lib.hid (by
              obtain ⟨cur, b1, _⟩ := HM2.out.lanes
              rw [HGM.out.1] at b1
              exact ⟨fun e => ne_of_heap b1 HGC2.out (by decide) e.symm, fun e => ne_of_heap b1 HRS3.out (by decide) e.symm⟩)
            go_wp2_with fail
            refine (HFR.out _ vr2 vt2 _ HM2.out HOC.out).mono ?_
            rintro e w6 ⟨rfl, hq6, hc6⟩
            have HQ6 := Lib.hid hq6
            have HC6 := Lib.hid hc6
            clear hq6 hc6
            go_wp2
            go_roundg (N - (j + 1))
            case measure => have := Hgk.out; omega
            case rel =>
              exact ⟨j + 1, vr2, vt2, by have := Hgk.out; omega, by rw [HNW.out]; exact HQ6.out, by rw [HNW.out]; exact HOC.out.pass, by rw [HNW.out, pass_H, step_H]; exact HB2.out.chg HC6.out (fun g hg => HBN.out g hg), HC6.out.heap HGC2.out HGG.out.1, HC6.out.heap HRS3.out HGG.out.2⟩
      · go_wp2_with (at_builtin; go_must (refine wl_append1F elBeatI rfl _ _ rfl w.heap.size _ s.H.length (beatsC s.H) rfl HB4.out w4.heap.size 1 [.int .i64 (pl : Int), .int .i64 (mk : Int)] rfl rfl rfl rfl (by decide) hlen hCw ?_); intro q' wq r1 r2 r3; go_must (obtain ⟨Aq, cq, hqe⟩ := r1.form; subst hqe; have HBq := Lib.hid r1; have hcg := Chg.of_grown (S := fun b => (Value.slice Ab s.H.length cb).ownBlock = some b) r2 (fun k hk => hk); have HMq := Lib.hid (qrun_beats HM4.out HB4.out HGM.out.2.2.2.1 hcg); have HGq := Lib.hid (hcg.heap HG4.out (fun e => HB4.out.ne_heap HG4.out (by decide) _ e rfl)); have HRq := Lib.hid (hcg.heap HR4.out (fun e => HB4.out.ne_heap HR4.out (by decide) _ e rfl)); clear r1 r2 r3 hcg))
        have HL0 : Hid (QRun o wq vr vt s1.L s1.M) := Lib.hid (by rw [HNL.out, HNM.out]; exact HMq.out)
        have HBS : Hid (OwnO wq w.heap.size 84 2 (.slice Aq (s.H.length + 1) cq) s1.H.length (beatsC s1.H)) := Lib.hid (by rw [HNH.out, if_neg (by rw [HQ3.out d12 d14]; decide), beatsC_append, List.length_append]; exact HBq.out)
        have HGS2 := Lib.hid (HGq.out)
        have HRS2 := Lib.hid (HRq.out)
        clear x0 x1 c0
        go_loopg [12] n (fun g2 i wr2 => ∃ (k : Nat) (vr2 vt2 : Nat → Value), g2 + k = n ∧ i = .int .i64 k ∧ QRun o wr2 vr2 vt2 (stepTo cs mem.length mk k s1).L (stepTo cs mem.length mk k s1).M ∧ OwnO wr2 w.heap.size 84 2 (.slice Aq (s.H.length + 1) cq) s1.H.length (beatsC s1.H) ∧
          wr2.heap[gc]? = some (.cells #[.slice (some ⟨gl, 0, none⟩) n cl, .slice (some ⟨gm, 0, none⟩) mem.length cmm] 33 (0, 0)) ∧ wr2.heap[w.heap.size]? = some (.cells #[.slice none 0 0, .slice none 0 0] 33 (0, 0)))
        case atStart => exact ⟨0, vr, vt, rfl, rfl, HL0.out, HBS.out, HGS2.out, HRS2.out⟩
        case round =>
          obtain ⟨k, vr2, vt2, hg2, rfl, hr2, hb2, hgc2, hrs2⟩ := hrel
          have Hg2 := Lib.hid hg2
          have HM2 := Lib.hid hr2
          have HB2 := Lib.hid hb2
          have HGC2 := Lib.hid hgc2
          have HRS3 := Lib.hid hrs2
          have hkn : k ≤ n := by omega
          have x0 := cell_of_row _ _ 0 _ _ _ hgc2
          have x1 := cell_of_row _ _ 1 _ _ _ hgc2
          simp only [List.getElem?_toArray, List.getElem?_cons_zero, List.getElem?_cons_succ] at x0 x1
          have HOC := Lib.hid (OnC.steps (m := mem.length) HW1.out HGS1.out k)
          clear hg2 hr2 hb2 hgc2 hrs2 HL0 HBS HGS2
          by_cases hlt : k < n
          · have hnn := digit_nonneg mk k
            have hbit := digit_eq1 mk k
            have hnext : stepTo cs mem.length mk (k + 1) s1 = if mk.testBit k then laneS cs mem.length k (stepTo cs mem.length mk k s1) else stepTo cs mem.length mk k s1 := rfl
            have hgo : mk.testBit k = true → goesL cs.length ((stepTo cs mem.length mk k s1).L k) = true := fun h => by
              rw [step_at k k (.inl (Nat.le_refl _))]; exact HGS1.out k h
            obtain ⟨D, HD⟩ : ∃ D, Hid (mk.testBit k = D) := ⟨_, Lib.hid rfl⟩
            rw [HD.out] at hbit hnext hgo
            have Hnext := Lib.hid hnext
            have HGo := Lib.hid hgo
            obtain ⟨s2, Hs2⟩ : ∃ s2, Hid (stepTo cs mem.length mk k s1 = s2) := ⟨_, Lib.hid rfl⟩
            rw [Hs2.out] at HM2 HOC Hnext HGo
            clear hnext hgo
            cases D
            · go_wp2
              go_roundg (n - (k + 1))
              case measure => have := Hg2.out; omega
              case rel => exact ⟨k + 1, vr2, vt2, by have := Hg2.out; omega, by go_num, by rw [Hnext.out]; exact HM2.out, HB2.out, HGC2.out, HRS3.out⟩
            · have hgo := HGo.out rfl
              have HGL := Lib.hid hgo
              have hcl := HM2.out.cells (k := k) (by rw [HGM.out.2.2.1]; exact hlt)
              rw [HGM.out.1] at hcl
              obtain ⟨q0, q1, q2, q3, qf⟩ := hcl
              have hln := HM2.out.lnb k (by rw [HGM.out.2.2.1]; exact hlt)
              obtain ⟨⟨g1, cg, hvr⟩, _, hot⟩ := hln
              obtain ⟨At, ct, hvt⟩ := hot.form
              rw [hvr] at q0
              rw [hvt] at q2
              obtain ⟨l', Hl'⟩ : ∃ l', Hid (lnStep cs mem.length k (s2.L k) s2.M = l') := ⟨_, Lib.hid rfl⟩
              have HSTk : Hid (∀ u, Pure wr u → Calls Try.prog 93 #[lnV (vr2 k) (vt2 k) (s2.L k), .slice (some ⟨b, ob, none⟩) cs.length c, .int .i64 (k : Nat), .slice (some ⟨gm, 0, none⟩) mem.length cmm] u (StepLP u w.heap.size gm mem.length cmm l' (lnMem cs mem.length (s2.L k) s2.M))) := Lib.hid (fun u hu => by
                rw [← Hl'.out]
                exact HST.out u vr2 vt2 s2 k hlt (HM2.out.keep hu) HOC.out HGL.out)
              have HLDk : Hid (∀ (u u2 : World) (vr' vt' : Value), Pure wr u → LnB u2 u.heap.size vr' vt' l' → SMem u2 w.heap.size gm mem.length cmm (lnMem cs mem.length (s2.L k) s2.M) → Chg (fun b => b = gm) u u2 →
                  QRun o ((((u2.setCell ⟨gl, k * 4, none⟩ vr').setCell ⟨gl, k * 4 + 1, none⟩ (.int .i64 (l'.at_ : Nat))).setCell ⟨gl, k * 4 + 2, none⟩ vt').setCell ⟨gl, k * 4 + 3, none⟩ (.bool l'.W)) (upV vr2 k vr') (upV vt2 k vt') (laneS cs mem.length k s2).L (laneS cs mem.length k s2).M ∧
                  Chg (fun b => b = gl) u2 ((((u2.setCell ⟨gl, k * 4, none⟩ vr').setCell ⟨gl, k * 4 + 1, none⟩ (.int .i64 (l'.at_ : Nat))).setCell ⟨gl, k * 4 + 2, none⟩ vt').setCell ⟨gl, k * 4 + 3, none⟩ (.bool l'.W))) := Lib.hid (fun u u2 vr' vt' hu => by
                rw [← Hl'.out]
                exact HLD.out u u2 vr2 vt2 s2 k vr' vt' hlt (HM2.out.keep hu) HOC.out HGL.out)
              unfold lnV at HSTk
              rw [hvr, hvt] at HSTk
              obtain ⟨a, Ha⟩ : ∃ a, Hid ((s2.L k).at_ = a) := ⟨_, Lib.hid rfl⟩
              obtain ⟨W, HWb⟩ : ∃ W, Hid ((s2.L k).W = W) := ⟨_, Lib.hid rfl⟩
              obtain ⟨tl, Htl⟩ : ∃ tl, Hid ((s2.L k).T.length = tl) := ⟨_, Lib.hid rfl⟩
              rw [Ha.out] at q1
              rw [HWb.out] at q3
              rw [Htl.out] at q2
              rw [Ha.out, HWb.out, Htl.out] at HSTk
              have hk0 : (0 : Int) ≤ (k : Int) := by omega
              have hkI : (k : Int) < (n : Int) := by omega
              have hglw : gl < wr.heap.size := by have := HM2.out.glLt; rwa [HGM.out.1] at this
              have hgg : gm ≠ gl ∧ gm ≠ gc ∧ gm ≠ w.heap.size ∧ gl ≠ gc ∧ gl ≠ w.heap.size := by
                have h1 := HM2.out.ne_gl.1
                have hmo := HM2.out.mem.own
                obtain ⟨cur, b1, _⟩ := HM2.out.lanes
                rw [HGM.out.1] at h1 b1
                rw [HGM.out.2.1] at h1 hmo
                exact ⟨h1, hmo.ne_heap HGC2.out (by decide) _ rfl, hmo.ne_heap HRS3.out (by decide) _ rfl, fun e => ne_of_heap b1 HGC2.out (by decide) e, fun e => ne_of_heap b1 HRS3.out (by decide) e⟩
              have HGG := Lib.hid hgg
              have HBN : Hid (∀ g, (Value.slice Aq (s.H.length + 1) cq).ownBlock = some g → g ≠ gm ∧ g ≠ gl) := Lib.hid (fun g hg => by
                obtain ⟨cur, b1, _⟩ := HM2.out.lanes
                rw [HGM.out.1] at b1
                obtain ⟨cur2, b2⟩ := (HGM.out.2.1 ▸ HM2.out.mem.own : OwnO wr _ _ _ _ _ _).heap (g := gm) rfl
                exact ⟨HB2.out.ne_heap b2 (by decide) g hg, HB2.out.ne_heap b1 (by decide) g hg⟩)
              obtain ⟨kk, Hkk⟩ : ∃ kk, Hid (k * 4 = kk) := ⟨_, Lib.hid rfl⟩
              clear hvr hvt hot hgo hgg
              go_wp2_with fail
              refine region_heldF (fun w' => w'.cell? ⟨gc, 0, none⟩ = some (.slice (some ⟨gl, 0, none⟩) n cl) ∧ w'.cell? ⟨gc, 1, none⟩ = some (.slice (some ⟨gm, 0, none⟩) mem.length cmm) ∧ w'.cell? ⟨gl, k * 4, none⟩ = some (.slice (some ⟨g1, 0, none⟩) 4 cg) ∧ w'.cell? ⟨gl, k * 4 + 1, none⟩ = some (.int .i64 (a : Int)) ∧ w'.cell? ⟨gl, k * 4 + 2, none⟩ = some (.slice At tl ct) ∧ w'.cell? ⟨gl, k * 4 + 3, none⟩ = some (.bool W))
                (List.range 12) [12, 13, 14] (fun l => List.take 12 l) (fun l => List.drop 12 l) (by kernel_rfl) (by kernel_rfl) (by kernel_rfl) (by kernel_rfl) (fun c a d v w h => by cases d <;> exact h) (by exact ⟨keepP (by repeat (first | assumption | exact Pure.refl _ | refine Pure.drewN ?_ _ | refine Pure.drew ?_ | refine Pure.alloc ?_ _ | refine Pure.setCell ?_ (by simp <;> omega) _)) x0, keepP (by repeat (first | assumption | exact Pure.refl _ | refine Pure.drewN ?_ _ | refine Pure.drew ?_ | refine Pure.alloc ?_ _ | refine Pure.setCell ?_ (by simp <;> omega) _)) x1, keepP (by repeat (first | assumption | exact Pure.refl _ | refine Pure.drewN ?_ _ | refine Pure.drew ?_ | refine Pure.alloc ?_ _ | refine Pure.setCell ?_ (by simp <;> omega) _)) q0, keepP (by repeat (first | assumption | exact Pure.refl _ | refine Pure.drewN ?_ _ | refine Pure.drew ?_ | refine Pure.alloc ?_ _ | refine Pure.setCell ?_ (by simp <;> omega) _)) q1, keepP (by repeat (first | assumption | exact Pure.refl _ | refine Pure.drewN ?_ _ | refine Pure.drew ?_ | refine Pure.alloc ?_ _ | refine Pure.setCell ?_ (by simp <;> omega) _)) q2, keepP (by repeat (first | assumption | exact Pure.refl _ | refine Pure.drewN ?_ _ | refine Pure.drew ?_ | refine Pure.alloc ?_ _ | refine Pure.setCell ?_ (by simp <;> omega) _)) q3⟩) ?_
              simp only [List.take_succ_cons, List.take_zero, List.drop_succ_cons, List.drop_zero]
              iterate 12
                apply held_of
                · exact rfl
                · intro w' hS
                  obtain ⟨s0, s1, s2, s3, s4, s5⟩ := hS
                  go_simp
                  try exact rfl
                try go_simp
              refine held_nil ?_
              unfold Tail
              go_wp2_with fail
              refine (HSTk.out _ (show Pure wr wr.drew from (by repeat (first | assumption | exact Pure.refl _ | refine Pure.drewN ?_ _ | refine Pure.drew ?_ | refine Pure.alloc ?_ _ | refine Pure.setCell ?_ (by simp <;> omega) _)))).mono ?_
              rintro e w6 ⟨vr', vt', rfl, hb6, hm6, hc6⟩
              have hz := HLDk.out _ w6 vr' vt' (show Pure wr wr.drew from (by repeat (first | assumption | exact Pure.refl _ | refine Pure.drewN ?_ _ | refine Pure.drew ?_ | refine Pure.alloc ?_ _ | refine Pure.setCell ?_ (by simp <;> omega) _))) hb6 hm6 hc6
              have HZ := Lib.hid hz
              obtain ⟨⟨g6, c6, rfl⟩, _, ho6⟩ := hb6
              obtain ⟨A6, d6, rfl⟩ := ho6.form
              have e0 := keepC hc6 (fun e => HGG.out.2.1 e.symm) (keepP (show Pure wr wr.drew from (by repeat (first | assumption | exact Pure.refl _ | refine Pure.drewN ?_ _ | refine Pure.drew ?_ | refine Pure.alloc ?_ _ | refine Pure.setCell ?_ (by simp <;> omega) _))) x0)
              have e1 := keepC hc6 (fun e => HGG.out.2.1 e.symm) (keepP (show Pure wr wr.drew from (by repeat (first | assumption | exact Pure.refl _ | refine Pure.drewN ?_ _ | refine Pure.drew ?_ | refine Pure.alloc ?_ _ | refine Pure.setCell ?_ (by simp <;> omega) _))) x1)
              have e2 := keepC hc6 (fun e => HGG.out.1 e.symm) (keepP (show Pure wr wr.drew from (by repeat (first | assumption | exact Pure.refl _ | refine Pure.drewN ?_ _ | refine Pure.drew ?_ | refine Pure.alloc ?_ _ | refine Pure.setCell ?_ (by simp <;> omega) _))) q0)
              have e3 := keepC hc6 (fun e => HGG.out.1 e.symm) (keepP (show Pure wr wr.drew from (by repeat (first | assumption | exact Pure.refl _ | refine Pure.drewN ?_ _ | refine Pure.drew ?_ | refine Pure.alloc ?_ _ | refine Pure.setCell ?_ (by simp <;> omega) _))) q1)
              have e4 := keepC hc6 (fun e => HGG.out.1 e.symm) (keepP (show Pure wr wr.drew from (by repeat (first | assumption | exact Pure.refl _ | refine Pure.drewN ?_ _ | refine Pure.drew ?_ | refine Pure.alloc ?_ _ | refine Pure.setCell ?_ (by simp <;> omega) _))) q2)
              have e5 := keepC hc6 (fun e => HGG.out.1 e.symm) (keepP (show Pure wr wr.drew from (by repeat (first | assumption | exact Pure.refl _ | refine Pure.drewN ?_ _ | refine Pure.drew ?_ | refine Pure.alloc ?_ _ | refine Pure.setCell ?_ (by simp <;> omega) _))) q3)
              obtain ⟨cur, b1, _⟩ := HM2.out.lanes
              rw [HGM.out.1] at b1
              have b6 := hc6.heap (show wr.drew.heap[gl]? = _ from b1) (fun e => HGG.out.1 e.symm)
              have f0 := frozen_of_row w6 gl (k * 4) _ _ b6
              have f1 := frozen_of_row w6 gl (k * 4 + 1) _ _ b6
              have f2 := frozen_of_row w6 gl (k * 4 + 2) _ _ b6
              have f3 := frozen_of_row w6 gl (k * 4 + 3) _ _ b6
              have HC6 := Lib.hid (hc6.trans (Chg.refl _ _))
              unfold lnV
              clear hz b1 b6 hm6
              go_wp2_with fail
              refine And.intro (by exact ⟨e0, e1, e2, e3, e4, e5⟩) ?_
              unfold Tail
              go_wp2
              refine And.intro (by exact ⟨e0, e1, e2, e3, e4, e5⟩) ?_
              unfold Tail
              go_wp2
              go_roundg (n - (k + 1))
              case measure => have := Hg2.out; omega
              case rel =>
                have HS := (Chg.of_pure (S := fun b => b = gm) (show Pure wr wr.drew from (by repeat (first | assumption | exact Pure.refl _ | refine Pure.drewN ?_ _ | refine Pure.drew ?_ | refine Pure.alloc ?_ _ | refine Pure.setCell ?_ (by simp <;> omega) _)))).trans HC6.out
                exact ⟨k + 1, _, _, by have := Hg2.out; omega, by go_num, by rw [Hnext.out]; exact HZ.out.1,
                  (HB2.out.chg HS (fun g hg => (HBN.out g hg).1)).chg HZ.out.2 (fun g hg => (HBN.out g hg).2),
                  HZ.out.2.heap (HS.heap HGC2.out (fun e => HGG.out.2.1 e.symm)) (fun e => HGG.out.2.2.2.1 e.symm), HZ.out.2.heap (HS.heap HRS3.out (fun e => HGG.out.2.2.1 e.symm)) (fun e => HGG.out.2.2.2.2 e.symm)⟩
          · have hkl : k = n := by omega
            subst hkl
            have HBN : Hid (∀ g, (Value.slice Aq (s.H.length + 1) cq).ownBlock = some g → g ≠ gl) := Lib.hid (fun g hg => by
              obtain ⟨cur, b1, _⟩ := HM2.out.lanes
              rw [HGM.out.1] at b1
              exact HB2.out.ne_heap b1 (by decide) g hg)
            have HGG : Hid (gc ≠ gl ∧ w.heap.size ≠ gl) := Lib.hid (by
              obtain ⟨cur, b1, _⟩ := HM2.out.lanes
              rw [HGM.out.1] at b1
              exact ⟨fun e => ne_of_heap b1 HGC2.out (by decide) e.symm, fun e => ne_of_heap b1 HRS3.out (by decide) e.symm⟩)
            go_wp2_with fail
            refine (HFR.out _ vr2 vt2 _ HM2.out HOC.out).mono ?_
            rintro e w6 ⟨rfl, hq6, hc6⟩
            have HQ6 := Lib.hid hq6
            have HC6 := Lib.hid hc6
            clear hq6 hc6
            go_wp2
            go_roundg (N - (j + 1))
            case measure => have := Hgk.out; omega
            case rel =>
              exact ⟨j + 1, vr2, vt2, by have := Hgk.out; omega, by rw [HNW.out]; exact HQ6.out, by rw [HNW.out]; exact HOC.out.pass, by rw [HNW.out, pass_H, step_H]; exact HB2.out.chg HC6.out (fun g hg => HBN.out g hg), HC6.out.heap HGC2.out HGG.out.1, HC6.out.heap HRS3.out HGG.out.2⟩

end Go.Proofs.Ytajaonejpggcbaa

namespace Go.Proofs.Ytajaonejpggcbaa
open Go.RowKit

set_option maxHeartbeats 1000000 in
theorem srleast_any (vl vm : Value) (cs : List Cd) (a : Int) (mem : List Int) (w : World) (h : Codes w vl cs) (hm : Ints w vm mem) (hs1 : cs.length ≤ 1048576) (hs2 : mem.length ≤ 1048576) :
    Calls Try.prog 21 #[vl, .int .i64 a, vm] w fun e w' => ∃ v, e = .returned v ∧ OwnO w' w.heap.size 3 1 v (leastMem cs a mem).length ((leastMem cs a mem).map (.int .i64)) ∧ Pure w w' := by
  have H := Lib.hid h
  have HM := Lib.hid hm
  obtain ⟨A, c, rfl, hnc, hcm⟩ := h.form
  obtain ⟨Am, cm0, rfl⟩ := hm.form
  clear h hm
  by_cases hok : RunOk cs a mem
  · obtain ⟨n, rfl, _, _⟩ : ∃ n : Nat, a = n ∧ 1 ≤ n ∧ n ≤ 8 := ⟨a.toNat, by have := hok.2.1.1; have := hok.2.1.2; omega, by have := hok.2.1.1; omega, by have := hok.2.1.2; omega⟩
    have HOK := Lib.hid hok
    have HD := Lib.hid (leastA_done hok)
    have HL : Hid (leastMem cs n mem = (List.range mem.length).map (lIter cs n mem.length 40000 (startCS mem)).M) := Lib.hid (leastMem_ok hok)
    clear hok
    go_enter Try.func21, Try.ntmps21
    go_wp2_with fail
    refine (sok_any _ _ cs n mem _ H.out HM.out hs1 hs2 true (by simp only [true_iff]; exact HOK.out)).mono ?_
    rintro e w1 ⟨rfl, hp1⟩
    have HP1 := Lib.hid hp1
    clear hp1
    go_wp2_with fail
    refine (srunleast_any _ _ cs n mem _ (H.out.keep HP1.out) (HM.out.keep HP1.out) HOK.out 40000 (Nat.le_refl _) HD.out).mono ?_
    rintro e w2 ⟨AL, nL, cL, v, vb, rfl, hv, _, hp2⟩
    obtain ⟨Av, cv, rfl⟩ := hv.form
    have HV := Lib.hid hv
    clear hv
    go_wp2
    go_ret
    refine ⟨_, rfl, ?_, by exact (HP1.out.trans hp2).trans (by repeat (first | assumption | exact Pure.refl _ | refine Pure.drewN ?_ _ | refine Pure.drew ?_ | refine Pure.alloc ?_ _ | refine Pure.setCell ?_ (by simp <;> omega) _))⟩
    have h1 := HV.out
    rw [memL_map] at h1
    rw [HL.out]
    exact (OwnO.base (by simpa using h1) HP1.out.size).pure (by repeat (first | assumption | exact Pure.refl _ | refine Pure.drewN ?_ _ | refine Pure.drew ?_ | refine Pure.alloc ?_ _ | refine Pure.setCell ?_ (by simp <;> omega) _))
  · have HOK := Lib.hid hok
    have HL : Hid (leastMem cs a mem = []) := Lib.hid (leastMem_no hok)
    clear hok
    go_enter Try.func21, Try.ntmps21
    go_wp2_with fail
    refine (sok_any _ _ cs a mem _ H.out HM.out hs1 hs2 false (by simp only [Bool.false_eq_true, false_iff]; exact HOK.out)).mono ?_
    rintro e w1 ⟨rfl, hp1⟩
    go_wp2
    go_ret
    refine ⟨_, rfl, ?_, by exact hp1.trans (by repeat (first | assumption | exact Pure.refl _ | refine Pure.drewN ?_ _ | refine Pure.drew ?_ | refine Pure.alloc ?_ _ | refine Pure.setCell ?_ (by simp <;> omega) _))⟩
    rw [HL.out]
    exact OwnO.base (OwnO.empty_lit (w := w1) (B := w1.heap.size) (Nat.le_refl _)) hp1.size

noncomputable def leastH (cs : List Cd) (a : Int) (mem : List Int) : List (Nat × Nat × (Nat → Nat → Int)) := (leastA cs a mem).H.map fun x => (x.1, x.2, fun _ _ => 0)
theorem leastH_len (cs : List Cd) (a : Int) (mem : List Int) : (leastH cs a mem).length = (leastA cs a mem).H.length := by simp [leastH]
theorem leastH_beats (cs : List Cd) (a : Int) (mem : List Int) : beatsL (leastH cs a mem) = beatsC (leastA cs a mem).H := by
  unfold beatsL beatsC leastH; rw [List.flatMap_map]

set_option maxHeartbeats 1000000 in
theorem sltrace_any (vl vm : Value) (cs : List Cd) (a : Int) (mem : List Int) (w : World) (h : Codes w vl cs) (hm : Ints w vm mem) (hs1 : cs.length ≤ 1048576) (hs2 : mem.length ≤ 1048576) :
    Calls Try.prog 28 #[vl, .int .i64 a, vm] w fun e w' => ∃ v, e = .returned v ∧ OwnO w' w.heap.size 84 2 v (leastH cs a mem).length (beatsL (leastH cs a mem)) ∧ Pure w w' := by
  rw [leastH_len, leastH_beats]
  have H := Lib.hid h
  have HM := Lib.hid hm
  obtain ⟨A, c, rfl, hnc, hcm⟩ := h.form
  obtain ⟨Am, cm0, rfl⟩ := hm.form
  clear h hm
  by_cases hok : RunOk cs a mem
  · obtain ⟨n, rfl, _, _⟩ : ∃ n : Nat, a = n ∧ 1 ≤ n ∧ n ≤ 8 := ⟨a.toNat, by have := hok.2.1.1; have := hok.2.1.2; omega, by have := hok.2.1.1; omega, by have := hok.2.1.2; omega⟩
    have HOK := Lib.hid hok
    have HD := Lib.hid (leastA_done hok)
    have HL : Hid (leastA cs n mem = lIter cs n mem.length 40000 (startCS mem)) := Lib.hid (leastA_ok hok)
    clear hok
    go_enter Try.func28, Try.ntmps28
    go_wp2_with fail
    refine (sok_any _ _ cs n mem _ H.out HM.out hs1 hs2 true (by simp only [true_iff]; exact HOK.out)).mono ?_
    rintro e w1 ⟨rfl, hp1⟩
    have HP1 := Lib.hid hp1
    clear hp1
    go_wp2_with fail
    refine (srunleast_any _ _ cs n mem _ (H.out.keep HP1.out) (HM.out.keep HP1.out) HOK.out 40000 (Nat.le_refl _) HD.out).mono ?_
    rintro e w2 ⟨AL, nL, cL, v, vb, rfl, hv, hb, hp2⟩
    obtain ⟨Av, cv, rfl⟩ := hv.form
    have HB := Lib.hid hb
    clear hb hv
    go_wp2
    go_ret
    refine ⟨vb, rfl, ?_, by exact (HP1.out.trans hp2).trans (by repeat (first | assumption | exact Pure.refl _ | refine Pure.drewN ?_ _ | refine Pure.drew ?_ | refine Pure.alloc ?_ _ | refine Pure.setCell ?_ (by simp <;> omega) _))⟩
    rw [HL.out]
    exact (HB.out.base HP1.out.size).pure (by repeat (first | assumption | exact Pure.refl _ | refine Pure.drewN ?_ _ | refine Pure.drew ?_ | refine Pure.alloc ?_ _ | refine Pure.setCell ?_ (by simp <;> omega) _))
  · have HOK := Lib.hid hok
    have HL : Hid ((leastA cs a mem).H = []) := Lib.hid (leastA_no hok)
    clear hok
    go_enter Try.func28, Try.ntmps28
    go_wp2_with fail
    refine (sok_any _ _ cs a mem _ H.out HM.out hs1 hs2 false (by simp only [Bool.false_eq_true, false_iff]; exact HOK.out)).mono ?_
    rintro e w1 ⟨rfl, hp1⟩
    go_wp2
    go_ret
    refine ⟨_, rfl, ?_, by exact hp1.trans (by repeat (first | assumption | exact Pure.refl _ | refine Pure.drewN ?_ _ | refine Pure.drew ?_ | refine Pure.alloc ?_ _ | refine Pure.setCell ?_ (by simp <;> omega) _))⟩
    rw [HL.out]
    exact OwnO.base (OwnO.empty_lit (w := w1) (B := w1.heap.size) (Nat.le_refl _)) hp1.size

theorem iltraceH_any (vl vm : Value) (cs : List Cd) (a : Int) (mem : List Int) (w : World) (h : Codes w vl cs) (hm : Ints w vm mem) (hs1 : cs.length ≤ 1048576) (hs2 : mem.length ≤ 1048576) :
    Calls Try.prog 29 #[vl, .int .i64 a, vm] w fun e w' => ∃ v, e = .returned v ∧ OwnO w' w.heap.size 84 2 v (leastH cs a mem).length (beatsL (leastH cs a mem)) ∧ Pure w w' := by
  rw [leastH_len, leastH_beats]
  exact iltrace_any vl vm cs a mem w h hm hs1 hs2
theorem leastH_len8 {cs : List Cd} {a : Int} {mem : List Int} : (leastH cs a mem).length ≤ 40000 := by rw [leastH_len]; exact leastA_len

end Go.Proofs.Ytajaonejpggcbaa

namespace Go.Proofs.Ytajaonejpggcbaa
open Go.RowKit

theorem ints_of_row {w : World} {B e : Nat} {v : Value} {ys : List Int} (h : w.ownsRow B e 1 v ys.length (ys.map (.int .i64))) : Ints w v ys := Ints.of_map h
theorem OwnO.of_own' {w : World} {B e s n : Nat} {v : Value} {xs : List Value} (h : w.ownsRow B e s v n xs) : OwnO w B e s v n xs := OwnO.of_own h

end Go.Proofs.Ytajaonejpggcbaa
