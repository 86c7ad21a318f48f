/- The program's search for blocks: where what it finds lies. What an instruction does to one lane, as the program reckons it. append to a slice that is still the empty one it began as, or the call's own. Sets as numbers that are not negative: Go's operations on their digits. No program in sight. No condition. -/
import Derived.StillTailTactics
import Derived.ArgAppend
import Derived.Laws.BitsAllLaws
import Derived.Lib.QuoteBits
import Derived.Test.YtkolnakcgjlcgaaQaa
import Derived.Test.YtkolnakcgjlcgaaQad
import Derived.Test.YtkolnakcgjlcgaaQag
import Derived.Test.YtkolnakcgjlcgaaQah

namespace Go.Proofs.Ytkolnakcgjlcgaa
open Go.RowKit

/-- The own blocks of a program's places, in blocks of the heap from B on. -/
def OwnT (B : Nat) (w : World) (vo : Value) (cs : List Cd) : Prop :=
  ∃ (g : Nat) (pb : Nat → Nat), vo = .slice (some ⟨g, 0, none⟩) cs.length cs.length ∧ B ≤ g ∧ g < w.heap.size ∧ (∀ j, j < cs.length → w.cell? ⟨g, j, none⟩ = some (ownV pb (ownOf cs j))) ∧
    ∀ p, p < cs.length → Opens (cs.getD p default) → (B ≤ pb p ∧ pb p < w.heap.size) ∧ w.cell? ⟨pb p, 0, none⟩ = some (.int .i64 p) ∧ w.cell? ⟨pb p, 1, none⟩ = some (.int .i64 (endAt cs p).2) ∧ w.cell? ⟨pb p, 2, none⟩ = some (.int .i64 (endAt cs p).1)
def BlkPostB (cs : List Cd) (w : World) (e : Ending) (w' : World) : Prop :=
  Pure w w' ∧ match sscan cs 0 [] with
  | none => e = .returned (.tuple #[.slice none 0 0, .slice none 0 0, .bool false])
  | some st => ∃ va vo, e = .returned (.tuple #[va, vo, .bool (decide (st.length = 0))]) ∧ (st = [] → OwnT w.heap.size w' vo cs)
theorem BInv.tabsB {cs : List Cd} {B : Nat} {w wr : World} {ga go : Nat} {q : Value} {pb : Nat → Nat} {bv : Nat → Int × Int} (h : BInv cs B w wr ga go q cs.length cs.length [] pb bv) : OwnT B wr (.slice (some ⟨go, 0, none⟩) cs.length cs.length) cs := by
  obtain ⟨a1, a2, a3, a4, ⟨ys, a5, a6, a7⟩, ⟨zs, a8, a8'⟩, a9, a10, a11, a12, a13, a14⟩ := h
  have hlt := a5.lt go rfl
  refine ⟨go, pb, rfl, hlt.1, hlt.2, fun j hj => ?_, fun p hp ho => ?_⟩
  · have := a5.cell j (by omega)
    rw [Nat.zero_add] at this
    rw [this]; exact a6 j (by omega)
  · obtain ⟨b1, b2⟩ := a11 p hp ho
    have hlt := (Array.getElem?_eq_some_iff.1 b2).1
    have e := a14 p hp ho (fun i hi => by simp at hi)
    rw [e]
    exact ⟨⟨b1, hlt⟩, cell_of_row wr _ 0 _ _ _ b2, cell_of_row wr _ 1 _ _ _ b2, cell_of_row wr _ 2 _ _ _ b2⟩

set_option maxHeartbeats 2000000 in
set_option maxRecDepth 100000 in
theorem blocksB_any (v : Value) (cs : List Cd) (w : World) (h : Codes w v cs) (hsmall : cs.length ≤ 40) :
    Calls Try.prog 75 #[v] w (BlkPostB cs w) := by
  have H := Lib.hid h
  obtain ⟨A, c, rfl, hnc, hcm⟩ := h.form
  clear h
  go_enter Try.func75, Try.ntmps75
  go_wp2_with (first
    | (at_make; refine wl_make elPtrs rfl _ _ rfl w.heap.size _ _ _ _ cs.length rfl rfl rfl rfl (by omega) (by omega) (Nat.le_refl _) ?_; intro w1 hown hp hsz; have hO1 := Lib.hid (OwnO.of_own hown); have hp1 := Lib.hid hp; clear hown hp)
    | (at_make; refine wl_make elPtr rfl _ _ rfl w.heap.size _ _ _ _ cs.length rfl rfl rfl rfl (by omega) (by omega) hp1.out.size ?_; intro w2 hown hp hsz2; have hO2 := Lib.hid (OwnO.of_own hown); have hp2 := Lib.hid hp; clear hown hp))
  have I0 : BInv cs w.heap.size w w2 w.heap.size w1.heap.size (.slice none 0 0) 0 0 [] (fun _ => 0) (fun _ => (0, 0)) := by
    refine ⟨hp1.out.trans hp2.out, rfl, by simp [sscan], Stk.nil cs, ⟨_, hO2.out, by simp, fun j _ hj => ?_⟩, ⟨_, hO1.out.pure hp2.out, by simp⟩, OwnO.of_own (World.ownsRow_nil _ _ _ _), by simp [Value.ownBlock], by simp, by simp, by simp, by simp⟩
    rw [zeros_get _ _ _ (by simpa using hj)]; simp [Nat.mod_one]
  have HI := Lib.hid I0
  have hw01 : w.heap.size < w1.heap.size := hsz
  clear I0 hO1 hO2 hp1 hp2 hsz hsz2
  go_loopg [19, 7] cs.length (fun gk i q wr => ∃ (k : Nat) (st : List (Nat × Int)) (pb : Nat → Nat) (bv : Nat → Int × Int), gk + k = cs.length ∧ i = .int .i64 k ∧ BInv cs w.heap.size w wr w.heap.size w1.heap.size q k k st pb bv)
  case atStart => exact ⟨0, [], _, _, rfl, rfl, HI.out⟩
  case round =>
    clear HI
    obtain ⟨k, st, pb, bv, hgk, rfl, hI⟩ := hrel
    have Hgk := Lib.hid hgk
    have hkn : k ≤ cs.length := by omega
    have hst3 := hI.stk.len
    obtain ⟨Aq, cq, rfl⟩ := hI.que.form
    have HI := Lib.hid hI
    clear hgk hI
    by_cases hlt : k < cs.length
    · obtain ⟨b, o, rfl, hb, hc⟩ := H.out.at_ hlt
      obtain ⟨cd, Hcd⟩ : ∃ cd, Hid (cs.getD k default = cd) := ⟨_, rfl⟩
      have hat := hc.keep HI.out.pure hb
      rw [Hcd.out] at hat
      obtain ⟨q0, q1, q2, q3⟩ := hat
      clear hc
      have pA := Lib.hid (Pure.alloc (Pure.refl wr) (.cells #[.int .i64 cd.op, .int .i64 cd.a, .int .i64 cd.b, .int .i64 cd.c] 36))
      obtain ⟨QL, HQL⟩ : ∃ QL, Hid ((List.range (st.length * 1)).map (fun i => QL.getD i undef) = (st.map fun x => ptr pb x.1).reverse) ∧ Hid (QL = (st.map fun x => ptr pb x.1).reverse) := by
        refine ⟨(st.map fun x => ptr pb x.1).reverse, ?_, Lib.hid rfl⟩
        have := range_getD (st.map fun x => ptr pb x.1).reverse
        rwa [List.length_reverse, List.length_map] at this
      obtain ⟨HQL, HQE⟩ := HQL
      have HQ : Hid (Cells (wr.alloc (.cells #[.int .i64 cd.op, .int .i64 cd.a, .int .i64 cd.b, .int .i64 cd.c] 36)) (.slice Aq st.length cq) st.length 1 (fun i => QL.getD i undef)) := by
        refine Cells.keep (Cells.of_ownO HI.out.que fun j hj => ?_) pA.out
        have hj' : j < st.length := by omega
        rw [HQE.out]; simp [List.getD_eq_getElem?_getD, hj']
      have QC : Hid (∀ j, j < st.length * 1 → ((fun i => QL.getD i undef) j).oneCell' = true) := fun j hj => by
        have hj' : j < st.length := by omega
        simp only
        rw [HQE.out]
        simp [List.getD_eq_getElem?_getD, hj', ptr, Value.oneCell']
      have FOP : Hid ((wr.alloc (.cells #[.int .i64 cd.op, .int .i64 cd.a, .int .i64 cd.b, .int .i64 cd.c] 36)).cell? ⟨wr.heap.size, 0, none⟩ = some (.int .i64 cd.op)) := cell_of_row _ _ 0 _ _ _ (heap_alloc_new wr _)
      have hstep := sscan_take hlt HI.out.sc
      rw [Hcd.out] at hstep
      have bad : sstep st k cd = none → sscan cs 0 [] = none := fun h1 => by
        rw [h1] at hstep
        exact sscan_none hstep
      have Bad := Lib.hid bad
      clear hstep bad
      have hbw : b < wr.heap.size := Nat.lt_of_lt_of_le hb HI.out.pure.size
      by_cases hop : Opens cd
      · have hd : (cd.op == 11) = true ∨ ((cd.op == 11) = false ∧ (cd.op == 13) = true) := by
          unfold Opens at hop
          rcases hop with h | h
          · exact .inl (by simp [h])
          · exact .inr ⟨by simp [h], by simp [h]⟩
        have Hop := Lib.hid hop
        clear hop
        by_cases h3 : st.length < 3
        · rcases hd with hd | ⟨hd, hd2⟩
          all_goals
            go_wp2_with (first | (at_builtin; refine wl_copyF elPtr rfl _ _ rfl (wr.heap.size + 1) rfl (by simp) (.slice Aq st.length cq) rfl (fun i => QL.getD i undef) st.length HQ.out QC.out (by decide) (by omega) rfl ?_; intro r wC hr hpC; go_must (have hpC2 := Lib.hid (pA.out.trans hpC); have hr2 := Lib.hid (hr.base (B' := wr.heap.size) (by simp)); obtain ⟨Ar, cr, rfl⟩ := hr.form; obtain ⟨⟨uA, fA⟩, zA, fO, zO, s1, s2, s3⟩ := row_facts HI.out hlt hpC2.out hw01; have fop := (hpC.cell wr.heap.size 0 (by simp)).trans FOP.out; have hII := Lib.hid (HI.out.storeRow hlt hpC2.out (by have := hr2.out; rw [HQL.out] at this; exact this)); clear hr hpC); go_must (have HB := Lib.hid (hII.out.keepPure (Pure.alloc (Pure.refl _) (.cells #[.int .i64 (k : Int), .int .i64 (-1), .int .i64 (-1)] 98))); have hlt9 : w1.heap.size < (wC.setCell ⟨w.heap.size, k, none⟩ (.slice Ar st.length cr)).heap.size := (by simp [World.setCell] <;> omega); have hos := own_store (u := .pointer (some ⟨wC.heap.size, 0, none⟩)) HB.out; have HQ3 := Lib.hid hos.2.1; have HP3 := Lib.hid hos.2.2.2; obtain ⟨ys9, o9, _, o9'⟩ := HB.out.own; have zO2 := o9.frozen k; obtain ⟨u9, cO2⟩ := o9.cellSome k (by omega); rw [Nat.zero_add] at cO2; clear hos o9 o9' hlt9)) | (at_builtin; go_must (refine wl_append1F elPtr rfl _ _ rfl w.heap.size (.slice Aq st.length cq) st.length ((st.map fun x => ptr pb x.1).reverse) rfl HQ3.out (wC.heap.size + 1) 1 [.pointer (some ⟨wC.heap.size, 0, none⟩)] rfl (by simp [World.setCell]) rfl rfl (by decide) (by omega) HP3.out.size ?_); intro q' wE hq' hg' hl'; go_must (obtain ⟨A2, c2, rfl⟩ := hq'.form; have HQ' := Lib.hid hq'; have HG' := Lib.hid hg'; have HL' := Lib.hid hl'; clear hq' hg' hl')))
            have hb2 : wC.heap.size = (wC.setCell ⟨w.heap.size, k, none⟩ (.slice Ar st.length cr)).heap.size := by simp [World.setCell]
            have hfin := hII.out.open_ hlt (by rw [Hcd.out]; exact Hop.out) h3 hb2 HQ'.out HG'.out HL'.out
            rw [Hcd.out] at hfin
            have HF := Lib.hid hfin
            clear hfin
            go_roundg (cs.length - (k + 1))
            case measure => have := Hgk.out; omega
            case rel => exact ⟨k + 1, _, _, _, by have := Hgk.out; omega, by go_num, HF.out⟩
        · rcases hd with hd | ⟨hd, hd2⟩
          all_goals
            go_wp2_with (first | (at_builtin; refine wl_copyF elPtr rfl _ _ rfl (wr.heap.size + 1) rfl (by simp) (.slice Aq st.length cq) rfl (fun i => QL.getD i undef) st.length HQ.out QC.out (by decide) (by omega) rfl ?_; intro r wC hr hpC; go_must (have hpC2 := Lib.hid (pA.out.trans hpC); have hr2 := Lib.hid (hr.base (B' := wr.heap.size) (by simp)); obtain ⟨Ar, cr, rfl⟩ := hr.form; obtain ⟨⟨uA, fA⟩, zA, fO, zO, s1, s2, s3⟩ := row_facts HI.out hlt hpC2.out hw01; have fop := (hpC.cell wr.heap.size 0 (by simp)).trans FOP.out; have hII := Lib.hid (HI.out.storeRow hlt hpC2.out (by have := hr2.out; rw [HQL.out] at this; exact this)); clear hr hpC); go_must (have HB := Lib.hid (hII.out.keepPure (Pure.alloc (Pure.refl _) (.cells #[.int .i64 (k : Int), .int .i64 (-1), .int .i64 (-1)] 98))); have hlt9 : w1.heap.size < (wC.setCell ⟨w.heap.size, k, none⟩ (.slice Ar st.length cr)).heap.size := (by simp [World.setCell] <;> omega); have hos := own_store (u := .pointer (some ⟨wC.heap.size, 0, none⟩)) HB.out; have HQ3 := Lib.hid hos.2.1; have HP3 := Lib.hid hos.2.2.2; obtain ⟨ys9, o9, _, o9'⟩ := HB.out.own; have zO2 := o9.frozen k; obtain ⟨u9, cO2⟩ := o9.cellSome k (by omega); rw [Nat.zero_add] at cO2; clear hos o9 o9' hlt9)) | (at_builtin; go_must (refine wl_append1F elPtr rfl _ _ rfl w.heap.size (.slice Aq st.length cq) st.length ((st.map fun x => ptr pb x.1).reverse) rfl HQ3.out (wC.heap.size + 1) 1 [.pointer (some ⟨wC.heap.size, 0, none⟩)] rfl (by simp [World.setCell]) rfl rfl (by decide) (by omega) HP3.out.size ?_); intro q' wE hq' hg' hl'; go_must (obtain ⟨A2, c2, rfl⟩ := hq'.form; have HQ' := Lib.hid hq'; have HG' := Lib.hid hg'; have HL' := Lib.hid hl'; clear hq' hg' hl')))
            go_ret3
            refine ⟨HP3.out.grown HG'.out (fun g hg => (HQ3.out.lt g hg).1), ?_⟩
            rw [Bad.out (by rw [sstep_open Hop.out, if_neg h3])]; rfl
      · have hd11 : (cd.op == 11) = false := by unfold Opens at hop; rw [beq_eq_false_iff_ne]; omega
        have hd13 : (cd.op == 13) = false := by unfold Opens at hop; rw [beq_eq_false_iff_ne]; omega
        have Hop := Lib.hid hop
        clear hop
        by_cases h12 : cd.op = 12
        · have hd12 : (cd.op == 12) = true := by simp [h12]
          have H12 := Lib.hid h12
          clear h12
          rcases st with _ | ⟨⟨p, m⟩, r⟩
          · simp only [List.length_nil] at *
            have hz : ((0 : Nat) : Int) - 1 < 0 := by omega
            go_wp2_with (at_builtin; refine wl_copyF elPtr rfl _ _ rfl (wr.heap.size + 1) rfl (by simp) (.slice Aq 0 cq) rfl (fun i => QL.getD i undef) 0 HQ.out QC.out (by decide) (by omega) rfl ?_; intro r wC hr hpC; go_must (have hpC2 := Lib.hid (pA.out.trans hpC); have hr2 := Lib.hid (hr.base (B' := wr.heap.size) (by simp)); obtain ⟨Ar, cr, rfl⟩ := hr.form; obtain ⟨⟨uA, fA⟩, zA, fO, zO, s1, s2, s3⟩ := row_facts HI.out hlt hpC2.out hw01; have fop := (hpC.cell wr.heap.size 0 (by simp)).trans FOP.out; have hII := Lib.hid (HI.out.storeRow hlt hpC2.out (by have := hr2.out; rw [HQL.out] at this; exact this)); clear hr hpC))
            go_ret3
            refine ⟨hII.out.pure, ?_⟩
            rw [Bad.out (by rw [sstep_else H12.out])]; rfl
          · obtain ⟨g, off, c2, hq, hq1, hq2, hq3, hq4⟩ := HI.out.que.formSome (by simp)
            injection hq with hq5 hq6 hq7
            subst hq5 hq7
            simp only [List.length_cons] at *
            have hidx : ((r.length + 1 : Nat) : Int) - 1 = r.length := by omega
            have HTF := Lib.hid (top_facts (wC := wr) HI.out (Pure.refl _))
            have hpn : p < cs.length := by have := HTF.out.2.2.2.2.2.2.2.2.2.2.2.2; omega
            obtain ⟨b0, o0, hb0e, hb0, hc0⟩ := H.out.at_ hpn
            injection hb0e with hb0e
            injection hb0e with e1 e2
            subst e1 e2
            obtain ⟨cp, Hcp⟩ : ∃ cp, Hid (cs.getD p default = cp) := ⟨_, rfl⟩
            rw [Hcp.out] at hc0
            have hcp := Lib.hid ((hc0.keep HI.out.pure hb0).c0)
            clear hc0
            have hop1 := HI.out.opn 0 (by simp)
            simp only [List.getElem_cons_zero] at hop1
            rw [Hcp.out] at hop1
            have hen := HI.out.stk.ends 0 (by simp)
            simp only [List.getElem_cons_zero] at hen
            have hm3 : m = 11 ∨ m = 12 ∨ m = 13 := by
              obtain ⟨_, _, h | h | h⟩ := hen
              · exact .inl h.1
              · exact .inr (.inl h.1)
              · exact .inr (.inr h.1)
            have HO1 := Lib.hid hop1
            have HM3 := Lib.hid hm3
            clear hop1 hen hm3
            have hstep : sstep ((p, m) :: r) k cd = if m = 11 then some ((p, 12) :: r) else none := by rw [sstep_else H12.out]
            have Hstep := Lib.hid hstep
            clear hstep
            by_cases hm : m = 11
            · have ho11 : cp.op = 11 := by
                have h1 := HO1.out.1; have h2 := HO1.out.2.2.2.2
                unfold Opens at h1
                rcases h1 with h | h
                · exact h
                · have := h2.2 h; omega
              have hd1 : (cp.op != 11) = false := by simp [ho11]
              have ho0 : (bv p).1 < 0 := by
                have := HO1.out.2.2.2.1
                omega
              subst hm
              go_wp2_with (at_builtin; refine wl_copyF elPtr rfl _ _ rfl (wr.heap.size + 1) rfl (by simp) (.slice (some ⟨g, off, none⟩) (r.length + 1) cq) rfl (fun i => QL.getD i undef) (r.length + 1) HQ.out QC.out (by decide) (by omega) rfl ?_; intro r wC hr hpC; go_must (have hpC2 := Lib.hid (pA.out.trans hpC); have hr2 := Lib.hid (hr.base (B' := wr.heap.size) (by simp)); obtain ⟨Ar, cr, rfl⟩ := hr.form; obtain ⟨⟨uA, fA⟩, zA, fO, zO, s1, s2, s3⟩ := row_facts HI.out hlt hpC2.out hw01; have fop := (hpC.cell wr.heap.size 0 (by simp)).trans FOP.out; have hII := Lib.hid (HI.out.storeRow hlt hpC2.out (by have := hr2.out; rw [HQL.out] at this; exact this)); clear hr hpC); go_must (obtain ⟨f1, f2, f3, f4, f5, n1, n2, n3, n4, n5, l1, l2, l3⟩ := top_facts HI.out hpC2.out; have z1 := f5 1; have z2 := f5 2; have fcp := (hpC2.out.cell b (o + p * 4) hbw).trans hcp.out; clear f5))
              have hfin := hII.out.els hlt (by rw [Hcd.out]; exact H12.out)
              have HF := Lib.hid hfin
              clear hfin
              go_roundg (cs.length - (k + 1))
              case measure => have := Hgk.out; omega
              case rel => exact ⟨k + 1, _, _, _, by have := Hgk.out; omega, by go_num, HF.out⟩
            · have hbad : (cp.op != 11) = true ∨ ((cp.op != 11) = false ∧ 0 ≤ (bv p).1) := by
                by_cases h : cp.op = 11
                · right
                  refine ⟨by simp [h], HO1.out.2.2.2.1.2 ?_⟩
                  have := HM3.out
                  have h2 := HO1.out.2.2.2.2
                  omega
                · exact .inl (by simp [h])
              have Hm := Lib.hid hm
              clear hm
              rcases hbad with hd1 | ⟨hd1, ho0⟩
              all_goals
                go_wp2_with (at_builtin; refine wl_copyF elPtr rfl _ _ rfl (wr.heap.size + 1) rfl (by simp) (.slice (some ⟨g, off, none⟩) (r.length + 1) cq) rfl (fun i => QL.getD i undef) (r.length + 1) HQ.out QC.out (by decide) (by omega) rfl ?_; intro r wC hr hpC; go_must (have hpC2 := Lib.hid (pA.out.trans hpC); have hr2 := Lib.hid (hr.base (B' := wr.heap.size) (by simp)); obtain ⟨Ar, cr, rfl⟩ := hr.form; obtain ⟨⟨uA, fA⟩, zA, fO, zO, s1, s2, s3⟩ := row_facts HI.out hlt hpC2.out hw01; have fop := (hpC.cell wr.heap.size 0 (by simp)).trans FOP.out; have hII := Lib.hid (HI.out.storeRow hlt hpC2.out (by have := hr2.out; rw [HQL.out] at this; exact this)); clear hr hpC); go_must (obtain ⟨f1, f2, f3, f4, f5, n1, n2, n3, n4, n5, l1, l2, l3⟩ := top_facts HI.out hpC2.out; have z1 := f5 1; have z2 := f5 2; have fcp := (hpC2.out.cell b (o + p * 4) hbw).trans hcp.out; clear f5))
                go_ret3
                refine ⟨hII.out.pure, ?_⟩
                rw [Bad.out (by rw [Hstep.out, if_neg Hm.out])]; rfl
        · have hd12 : (cd.op == 12) = false := by simp [h12]
          have H12 := Lib.hid h12
          clear h12
          by_cases h14 : cd.op = 14
          · have hd14 : (cd.op == 14) = true := by simp [h14]
            have H14 := Lib.hid h14
            clear h14
            rcases st with _ | ⟨⟨p, m⟩, r⟩
            · simp only [List.length_nil] at *
              have hz : ((0 : Nat) : Int) - 1 < 0 := by omega
              go_wp2_with (at_builtin; refine wl_copyF elPtr rfl _ _ rfl (wr.heap.size + 1) rfl (by simp) (.slice Aq 0 cq) rfl (fun i => QL.getD i undef) 0 HQ.out QC.out (by decide) (by omega) rfl ?_; intro r wC hr hpC; go_must (have hpC2 := Lib.hid (pA.out.trans hpC); have hr2 := Lib.hid (hr.base (B' := wr.heap.size) (by simp)); obtain ⟨Ar, cr, rfl⟩ := hr.form; obtain ⟨⟨uA, fA⟩, zA, fO, zO, s1, s2, s3⟩ := row_facts HI.out hlt hpC2.out hw01; have fop := (hpC.cell wr.heap.size 0 (by simp)).trans FOP.out; have hII := Lib.hid (HI.out.storeRow hlt hpC2.out (by have := hr2.out; rw [HQL.out] at this; exact this)); clear hr hpC))
              go_ret3
              refine ⟨hII.out.pure, ?_⟩
              rw [Bad.out (by rw [sstep_end H14.out])]; rfl
            · obtain ⟨g, off, c2, hq, hq1, hq2, hq3, hq4⟩ := HI.out.que.formSome (by simp)
              injection hq with hq5 hq6 hq7
              subst hq5 hq7
              simp only [List.length_cons] at *
              have hidx : ((r.length + 1 : Nat) : Int) - 1 = r.length := by omega
              go_wp2_with (at_builtin; refine wl_copyF elPtr rfl _ _ rfl (wr.heap.size + 1) rfl (by simp) (.slice (some ⟨g, off, none⟩) (r.length + 1) cq) rfl (fun i => QL.getD i undef) (r.length + 1) HQ.out QC.out (by decide) (by omega) rfl ?_; intro r wC hr hpC; go_must (have hpC2 := Lib.hid (pA.out.trans hpC); have hr2 := Lib.hid (hr.base (B' := wr.heap.size) (by simp)); obtain ⟨Ar, cr, rfl⟩ := hr.form; obtain ⟨⟨uA, fA⟩, zA, fO, zO, s1, s2, s3⟩ := row_facts HI.out hlt hpC2.out hw01; have fop := (hpC.cell wr.heap.size 0 (by simp)).trans FOP.out; have hII := Lib.hid (HI.out.storeRow hlt hpC2.out (by have := hr2.out; rw [HQL.out] at this; exact this)); clear hr hpC); go_must (obtain ⟨f1, f2, f3, f4, f5, n1, n2, n3, n4, n5, l1, l2, l3⟩ := top_facts HI.out hpC2.out; have z1 := f5 1; have z2 := f5 2; clear f5))
              have htk := hII.out.que.take (k := r.length) (by simp)
              rw [show (((p, m) :: r).map fun x => ptr pb x.1).reverse.take (r.length * 1) = (r.map fun x => ptr pb x.1).reverse by rw [List.map_cons, List.reverse_cons, List.take_append_of_le_length (by simp), List.take_of_length_le (by simp)]] at htk
              have hfin := hII.out.fin hlt (by rw [Hcd.out]; exact H14.out) htk rfl
              have HF := Lib.hid hfin
              clear hfin htk
              go_roundg (cs.length - (k + 1))
              case measure => have := Hgk.out; omega
              case rel => exact ⟨k + 1, _, _, _, by have := Hgk.out; omega, by go_num, HF.out⟩
          · have hd14 : (cd.op == 14) = false := by simp [h14]
            have H14 := Lib.hid h14
            clear h14
            go_wp2_with (at_builtin; refine wl_copyF elPtr rfl _ _ rfl (wr.heap.size + 1) rfl (by simp) (.slice Aq st.length cq) rfl (fun i => QL.getD i undef) st.length HQ.out QC.out (by decide) (by omega) rfl ?_; intro r wC hr hpC; go_must (have hpC2 := Lib.hid (pA.out.trans hpC); have hr2 := Lib.hid (hr.base (B' := wr.heap.size) (by simp)); obtain ⟨Ar, cr, rfl⟩ := hr.form; obtain ⟨⟨uA, fA⟩, zA, fO, zO, s1, s2, s3⟩ := row_facts HI.out hlt hpC2.out hw01; have fop := (hpC.cell wr.heap.size 0 (by simp)).trans FOP.out; have hII := Lib.hid (HI.out.storeRow hlt hpC2.out (by have := hr2.out; rw [HQL.out] at this; exact this)); clear hr hpC))
            have hfin := hII.out.other hlt (by rw [Hcd.out]; exact Hop.out) (by rw [Hcd.out]; exact H12.out) (by rw [Hcd.out]; exact H14.out)
            have HF := Lib.hid hfin
            clear hfin
            go_roundg (cs.length - (k + 1))
            case measure => have := Hgk.out; omega
            case rel => exact ⟨k + 1, _, _, _, by have := Hgk.out; omega, by go_num, HF.out⟩
    · have hkl : k = cs.length := by omega
      subst hkl
      have hsc := HI.out.sc
      rw [List.take_length] at hsc
      have Hsc := Lib.hid hsc
      clear hsc
      by_cases hs0 : st.length = 0
      · have hd : ((st.length : Int) == 0) = true := by simp [hs0]
        have hs1 : st = [] := List.eq_nil_of_length_eq_zero hs0
        have Hs1 := Lib.hid hs1
        clear hs0 hs1
        go_wp2
        go_ret3
        refine ⟨HI.out.pure, ?_⟩
        rw [Hsc.out]
        refine ⟨_, _, by rw [Hs1.out]; rfl, fun _ => ?_⟩
        have := HI.out
        rw [Hs1.out] at this
        exact this.tabsB
      · have hd : ((st.length : Int) == 0) = false := by rw [beq_eq_false_iff_ne]; omega
        have Hs0 := Lib.hid hs0
        clear hs0
        go_wp2
        go_ret3
        refine ⟨HI.out.pure, ?_⟩
        rw [Hsc.out]
        refine ⟨_, _, by rw [decide_eq_false Hs0.out]; rfl, fun h => absurd (by rw [h]; rfl) Hs0.out⟩

end Go.Proofs.Ytkolnakcgjlcgaa

namespace Go.Proofs.Ytkolnakcgjlcgaa
open Go.RowKit

set_option maxHeartbeats 1000000 in
set_option maxRecDepth 100000 in
theorem i6_1 (o : RMo) (k : Nat) (an : Nat) (han : an < 4) (b : Int) (w : World) (R : Nat → Nat → Int) (M : Nat → Int) (h : RM o w R M) (hk : k < o.n) (_hR : ∀ r, Word (R k r)) :
    Calls Try.prog 93 #[cdv ⟨1, an, b, 0⟩, .int .i64 k, o.row k, o.vm] w (SimPost o ⟨1, an, b, 0⟩ k R M w) := by
  have H := Lib.hid h
  have hk8 : k < 8 := Nat.lt_of_lt_of_le hk h.n8
  have hlt : o.rows k < w.heap.size := (Array.getElem?_eq_some_iff.1 (h.row k hk)).1
  have ha0 : (0 : Int) ≤ (an : Int) := by omega
  have ha4 : (an : Int) < 4 := by omega
  have f1 := h.regFrozen hk an
  have qa := h.regCell hk han
  clear h _hR
  unfold cdv RMo.row RMo.vm
  simp only
  go_enter Try.func93, Try.ntmps93
  go_wp2
  go_end0
  exact SimPost.reg H.out hk han rfl rfl (by repeat (first | assumption | exact Pure.refl _ | refine Pure.drewN ?_ _ | refine Pure.drew ?_ | refine Pure.alloc ?_ _ | refine Pure.setCell ?_ (by simp <;> omega) _))

set_option maxHeartbeats 1000000 in
set_option maxRecDepth 100000 in
theorem i6_2 (o : RMo) (k : Nat) (an : Nat) (han : an < 4) (w : World) (R : Nat → Nat → Int) (M : Nat → Int) (h : RM o w R M) (hk : k < o.n) (_hR : ∀ r, Word (R k r)) :
    Calls Try.prog 93 #[cdv ⟨2, an, 0, 0⟩, .int .i64 k, o.row k, o.vm] w (SimPost o ⟨2, an, 0, 0⟩ k R M w) := by
  have H := Lib.hid h
  have hk8 : k < 8 := Nat.lt_of_lt_of_le hk h.n8
  have hlt : o.rows k < w.heap.size := (Array.getElem?_eq_some_iff.1 (h.row k hk)).1
  have ha0 : (0 : Int) ≤ (an : Int) := by omega
  have ha4 : (an : Int) < 4 := by omega
  have f1 := h.regFrozen hk an
  have qa := h.regCell hk han
  clear h _hR
  unfold cdv RMo.row RMo.vm
  simp only
  go_enter Try.func93, Try.ntmps93
  go_wp2
  go_end0
  exact SimPost.reg H.out hk han rfl rfl (by repeat (first | assumption | exact Pure.refl _ | refine Pure.drewN ?_ _ | refine Pure.drew ?_ | refine Pure.alloc ?_ _ | refine Pure.setCell ?_ (by simp <;> omega) _))

set_option maxHeartbeats 1000000 in
set_option maxRecDepth 100000 in
theorem i6_3 (o : RMo) (k : Nat) (an : Nat) (han : an < 4) (bn : Nat) (hbn : bn < 4) (w : World) (R : Nat → Nat → Int) (M : Nat → Int) (h : RM o w R M) (hk : k < o.n) (hR : ∀ r, Word (R k r)) :
    Calls Try.prog 93 #[cdv ⟨3, an, bn, 0⟩, .int .i64 k, o.row k, o.vm] w (SimPost o ⟨3, an, bn, 0⟩ k R M w) := by
  have H := Lib.hid h
  have hk8 : k < 8 := Nat.lt_of_lt_of_le hk h.n8
  have hlt : o.rows k < w.heap.size := (Array.getElem?_eq_some_iff.1 (h.row k hk)).1
  have ha0 : (0 : Int) ≤ (an : Int) := by omega
  have ha4 : (an : Int) < 4 := by omega
  have hb0 : (0 : Int) ≤ (bn : Int) := by omega
  have hb4 : (bn : Int) < 4 := by omega
  have f1 := h.regFrozen hk an
  have qa := h.regCell hk han
  obtain ⟨x, Hx⟩ : ∃ x, Hid (R k an = x) := ⟨_, rfl⟩
  have hwx : Word x := by rw [← Hx.out]; exact hR an
  rw [Hx.out] at qa
  have qb := h.regCell hk hbn
  obtain ⟨y, Hy⟩ : ∃ y, Hid (R k bn = y) := ⟨_, rfl⟩
  have hwy : Word y := by rw [← Hy.out]; exact hR bn
  rw [Hy.out] at qb
  have HWx := Lib.hid hwx; clear hwx
  have HWy := Lib.hid hwy; clear hwy
  clear h hR
  unfold cdv RMo.row RMo.vm
  simp only
  go_enter Try.func93, Try.ntmps93
  go_wp2
  refine region_tail 15 (by kernel_rfl) (by kernel_rfl) ?_
  simp only [List.take_succ_cons, List.take_zero, List.drop_succ_cons, List.drop_zero]
  repeat still_step
  still_call ((iWordAdd_any x y _ HWx.out HWy.out).mono fun e w' h => ⟨h.1, h.2.symm⟩)
  repeat still_step
  refine wpStill_nil ?_
  go_wp2
  go_end0
  exact SimPost.reg H.out hk han (show setF (R k) an ((R k an + R k bn) % 256) = _ by rw [Hx.out, Hy.out]) rfl (by repeat (first | assumption | exact Pure.refl _ | refine Pure.drewN ?_ _ | refine Pure.drew ?_ | refine Pure.alloc ?_ _ | refine Pure.setCell ?_ (by simp <;> omega) _))

set_option maxHeartbeats 1000000 in
set_option maxRecDepth 100000 in
theorem i6_4 (o : RMo) (k : Nat) (an : Nat) (han : an < 4) (bn : Nat) (hbn : bn < 4) (w : World) (R : Nat → Nat → Int) (M : Nat → Int) (h : RM o w R M) (hk : k < o.n) (hR : ∀ r, Word (R k r)) :
    Calls Try.prog 93 #[cdv ⟨4, an, bn, 0⟩, .int .i64 k, o.row k, o.vm] w (SimPost o ⟨4, an, bn, 0⟩ k R M w) := by
  have H := Lib.hid h
  have hk8 : k < 8 := Nat.lt_of_lt_of_le hk h.n8
  have hlt : o.rows k < w.heap.size := (Array.getElem?_eq_some_iff.1 (h.row k hk)).1
  have ha0 : (0 : Int) ≤ (an : Int) := by omega
  have ha4 : (an : Int) < 4 := by omega
  have hb0 : (0 : Int) ≤ (bn : Int) := by omega
  have hb4 : (bn : Int) < 4 := by omega
  have f1 := h.regFrozen hk an
  have qa := h.regCell hk han
  obtain ⟨x, Hx⟩ : ∃ x, Hid (R k an = x) := ⟨_, rfl⟩
  have hwx : Word x := by rw [← Hx.out]; exact hR an
  rw [Hx.out] at qa
  have qb := h.regCell hk hbn
  obtain ⟨y, Hy⟩ : ∃ y, Hid (R k bn = y) := ⟨_, rfl⟩
  have hwy : Word y := by rw [← Hy.out]; exact hR bn
  rw [Hy.out] at qb
  have HWx := Lib.hid hwx; clear hwx
  have HWy := Lib.hid hwy; clear hwy
  clear h hR
  unfold cdv RMo.row RMo.vm
  simp only
  go_enter Try.func93, Try.ntmps93
  go_wp2
  refine region_tail 15 (by kernel_rfl) (by kernel_rfl) ?_
  simp only [List.take_succ_cons, List.take_zero, List.drop_succ_cons, List.drop_zero]
  repeat still_step
  still_call ((iWordMul_any x y _ HWx.out HWy.out).mono fun e w' h => ⟨h.1, h.2.symm⟩)
  repeat still_step
  refine wpStill_nil ?_
  go_wp2
  go_end0
  exact SimPost.reg H.out hk han (show setF (R k) an (R k an * R k bn % 256) = _ by rw [Hx.out, Hy.out]) rfl (by repeat (first | assumption | exact Pure.refl _ | refine Pure.drewN ?_ _ | refine Pure.drew ?_ | refine Pure.alloc ?_ _ | refine Pure.setCell ?_ (by simp <;> omega) _))

set_option maxHeartbeats 1000000 in
set_option maxRecDepth 100000 in
theorem i6_5 (o : RMo) (k : Nat) (an : Nat) (han : an < 4) (bn : Nat) (hbn : bn < 4) (w : World) (R : Nat → Nat → Int) (M : Nat → Int) (h : RM o w R M) (hk : k < o.n) (hR : ∀ r, Word (R k r)) :
    Calls Try.prog 93 #[cdv ⟨5, an, bn, 0⟩, .int .i64 k, o.row k, o.vm] w (SimPost o ⟨5, an, bn, 0⟩ k R M w) := by
  have H := Lib.hid h
  have hk8 : k < 8 := Nat.lt_of_lt_of_le hk h.n8
  have hlt : o.rows k < w.heap.size := (Array.getElem?_eq_some_iff.1 (h.row k hk)).1
  have ha0 : (0 : Int) ≤ (an : Int) := by omega
  have ha4 : (an : Int) < 4 := by omega
  have hb0 : (0 : Int) ≤ (bn : Int) := by omega
  have hb4 : (bn : Int) < 4 := by omega
  have f1 := h.regFrozen hk an
  have qa := h.regCell hk han
  have qb := h.regCell hk hbn
  obtain ⟨y, Hy⟩ : ∃ y, Hid (R k bn = y) := ⟨_, rfl⟩
  have hwy : Word y := by rw [← Hy.out]; exact hR bn
  rw [Hy.out] at qb
  clear h hR
  unfold cdv RMo.row RMo.vm
  simp only
  go_enter Try.func93, Try.ntmps93
  go_wp2
  refine region_tail 9 (by kernel_rfl) (by kernel_rfl) ?_
  simp only [List.take_succ_cons, List.take_zero, List.drop_succ_cons, List.drop_zero]
  repeat still_step
  refine wpStill_nil ?_
  go_wp2
  go_end0
  exact SimPost.reg H.out hk han (show setF (R k) an (R k bn) = _ by rw [Hy.out]) rfl (by repeat (first | assumption | exact Pure.refl _ | refine Pure.drewN ?_ _ | refine Pure.drew ?_ | refine Pure.alloc ?_ _ | refine Pure.setCell ?_ (by simp <;> omega) _))

set_option maxHeartbeats 1000000 in
set_option maxRecDepth 100000 in
theorem i6_6 (o : RMo) (k : Nat) (an : Nat) (han : an < 4) (bn : Nat) (hbn : bn < 4) (cn : Nat) (hcn : cn < 4) (w : World) (R : Nat → Nat → Int) (M : Nat → Int) (h : RM o w R M) (hk : k < o.n) (hR : ∀ r, Word (R k r)) :
    Calls Try.prog 93 #[cdv ⟨6, an, bn, cn⟩, .int .i64 k, o.row k, o.vm] w (SimPost o ⟨6, an, bn, cn⟩ k R M w) := by
  have H := Lib.hid h
  have hk8 : k < 8 := Nat.lt_of_lt_of_le hk h.n8
  have hlt : o.rows k < w.heap.size := (Array.getElem?_eq_some_iff.1 (h.row k hk)).1
  have ha0 : (0 : Int) ≤ (an : Int) := by omega
  have ha4 : (an : Int) < 4 := by omega
  have hb0 : (0 : Int) ≤ (bn : Int) := by omega
  have hb4 : (bn : Int) < 4 := by omega
  have hc0 : (0 : Int) ≤ (cn : Int) := by omega
  have hc4 : (cn : Int) < 4 := by omega
  have f1 := h.regFrozen hk an
  have qa := h.regCell hk han
  have qb := h.regCell hk hbn
  obtain ⟨y, Hy⟩ : ∃ y, Hid (R k bn = y) := ⟨_, rfl⟩
  have hwy : Word y := by rw [← Hy.out]; exact hR bn
  rw [Hy.out] at qb
  have qc := h.regCell hk hcn
  obtain ⟨z, Hz⟩ : ∃ z, Hid (R k cn = z) := ⟨_, rfl⟩
  have hwz : Word z := by rw [← Hz.out]; exact hR cn
  rw [Hz.out] at qc
  have HWy := Lib.hid hwy; clear hwy
  have HWz := Lib.hid hwz; clear hwz
  obtain ⟨b, Hb⟩ : ∃ b : Int, Hid ((if y < z then 1 else 0) = b) := ⟨_, rfl⟩
  have hL : ∀ w : World, Calls Try.prog 118 #[.int .i64 y, .int .i64 z] w fun e w' => e = .returned (.int .i64 b) ∧ w' = w := fun w => (iWordLess_any y z w HWy.out HWz.out).mono fun e w' h => ⟨by rw [← Hb.out]; exact h.1, h.2.symm⟩
  have HL := Lib.hid hL; clear hL
  clear h hR
  unfold cdv RMo.row RMo.vm
  simp only
  go_enter Try.func93, Try.ntmps93
  go_wp2
  refine region_tail 15 (by kernel_rfl) (by kernel_rfl) ?_
  simp only [List.take_succ_cons, List.take_zero, List.drop_succ_cons, List.drop_zero]
  repeat still_step
  still_call (HL.out _)
  repeat still_step
  refine wpStill_nil ?_
  go_wp2
  go_end0
  exact SimPost.reg H.out hk han (show setF (R k) an (if R k bn < R k cn then 1 else 0) = _ by rw [Hy.out, Hz.out, Hb.out]) rfl (by repeat (first | assumption | exact Pure.refl _ | refine Pure.drewN ?_ _ | refine Pure.drew ?_ | refine Pure.alloc ?_ _ | refine Pure.setCell ?_ (by simp <;> omega) _))

set_option maxHeartbeats 1000000 in
set_option maxRecDepth 100000 in
theorem i6_7 (o : RMo) (k : Nat) (an : Nat) (han : an < 4) (bn : Nat) (hbn : bn < 4) (cn : Nat) (hcn : cn < 4) (w : World) (R : Nat → Nat → Int) (M : Nat → Int) (h : RM o w R M) (hk : k < o.n) (hR : ∀ r, Word (R k r)) :
    Calls Try.prog 93 #[cdv ⟨7, an, bn, cn⟩, .int .i64 k, o.row k, o.vm] w (SimPost o ⟨7, an, bn, cn⟩ k R M w) := by
  have H := Lib.hid h
  have hk8 : k < 8 := Nat.lt_of_lt_of_le hk h.n8
  have hlt : o.rows k < w.heap.size := (Array.getElem?_eq_some_iff.1 (h.row k hk)).1
  have ha0 : (0 : Int) ≤ (an : Int) := by omega
  have ha4 : (an : Int) < 4 := by omega
  have hb0 : (0 : Int) ≤ (bn : Int) := by omega
  have hb4 : (bn : Int) < 4 := by omega
  have hc0 : (0 : Int) ≤ (cn : Int) := by omega
  have hc4 : (cn : Int) < 4 := by omega
  have f1 := h.regFrozen hk an
  have qa := h.regCell hk han
  have qb := h.regCell hk hbn
  obtain ⟨y, Hy⟩ : ∃ y, Hid (R k bn = y) := ⟨_, rfl⟩
  have hwy : Word y := by rw [← Hy.out]; exact hR bn
  rw [Hy.out] at qb
  have qc := h.regCell hk hcn
  obtain ⟨z, Hz⟩ : ∃ z, Hid (R k cn = z) := ⟨_, rfl⟩
  have hwz : Word z := by rw [← Hz.out]; exact hR cn
  rw [Hz.out] at qc
  clear h hR
  unfold cdv RMo.row RMo.vm
  simp only
  by_cases hz0 : z = 0
  · have hzb : (z != 0) = false := by rw [bne_eq_false_iff_eq]; exact hz0
    have HZ := Lib.hid hz0; clear hz0
    go_enter Try.func93, Try.ntmps93
    go_wp2
    go_end0
    exact SimPost.same H.out (show (if R k cn = 0 then R k else setF (R k) an (R k bn)) = _ by rw [Hz.out, if_pos HZ.out]) rfl (by repeat (first | assumption | exact Pure.refl _ | refine Pure.drewN ?_ _ | refine Pure.drew ?_ | refine Pure.alloc ?_ _ | refine Pure.setCell ?_ (by simp <;> omega) _))
  · have hzb : (z != 0) = true := by rw [bne_iff_ne]; exact hz0
    have HZ := Lib.hid hz0; clear hz0
    go_enter Try.func93, Try.ntmps93
    go_wp2
    refine region_tail 9 (by kernel_rfl) (by kernel_rfl) ?_
    simp only [List.take_succ_cons, List.take_zero, List.drop_succ_cons, List.drop_zero]
    repeat still_step
    refine wpStill_nil ?_
    go_wp2
    go_end0
    exact SimPost.reg H.out hk han (show (if R k cn = 0 then R k else setF (R k) an (R k bn)) = _ by rw [Hz.out, if_neg HZ.out, Hy.out]) rfl (by repeat (first | assumption | exact Pure.refl _ | refine Pure.drewN ?_ _ | refine Pure.drew ?_ | refine Pure.alloc ?_ _ | refine Pure.setCell ?_ (by simp <;> omega) _))

set_option maxHeartbeats 1000000 in
set_option maxRecDepth 100000 in
theorem i6_8 (o : RMo) (k : Nat) (an : Nat) (han : an < 4) (bn : Nat) (hbn : bn < 4) (w : World) (R : Nat → Nat → Int) (M : Nat → Int) (h : RM o w R M) (hk : k < o.n) (hR : ∀ r, Word (R k r)) :
    Calls Try.prog 93 #[cdv ⟨8, an, bn, 0⟩, .int .i64 k, o.row k, o.vm] w (SimPost o ⟨8, an, bn, 0⟩ k R M w) := by
  have H := Lib.hid h
  have hk8 : k < 8 := Nat.lt_of_lt_of_le hk h.n8
  have hlt : o.rows k < w.heap.size := (Array.getElem?_eq_some_iff.1 (h.row k hk)).1
  have ha0 : (0 : Int) ≤ (an : Int) := by omega
  have ha4 : (an : Int) < 4 := by omega
  have hb0 : (0 : Int) ≤ (bn : Int) := by omega
  have hb4 : (bn : Int) < 4 := by omega
  have f1 := h.regFrozen hk an
  have qa := h.regCell hk han
  have qb := h.regCell hk hbn
  obtain ⟨y, Hy⟩ : ∃ y, Hid (R k bn = y) := ⟨_, rfl⟩
  have hwy : Word y := by rw [← Hy.out]; exact hR bn
  rw [Hy.out] at qb
  obtain ⟨hy0, hy1⟩ := hwy
  obtain ⟨yn, rfl⟩ := Int.eq_ofNat_of_zero_le hy0
  have hm1 := h.m1
  have hm32 := h.m32
  have hmi : ¬ ((o.m : Int) = 0) := by omega
  have hmn : ¬ o.m = 0 := by omega
  have hmb : ((o.m : Int) == 0) = false := by rw [beq_eq_false_iff_ne]; omega
  have hjn : yn % o.m < o.m := Nat.mod_lt _ (by omega)
  have htm : (yn : Int).tmod (o.m : Int) = ((yn % o.m : Nat) : Int) := by rw [Int.tmod_eq_emod_of_nonneg (by omega)]; norm_cast
  have HC : Hid (cellOf ⟨8, an, bn, 0⟩ o.m (R k) = yn % o.m) := Lib.hid (by unfold cellOf; rw [Int.toNat_natCast, Hy.out, Int.toNat_natCast])
  obtain ⟨j, Hj⟩ : ∃ j, Hid (yn % o.m = j) := ⟨_, rfl⟩
  rw [Hj.out] at htm hjn HC
  have hj0 : (0 : Int) ≤ (j : Int) := by omega
  have hj1 : (j : Int) < (o.m : Int) := by omega
  have hgm : o.gm < w.heap.size := h.gmlo.2
  have qm := h.memCell hjn
  clear h hR
  unfold cdv RMo.row RMo.vm
  simp only
  go_enter Try.func93, Try.ntmps93
  go_wp2
  refine region_tail 15 (by kernel_rfl) (by kernel_rfl) ?_
  simp only [List.take_succ_cons, List.take_zero, List.drop_succ_cons, List.drop_zero]
  repeat still_step
  refine wpStill_nil ?_
  go_wp2
  go_end0
  exact SimPost.reg H.out hk han (show setF (R k) an (M (cellOf ⟨8, an, bn, 0⟩ o.m (R k))) = _ by rw [HC.out]) rfl (by repeat (first | assumption | exact Pure.refl _ | refine Pure.drewN ?_ _ | refine Pure.drew ?_ | refine Pure.alloc ?_ _ | refine Pure.setCell ?_ (by simp <;> omega) _))

set_option maxHeartbeats 1000000 in
set_option maxRecDepth 100000 in
theorem i6_9 (o : RMo) (k : Nat) (an : Nat) (han : an < 4) (bn : Nat) (hbn : bn < 4) (w : World) (R : Nat → Nat → Int) (M : Nat → Int) (h : RM o w R M) (hk : k < o.n) (hR : ∀ r, Word (R k r)) :
    Calls Try.prog 93 #[cdv ⟨9, an, bn, 0⟩, .int .i64 k, o.row k, o.vm] w (SimPost o ⟨9, an, bn, 0⟩ k R M w) := by
  have H := Lib.hid h
  have hk8 : k < 8 := Nat.lt_of_lt_of_le hk h.n8
  have hlt : o.rows k < w.heap.size := (Array.getElem?_eq_some_iff.1 (h.row k hk)).1
  have ha0 : (0 : Int) ≤ (an : Int) := by omega
  have ha4 : (an : Int) < 4 := by omega
  have hb0 : (0 : Int) ≤ (bn : Int) := by omega
  have hb4 : (bn : Int) < 4 := by omega
  have f1 := h.regFrozen hk an
  have qa := h.regCell hk han
  obtain ⟨x, Hx⟩ : ∃ x, Hid (R k an = x) := ⟨_, rfl⟩
  have hwx : Word x := by rw [← Hx.out]; exact hR an
  rw [Hx.out] at qa
  have qb := h.regCell hk hbn
  obtain ⟨y, Hy⟩ : ∃ y, Hid (R k bn = y) := ⟨_, rfl⟩
  have hwy : Word y := by rw [← Hy.out]; exact hR bn
  rw [Hy.out] at qb
  obtain ⟨hy0, hy1⟩ := hwy
  obtain ⟨yn, rfl⟩ := Int.eq_ofNat_of_zero_le hy0
  have hm1 := h.m1
  have hm32 := h.m32
  have hmi : ¬ ((o.m : Int) = 0) := by omega
  have hmn : ¬ o.m = 0 := by omega
  have hmb : ((o.m : Int) == 0) = false := by rw [beq_eq_false_iff_ne]; omega
  have hjn : yn % o.m < o.m := Nat.mod_lt _ (by omega)
  have htm : (yn : Int).tmod (o.m : Int) = ((yn % o.m : Nat) : Int) := by rw [Int.tmod_eq_emod_of_nonneg (by omega)]; norm_cast
  have HC : Hid (cellOf ⟨9, an, bn, 0⟩ o.m (R k) = yn % o.m) := Lib.hid (by unfold cellOf; rw [Int.toNat_natCast, Hy.out, Int.toNat_natCast])
  obtain ⟨j, Hj⟩ : ∃ j, Hid (yn % o.m = j) := ⟨_, rfl⟩
  rw [Hj.out] at htm hjn HC
  have hj0 : (0 : Int) ≤ (j : Int) := by omega
  have hj1 : (j : Int) < (o.m : Int) := by omega
  have hgm : o.gm < w.heap.size := h.gmlo.2
  have qm := h.memCell hjn
  have f2 := h.memFrozen j
  clear h hR
  unfold cdv RMo.row RMo.vm
  simp only
  go_enter Try.func93, Try.ntmps93
  go_wp2
  refine region_tail 15 (by kernel_rfl) (by kernel_rfl) ?_
  simp only [List.take_succ_cons, List.take_zero, List.drop_succ_cons, List.drop_zero]
  repeat still_step
  refine wpStill_nil ?_
  go_wp2
  go_end0
  exact SimPost.mem H.out rfl (show setF M (cellOf ⟨9, an, bn, 0⟩ o.m (R k)) (R k an) = _ by rw [HC.out, Hx.out]) (by repeat (first | assumption | exact Pure.refl _ | refine Pure.drewN ?_ _ | refine Pure.drew ?_ | refine Pure.alloc ?_ _ | refine Pure.setCell ?_ (by simp <;> omega) _))

set_option maxHeartbeats 1000000 in
set_option maxRecDepth 100000 in
theorem i6_10 (o : RMo) (k : Nat) (w : World) (R : Nat → Nat → Int) (M : Nat → Int) (h : RM o w R M) (_hk : k < o.n) (_hR : ∀ r, Word (R k r)) :
    Calls Try.prog 93 #[cdv ⟨10, 0, 0, 0⟩, .int .i64 k, o.row k, o.vm] w (SimPost o ⟨10, 0, 0, 0⟩ k R M w) := by
  have H := Lib.hid h
  clear h _hR
  unfold cdv RMo.row RMo.vm
  simp only
  go_enter Try.func93, Try.ntmps93
  go_wp2
  go_end0
  exact SimPost.same H.out rfl rfl (by repeat (first | assumption | exact Pure.refl _ | refine Pure.drewN ?_ _ | refine Pure.drew ?_ | refine Pure.alloc ?_ _ | refine Pure.setCell ?_ (by simp <;> omega) _))

theorem i6_any (o : RMo) (x : Cd) (k : Nat) (w : World) (R : Nat → Nat → Int) (M : Nat → Int) (h : RM o w R M) (hk : k < o.n) (hx : Plain x) (hR : ∀ r, Word (R k r)) :
    Calls Try.prog 93 #[cdv x, .int .i64 k, o.row k, o.vm] w (SimPost o x k R M w) := by
  obtain ⟨hok, n11, n12, n13, n14⟩ := hx
  obtain ⟨op, a, b, c⟩ := x
  simp only at n11 n12 n13 n14
  obtain ⟨⟨ha0, ha3⟩, hb0, hb3, hc0, hc3, ho1, ho2⟩ := hok.regs
  unfold CdOk at hok
  simp only at hok
  have ho : op = 1 ∨ op = 2 ∨ op = 3 ∨ op = 4 ∨ op = 5 ∨ op = 6 ∨ op = 7 ∨ op = 8 ∨ op = 9 ∨ op = 10 := by omega
  obtain ⟨an, rfl⟩ := Int.eq_ofNat_of_zero_le ha0
  obtain ⟨cn, rfl⟩ := Int.eq_ofNat_of_zero_le hc0
  have han : an < 4 := by omega
  have hcn : cn < 4 := by omega
  rcases ho with rfl | ho
  · have hc : cn = 0 := by omega
    subst hc
    exact i6_1 o k an han b w R M h hk hR
  obtain ⟨bn, rfl⟩ := Int.eq_ofNat_of_zero_le (hb0 (by omega))
  have hbn : bn < 4 := by have := hb3 (by omega) (by omega); omega
  rcases ho with rfl | rfl | rfl | rfl | rfl | rfl | rfl | rfl | rfl
  · have hb9 : bn = 0 := by omega
    have hc9 : cn = 0 := by omega
    subst hb9
    subst hc9
    exact i6_2 o k an han w R M h hk hR
  · have hc9 : cn = 0 := by omega
    subst hc9
    exact i6_3 o k an han bn hbn w R M h hk hR
  · have hc9 : cn = 0 := by omega
    subst hc9
    exact i6_4 o k an han bn hbn w R M h hk hR
  · have hc9 : cn = 0 := by omega
    subst hc9
    exact i6_5 o k an han bn hbn w R M h hk hR
  · exact i6_6 o k an han bn hbn cn hcn w R M h hk hR
  · exact i6_7 o k an han bn hbn cn hcn w R M h hk hR
  · have hc9 : cn = 0 := by omega
    subst hc9
    exact i6_8 o k an han bn hbn w R M h hk hR
  · have hc9 : cn = 0 := by omega
    subst hc9
    exact i6_9 o k an han bn hbn w R M h hk hR
  · have ha9 : an = 0 := by omega
    have hb9 : bn = 0 := by omega
    have hc9 : cn = 0 := by omega
    subst ha9
    subst hb9
    subst hc9
    exact i6_10 o k w R M h hk hR

end Go.Proofs.Ytkolnakcgjlcgaa

namespace Go.Proofs.Ytkolnakcgjlcgaa
open Go.RowKit

/-- A slice of the call's own, or still the empty one (v0) that was there first. -/
def OwnE (v0 : Value) (w : World) (B e s : Nat) (v : Value) (n : Nat) (xs : List Value) : Prop := OwnO w B e s v n xs ∨ (n = 0 ∧ xs = [] ∧ v = v0)
theorem OwnE.pure {v0 : Value} {w w' : World} {B e s n : Nat} {v : Value} {xs : List Value} (h : OwnE v0 w B e s v n xs) (hp : Pure w w') : OwnE v0 w' B e s v n xs := h.imp (fun h => h.pure hp) id
theorem OwnE.start (v0 : Value) (w : World) (B e s : Nat) : OwnE v0 w B e s v0 0 [] := .inr ⟨rfl, rfl, rfl⟩
theorem OwnO.base' {w : World} {B B' e s n : Nat} {v : Value} {xs : List Value} (h : OwnO w B e s v n xs) (hB : B' ≤ B) : OwnO w B' e s v n xs := by
  refine ⟨h.1, ?_⟩
  rcases h.2 with h | ⟨g, off, cap, cur, e1, e2, e3⟩
  · exact .inl h
  · exact .inr ⟨g, off, cap, cur, e1, by omega, e3⟩
theorem OwnE.own {v0 : Value} {w : World} {B B0 e s n : Nat} {v : Value} {xs : List Value} (h : OwnE v0 w B e s v n xs) (h0 : OwnO w B0 e s v0 0 []) (hB : B0 ≤ B) : OwnO w B0 e s v n xs := by
  rcases h with h | ⟨rfl, rfl, rfl⟩
  · exact h.base' hB
  · exact h0
theorem OwnE.form {b : Nat} {w : World} {B e s n : Nat} {v : Value} {xs : List Value} (h : OwnE (.slice (some ⟨b, 0, none⟩) 0 0) w B e s v n xs) : ∃ A c, v = .slice A n c := by
  rcases h with h | ⟨rfl, rfl, rfl⟩
  · exact h.form
  · exact ⟨_, _, rfl⟩

end Go.Proofs.Ytkolnakcgjlcgaa

namespace Go.Proofs.Ytkolnakcgjlcgaa
open Go.RowKit

theorem ofInt64 (i : Nat) (h : i < 9223372036854775808) : (BitVec.ofInt 64 (i : Int)).toNat = i := ofInt_u64 i (by omega)
theorem bits_or {a b : Nat} (ha : a < 4611686018427387904) (hb : b < 4611686018427387904) : bits .or .i64 (a : Int) (b : Int) = ((a ||| b : Nat) : Int) := by
  show IntKind.i64.wrap ((BitVec.ofInt 64 (a : Int) ||| BitVec.ofInt 64 (b : Int)).toNat : Int) = _
  rw [BitVec.toNat_or, ofInt64 a (by omega), ofInt64 b (by omega)]
  have := Nat.or_lt_two_pow (n := 62) (by omega : a < 2 ^ 62) (by omega : b < 2 ^ 62)
  exact Lib.wrap_i64_small _ (by omega)
theorem bits_and {a b : Nat} (ha : a < 4611686018427387904) (hb : b < 4611686018427387904) : bits .and .i64 (a : Int) (b : Int) = ((a &&& b : Nat) : Int) := by
  show IntKind.i64.wrap ((BitVec.ofInt 64 (a : Int) &&& BitVec.ofInt 64 (b : Int)).toNat : Int) = _
  rw [BitVec.toNat_and, ofInt64 a (by omega), ofInt64 b (by omega)]
  have := Nat.and_lt_two_pow (n := 62) a (by omega : b < 2 ^ 62)
  exact Lib.wrap_i64_small _ (by omega)
theorem bits_xor {a b : Nat} (ha : a < 4611686018427387904) (hb : b < 4611686018427387904) : bits .xor .i64 (a : Int) (b : Int) = ((a ^^^ b : Nat) : Int) := by
  show IntKind.i64.wrap ((BitVec.ofInt 64 (a : Int) ^^^ BitVec.ofInt 64 (b : Int)).toNat : Int) = _
  rw [BitVec.toNat_xor, ofInt64 a (by omega), ofInt64 b (by omega)]
  have := Nat.xor_lt_two_pow (n := 62) (by omega : a < 2 ^ 62) (by omega : b < 2 ^ 62)
  exact Lib.wrap_i64_small _ (by omega)
theorem and_not_nat {a b : Nat} (ha : a < 2 ^ 64) (hb : b < 2 ^ 64) : a &&& (2 ^ 64 - 1 - b) = a ^^^ (a &&& b) := by
  apply Nat.eq_of_testBit_eq
  intro i
  rw [show 2 ^ 64 - 1 - b = 2 ^ 64 - (b + 1) by omega, Nat.testBit_and, Nat.testBit_xor, Nat.testBit_and, Nat.testBit_two_pow_sub_succ hb]
  by_cases hi : i < 64
  · simp [hi]; cases a.testBit i <;> cases b.testBit i <;> rfl
  · have : a.testBit i = false := Nat.testBit_lt_two_pow (Nat.lt_of_lt_of_le ha (Nat.pow_le_pow_right (by decide) (by omega)))
    simp [this]
theorem bits_andNot {a b : Nat} (ha : a < 4611686018427387904) (hb : b < 4611686018427387904) : bits .andNot .i64 (a : Int) (b : Int) = ((a ^^^ (a &&& b) : Nat) : Int) := by
  show IntKind.i64.wrap ((BitVec.ofInt 64 (a : Int) &&& ~~~BitVec.ofInt 64 (b : Int)).toNat : Int) = _
  rw [BitVec.toNat_and, BitVec.toNat_not, ofInt64 a (by omega), ofInt64 b (by omega), and_not_nat (by omega) (by omega)]
  have := Nat.xor_lt_two_pow (n := 62) (by omega : a < 2 ^ 62) (Nat.and_lt_two_pow (n := 62) a (by omega : b < 2 ^ 62))
  exact Lib.wrap_i64_small _ (by omega)

/-- Digit i of a number. -/
theorem digit_cast (u i : Nat) : ((u : Int) / 2 ^ i) % 2 = ((u / 2 ^ i % 2 : Nat) : Int) := by
  have : ((2 ^ i : Nat) : Int) = (2 : Int) ^ i := by simp
  rw [← this]; norm_cast
theorem digit_nonneg (u i : Nat) : (0 : Int) ≤ (u : Int) / 2 ^ i := Int.ediv_nonneg (by omega) (Int.pow_nonneg (by decide))
theorem digit_testBit (u i : Nat) : u / 2 ^ i % 2 = if u.testBit i then 1 else 0 := by
  rw [Nat.testBit_eq_decide_div_mod_eq]
  have := Nat.mod_two_eq_zero_or_one (u / 2 ^ i)
  rcases this with h | h <;> simp [h]

theorem digit_eq1 (u i : Nat) : (((u : Int) / 2 ^ i) % 2 == 1) = u.testBit i := by
  rw [digit_cast, digit_testBit]
  cases u.testBit i <;> simp
end Go.Proofs.Ytkolnakcgjlcgaa
