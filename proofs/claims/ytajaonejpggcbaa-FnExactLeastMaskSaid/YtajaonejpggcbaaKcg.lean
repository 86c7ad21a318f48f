/- The program's search for blocks: where what it finds lies. Lanes that run by themselves, as the program keeps them: what lies in memory meanwhile, and what a step changes. The program's lanes: whether one is at the end, and whether it can go on; what a machine's block tells. No condition. -/
import Derived.Test.YtajaonejpggcbaaKai
import Derived.Test.YtajaonejpggcbaaKaj
import Derived.Test.YtajaonejpggcbaaKba
import Derived.Test.YtajaonejpggcbaaKce
import Derived.Test.YtajaonejpggcbaaKcf

namespace Go.Proofs.Ytajaonejpggcbaa
open Go.RowKit

/-- The own blocks of a program's places, in blocks of the heap from B on. -/
def OwnT (B : Nat) (w : World) (vo : Value) (cs : List Cd) : Prop :=
  ∃ (g : Nat) (pb : Nat → Nat), vo = .slice (some ⟨g, 0, none⟩) cs.length cs.length ∧ B ≤ g ∧ g < w.heap.size ∧ (∀ j, j < cs.length → w.cell? ⟨g, j, none⟩ = some (ownV pb (ownOf cs j))) ∧
    ∀ p, p < cs.length → Opens (cs.getD p default) → (B ≤ pb p ∧ pb p < w.heap.size) ∧ w.cell? ⟨pb p, 0, none⟩ = some (.int .i64 p) ∧ w.cell? ⟨pb p, 1, none⟩ = some (.int .i64 (endAt cs p).2) ∧ w.cell? ⟨pb p, 2, none⟩ = some (.int .i64 (endAt cs p).1)
def BlkPostB (cs : List Cd) (w : World) (e : Ending) (w' : World) : Prop :=
  Pure w w' ∧ match sscan cs 0 [] with
  | none => e = .returned (.tuple #[.slice none 0 0, .slice none 0 0, .bool false])
  | some st => ∃ va vo, e = .returned (.tuple #[va, vo, .bool (decide (st.length = 0))]) ∧ (st = [] → OwnT w.heap.size w' vo cs)
theorem BInv.tabsB {cs : List Cd} {B : Nat} {w wr : World} {ga go : Nat} {q : Value} {pb : Nat → Nat} {bv : Nat → Int × Int} (h : BInv cs B w wr ga go q cs.length cs.length [] pb bv) : OwnT B wr (.slice (some ⟨go, 0, none⟩) cs.length cs.length) cs := by
  obtain ⟨a1, a2, a3, a4, ⟨ys, a5, a6, a7⟩, ⟨zs, a8, a8'⟩, a9, a10, a11, a12, a13, a14⟩ := h
  have hlt := a5.lt go rfl
  refine ⟨go, pb, rfl, hlt.1, hlt.2, fun j hj => ?_, fun p hp ho => ?_⟩
  · have := a5.cell j (by omega)
    rw [Nat.zero_add] at this
    rw [this]; exact a6 j (by omega)
  · obtain ⟨b1, b2⟩ := a11 p hp ho
    have hlt := (Array.getElem?_eq_some_iff.1 b2).1
    have e := a14 p hp ho (fun i hi => by simp at hi)
    rw [e]
    exact ⟨⟨b1, hlt⟩, cell_of_row wr _ 0 _ _ _ b2, cell_of_row wr _ 1 _ _ _ b2, cell_of_row wr _ 2 _ _ _ b2⟩

set_option maxHeartbeats 2000000 in
set_option maxRecDepth 100000 in
theorem blocksB_any (v : Value) (cs : List Cd) (w : World) (h : Codes w v cs) (hsmall : cs.length ≤ 40) :
    Calls Try.prog 87 #[v] w (BlkPostB cs w) := by
  have H := Lib.hid h
  obtain ⟨A, c, rfl, hnc, hcm⟩ := h.form
  clear h
  go_enter Try.func87, Try.ntmps87
  go_wp2_with (first
    | (at_make; refine wl_make elPtrs rfl _ _ rfl w.heap.size _ _ _ _ cs.length rfl rfl rfl rfl (by omega) (by omega) (Nat.le_refl _) ?_; intro w1 hown hp hsz; have hO1 := Lib.hid (OwnO.of_own hown); have hp1 := Lib.hid hp; clear hown hp)
    | (at_make; refine wl_make elPtr rfl _ _ rfl w.heap.size _ _ _ _ cs.length rfl rfl rfl rfl (by omega) (by omega) hp1.out.size ?_; intro w2 hown hp hsz2; have hO2 := Lib.hid (OwnO.of_own hown); have hp2 := Lib.hid hp; clear hown hp))
  have I0 : BInv cs w.heap.size w w2 w.heap.size w1.heap.size (.slice none 0 0) 0 0 [] (fun _ => 0) (fun _ => (0, 0)) := by
    refine ⟨hp1.out.trans hp2.out, rfl, by simp [sscan], Stk.nil cs, ⟨_, hO2.out, by simp, fun j _ hj => ?_⟩, ⟨_, hO1.out.pure hp2.out, by simp⟩, OwnO.of_own (World.ownsRow_nil _ _ _ _), by simp [Value.ownBlock], by simp, by simp, by simp, by simp⟩
    rw [zeros_get _ _ _ (by simpa using hj)]; simp [Nat.mod_one]
  have HI := Lib.hid I0
  have hw01 : w.heap.size < w1.heap.size := hsz
  clear I0 hO1 hO2 hp1 hp2 hsz hsz2
  go_loopg [19, 7] cs.length (fun gk i q wr => ∃ (k : Nat) (st : List (Nat × Int)) (pb : Nat → Nat) (bv : Nat → Int × Int), gk + k = cs.length ∧ i = .int .i64 k ∧ BInv cs w.heap.size w wr w.heap.size w1.heap.size q k k st pb bv)
  case atStart => exact ⟨0, [], _, _, rfl, rfl, HI.out⟩
  case round =>
    clear HI
    obtain ⟨k, st, pb, bv, hgk, rfl, hI⟩ := hrel
    have Hgk := Lib.hid hgk
    have hkn : k ≤ cs.length := by omega
    have hst3 := hI.stk.len
    obtain ⟨Aq, cq, rfl⟩ := hI.que.form
    have HI := Lib.hid hI
    clear hgk hI
    by_cases hlt : k < cs.length
    · obtain ⟨b, o, rfl, hb, hc⟩ := H.out.at_ hlt
      obtain ⟨cd, Hcd⟩ : ∃ cd, Hid (cs.getD k default = cd) := ⟨_, rfl⟩
      have hat := hc.keep HI.out.pure hb
      rw [Hcd.out] at hat
      obtain ⟨q0, q1, q2, q3⟩ := hat
      clear hc
      have pA := Lib.hid (Pure.alloc (Pure.refl wr) (.cells #[.int .i64 cd.op, .int .i64 cd.a, .int .i64 cd.b, .int .i64 cd.c] 68))
      obtain ⟨QL, HQL⟩ : ∃ QL, Hid ((List.range (st.length * 1)).map (fun i => QL.getD i undef) = (st.map fun x => ptr pb x.1).reverse) ∧ Hid (QL = (st.map fun x => ptr pb x.1).reverse) := by
        refine ⟨(st.map fun x => ptr pb x.1).reverse, ?_, Lib.hid rfl⟩
        have := range_getD (st.map fun x => ptr pb x.1).reverse
        rwa [List.length_reverse, List.length_map] at this
      obtain ⟨HQL, HQE⟩ := HQL
      have HQ : Hid (Cells (wr.alloc (.cells #[.int .i64 cd.op, .int .i64 cd.a, .int .i64 cd.b, .int .i64 cd.c] 68)) (.slice Aq st.length cq) st.length 1 (fun i => QL.getD i undef)) := by
        refine Cells.keep (Cells.of_ownO HI.out.que fun j hj => ?_) pA.out
        have hj' : j < st.length := by omega
        rw [HQE.out]; simp [List.getD_eq_getElem?_getD, hj']
      have QC : Hid (∀ j, j < st.length * 1 → ((fun i => QL.getD i undef) j).oneCell' = true) := fun j hj => by
        have hj' : j < st.length := by omega
        simp only
        rw [HQE.out]
        simp [List.getD_eq_getElem?_getD, hj', ptr, Value.oneCell']
      have FOP : Hid ((wr.alloc (.cells #[.int .i64 cd.op, .int .i64 cd.a, .int .i64 cd.b, .int .i64 cd.c] 68)).cell? ⟨wr.heap.size, 0, none⟩ = some (.int .i64 cd.op)) := cell_of_row _ _ 0 _ _ _ (heap_alloc_new wr _)
      have hstep := sscan_take hlt HI.out.sc
      rw [Hcd.out] at hstep
      have bad : sstep st k cd = none → sscan cs 0 [] = none := fun h1 => by
        rw [h1] at hstep
        exact sscan_none hstep
      have Bad := Lib.hid bad
      clear hstep bad
      have hbw : b < wr.heap.size := Nat.lt_of_lt_of_le hb HI.out.pure.size
      by_cases hop : Opens cd
      · have hd : (cd.op == 11) = true ∨ ((cd.op == 11) = false ∧ (cd.op == 13) = true) := by
          unfold Opens at hop
          rcases hop with h | h
          · exact .inl (by simp [h])
          · exact .inr ⟨by simp [h], by simp [h]⟩
        have Hop := Lib.hid hop
        clear hop
        by_cases h3 : st.length < 3
        · rcases hd with hd | ⟨hd, hd2⟩
          all_goals
            go_wp2_with (first | (at_builtin; refine wl_copyF elPtr rfl _ _ rfl (wr.heap.size + 1) rfl (by simp) (.slice Aq st.length cq) rfl (fun i => QL.getD i undef) st.length HQ.out QC.out (by decide) (by omega) rfl ?_; intro r wC hr hpC; go_must (have hpC2 := Lib.hid (pA.out.trans hpC); have hr2 := Lib.hid (hr.base (B' := wr.heap.size) (by simp)); obtain ⟨Ar, cr, rfl⟩ := hr.form; obtain ⟨⟨uA, fA⟩, zA, fO, zO, s1, s2, s3⟩ := row_facts HI.out hlt hpC2.out hw01; have fop := (hpC.cell wr.heap.size 0 (by simp)).trans FOP.out; have hII := Lib.hid (HI.out.storeRow hlt hpC2.out (by have := hr2.out; rw [HQL.out] at this; exact this)); clear hr hpC); go_must (have HB := Lib.hid (hII.out.keepPure (Pure.alloc (Pure.refl _) (.cells #[.int .i64 (k : Int), .int .i64 (-1), .int .i64 (-1)] 147))); have hlt9 : w1.heap.size < (wC.setCell ⟨w.heap.size, k, none⟩ (.slice Ar st.length cr)).heap.size := (by simp [World.setCell] <;> omega); have hos := own_store (u := .pointer (some ⟨wC.heap.size, 0, none⟩)) HB.out; have HQ3 := Lib.hid hos.2.1; have HP3 := Lib.hid hos.2.2.2; obtain ⟨ys9, o9, _, o9'⟩ := HB.out.own; have zO2 := o9.frozen k; obtain ⟨u9, cO2⟩ := o9.cellSome k (by omega); rw [Nat.zero_add] at cO2; clear hos o9 o9' hlt9)) | (at_builtin; go_must (refine wl_append1F elPtr rfl _ _ rfl w.heap.size (.slice Aq st.length cq) st.length ((st.map fun x => ptr pb x.1).reverse) rfl HQ3.out (wC.heap.size + 1) 1 [.pointer (some ⟨wC.heap.size, 0, none⟩)] rfl (by simp [World.setCell]) rfl rfl (by decide) (by omega) HP3.out.size ?_); intro q' wE hq' hg' hl'; go_must (obtain ⟨A2, c2, rfl⟩ := hq'.form; have HQ' := Lib.hid hq'; have HG' := Lib.hid hg'; have HL' := Lib.hid hl'; clear hq' hg' hl')))
            have hb2 : wC.heap.size = (wC.setCell ⟨w.heap.size, k, none⟩ (.slice Ar st.length cr)).heap.size := by simp [World.setCell]
            have hfin := hII.out.open_ hlt (by rw [Hcd.out]; exact Hop.out) h3 hb2 HQ'.out HG'.out HL'.out
            rw [Hcd.out] at hfin
            have HF := Lib.hid hfin
            clear hfin
            go_roundg (cs.length - (k + 1))
            case measure => have := Hgk.out; omega
            case rel => exact ⟨k + 1, _, _, _, by have := Hgk.out; omega, by go_num, HF.out⟩
        · rcases hd with hd | ⟨hd, hd2⟩
          all_goals
            go_wp2_with (first | (at_builtin; refine wl_copyF elPtr rfl _ _ rfl (wr.heap.size + 1) rfl (by simp) (.slice Aq st.length cq) rfl (fun i => QL.getD i undef) st.length HQ.out QC.out (by decide) (by omega) rfl ?_; intro r wC hr hpC; go_must (have hpC2 := Lib.hid (pA.out.trans hpC); have hr2 := Lib.hid (hr.base (B' := wr.heap.size) (by simp)); obtain ⟨Ar, cr, rfl⟩ := hr.form; obtain ⟨⟨uA, fA⟩, zA, fO, zO, s1, s2, s3⟩ := row_facts HI.out hlt hpC2.out hw01; have fop := (hpC.cell wr.heap.size 0 (by simp)).trans FOP.out; have hII := Lib.hid (HI.out.storeRow hlt hpC2.out (by have := hr2.out; rw [HQL.out] at this; exact this)); clear hr hpC); go_must (have HB := Lib.hid (hII.out.keepPure (Pure.alloc (Pure.refl _) (.cells #[.int .i64 (k : Int), .int .i64 (-1), .int .i64 (-1)] 147))); have hlt9 : w1.heap.size < (wC.setCell ⟨w.heap.size, k, none⟩ (.slice Ar st.length cr)).heap.size := (by simp [World.setCell] <;> omega); have hos := own_store (u := .pointer (some ⟨wC.heap.size, 0, none⟩)) HB.out; have HQ3 := Lib.hid hos.2.1; have HP3 := Lib.hid hos.2.2.2; obtain ⟨ys9, o9, _, o9'⟩ := HB.out.own; have zO2 := o9.frozen k; obtain ⟨u9, cO2⟩ := o9.cellSome k (by omega); rw [Nat.zero_add] at cO2; clear hos o9 o9' hlt9)) | (at_builtin; go_must (refine wl_append1F elPtr rfl _ _ rfl w.heap.size (.slice Aq st.length cq) st.length ((st.map fun x => ptr pb x.1).reverse) rfl HQ3.out (wC.heap.size + 1) 1 [.pointer (some ⟨wC.heap.size, 0, none⟩)] rfl (by simp [World.setCell]) rfl rfl (by decide) (by omega) HP3.out.size ?_); intro q' wE hq' hg' hl'; go_must (obtain ⟨A2, c2, rfl⟩ := hq'.form; have HQ' := Lib.hid hq'; have HG' := Lib.hid hg'; have HL' := Lib.hid hl'; clear hq' hg' hl')))
            go_ret3
            refine ⟨HP3.out.grown HG'.out (fun g hg => (HQ3.out.lt g hg).1), ?_⟩
            rw [Bad.out (by rw [sstep_open Hop.out, if_neg h3])]; rfl
      · have hd11 : (cd.op == 11) = false := by unfold Opens at hop; rw [beq_eq_false_iff_ne]; omega
        have hd13 : (cd.op == 13) = false := by unfold Opens at hop; rw [beq_eq_false_iff_ne]; omega
        have Hop := Lib.hid hop
        clear hop
        by_cases h12 : cd.op = 12
        · have hd12 : (cd.op == 12) = true := by simp [h12]
          have H12 := Lib.hid h12
          clear h12
          rcases st with _ | ⟨⟨p, m⟩, r⟩
          · simp only [List.length_nil] at *
            have hz : ((0 : Nat) : Int) - 1 < 0 := by omega
            go_wp2_with (at_builtin; refine wl_copyF elPtr rfl _ _ rfl (wr.heap.size + 1) rfl (by simp) (.slice Aq 0 cq) rfl (fun i => QL.getD i undef) 0 HQ.out QC.out (by decide) (by omega) rfl ?_; intro r wC hr hpC; go_must (have hpC2 := Lib.hid (pA.out.trans hpC); have hr2 := Lib.hid (hr.base (B' := wr.heap.size) (by simp)); obtain ⟨Ar, cr, rfl⟩ := hr.form; obtain ⟨⟨uA, fA⟩, zA, fO, zO, s1, s2, s3⟩ := row_facts HI.out hlt hpC2.out hw01; have fop := (hpC.cell wr.heap.size 0 (by simp)).trans FOP.out; have hII := Lib.hid (HI.out.storeRow hlt hpC2.out (by have := hr2.out; rw [HQL.out] at this; exact this)); clear hr hpC))
            go_ret3
            refine ⟨hII.out.pure, ?_⟩
            rw [Bad.out (by rw [sstep_else H12.out])]; rfl
          · obtain ⟨g, off, c2, hq, hq1, hq2, hq3, hq4⟩ := HI.out.que.formSome (by simp)
            injection hq with hq5 hq6 hq7
            subst hq5 hq7
            simp only [List.length_cons] at *
            have hidx : ((r.length + 1 : Nat) : Int) - 1 = r.length := by omega
            have HTF := Lib.hid (top_facts (wC := wr) HI.out (Pure.refl _))
            have hpn : p < cs.length := by have := HTF.out.2.2.2.2.2.2.2.2.2.2.2.2; omega
            obtain ⟨b0, o0, hb0e, hb0, hc0⟩ := H.out.at_ hpn
            injection hb0e with hb0e
            injection hb0e with e1 e2
            subst e1 e2
            obtain ⟨cp, Hcp⟩ : ∃ cp, Hid (cs.getD p default = cp) := ⟨_, rfl⟩
            rw [Hcp.out] at hc0
            have hcp := Lib.hid ((hc0.keep HI.out.pure hb0).c0)
            clear hc0
            have hop1 := HI.out.opn 0 (by simp)
            simp only [List.getElem_cons_zero] at hop1
            rw [Hcp.out] at hop1
            have hen := HI.out.stk.ends 0 (by simp)
            simp only [List.getElem_cons_zero] at hen
            have hm3 : m = 11 ∨ m = 12 ∨ m = 13 := by
              obtain ⟨_, _, h | h | h⟩ := hen
              · exact .inl h.1
              · exact .inr (.inl h.1)
              · exact .inr (.inr h.1)
            have HO1 := Lib.hid hop1
            have HM3 := Lib.hid hm3
            clear hop1 hen hm3
            have hstep : sstep ((p, m) :: r) k cd = if m = 11 then some ((p, 12) :: r) else none := by rw [sstep_else H12.out]
            have Hstep := Lib.hid hstep
            clear hstep
            by_cases hm : m = 11
            · have ho11 : cp.op = 11 := by
                have h1 := HO1.out.1; have h2 := HO1.out.2.2.2.2
                unfold Opens at h1
                rcases h1 with h | h
                · exact h
                · have := h2.2 h; omega
              have hd1 : (cp.op != 11) = false := by simp [ho11]
              have ho0 : (bv p).1 < 0 := by
                have := HO1.out.2.2.2.1
                omega
              subst hm
              go_wp2_with (at_builtin; refine wl_copyF elPtr rfl _ _ rfl (wr.heap.size + 1) rfl (by simp) (.slice (some ⟨g, off, none⟩) (r.length + 1) cq) rfl (fun i => QL.getD i undef) (r.length + 1) HQ.out QC.out (by decide) (by omega) rfl ?_; intro r wC hr hpC; go_must (have hpC2 := Lib.hid (pA.out.trans hpC); have hr2 := Lib.hid (hr.base (B' := wr.heap.size) (by simp)); obtain ⟨Ar, cr, rfl⟩ := hr.form; obtain ⟨⟨uA, fA⟩, zA, fO, zO, s1, s2, s3⟩ := row_facts HI.out hlt hpC2.out hw01; have fop := (hpC.cell wr.heap.size 0 (by simp)).trans FOP.out; have hII := Lib.hid (HI.out.storeRow hlt hpC2.out (by have := hr2.out; rw [HQL.out] at this; exact this)); clear hr hpC); go_must (obtain ⟨f1, f2, f3, f4, f5, n1, n2, n3, n4, n5, l1, l2, l3⟩ := top_facts HI.out hpC2.out; have z1 := f5 1; have z2 := f5 2; have fcp := (hpC2.out.cell b (o + p * 4) hbw).trans hcp.out; clear f5))
              have hfin := hII.out.els hlt (by rw [Hcd.out]; exact H12.out)
              have HF := Lib.hid hfin
              clear hfin
              go_roundg (cs.length - (k + 1))
              case measure => have := Hgk.out; omega
              case rel => exact ⟨k + 1, _, _, _, by have := Hgk.out; omega, by go_num, HF.out⟩
            · have hbad : (cp.op != 11) = true ∨ ((cp.op != 11) = false ∧ 0 ≤ (bv p).1) := by
                by_cases h : cp.op = 11
                · right
                  refine ⟨by simp [h], HO1.out.2.2.2.1.2 ?_⟩
                  have := HM3.out
                  have h2 := HO1.out.2.2.2.2
                  omega
                · exact .inl (by simp [h])
              have Hm := Lib.hid hm
              clear hm
              rcases hbad with hd1 | ⟨hd1, ho0⟩
              all_goals
                go_wp2_with (at_builtin; refine wl_copyF elPtr rfl _ _ rfl (wr.heap.size + 1) rfl (by simp) (.slice (some ⟨g, off, none⟩) (r.length + 1) cq) rfl (fun i => QL.getD i undef) (r.length + 1) HQ.out QC.out (by decide) (by omega) rfl ?_; intro r wC hr hpC; go_must (have hpC2 := Lib.hid (pA.out.trans hpC); have hr2 := Lib.hid (hr.base (B' := wr.heap.size) (by simp)); obtain ⟨Ar, cr, rfl⟩ := hr.form; obtain ⟨⟨uA, fA⟩, zA, fO, zO, s1, s2, s3⟩ := row_facts HI.out hlt hpC2.out hw01; have fop := (hpC.cell wr.heap.size 0 (by simp)).trans FOP.out; have hII := Lib.hid (HI.out.storeRow hlt hpC2.out (by have := hr2.out; rw [HQL.out] at this; exact this)); clear hr hpC); go_must (obtain ⟨f1, f2, f3, f4, f5, n1, n2, n3, n4, n5, l1, l2, l3⟩ := top_facts HI.out hpC2.out; have z1 := f5 1; have z2 := f5 2; have fcp := (hpC2.out.cell b (o + p * 4) hbw).trans hcp.out; clear f5))
                go_ret3
                refine ⟨hII.out.pure, ?_⟩
                rw [Bad.out (by rw [Hstep.out, if_neg Hm.out])]; rfl
        · have hd12 : (cd.op == 12) = false := by simp [h12]
          have H12 := Lib.hid h12
          clear h12
          by_cases h14 : cd.op = 14
          · have hd14 : (cd.op == 14) = true := by simp [h14]
            have H14 := Lib.hid h14
            clear h14
            rcases st with _ | ⟨⟨p, m⟩, r⟩
            · simp only [List.length_nil] at *
              have hz : ((0 : Nat) : Int) - 1 < 0 := by omega
              go_wp2_with (at_builtin; refine wl_copyF elPtr rfl _ _ rfl (wr.heap.size + 1) rfl (by simp) (.slice Aq 0 cq) rfl (fun i => QL.getD i undef) 0 HQ.out QC.out (by decide) (by omega) rfl ?_; intro r wC hr hpC; go_must (have hpC2 := Lib.hid (pA.out.trans hpC); have hr2 := Lib.hid (hr.base (B' := wr.heap.size) (by simp)); obtain ⟨Ar, cr, rfl⟩ := hr.form; obtain ⟨⟨uA, fA⟩, zA, fO, zO, s1, s2, s3⟩ := row_facts HI.out hlt hpC2.out hw01; have fop := (hpC.cell wr.heap.size 0 (by simp)).trans FOP.out; have hII := Lib.hid (HI.out.storeRow hlt hpC2.out (by have := hr2.out; rw [HQL.out] at this; exact this)); clear hr hpC))
              go_ret3
              refine ⟨hII.out.pure, ?_⟩
              rw [Bad.out (by rw [sstep_end H14.out])]; rfl
            · obtain ⟨g, off, c2, hq, hq1, hq2, hq3, hq4⟩ := HI.out.que.formSome (by simp)
              injection hq with hq5 hq6 hq7
              subst hq5 hq7
              simp only [List.length_cons] at *
              have hidx : ((r.length + 1 : Nat) : Int) - 1 = r.length := by omega
              go_wp2_with (at_builtin; refine wl_copyF elPtr rfl _ _ rfl (wr.heap.size + 1) rfl (by simp) (.slice (some ⟨g, off, none⟩) (r.length + 1) cq) rfl (fun i => QL.getD i undef) (r.length + 1) HQ.out QC.out (by decide) (by omega) rfl ?_; intro r wC hr hpC; go_must (have hpC2 := Lib.hid (pA.out.trans hpC); have hr2 := Lib.hid (hr.base (B' := wr.heap.size) (by simp)); obtain ⟨Ar, cr, rfl⟩ := hr.form; obtain ⟨⟨uA, fA⟩, zA, fO, zO, s1, s2, s3⟩ := row_facts HI.out hlt hpC2.out hw01; have fop := (hpC.cell wr.heap.size 0 (by simp)).trans FOP.out; have hII := Lib.hid (HI.out.storeRow hlt hpC2.out (by have := hr2.out; rw [HQL.out] at this; exact this)); clear hr hpC); go_must (obtain ⟨f1, f2, f3, f4, f5, n1, n2, n3, n4, n5, l1, l2, l3⟩ := top_facts HI.out hpC2.out; have z1 := f5 1; have z2 := f5 2; clear f5))
              have htk := hII.out.que.take (k := r.length) (by simp)
              rw [show (((p, m) :: r).map fun x => ptr pb x.1).reverse.take (r.length * 1) = (r.map fun x => ptr pb x.1).reverse by rw [List.map_cons, List.reverse_cons, List.take_append_of_le_length (by simp), List.take_of_length_le (by simp)]] at htk
              have hfin := hII.out.fin hlt (by rw [Hcd.out]; exact H14.out) htk rfl
              have HF := Lib.hid hfin
              clear hfin htk
              go_roundg (cs.length - (k + 1))
              case measure => have := Hgk.out; omega
              case rel => exact ⟨k + 1, _, _, _, by have := Hgk.out; omega, by go_num, HF.out⟩
          · have hd14 : (cd.op == 14) = false := by simp [h14]
            have H14 := Lib.hid h14
            clear h14
            go_wp2_with (at_builtin; refine wl_copyF elPtr rfl _ _ rfl (wr.heap.size + 1) rfl (by simp) (.slice Aq st.length cq) rfl (fun i => QL.getD i undef) st.length HQ.out QC.out (by decide) (by omega) rfl ?_; intro r wC hr hpC; go_must (have hpC2 := Lib.hid (pA.out.trans hpC); have hr2 := Lib.hid (hr.base (B' := wr.heap.size) (by simp)); obtain ⟨Ar, cr, rfl⟩ := hr.form; obtain ⟨⟨uA, fA⟩, zA, fO, zO, s1, s2, s3⟩ := row_facts HI.out hlt hpC2.out hw01; have fop := (hpC.cell wr.heap.size 0 (by simp)).trans FOP.out; have hII := Lib.hid (HI.out.storeRow hlt hpC2.out (by have := hr2.out; rw [HQL.out] at this; exact this)); clear hr hpC))
            have hfin := hII.out.other hlt (by rw [Hcd.out]; exact Hop.out) (by rw [Hcd.out]; exact H12.out) (by rw [Hcd.out]; exact H14.out)
            have HF := Lib.hid hfin
            clear hfin
            go_roundg (cs.length - (k + 1))
            case measure => have := Hgk.out; omega
            case rel => exact ⟨k + 1, _, _, _, by have := Hgk.out; omega, by go_num, HF.out⟩
    · have hkl : k = cs.length := by omega
      subst hkl
      have hsc := HI.out.sc
      rw [List.take_length] at hsc
      have Hsc := Lib.hid hsc
      clear hsc
      by_cases hs0 : st.length = 0
      · have hd : ((st.length : Int) == 0) = true := by simp [hs0]
        have hs1 : st = [] := List.eq_nil_of_length_eq_zero hs0
        have Hs1 := Lib.hid hs1
        clear hs0 hs1
        go_wp2
        go_ret3
        refine ⟨HI.out.pure, ?_⟩
        rw [Hsc.out]
        refine ⟨_, _, by rw [Hs1.out]; rfl, fun _ => ?_⟩
        have := HI.out
        rw [Hs1.out] at this
        exact this.tabsB
      · have hd : ((st.length : Int) == 0) = false := by rw [beq_eq_false_iff_ne]; omega
        have Hs0 := Lib.hid hs0
        clear hs0
        go_wp2
        go_ret3
        refine ⟨HI.out.pure, ?_⟩
        rw [Hsc.out]
        refine ⟨_, _, by rw [decide_eq_false Hs0.out]; rfl, fun h => absurd (by rw [h]; rfl) Hs0.out⟩

end Go.Proofs.Ytajaonejpggcbaa

namespace Go.Proofs.Ytajaonejpggcbaa
open Go.RowKit

structure MO where
  w0 : World
  B : Nat
  C : Nat
  cs : List Cd
  vl : Value
  pm : Nat
  n : Nat
  m : Nat
  gl : Nat
  cl : Nat
  gm : Nat
  cm : Nat
  gc : Nat
  rows : Nat → Nat
def MO.vm (o : MO) : Value := .slice (some ⟨o.gm, 0, none⟩) o.m o.cm
def MO.row (o : MO) (k : Nat) : Value := .slice (some ⟨o.rows k, 0, none⟩) 4 4
def MO.vL (o : MO) : Value := .slice (some ⟨o.gl, 0, none⟩) o.n o.cl
def MO.lw (o : MO) (k : Nat) : Lw.RMo := ⟨o.w0.heap.size, k, o.m, o.gm, o.cm, 4, o.rows⟩

/-- The machine of a program, in blocks of the heap from B to C. -/
def Mach (B C : Nat) (w : World) (p : Nat) (vl : Value) (cs : List Cd) : Prop :=
  ∃ (g c : Nat) (pb : Nat → Nat), (B ≤ p ∧ p < C) ∧ (B ≤ g ∧ g < C) ∧ w.cell? ⟨p, 0, none⟩ = some vl ∧ w.cell? ⟨p, 1, none⟩ = some (.slice (some ⟨g, 0, none⟩) cs.length c) ∧ cs.length ≤ c ∧ c ≤ 9223372036854775807 ∧
    (∀ j, j < cs.length → w.cell? ⟨g, j, none⟩ = some (ownV pb (ownOf cs j))) ∧
    ∀ q, q < cs.length → Opens (cs.getD q default) → (B ≤ pb q ∧ pb q < C) ∧ w.cell? ⟨pb q, 0, none⟩ = some (.int .i64 q) ∧ w.cell? ⟨pb q, 1, none⟩ = some (.int .i64 (endAt cs q).2) ∧ w.cell? ⟨pb q, 2, none⟩ = some (.int .i64 (endAt cs q).1)
theorem Mach.chg {S : Nat → Prop} {B C p : Nat} {w w' : World} {vl : Value} {cs : List Cd} (h : Mach B C w p vl cs) (hC : C ≤ w.heap.size) (hc : Chg S w w') (hS : ∀ b, S b → b < B ∨ C ≤ b) : Mach B C w' p vl cs := by
  obtain ⟨g, c, pb, hp, hg, h1, h2, h3, h4, h5, h6⟩ := h
  have hk : ∀ b i, B ≤ b → b < C → w'.cell? ⟨b, i, none⟩ = w.cell? ⟨b, i, none⟩ := fun b i q1 q2 => hc.cell (by omega) (fun hs => by rcases hS b hs with h | h <;> omega)
  refine ⟨g, c, pb, hp, hg, (hk _ _ hp.1 hp.2).trans h1, (hk _ _ hp.1 hp.2).trans h2, h3, h4, fun j hj => (hk _ _ hg.1 hg.2).trans (h5 j hj), fun q hq ho => ?_⟩
  obtain ⟨a0, a1, a2, a3⟩ := h6 q hq ho
  exact ⟨a0, (hk _ _ a0.1 a0.2).trans a1, (hk _ _ a0.1 a0.2).trans a2, (hk _ _ a0.1 a0.2).trans a3⟩

def LaneC (o : MO) (cur : Array Value) (vt : Nat → Value) (L : Nat → Ln) (k : Nat) : Prop :=
  cur[k * 4]? = some (o.row k) ∧ cur[k * 4 + 1]? = some (.int .i64 ((L k).at_ : Nat)) ∧ cur[k * 4 + 2]? = some (vt k) ∧ cur[k * 4 + 3]? = some (.bool (L k).W)
structure MRun (o : MO) (w : World) (vt : Nat → Value) (L : Nat → Ln) (M : Nat → Int) : Prop where
  pure : Pure o.w0 w
  codes : Codes o.w0 o.vl o.cs
  lo : o.w0.heap.size ≤ o.B
  bc : o.B ≤ o.C
  hC : o.C ≤ w.heap.size
  mach : Mach o.B o.C w o.pm o.vl o.cs
  n1 : 1 ≤ o.n
  n8 : o.n ≤ 8
  m1 : 1 ≤ o.m
  m32 : o.m ≤ 32
  cl1 : o.n ≤ o.cl
  cl2 : o.cl ≤ 9223372036854775807
  crowd : w.heap[o.gc]? = some (.cells #[o.vL, o.vm] 33 (0, 0))
  gcB : o.w0.heap.size ≤ o.gc
  lanes : ∃ cur, w.heap[o.gl]? = some (.cells cur 55 (0, 0)) ∧ ∀ k, k < o.n → LaneC o cur vt L k
  glB : o.w0.heap.size ≤ o.gl ∧ o.gl < o.B
  row : ∀ k, k < o.n → OwnO w o.w0.heap.size 3 1 (o.row k) 4 (row4 (L k).R).toList
  rowB : ∀ k, k < o.n → o.rows k < o.B
  inj : ∀ k l, k < o.n → l < o.n → o.rows k = o.rows l → k = l
  mem : OwnO w o.w0.heap.size 3 1 o.vm o.m (memL o.m M)
  gmB : o.gm < o.B
  ne : ∀ k, k < o.n → o.rows k ≠ o.gm
  trn : ∀ k, k < o.n → OwnO w o.C 3 1 (vt k) (L k).T.length ((L k).T.map (.int .i64))
  tinj : ∀ k l, k < o.n → l < o.n → k ≠ l → ∀ g, (vt k).ownBlock = some g → (vt l).ownBlock ≠ some g
  good : ∀ k, k < o.n → ∀ r, Word ((L k).R r)
  mgood : ∀ j, Word (M j)
def MOwn (o : MO) (vt : Nat → Value) (b : Nat) : Prop := b = o.gl ∨ b = o.gm ∨ (∃ k, k < o.n ∧ b = o.rows k) ∨ ∃ k, k < o.n ∧ (vt k).ownBlock = some b
def MStep (o : MO) (w : World) (vt : Nat → Value) (w' : World) (vt' : Nat → Value) : Prop := Chg (MOwn o vt) w w' ∧ ∀ k, k < o.n → Lies w (vt k) (vt' k)
def upL (L : Nat → Ln) (k : Nat) (l : Ln) : Nat → Ln := fun j => if j = k then l else L j
def upV (vt : Nat → Value) (k : Nat) (v : Value) : Nat → Value := fun j => if j = k then v else vt j
theorem upL_same (L : Nat → Ln) (k : Nat) (l : Ln) : upL L k l k = l := if_pos rfl
theorem upL_ne (L : Nat → Ln) {k j : Nat} (l : Ln) (h : j ≠ k) : upL L k l j = L j := if_neg h
theorem upV_same (vt : Nat → Value) (k : Nat) (v : Value) : upV vt k v k = v := if_pos rfl
theorem upV_ne (vt : Nat → Value) {k j : Nat} (v : Value) (h : j ≠ k) : upV vt k v j = vt j := if_neg h
theorem upL_self (L : Nat → Ln) (k : Nat) : upL L k (L k) = L := funext fun j => by
  unfold upL; split
  · rename_i h; rw [h]
  · rfl
theorem upL_up (L : Nat → Ln) (k : Nat) (l l' : Ln) : upL (upL L k l) k l' = upL L k l' := funext fun j => by
  unfold upL; split <;> simp_all
theorem upV_self (vt : Nat → Value) (k : Nat) : upV vt k (vt k) = vt := funext fun j => by
  unfold upV; split
  · rename_i h; rw [h]
  · rfl

section
variable {o : MO} {w w' : World} {vt : Nat → Value} {L : Nat → Ln} {M : Nat → Int}
theorem MRun.glLt (h : MRun o w vt L M) : o.gl < w.heap.size := Nat.lt_of_lt_of_le h.glB.2 (Nat.le_trans h.bc h.hC)
theorem MRun.rowLo (h : MRun o w vt L M) {k : Nat} (hk : k < o.n) : o.w0.heap.size ≤ o.rows k ∧ o.rows k < w.heap.size := (h.row k hk).lt (o.rows k) rfl
theorem MRun.gmLo (h : MRun o w vt L M) : o.w0.heap.size ≤ o.gm ∧ o.gm < w.heap.size := h.mem.lt o.gm rfl
theorem MRun.trnLo (h : MRun o w vt L M) {k g : Nat} (hk : k < o.n) (hg : (vt k).ownBlock = some g) : o.C ≤ g ∧ g < w.heap.size := (h.trn k hk).lt g hg
theorem MRun.own_lo (h : MRun o w vt L M) : ∀ b, MOwn o vt b → o.w0.heap.size ≤ b := by
  rintro b (rfl | rfl | ⟨k, hk, rfl⟩ | ⟨k, hk, hg⟩)
  · exact h.glB.1
  · exact h.gmLo.1
  · exact (h.rowLo hk).1
  · exact Nat.le_trans h.lo (Nat.le_trans h.bc (h.trnLo hk hg).1)
theorem MRun.own_hi (h : MRun o w vt L M) : ∀ b, MOwn o vt b → b < w.heap.size := by
  rintro b (rfl | rfl | ⟨k, hk, rfl⟩ | ⟨k, hk, hg⟩)
  · exact h.glLt
  · exact h.gmLo.2
  · exact (h.rowLo hk).2
  · exact (h.trnLo hk hg).2
theorem MRun.own_mach (h : MRun o w vt L M) : ∀ b, MOwn o vt b → b < o.B ∨ o.C ≤ b := by
  rintro b (rfl | rfl | ⟨k, hk, rfl⟩ | ⟨k, hk, hg⟩)
  · exact .inl h.glB.2
  · exact .inl h.gmB
  · exact .inl (h.rowB k hk)
  · exact .inr (h.trnLo hk hg).1
theorem MRun.gm_heap (h : MRun o w vt L M) : ∃ cur, w.heap[o.gm]? = some (.cells cur 3 (0, 0)) := h.mem.heap rfl
theorem MRun.row_heap (h : MRun o w vt L M) {k : Nat} (hk : k < o.n) : ∃ cur, w.heap[o.rows k]? = some (.cells cur 3 (0, 0)) := (h.row k hk).heap rfl
theorem MRun.trn_heap (h : MRun o w vt L M) {k g : Nat} (hk : k < o.n) (hg : (vt k).ownBlock = some g) : ∃ cur, w.heap[g]? = some (.cells cur 3 (0, 0)) := (h.trn k hk).heap hg
theorem MRun.gl_ne (h : MRun o w vt L M) : o.gl ≠ o.gm ∧ (∀ k, k < o.n → o.gl ≠ o.rows k) ∧ (∀ k, k < o.n → (vt k).ownBlock ≠ some o.gl) ∧ o.gl ≠ o.gc := by
  obtain ⟨cur, b1, _⟩ := h.lanes
  obtain ⟨c2, b2⟩ := h.gm_heap
  refine ⟨ne_of_heap b1 b2 (by decide), fun k hk => ?_, fun k hk hg => ?_, ne_of_heap b1 h.crowd (by decide)⟩
  · obtain ⟨c3, b3⟩ := h.row_heap hk
    exact ne_of_heap b1 b3 (by decide)
  · obtain ⟨c3, b3⟩ := h.trn_heap hk hg
    exact ne_of_heap b1 b3 (by decide) rfl
theorem MRun.gc_own (h : MRun o w vt L M) : ¬ MOwn o vt o.gc := by
  obtain ⟨c2, b2⟩ := h.gm_heap
  rintro (e | e | ⟨k, hk, e⟩ | ⟨k, hk, hg⟩)
  · exact h.gl_ne.2.2.2 e.symm
  · exact ne_of_heap h.crowd b2 (by decide) e
  · obtain ⟨c3, b3⟩ := h.row_heap hk
    exact ne_of_heap h.crowd b3 (by decide) e
  · obtain ⟨c3, b3⟩ := h.trn_heap hk hg
    exact ne_of_heap h.crowd b3 (by decide) rfl
theorem MRun.row_trn (h : MRun o w vt L M) {k l g : Nat} (hk : k < o.n) (hl : l < o.n) (hg : (vt l).ownBlock = some g) : g ≠ o.rows k ∧ g ≠ o.gm := by
  have h1 := (h.trnLo hl hg).1
  have h2 := h.rowB k hk
  have h3 := h.gmB
  have h4 := h.bc
  omega
theorem MRun.keep (h : MRun o w vt L M) (hp : Pure w w') : MRun o w' vt L M := by
  obtain ⟨cur, b1, b2⟩ := h.lanes
  have hc : Chg (fun _ => False) w w' := Chg.of_pure hp
  exact ⟨h.pure.trans hp, h.codes, h.lo, h.bc, Nat.le_trans h.hC hp.size, h.mach.chg h.hC hc (fun b hb => hb.elim), h.n1, h.n8, h.m1, h.m32, h.cl1, h.cl2, hc.heap h.crowd id, h.gcB, ⟨cur, hc.heap b1 id, b2⟩, h.glB,
    fun k hk => (h.row k hk).pure hp, h.rowB, h.inj, h.mem.pure hp, h.gmB, h.ne, fun k hk => (h.trn k hk).pure hp, h.tinj, h.good, h.mgood⟩
theorem MStep.refl (o : MO) (w : World) (vt : Nat → Value) : MStep o w vt w vt := ⟨Chg.refl _ _, fun _ _ _ h => .inl h⟩
theorem MStep.of_pure {a b : World} {vt : Nat → Value} (h : Pure a b) : MStep o a vt b vt := ⟨Chg.of_pure h, fun _ _ _ hg => .inl hg⟩
theorem MStep.trans {a b c : World} {u v x : Nat → Value} (h : MStep o a u b v) (k : MStep o b v c x) : MStep o a u c x := by
  refine ⟨h.1.trans' k.1 fun i hi hs => ?_, fun l hl g hg => ?_⟩
  · rcases hs with hs | hs | hs | ⟨l, hl, hs⟩
    · exact .inl hs
    · exact .inr (.inl hs)
    · exact .inr (.inr (.inl hs))
    · rcases h.2 l hl i hs with h2 | h2
      · exact .inr (.inr (.inr ⟨l, hl, h2⟩))
      · omega
  · rcases k.2 l hl g hg with h2 | h2
    · exact h.2 l hl g h2
    · exact .inr (Nat.le_trans h.1.size h2)
theorem MOwn.lies {u q : Nat → Value} {W : World} {g : Nat} (h : ¬ MOwn o u g) (hl : ∀ k, k < o.n → Lies W (u k) (q k)) (hg : g < W.heap.size) : ¬ MOwn o q g := by
  rintro (e | e | e | ⟨k, hk, e⟩)
  · exact h (.inl e)
  · exact h (.inr (.inl e))
  · exact h (.inr (.inr (.inl e)))
  · rcases hl k hk g e with h2 | h2
    · exact h (.inr (.inr (.inr ⟨k, hk, h2⟩)))
    · omega

/-- What the walk reads of a lane. -/
theorem MRun.laneCells (h : MRun o w vt L M) {k : Nat} (hk : k < o.n) : w.cell? ⟨o.gl, k * 4, none⟩ = some (o.row k) ∧ w.cell? ⟨o.gl, k * 4 + 1, none⟩ = some (.int .i64 ((L k).at_ : Nat)) ∧ w.cell? ⟨o.gl, k * 4 + 2, none⟩ = some (vt k) ∧ w.cell? ⟨o.gl, k * 4 + 3, none⟩ = some (.bool (L k).W) ∧
    ∀ i, w.frozen? ⟨o.gl, i, none⟩ = false := by
  obtain ⟨cur, b1, b2⟩ := h.lanes
  obtain ⟨c0, c1, c2, c3⟩ := b2 k hk
  refine ⟨?_, ?_, ?_, ?_, fun i => frozen_of_row w o.gl i _ _ b1⟩ <;> (rw [cell_of_row w o.gl _ cur _ _ b1]; assumption)
theorem MRun.crowdCells (h : MRun o w vt L M) : w.cell? ⟨o.gc, 0, none⟩ = some o.vL ∧ w.cell? ⟨o.gc, 1, none⟩ = some o.vm :=
  ⟨(cell_of_row w o.gc 0 _ _ _ h.crowd).trans rfl, (cell_of_row w o.gc 1 _ _ _ h.crowd).trans rfl⟩
theorem MRun.regs (h : MRun o w vt L M) {k : Nat} (hk : k < o.n) : Lw.RM (o.lw k) w (fun l => (L l).R) M :=
  ⟨h.m1, h.m32, h.row k hk, h.mem, h.ne k hk⟩
theorem MRun.regCell (h : MRun o w vt L M) {k : Nat} (hk : k < o.n) {r : Nat} (hr : r < 4) : w.cell? ⟨o.rows k, r, none⟩ = some (.int .i64 ((L k).R r)) :=
  (h.regs hk).regCell (k := k) ⟨rfl, Nat.lt_of_lt_of_le hk h.n8⟩ hr
/-- The frame of a change to some blocks of a run's own. -/
theorem MRun.frame {S : Nat → Prop} {vt' : Nat → Value} {L' : Nat → Ln} {M' : Nat → Int} (h : MRun o w vt L M) (hc : Chg S w w') (hS : ∀ b, S b → MOwn o vt b)
    (hl : ∃ cur, w'.heap[o.gl]? = some (.cells cur 55 (0, 0)) ∧ ∀ k, k < o.n → LaneC o cur vt' L' k)
    (hr : ∀ k, k < o.n → OwnO w' o.w0.heap.size 3 1 (o.row k) 4 (row4 (L' k).R).toList) (hm : OwnO w' o.w0.heap.size 3 1 o.vm o.m (memL o.m M'))
    (ht : ∀ k, k < o.n → OwnO w' o.C 3 1 (vt' k) (L' k).T.length ((L' k).T.map (.int .i64))) (hi : ∀ k l, k < o.n → l < o.n → k ≠ l → ∀ g, (vt' k).ownBlock = some g → (vt' l).ownBlock ≠ some g)
    (hg : ∀ k, k < o.n → ∀ r, Word ((L' k).R r)) (hmg : ∀ j, Word (M' j)) : MRun o w' vt' L' M' :=
  ⟨Chg.pure h.pure hc (fun b hb => h.own_lo b (hS b hb)), h.codes, h.lo, h.bc, Nat.le_trans h.hC hc.size, h.mach.chg h.hC hc (fun b hb => h.own_mach b (hS b hb)), h.n1, h.n8, h.m1, h.m32, h.cl1, h.cl2,
    hc.heap h.crowd (fun e => h.gc_own (hS _ e)), h.gcB, hl, h.glB, hr, h.rowB, h.inj, hm, h.gmB, h.ne, ht, hi, hg, hmg⟩
/-- A cell of a lane is written: its place, or whether it waits. -/
theorem MRun.setCell (h : MRun o w vt L M) {k i : Nat} (hk : k < o.n) {v : Value} {l : Ln} (hR : l.R = (L k).R) (hT : l.T = (L k).T) (hv : (i = 1 ∧ v = .int .i64 (l.at_ : Nat) ∧ l.W = (L k).W) ∨ (i = 3 ∧ v = .bool l.W ∧ l.at_ = (L k).at_)) :
    MRun o (w.setCell ⟨o.gl, k * 4 + i, none⟩ v) vt (upL L k l) M ∧ MStep o w vt (w.setCell ⟨o.gl, k * 4 + i, none⟩ v) vt := by
  obtain ⟨cur, b1, b2⟩ := h.lanes
  have hc : Chg (fun b => b = o.gl) w (w.setCell ⟨o.gl, k * 4 + i, none⟩ v) := Chg.of_set w _ _ _ rfl
  have hne := h.gl_ne
  refine ⟨h.frame hc (fun b hb => .inl hb) ⟨_, heap_setCell_same w o.gl (k * 4 + i) _ _ v b1, fun j hj => ?_⟩ (fun j hj => ?_) (h.mem.chg hc fun g hg e => ?_) (fun j hj => ?_) h.tinj (fun j hj r => ?_) h.mgood, hc.mono fun b hb => .inl hb, fun _ _ _ hg => .inl hg⟩
  · obtain ⟨c0, c1, c2, c3⟩ := b2 j hj
    have hsz : k * 4 + i < cur.size := by
      obtain ⟨d0, d1, d2, d3⟩ := b2 k hk
      have := (Array.getElem?_eq_some_iff.1 d3).1
      omega
    unfold LaneC upL
    by_cases e : j = k
    · subst e
      rcases hv with ⟨rfl, rfl, hw⟩ | ⟨rfl, rfl, ha⟩
      · refine ⟨?_, ?_, ?_, ?_⟩
        · rw [Array.getElem?_setIfInBounds_ne (by omega)]; exact c0
        · rw [Array.getElem?_setIfInBounds_self_of_lt hsz]; simp
        · rw [Array.getElem?_setIfInBounds_ne (by omega)]; exact c2
        · rw [Array.getElem?_setIfInBounds_ne (by omega), c3]; simp [hw]
      · refine ⟨?_, ?_, ?_, ?_⟩
        · rw [Array.getElem?_setIfInBounds_ne (by omega)]; exact c0
        · rw [Array.getElem?_setIfInBounds_ne (by omega), c1]; simp [ha]
        · rw [Array.getElem?_setIfInBounds_ne (by omega)]; exact c2
        · rw [Array.getElem?_setIfInBounds_self_of_lt hsz]; simp
    · have hi : i = 1 ∨ i = 3 := by omega
      rw [if_neg e]
      refine ⟨?_, ?_, ?_, ?_⟩
      · rw [Array.getElem?_setIfInBounds_ne (by omega)]; exact c0
      · rw [Array.getElem?_setIfInBounds_ne (by omega)]; exact c1
      · rw [Array.getElem?_setIfInBounds_ne (by omega)]; exact c2
      · rw [Array.getElem?_setIfInBounds_ne (by omega)]; exact c3
  · have hr := (h.row j hj).chg hc fun g hg e => by
      simp [MO.row, Value.ownBlock] at hg
      exact hne.2.1 j hj (by rw [← e, hg])
    unfold upL
    split
    · rename_i e; subst e; rw [hR]; exact hr
    · exact hr
  · simp [MO.vm, Value.ownBlock] at hg
    exact hne.1 (by rw [← e, hg])
  · have ht := (h.trn j hj).chg hc fun g hg e => hne.2.2.1 j hj (by rw [hg, e])
    unfold upL
    split
    · rename_i e; subst e; rw [hT]; exact ht
    · exact ht
  · unfold upL
    split
    · rename_i e; subst e; rw [hR]; exact h.good j hj r
    · exact h.good j hj r
theorem MRun.setAt (h : MRun o w vt L M) {k : Nat} (hk : k < o.n) (a : Nat) : MRun o (w.setCell ⟨o.gl, k * 4 + 1, none⟩ (.int .i64 (a : Nat))) vt (upL L k { L k with at_ := a }) M ∧ MStep o w vt (w.setCell ⟨o.gl, k * 4 + 1, none⟩ (.int .i64 (a : Nat))) vt :=
  h.setCell hk rfl rfl (.inl ⟨rfl, rfl, rfl⟩)
theorem MRun.setW (h : MRun o w vt L M) {k : Nat} (hk : k < o.n) (b : Bool) : MRun o (w.setCell ⟨o.gl, k * 4 + 3, none⟩ (.bool b)) vt (upL L k { L k with W := b }) M ∧ MStep o w vt (w.setCell ⟨o.gl, k * 4 + 3, none⟩ (.bool b)) vt :=
  h.setCell hk rfl rfl (.inr ⟨rfl, rfl, rfl⟩)
/-- The turns of a lane are written anew. -/
theorem MRun.setT (h : MRun o w vt L M) {k : Nat} (hk : k < o.n) {wq : World} {v' : Value} {T' : List Int} (hg : w.grownBy wq (vt k).ownBlock) (ho : OwnO wq o.C 3 1 v' T'.length (T'.map (.int .i64))) (hl : Lies w (vt k) v') :
    MRun o (wq.setCell ⟨o.gl, k * 4 + 2, none⟩ v') (upV vt k v') (upL L k { L k with T := T' }) M ∧ MStep o w vt (wq.setCell ⟨o.gl, k * 4 + 2, none⟩ v') (upV vt k v') := by
  obtain ⟨cur, b1, b2⟩ := h.lanes
  have hne := h.gl_ne
  have hc1 : Chg (fun b => (vt k).ownBlock = some b) w wq := Chg.of_grown hg fun b hb => hb
  have hc2 : Chg (fun b => b = o.gl) wq (wq.setCell ⟨o.gl, k * 4 + 2, none⟩ v') := Chg.of_set wq _ _ _ rfl
  have b1' : wq.heap[o.gl]? = some (.cells cur 55 (0, 0)) := hc1.heap b1 (hne.2.2.1 k hk)
  have hc : Chg (fun b => (vt k).ownBlock = some b ∨ b = o.gl) w (wq.setCell ⟨o.gl, k * 4 + 2, none⟩ v') := (hc1.mono fun b hb => .inl hb).trans (hc2.mono fun b hb => .inr hb)
  have hS : ∀ b, ((vt k).ownBlock = some b ∨ b = o.gl) → MOwn o vt b := by
    rintro b (hb | hb)
    · exact .inr (.inr (.inr ⟨k, hk, hb⟩))
    · exact .inl hb
  refine ⟨h.frame hc hS ⟨_, heap_setCell_same wq o.gl (k * 4 + 2) _ _ v' b1', fun j hj => ?_⟩ (fun j hj => ?_) (h.mem.chg hc fun g hg2 => ?_) (fun j hj => ?_) (fun i j hi hj hij g hg2 => ?_) (fun j hj r => ?_) h.mgood, hc.mono hS, fun j hj g hg2 => ?_⟩
  · obtain ⟨c0, c1, c2, c3⟩ := b2 j hj
    have hsz : k * 4 + 2 < cur.size := by
      obtain ⟨d0, d1, d2, d3⟩ := b2 k hk
      have := (Array.getElem?_eq_some_iff.1 d3).1
      omega
    unfold LaneC upL upV
    by_cases e : j = k
    · subst e
      refine ⟨?_, ?_, ?_, ?_⟩
      · rw [Array.getElem?_setIfInBounds_ne (by omega)]; exact c0
      · rw [Array.getElem?_setIfInBounds_ne (by omega), c1]; simp
      · rw [Array.getElem?_setIfInBounds_self_of_lt hsz]; simp
      · rw [Array.getElem?_setIfInBounds_ne (by omega), c3]; simp
    · rw [if_neg e, if_neg e]
      refine ⟨?_, ?_, ?_, ?_⟩
      · rw [Array.getElem?_setIfInBounds_ne (by omega)]; exact c0
      · rw [Array.getElem?_setIfInBounds_ne (by omega)]; exact c1
      · rw [Array.getElem?_setIfInBounds_ne (by omega)]; exact c2
      · rw [Array.getElem?_setIfInBounds_ne (by omega)]; exact c3
  · have hr := (h.row j hj).chg hc fun g hg2 => by
      simp [MO.row, Value.ownBlock] at hg2
      subst hg2
      rintro (e | e)
      · exact (h.row_trn hj hk e).1 rfl
      · exact hne.2.1 j hj e.symm
    unfold upL
    split
    · rename_i e; subst e; exact hr
    · exact hr
  · simp [MO.vm, Value.ownBlock] at hg2
    subst hg2
    rintro (e | e)
    · exact (h.row_trn hk hk e).2 rfl
    · exact hne.1 e.symm
  · unfold upL upV
    by_cases e : j = k
    · rw [if_pos e, if_pos e]
      refine ho.chg hc2 fun g hg2 e2 => ?_
      obtain ⟨c3, b3⟩ := ho.heap hg2
      rw [e2] at b3
      exact ne_of_heap b1' b3 (by decide) rfl
    · rw [if_neg e, if_neg e]
      refine (h.trn j hj).chg hc fun g hg2 => ?_
      rintro (e2 | e2)
      · exact h.tinj j k hj hk e g hg2 e2
      · exact hne.2.2.1 j hj (by rw [hg2, e2])
  · unfold upV at hg2 ⊢
    by_cases e1 : i = k
    · rw [if_pos e1] at hg2
      rw [if_neg (fun e2 => hij (e1.trans e2.symm))]
      intro hq
      rcases hl g hg2 with h2 | h2
      · exact h.tinj k j hk hj (by omega) g h2 hq
      · have := (h.trnLo hj hq).2; omega
    · rw [if_neg e1] at hg2
      by_cases e2 : j = k
      · rw [if_pos e2]
        intro hq
        rcases hl g hq with h2 | h2
        · exact h.tinj i k hi hk e1 g hg2 h2
        · have := (h.trnLo hi hg2).2; omega
      · rw [if_neg e2]
        exact h.tinj i j hi hj hij g hg2
  · unfold upL
    split
    · rename_i e; subst e; exact h.good j hj r
    · exact h.good j hj r
  · unfold upV at hg2
    split at hg2
    · rename_i e; subst e; exact hl g hg2
    · exact .inl hg2
/-- A lane has executed an instruction. -/
theorem MRun.lane (h : MRun o w vt L M) {k : Nat} (hk : k < o.n) {c : Cd} (hc : CdOk c) (hs : Lw.SimPost (o.lw k) c k (fun l => (L l).R) M w (.returned (.tuple #[])) w') :
    MRun o w' vt (upL L k { L k with R := simR c k o.m (L k).R M }) (simM c o.m (L k).R M) ∧ MStep o w vt w' vt := by
  obtain ⟨_, hr, hch⟩ := hs
  have hne := h.gl_ne
  obtain ⟨cur, b1, b2⟩ := h.lanes
  have hS : ∀ b, (o.lw k).lane k b → MOwn o vt b := by
    rintro b (hb | hb)
    · exact .inr (.inr (.inl ⟨k, hk, hb⟩))
    · exact .inr (.inl hb)
  have hk8 : k ≤ 255 := by have := h.n8; omega
  refine ⟨h.frame hch hS ⟨cur, hch.heap b1 ?_, fun j hj => ?_⟩ (fun j hj => ?_) hr.mem (fun j hj => ?_) h.tinj (fun j hj r => ?_) (simM_word (h.good k hk) h.mgood), hch.mono hS, fun _ _ _ hg => .inl hg⟩
  · rintro (e | e)
    · exact hne.2.1 k hk e
    · exact hne.1 e
  · obtain ⟨c0, c1, c2, c3⟩ := b2 j hj
    unfold LaneC upL
    split
    · rename_i e; subst e; exact ⟨c0, c1, c2, c3⟩
    · exact ⟨c0, c1, c2, c3⟩
  · unfold upL
    by_cases e : j = k
    · subst e
      have := hr.row
      rw [if_pos rfl]
      have e2 : upR (fun l => (L l).R) j (simR c j (o.lw j).m (L j).R M) j = simR c j o.m (L j).R M := if_pos rfl
      rw [show (o.lw j).k = j from rfl, e2] at this
      exact this
    · rw [if_neg e]
      refine (h.row j hj).chg hch fun g hg => ?_
      simp [MO.row, Value.ownBlock] at hg
      subst hg
      rintro (e2 | e2)
      · exact e (h.inj j k hj hk e2)
      · exact h.ne j hj e2
  · have ht := (h.trn j hj).chg hch fun g hg => by
      rintro (e | e)
      · exact (h.row_trn hk hj hg).1 e
      · exact (h.row_trn hk hj hg).2 e
    unfold upL
    split
    · rename_i e; subst e; exact ht
    · exact ht
  · unfold upL
    split
    · rename_i e; subst e; exact simR_word hc hk8 (h.good j hj) h.mgood r
    · exact h.good j hj r
end
def MPost (o : MO) (w : World) (vt : Nat → Value) (L : Nat → Ln) (M : Nat → Int) (e : Ending) (w' : World) : Prop := e = .returned (.tuple #[]) ∧ ∃ vt', MRun o w' vt' L M ∧ MStep o w vt w' vt'

end Go.Proofs.Ytajaonejpggcbaa

namespace Go.Proofs.Ytajaonejpggcbaa
open Go.RowKit

set_option maxHeartbeats 1000000 in
theorem idone_raw (w : World) (pm b off n c : Nat) (A : Option Addr) (a : Int) (q0 : w.cell? ⟨pm, 0, none⟩ = some (.slice A n c)) (q1 : w.cell? ⟨b, off + 1, none⟩ = some (.int .i64 a)) :
    Calls Try.prog 125 #[.pointer (some ⟨pm, 0, none⟩), .pointer (some ⟨b, off, none⟩)] w fun e w' => e = .returned (.bool (a == (n : Int))) ∧ Pure w w' := by
  go_enter Try.func125, Try.ntmps125
  go_wp2_with fail
  go_quiet (fail)
  go_wp2
  go_ret
  exact ⟨rfl, by exact (by repeat (first | assumption | exact Pure.refl _ | refine Pure.drewN ?_ _ | refine Pure.drew ?_ | refine Pure.alloc ?_ _ | refine Pure.setCell ?_ (by simp <;> omega) _))⟩

set_option maxHeartbeats 1000000 in
theorem igoes_raw (w : World) (pm b off n c : Nat) (A : Option Addr) (a : Int) (W : Bool) (q0 : w.cell? ⟨pm, 0, none⟩ = some (.slice A n c)) (q1 : w.cell? ⟨b, off + 1, none⟩ = some (.int .i64 a)) (q3 : w.cell? ⟨b, off + 3, none⟩ = some (.bool W)) :
    Calls Try.prog 89 #[.pointer (some ⟨pm, 0, none⟩), .pointer (some ⟨b, off, none⟩)] w fun e w' => e = .returned (.bool (!W && !(a == (n : Int)))) ∧ Pure w w' := by
  cases W
  · go_enter Try.func89, Try.ntmps89
    go_wp2_with fail
    refine (idone_raw _ pm b off n c A a q0 q1).mono ?_
    rintro e w1 ⟨rfl, hp1⟩
    go_wp2
    go_ret
    exact ⟨ret_bool (by simp), hp1⟩
  · go_enter Try.func89, Try.ntmps89
    go_wp2
    go_ret
    exact ⟨rfl, Pure.refl _⟩

/-- What the walk reads of a machine. -/
theorem MRun.machCell {o : MO} {w : World} {vt : Nat → Value} {L : Nat → Ln} {M : Nat → Int} (h : MRun o w vt L M) : ∃ A c, o.vl = .slice A o.cs.length c ∧ w.cell? ⟨o.pm, 0, none⟩ = some (.slice A o.cs.length c) := by
  obtain ⟨A, c, hv, _, _⟩ := h.codes.form
  obtain ⟨g, c', pb, hp, hg, h1, _⟩ := h.mach
  exact ⟨A, c, hv, by rw [← hv]; exact h1⟩

theorem idone_any (o : MO) (w : World) (vt : Nat → Value) (L : Nat → Ln) (M : Nat → Int) (h : MRun o w vt L M) (k : Nat) (hk : k < o.n) :
    Calls Try.prog 125 #[.pointer (some ⟨o.pm, 0, none⟩), .pointer (some ⟨o.gl, k * 4, none⟩)] w fun e w' => e = .returned (.bool (decide ((L k).at_ = o.cs.length))) ∧ Pure w w' := by
  obtain ⟨A, c, hv, hm⟩ := h.machCell
  obtain ⟨q0, q1, q2, q3, _⟩ := h.laneCells hk
  refine (idone_raw w o.pm o.gl (k * 4) o.cs.length c A _ hm q1).mono ?_
  rintro e w' ⟨rfl, hp⟩
  refine ⟨ret_bool ?_, hp⟩
  rw [Bool.eq_iff_iff, beq_iff_eq, decide_eq_true_iff]
  omega

/-- A lane that is not beyond the end goes on exactly as told. -/
theorem igoes_any (o : MO) (w : World) (vt : Nat → Value) (L : Nat → Ln) (M : Nat → Int) (h : MRun o w vt L M) (k : Nat) (hk : k < o.n) (hle : (L k).at_ ≤ o.cs.length) :
    Calls Try.prog 89 #[.pointer (some ⟨o.pm, 0, none⟩), .pointer (some ⟨o.gl, k * 4, none⟩)] w fun e w' => e = .returned (.bool (goesL o.cs.length (L k))) ∧ Pure w w' := by
  obtain ⟨A, c, hv, hm⟩ := h.machCell
  obtain ⟨q0, q1, q2, q3, _⟩ := h.laneCells hk
  refine (igoes_raw w o.pm o.gl (k * 4) o.cs.length c A _ _ hm q1 q3).mono ?_
  rintro e w' ⟨rfl, hp⟩
  refine ⟨ret_bool ?_, hp⟩
  unfold goesL
  congr 1
  rw [Bool.eq_iff_iff, Bool.not_eq_true', beq_eq_false_iff_ne, decide_eq_true_iff]
  omega

end Go.Proofs.Ytajaonejpggcbaa
