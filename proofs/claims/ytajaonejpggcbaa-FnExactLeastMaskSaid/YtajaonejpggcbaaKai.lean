/- The program's search for blocks: what it finds in a program. Plain facts on reachability in a graph, and on a search that goes breadth first. No program in sight. Blocks of valid programs; the graph of a program, plainly. No program in sight. No condition. -/
import Derived.Test.YtajaonejpggcbaaKaa
import Derived.Test.YtajaonejpggcbaaKac
import Derived.Test.YtajaonejpggcbaaKah

namespace Go.Proofs.Ytajaonejpggcbaa
open Go.RowKit

/-- The tables of a program: of each place its own block, and the blocks around it. -/
def Tabs (w : World) (va vo : Value) (cs : List Cd) : Prop :=
  ∃ pb : Nat → Nat, Cells w vo cs.length 1 (fun j => ownV pb (ownOf cs j)) ∧
    (∀ p, p < cs.length → Opens (cs.getD p default) → pb p < w.heap.size ∧ w.cell? ⟨pb p, 0, none⟩ = some (.int .i64 p) ∧ w.cell? ⟨pb p, 1, none⟩ = some (.int .i64 (endAt cs p).2) ∧ w.cell? ⟨pb p, 2, none⟩ = some (.int .i64 (endAt cs p).1)) ∧
    ∃ R : Nat → Value, Cells w va cs.length 1 R ∧ ∀ j, j < cs.length → Cells w (R j) (stkPos cs j).length 1 (fun i => ptr pb ((stkPos cs j).getD i 0))

theorem Tabs.keep {w w' : World} {va vo : Value} {cs : List Cd} (h : Tabs w va vo cs) (hp : Pure w w') : Tabs w' va vo cs := by
  obtain ⟨pb, h1, h2, R, h3, h4⟩ := h
  refine ⟨pb, h1.keep hp, fun p hp1 hp2 => ?_, R, h3.keep hp, fun j hj => (h4 j hj).keep hp⟩
  obtain ⟨a, b, c, d⟩ := h2 p hp1 hp2
  exact ⟨Nat.lt_of_lt_of_le a hp.size, (hp.cell _ _ a).trans b, (hp.cell _ _ a).trans c, (hp.cell _ _ a).trans d⟩

def BlkPost (cs : List Cd) (w : World) (e : Ending) (w' : World) : Prop :=
  Pure w w' ∧ match sscan cs 0 [] with
  | none => e = .returned (.tuple #[.slice none 0 0, .slice none 0 0, .bool false])
  | some st => ∃ va vo, e = .returned (.tuple #[va, vo, .bool (decide (st.length = 0))]) ∧ (st = [] → Tabs w' va vo cs)

theorem BInv.tabs {cs : List Cd} {B : Nat} {w wr : World} {ga go : Nat} {q : Value} {pb : Nat → Nat} {bv : Nat → Int × Int} (h : BInv cs B w wr ga go q cs.length cs.length [] pb bv) : Tabs wr (.slice (some ⟨ga, 0, none⟩) cs.length cs.length) (.slice (some ⟨go, 0, none⟩) cs.length cs.length) cs := by
  obtain ⟨a1, a2, a3, a4, ⟨ys, a5, a6, a7⟩, ⟨zs, a8, a8'⟩, a9, a10, a11, a12, a13, a14⟩ := h
  refine ⟨pb, Cells.of_ownO a5 (fun j hj => a6 j (by omega)), fun p hp ho => ?_, fun j => zs.getD j undef, Cells.of_ownO a8 (fun j hj => ?_), fun j hj => ?_⟩
  · obtain ⟨b1, b2⟩ := a11 p hp ho
    have hlt := (Array.getElem?_eq_some_iff.1 b2).1
    have e := a14 p hp ho (fun i hi => by simp at hi)
    rw [e]
    exact ⟨hlt, cell_of_row wr _ 0 _ _ _ b2, cell_of_row wr _ 1 _ _ _ b2, cell_of_row wr _ 2 _ _ _ b2⟩
  · obtain ⟨r, h1, _⟩ := a8' j (by omega)
    simp [List.getD_eq_getElem?_getD, h1]
  · obtain ⟨r, h1, h2⟩ := a8' j hj
    have : zs.getD j undef = r := by simp [List.getD_eq_getElem?_getD, h1]
    show Cells wr (zs.getD j undef) _ _ _
    rw [this]
    refine Cells.of_ownO h2.1 fun i hi => ?_
    have hi' : i < (stkPos cs j).length := by omega
    simp [List.getD_eq_getElem?_getD, hi']

theorem range_getD (l : List Value) : (List.range (l.length * 1)).map (fun i => l.getD i undef) = l := by
  apply List.ext_getElem?
  intro j
  by_cases hj : j < l.length
  · simp [List.getD_eq_getElem?_getD, hj]
  · rw [List.getElem?_eq_none (by simp; omega), List.getElem?_eq_none (by omega)]
theorem OwnO.base {w : World} {B B' e s n : Nat} {v : Value} {xs : List Value} (h : OwnO w B e s v n xs) (hB : B' ≤ B) : OwnO w B' e s v n xs := by
  refine ⟨h.1, ?_⟩
  rcases h.2 with h | ⟨g, off, cap, cur, e1, e2, e3⟩
  · exact .inl h
  · exact .inr ⟨g, off, cap, cur, e1, by omega, e3⟩

/-- What the walk wants of the state behind the first append of a round. -/
theorem row_facts {cs : List Cd} {w wr wC : World} {ga go : Nat} {q : Value} {k ka : Nat} {st : List (Nat × Int)} {pb : Nat → Nat} {bv : Nat → Int × Int} (h : BInv cs w.heap.size w wr ga go q k ka st pb bv) (hk : k < cs.length) (hp : Pure wr wC) (_hgo : ga < go) :
    (∃ u, wC.cell? ⟨ga, k, none⟩ = some u) ∧ wC.frozen? ⟨ga, k, none⟩ = false ∧ wC.cell? ⟨go, k, none⟩ = some (.pointer none) ∧ wC.frozen? ⟨go, k, none⟩ = false ∧ ga < wr.heap.size ∧ go < wr.heap.size ∧ wr.heap.size ≤ wC.heap.size := by
  have hlt := hp.size
  have h' := h.keepPure hp
  obtain ⟨ys0, o0, _⟩ := h.own
  obtain ⟨zs0, o0', _⟩ := h.aro
  obtain ⟨ys, o1, _, o2⟩ := h'.own
  obtain ⟨zs, o1', _⟩ := h'.aro
  have c1 := o1.cell k (by omega)
  rw [Nat.zero_add, o2 k (Nat.le_refl _) hk] at c1
  have c2 := o1'.cellSome k (by omega)
  rw [Nat.zero_add] at c2
  exact ⟨c2, o1'.frozen k, c1, o1.frozen k, (o0'.lt ga rfl).2, (o0.lt go rfl).2, hlt⟩

/-- What the walk wants of the innermost open block. -/
theorem top_facts {cs : List Cd} {w wr wC : World} {ga go g off cq : Nat} {k ka : Nat} {p : Nat} {m : Int} {r : List (Nat × Int)} {pb : Nat → Nat} {bv : Nat → Int × Int} (h : BInv cs w.heap.size w wr ga go (.slice (some ⟨g, off, none⟩) (r.length + 1) cq) k ka ((p, m) :: r) pb bv) (hp : Pure wr wC) :
    wC.cell? ⟨g, off + r.length, none⟩ = some (.pointer (some ⟨pb p, 0, none⟩)) ∧ wC.cell? ⟨pb p, 0, none⟩ = some (.int .i64 (p : Int)) ∧ wC.cell? ⟨pb p, 1, none⟩ = some (.int .i64 (bv p).1) ∧ wC.cell? ⟨pb p, 2, none⟩ = some (.int .i64 (bv p).2) ∧
    (∀ j, wC.frozen? ⟨pb p, j, none⟩ = false) ∧ g ≠ ga ∧ g ≠ go ∧ pb p ≠ ga ∧ pb p ≠ go ∧ pb p ≠ g ∧ g < wr.heap.size ∧ pb p < wr.heap.size ∧ p < k := by
  have h' := h.keepPure hp
  have hpk : p < k := h.stk.lt 0 (by simp)
  have hpo := (h.opn 0 (by simp)).1
  simp only [List.getElem_cons_zero] at hpo
  have hb0 := (h.blk p hpk hpo).2
  have hb := (h'.blk p hpk hpo).2
  obtain ⟨ys, o1, _⟩ := h'.own
  obtain ⟨zs, o2, _⟩ := h'.aro
  have hq := h'.que
  have hc := hq.cell r.length (by simp)
  rw [show (((p, m) :: r).map fun x => ptr pb x.1).reverse[r.length]? = some (ptr pb p) by
    rw [List.map_cons, List.reverse_cons, List.getElem?_append_right (by simp)]; simp] at hc
  refine ⟨hc, cell_of_row wC _ 0 _ _ _ hb, cell_of_row wC _ 1 _ _ _ hb, cell_of_row wC _ 2 _ _ _ hb, fun j => frozen_of_row wC _ j _ _ hb, fun e => hq.ne o2 (by decide) g rfl (by rw [e]; rfl), h.qne g rfl, hb.ne_own o2 (by decide) rfl, hb.ne_own o1 (by decide) rfl, hb.ne_own hq (by decide) rfl, (h.que.lt g rfl).2, (Array.getElem?_eq_some_iff.1 hb0).1, hpk⟩

set_option maxHeartbeats 2000000 in
set_option maxRecDepth 100000 in
theorem blocks_any (v : Value) (cs : List Cd) (w : World) (h : Codes w v cs) (hsmall : cs.length ≤ 40) :
    Calls Try.prog 87 #[v] w (BlkPost cs w) := by
  have H := Lib.hid h
  obtain ⟨A, c, rfl, hnc, hcm⟩ := h.form
  clear h
  go_enter Try.func87, Try.ntmps87
  go_wp2_with (first
    | (at_make; refine wl_make elPtrs rfl _ _ rfl w.heap.size _ _ _ _ cs.length rfl rfl rfl rfl (by omega) (by omega) (Nat.le_refl _) ?_; intro w1 hown hp hsz; have hO1 := Lib.hid (OwnO.of_own hown); have hp1 := Lib.hid hp; clear hown hp)
    | (at_make; refine wl_make elPtr rfl _ _ rfl w.heap.size _ _ _ _ cs.length rfl rfl rfl rfl (by omega) (by omega) hp1.out.size ?_; intro w2 hown hp hsz2; have hO2 := Lib.hid (OwnO.of_own hown); have hp2 := Lib.hid hp; clear hown hp))
  have I0 : BInv cs w.heap.size w w2 w.heap.size w1.heap.size (.slice none 0 0) 0 0 [] (fun _ => 0) (fun _ => (0, 0)) := by
    refine ⟨hp1.out.trans hp2.out, rfl, by simp [sscan], Stk.nil cs, ⟨_, hO2.out, by simp, fun j _ hj => ?_⟩, ⟨_, hO1.out.pure hp2.out, by simp⟩, OwnO.of_own (World.ownsRow_nil _ _ _ _), by simp [Value.ownBlock], by simp, by simp, by simp, by simp⟩
    rw [zeros_get _ _ _ (by simpa using hj)]; simp [Nat.mod_one]
  have HI := Lib.hid I0
  have hw01 : w.heap.size < w1.heap.size := hsz
  clear I0 hO1 hO2 hp1 hp2 hsz hsz2
  go_loopg [19, 7] cs.length (fun gk i q wr => ∃ (k : Nat) (st : List (Nat × Int)) (pb : Nat → Nat) (bv : Nat → Int × Int), gk + k = cs.length ∧ i = .int .i64 k ∧ BInv cs w.heap.size w wr w.heap.size w1.heap.size q k k st pb bv)
  case atStart => exact ⟨0, [], _, _, rfl, rfl, HI.out⟩
  case round =>
    clear HI
    obtain ⟨k, st, pb, bv, hgk, rfl, hI⟩ := hrel
    have Hgk := Lib.hid hgk
    have hkn : k ≤ cs.length := by omega
    have hst3 := hI.stk.len
    obtain ⟨Aq, cq, rfl⟩ := hI.que.form
    have HI := Lib.hid hI
    clear hgk hI
    by_cases hlt : k < cs.length
    · obtain ⟨b, o, rfl, hb, hc⟩ := H.out.at_ hlt
      obtain ⟨cd, Hcd⟩ : ∃ cd, Hid (cs.getD k default = cd) := ⟨_, rfl⟩
      have hat := hc.keep HI.out.pure hb
      rw [Hcd.out] at hat
      obtain ⟨q0, q1, q2, q3⟩ := hat
      clear hc
      have pA := Lib.hid (Pure.alloc (Pure.refl wr) (.cells #[.int .i64 cd.op, .int .i64 cd.a, .int .i64 cd.b, .int .i64 cd.c] 68))
      obtain ⟨QL, HQL⟩ : ∃ QL, Hid ((List.range (st.length * 1)).map (fun i => QL.getD i undef) = (st.map fun x => ptr pb x.1).reverse) ∧ Hid (QL = (st.map fun x => ptr pb x.1).reverse) := by
        refine ⟨(st.map fun x => ptr pb x.1).reverse, ?_, Lib.hid rfl⟩
        have := range_getD (st.map fun x => ptr pb x.1).reverse
        rwa [List.length_reverse, List.length_map] at this
      obtain ⟨HQL, HQE⟩ := HQL
      have HQ : Hid (Cells (wr.alloc (.cells #[.int .i64 cd.op, .int .i64 cd.a, .int .i64 cd.b, .int .i64 cd.c] 68)) (.slice Aq st.length cq) st.length 1 (fun i => QL.getD i undef)) := by
        refine Cells.keep (Cells.of_ownO HI.out.que fun j hj => ?_) pA.out
        have hj' : j < st.length := by omega
        rw [HQE.out]; simp [List.getD_eq_getElem?_getD, hj']
      have QC : Hid (∀ j, j < st.length * 1 → ((fun i => QL.getD i undef) j).oneCell' = true) := fun j hj => by
        have hj' : j < st.length := by omega
        simp only
        rw [HQE.out]
        simp [List.getD_eq_getElem?_getD, hj', ptr, Value.oneCell']
      have FOP : Hid ((wr.alloc (.cells #[.int .i64 cd.op, .int .i64 cd.a, .int .i64 cd.b, .int .i64 cd.c] 68)).cell? ⟨wr.heap.size, 0, none⟩ = some (.int .i64 cd.op)) := cell_of_row _ _ 0 _ _ _ (heap_alloc_new wr _)
      have hstep := sscan_take hlt HI.out.sc
      rw [Hcd.out] at hstep
      have bad : sstep st k cd = none → sscan cs 0 [] = none := fun h1 => by
        rw [h1] at hstep
        exact sscan_none hstep
      have Bad := Lib.hid bad
      clear hstep bad
      have hbw : b < wr.heap.size := Nat.lt_of_lt_of_le hb HI.out.pure.size
      by_cases hop : Opens cd
      · have hd : (cd.op == 11) = true ∨ ((cd.op == 11) = false ∧ (cd.op == 13) = true) := by
          unfold Opens at hop
          rcases hop with h | h
          · exact .inl (by simp [h])
          · exact .inr ⟨by simp [h], by simp [h]⟩
        have Hop := Lib.hid hop
        clear hop
        by_cases h3 : st.length < 3
        · rcases hd with hd | ⟨hd, hd2⟩
          all_goals
            go_wp2_with (first | (at_builtin; refine wl_copyF elPtr rfl _ _ rfl (wr.heap.size + 1) rfl (by simp) (.slice Aq st.length cq) rfl (fun i => QL.getD i undef) st.length HQ.out QC.out (by decide) (by omega) rfl ?_; intro r wC hr hpC; go_must (have hpC2 := Lib.hid (pA.out.trans hpC); have hr2 := Lib.hid (hr.base (B' := wr.heap.size) (by simp)); obtain ⟨Ar, cr, rfl⟩ := hr.form; obtain ⟨⟨uA, fA⟩, zA, fO, zO, s1, s2, s3⟩ := row_facts HI.out hlt hpC2.out hw01; have fop := (hpC.cell wr.heap.size 0 (by simp)).trans FOP.out; have hII := Lib.hid (HI.out.storeRow hlt hpC2.out (by have := hr2.out; rw [HQL.out] at this; exact this)); clear hr hpC); go_must (have HB := Lib.hid (hII.out.keepPure (Pure.alloc (Pure.refl _) (.cells #[.int .i64 (k : Int), .int .i64 (-1), .int .i64 (-1)] 147))); have hlt9 : w1.heap.size < (wC.setCell ⟨w.heap.size, k, none⟩ (.slice Ar st.length cr)).heap.size := (by simp [World.setCell] <;> omega); have hos := own_store (u := .pointer (some ⟨wC.heap.size, 0, none⟩)) HB.out; have HQ3 := Lib.hid hos.2.1; have HP3 := Lib.hid hos.2.2.2; obtain ⟨ys9, o9, _, o9'⟩ := HB.out.own; have zO2 := o9.frozen k; obtain ⟨u9, cO2⟩ := o9.cellSome k (by omega); rw [Nat.zero_add] at cO2; clear hos o9 o9' hlt9)) | (at_builtin; go_must (refine wl_append1F elPtr rfl _ _ rfl w.heap.size (.slice Aq st.length cq) st.length ((st.map fun x => ptr pb x.1).reverse) rfl HQ3.out (wC.heap.size + 1) 1 [.pointer (some ⟨wC.heap.size, 0, none⟩)] rfl (by simp [World.setCell]) rfl rfl (by decide) (by omega) HP3.out.size ?_); intro q' wE hq' hg' hl'; go_must (obtain ⟨A2, c2, rfl⟩ := hq'.form; have HQ' := Lib.hid hq'; have HG' := Lib.hid hg'; have HL' := Lib.hid hl'; clear hq' hg' hl')))
            have hb2 : wC.heap.size = (wC.setCell ⟨w.heap.size, k, none⟩ (.slice Ar st.length cr)).heap.size := by simp [World.setCell]
            have hfin := hII.out.open_ hlt (by rw [Hcd.out]; exact Hop.out) h3 hb2 HQ'.out HG'.out HL'.out
            rw [Hcd.out] at hfin
            have HF := Lib.hid hfin
            clear hfin
            go_roundg (cs.length - (k + 1))
            case measure => have := Hgk.out; omega
            case rel => exact ⟨k + 1, _, _, _, by have := Hgk.out; omega, by go_num, HF.out⟩
        · rcases hd with hd | ⟨hd, hd2⟩
          all_goals
            go_wp2_with (first | (at_builtin; refine wl_copyF elPtr rfl _ _ rfl (wr.heap.size + 1) rfl (by simp) (.slice Aq st.length cq) rfl (fun i => QL.getD i undef) st.length HQ.out QC.out (by decide) (by omega) rfl ?_; intro r wC hr hpC; go_must (have hpC2 := Lib.hid (pA.out.trans hpC); have hr2 := Lib.hid (hr.base (B' := wr.heap.size) (by simp)); obtain ⟨Ar, cr, rfl⟩ := hr.form; obtain ⟨⟨uA, fA⟩, zA, fO, zO, s1, s2, s3⟩ := row_facts HI.out hlt hpC2.out hw01; have fop := (hpC.cell wr.heap.size 0 (by simp)).trans FOP.out; have hII := Lib.hid (HI.out.storeRow hlt hpC2.out (by have := hr2.out; rw [HQL.out] at this; exact this)); clear hr hpC); go_must (have HB := Lib.hid (hII.out.keepPure (Pure.alloc (Pure.refl _) (.cells #[.int .i64 (k : Int), .int .i64 (-1), .int .i64 (-1)] 147))); have hlt9 : w1.heap.size < (wC.setCell ⟨w.heap.size, k, none⟩ (.slice Ar st.length cr)).heap.size := (by simp [World.setCell] <;> omega); have hos := own_store (u := .pointer (some ⟨wC.heap.size, 0, none⟩)) HB.out; have HQ3 := Lib.hid hos.2.1; have HP3 := Lib.hid hos.2.2.2; obtain ⟨ys9, o9, _, o9'⟩ := HB.out.own; have zO2 := o9.frozen k; obtain ⟨u9, cO2⟩ := o9.cellSome k (by omega); rw [Nat.zero_add] at cO2; clear hos o9 o9' hlt9)) | (at_builtin; go_must (refine wl_append1F elPtr rfl _ _ rfl w.heap.size (.slice Aq st.length cq) st.length ((st.map fun x => ptr pb x.1).reverse) rfl HQ3.out (wC.heap.size + 1) 1 [.pointer (some ⟨wC.heap.size, 0, none⟩)] rfl (by simp [World.setCell]) rfl rfl (by decide) (by omega) HP3.out.size ?_); intro q' wE hq' hg' hl'; go_must (obtain ⟨A2, c2, rfl⟩ := hq'.form; have HQ' := Lib.hid hq'; have HG' := Lib.hid hg'; have HL' := Lib.hid hl'; clear hq' hg' hl')))
            go_ret3
            refine ⟨HP3.out.grown HG'.out (fun g hg => (HQ3.out.lt g hg).1), ?_⟩
            rw [Bad.out (by rw [sstep_open Hop.out, if_neg h3])]; rfl
      · have hd11 : (cd.op == 11) = false := by unfold Opens at hop; rw [beq_eq_false_iff_ne]; omega
        have hd13 : (cd.op == 13) = false := by unfold Opens at hop; rw [beq_eq_false_iff_ne]; omega
        have Hop := Lib.hid hop
        clear hop
        by_cases h12 : cd.op = 12
        · have hd12 : (cd.op == 12) = true := by simp [h12]
          have H12 := Lib.hid h12
          clear h12
          rcases st with _ | ⟨⟨p, m⟩, r⟩
          · simp only [List.length_nil] at *
            have hz : ((0 : Nat) : Int) - 1 < 0 := by omega
            go_wp2_with (at_builtin; refine wl_copyF elPtr rfl _ _ rfl (wr.heap.size + 1) rfl (by simp) (.slice Aq 0 cq) rfl (fun i => QL.getD i undef) 0 HQ.out QC.out (by decide) (by omega) rfl ?_; intro r wC hr hpC; go_must (have hpC2 := Lib.hid (pA.out.trans hpC); have hr2 := Lib.hid (hr.base (B' := wr.heap.size) (by simp)); obtain ⟨Ar, cr, rfl⟩ := hr.form; obtain ⟨⟨uA, fA⟩, zA, fO, zO, s1, s2, s3⟩ := row_facts HI.out hlt hpC2.out hw01; have fop := (hpC.cell wr.heap.size 0 (by simp)).trans FOP.out; have hII := Lib.hid (HI.out.storeRow hlt hpC2.out (by have := hr2.out; rw [HQL.out] at this; exact this)); clear hr hpC))
            go_ret3
            refine ⟨hII.out.pure, ?_⟩
            rw [Bad.out (by rw [sstep_else H12.out])]; rfl
          · obtain ⟨g, off, c2, hq, hq1, hq2, hq3, hq4⟩ := HI.out.que.formSome (by simp)
            injection hq with hq5 hq6 hq7
            subst hq5 hq7
            simp only [List.length_cons] at *
            have hidx : ((r.length + 1 : Nat) : Int) - 1 = r.length := by omega
            have HTF := Lib.hid (top_facts (wC := wr) HI.out (Pure.refl _))
            have hpn : p < cs.length := by have := HTF.out.2.2.2.2.2.2.2.2.2.2.2.2; omega
            obtain ⟨b0, o0, hb0e, hb0, hc0⟩ := H.out.at_ hpn
            injection hb0e with hb0e
            injection hb0e with e1 e2
            subst e1 e2
            obtain ⟨cp, Hcp⟩ : ∃ cp, Hid (cs.getD p default = cp) := ⟨_, rfl⟩
            rw [Hcp.out] at hc0
            have hcp := Lib.hid ((hc0.keep HI.out.pure hb0).c0)
            clear hc0
            have hop1 := HI.out.opn 0 (by simp)
            simp only [List.getElem_cons_zero] at hop1
            rw [Hcp.out] at hop1
            have hen := HI.out.stk.ends 0 (by simp)
            simp only [List.getElem_cons_zero] at hen
            have hm3 : m = 11 ∨ m = 12 ∨ m = 13 := by
              obtain ⟨_, _, h | h | h⟩ := hen
              · exact .inl h.1
              · exact .inr (.inl h.1)
              · exact .inr (.inr h.1)
            have HO1 := Lib.hid hop1
            have HM3 := Lib.hid hm3
            clear hop1 hen hm3
            have hstep : sstep ((p, m) :: r) k cd = if m = 11 then some ((p, 12) :: r) else none := by rw [sstep_else H12.out]
            have Hstep := Lib.hid hstep
            clear hstep
            by_cases hm : m = 11
            · have ho11 : cp.op = 11 := by
                have h1 := HO1.out.1; have h2 := HO1.out.2.2.2.2
                unfold Opens at h1
                rcases h1 with h | h
                · exact h
                · have := h2.2 h; omega
              have hd1 : (cp.op != 11) = false := by simp [ho11]
              have ho0 : (bv p).1 < 0 := by
                have := HO1.out.2.2.2.1
                omega
              subst hm
              go_wp2_with (at_builtin; refine wl_copyF elPtr rfl _ _ rfl (wr.heap.size + 1) rfl (by simp) (.slice (some ⟨g, off, none⟩) (r.length + 1) cq) rfl (fun i => QL.getD i undef) (r.length + 1) HQ.out QC.out (by decide) (by omega) rfl ?_; intro r wC hr hpC; go_must (have hpC2 := Lib.hid (pA.out.trans hpC); have hr2 := Lib.hid (hr.base (B' := wr.heap.size) (by simp)); obtain ⟨Ar, cr, rfl⟩ := hr.form; obtain ⟨⟨uA, fA⟩, zA, fO, zO, s1, s2, s3⟩ := row_facts HI.out hlt hpC2.out hw01; have fop := (hpC.cell wr.heap.size 0 (by simp)).trans FOP.out; have hII := Lib.hid (HI.out.storeRow hlt hpC2.out (by have := hr2.out; rw [HQL.out] at this; exact this)); clear hr hpC); go_must (obtain ⟨f1, f2, f3, f4, f5, n1, n2, n3, n4, n5, l1, l2, l3⟩ := top_facts HI.out hpC2.out; have z1 := f5 1; have z2 := f5 2; have fcp := (hpC2.out.cell b (o + p * 4) hbw).trans hcp.out; clear f5))
              have hfin := hII.out.els hlt (by rw [Hcd.out]; exact H12.out)
              have HF := Lib.hid hfin
              clear hfin
              go_roundg (cs.length - (k + 1))
              case measure => have := Hgk.out; omega
              case rel => exact ⟨k + 1, _, _, _, by have := Hgk.out; omega, by go_num, HF.out⟩
            · have hbad : (cp.op != 11) = true ∨ ((cp.op != 11) = false ∧ 0 ≤ (bv p).1) := by
                by_cases h : cp.op = 11
                · right
                  refine ⟨by simp [h], HO1.out.2.2.2.1.2 ?_⟩
                  have := HM3.out
                  have h2 := HO1.out.2.2.2.2
                  omega
                · exact .inl (by simp [h])
              have Hm := Lib.hid hm
              clear hm
              rcases hbad with hd1 | ⟨hd1, ho0⟩
              all_goals
                go_wp2_with (at_builtin; refine wl_copyF elPtr rfl _ _ rfl (wr.heap.size + 1) rfl (by simp) (.slice (some ⟨g, off, none⟩) (r.length + 1) cq) rfl (fun i => QL.getD i undef) (r.length + 1) HQ.out QC.out (by decide) (by omega) rfl ?_; intro r wC hr hpC; go_must (have hpC2 := Lib.hid (pA.out.trans hpC); have hr2 := Lib.hid (hr.base (B' := wr.heap.size) (by simp)); obtain ⟨Ar, cr, rfl⟩ := hr.form; obtain ⟨⟨uA, fA⟩, zA, fO, zO, s1, s2, s3⟩ := row_facts HI.out hlt hpC2.out hw01; have fop := (hpC.cell wr.heap.size 0 (by simp)).trans FOP.out; have hII := Lib.hid (HI.out.storeRow hlt hpC2.out (by have := hr2.out; rw [HQL.out] at this; exact this)); clear hr hpC); go_must (obtain ⟨f1, f2, f3, f4, f5, n1, n2, n3, n4, n5, l1, l2, l3⟩ := top_facts HI.out hpC2.out; have z1 := f5 1; have z2 := f5 2; have fcp := (hpC2.out.cell b (o + p * 4) hbw).trans hcp.out; clear f5))
                go_ret3
                refine ⟨hII.out.pure, ?_⟩
                rw [Bad.out (by rw [Hstep.out, if_neg Hm.out])]; rfl
        · have hd12 : (cd.op == 12) = false := by simp [h12]
          have H12 := Lib.hid h12
          clear h12
          by_cases h14 : cd.op = 14
          · have hd14 : (cd.op == 14) = true := by simp [h14]
            have H14 := Lib.hid h14
            clear h14
            rcases st with _ | ⟨⟨p, m⟩, r⟩
            · simp only [List.length_nil] at *
              have hz : ((0 : Nat) : Int) - 1 < 0 := by omega
              go_wp2_with (at_builtin; refine wl_copyF elPtr rfl _ _ rfl (wr.heap.size + 1) rfl (by simp) (.slice Aq 0 cq) rfl (fun i => QL.getD i undef) 0 HQ.out QC.out (by decide) (by omega) rfl ?_; intro r wC hr hpC; go_must (have hpC2 := Lib.hid (pA.out.trans hpC); have hr2 := Lib.hid (hr.base (B' := wr.heap.size) (by simp)); obtain ⟨Ar, cr, rfl⟩ := hr.form; obtain ⟨⟨uA, fA⟩, zA, fO, zO, s1, s2, s3⟩ := row_facts HI.out hlt hpC2.out hw01; have fop := (hpC.cell wr.heap.size 0 (by simp)).trans FOP.out; have hII := Lib.hid (HI.out.storeRow hlt hpC2.out (by have := hr2.out; rw [HQL.out] at this; exact this)); clear hr hpC))
              go_ret3
              refine ⟨hII.out.pure, ?_⟩
              rw [Bad.out (by rw [sstep_end H14.out])]; rfl
            · obtain ⟨g, off, c2, hq, hq1, hq2, hq3, hq4⟩ := HI.out.que.formSome (by simp)
              injection hq with hq5 hq6 hq7
              subst hq5 hq7
              simp only [List.length_cons] at *
              have hidx : ((r.length + 1 : Nat) : Int) - 1 = r.length := by omega
              go_wp2_with (at_builtin; refine wl_copyF elPtr rfl _ _ rfl (wr.heap.size + 1) rfl (by simp) (.slice (some ⟨g, off, none⟩) (r.length + 1) cq) rfl (fun i => QL.getD i undef) (r.length + 1) HQ.out QC.out (by decide) (by omega) rfl ?_; intro r wC hr hpC; go_must (have hpC2 := Lib.hid (pA.out.trans hpC); have hr2 := Lib.hid (hr.base (B' := wr.heap.size) (by simp)); obtain ⟨Ar, cr, rfl⟩ := hr.form; obtain ⟨⟨uA, fA⟩, zA, fO, zO, s1, s2, s3⟩ := row_facts HI.out hlt hpC2.out hw01; have fop := (hpC.cell wr.heap.size 0 (by simp)).trans FOP.out; have hII := Lib.hid (HI.out.storeRow hlt hpC2.out (by have := hr2.out; rw [HQL.out] at this; exact this)); clear hr hpC); go_must (obtain ⟨f1, f2, f3, f4, f5, n1, n2, n3, n4, n5, l1, l2, l3⟩ := top_facts HI.out hpC2.out; have z1 := f5 1; have z2 := f5 2; clear f5))
              have htk := hII.out.que.take (k := r.length) (by simp)
              rw [show (((p, m) :: r).map fun x => ptr pb x.1).reverse.take (r.length * 1) = (r.map fun x => ptr pb x.1).reverse by rw [List.map_cons, List.reverse_cons, List.take_append_of_le_length (by simp), List.take_of_length_le (by simp)]] at htk
              have hfin := hII.out.fin hlt (by rw [Hcd.out]; exact H14.out) htk rfl
              have HF := Lib.hid hfin
              clear hfin htk
              go_roundg (cs.length - (k + 1))
              case measure => have := Hgk.out; omega
              case rel => exact ⟨k + 1, _, _, _, by have := Hgk.out; omega, by go_num, HF.out⟩
          · have hd14 : (cd.op == 14) = false := by simp [h14]
            have H14 := Lib.hid h14
            clear h14
            go_wp2_with (at_builtin; refine wl_copyF elPtr rfl _ _ rfl (wr.heap.size + 1) rfl (by simp) (.slice Aq st.length cq) rfl (fun i => QL.getD i undef) st.length HQ.out QC.out (by decide) (by omega) rfl ?_; intro r wC hr hpC; go_must (have hpC2 := Lib.hid (pA.out.trans hpC); have hr2 := Lib.hid (hr.base (B' := wr.heap.size) (by simp)); obtain ⟨Ar, cr, rfl⟩ := hr.form; obtain ⟨⟨uA, fA⟩, zA, fO, zO, s1, s2, s3⟩ := row_facts HI.out hlt hpC2.out hw01; have fop := (hpC.cell wr.heap.size 0 (by simp)).trans FOP.out; have hII := Lib.hid (HI.out.storeRow hlt hpC2.out (by have := hr2.out; rw [HQL.out] at this; exact this)); clear hr hpC))
            have hfin := hII.out.other hlt (by rw [Hcd.out]; exact Hop.out) (by rw [Hcd.out]; exact H12.out) (by rw [Hcd.out]; exact H14.out)
            have HF := Lib.hid hfin
            clear hfin
            go_roundg (cs.length - (k + 1))
            case measure => have := Hgk.out; omega
            case rel => exact ⟨k + 1, _, _, _, by have := Hgk.out; omega, by go_num, HF.out⟩
    · have hkl : k = cs.length := by omega
      subst hkl
      have hsc := HI.out.sc
      rw [List.take_length] at hsc
      have Hsc := Lib.hid hsc
      clear hsc
      by_cases hs0 : st.length = 0
      · have hd : ((st.length : Int) == 0) = true := by simp [hs0]
        have hs1 : st = [] := List.eq_nil_of_length_eq_zero hs0
        have Hs1 := Lib.hid hs1
        clear hs0 hs1
        go_wp2
        go_ret3
        refine ⟨HI.out.pure, ?_⟩
        rw [Hsc.out]
        refine ⟨_, _, by rw [Hs1.out]; rfl, fun _ => ?_⟩
        have := HI.out
        rw [Hs1.out] at this
        exact this.tabs
      · have hd : ((st.length : Int) == 0) = false := by rw [beq_eq_false_iff_ne]; omega
        have Hs0 := Lib.hid hs0
        clear hs0
        go_wp2
        go_ret3
        refine ⟨HI.out.pure, ?_⟩
        rw [Hsc.out]
        refine ⟨_, _, by rw [decide_eq_false Hs0.out]; rfl, fun h => absurd (by rw [h]; rfl) Hs0.out⟩

end Go.Proofs.Ytajaonejpggcbaa

namespace Go.Proofs.Ytajaonejpggcbaa

/-- From a, b is reached without wo. -/
inductive RC (xss : List (List Int)) (wo : Int) : Int → Int → Prop where
  | refl (a : Int) (h : a ≠ wo) : RC xss wo a a
  | step (a b c : Int) (h : RC xss wo a b) (hc : c ∈ xss.getD b.toNat []) (hw : c ≠ wo) : RC xss wo a c

theorem RC.ne_right {xss : List (List Int)} {wo a b : Int} (h : RC xss wo a b) : b ≠ wo := by
  cases h <;> assumption
theorem RC.ne_left {xss : List (List Int)} {wo a b : Int} (h : RC xss wo a b) : a ≠ wo := by
  induction h <;> assumption
theorem RC.trans {xss : List (List Int)} {wo a b c : Int} (h : RC xss wo a b) (k : RC xss wo b c) : RC xss wo a c := by
  induction k with
  | refl => exact h
  | step y z _ hc hw ih => exact .step _ _ _ ih hc hw
theorem RC.weaken {xss : List (List Int)} {wo a b : Int} (h : RC xss wo a b) (hneg : ∀ k, k < xss.length → ∀ c, c ∈ xss.getD k [] → 0 ≤ c) (ha : 0 ≤ a) : RC xss (-1) a b := by
  induction h with
  | refl => exact .refl _ (by omega)
  | step y z hy hc hw ih =>
    refine .step _ _ _ ih hc ?_
    by_cases hl : y.toNat < xss.length
    · have := hneg _ hl z hc; omega
    · rw [List.getD_eq_getElem?_getD, List.getElem?_eq_none (by omega)] at hc; simp at hc

theorem GValid.mem {xss : List (List Int)} (h : GValid xss) {k : Nat} {c : Int} (hc : c ∈ xss.getD k []) : 0 ≤ c ∧ c ≤ (xss.length : Int) - 1 := by
  by_cases hl : k < xss.length
  · obtain ⟨j, hj, e⟩ := List.mem_iff_getElem.1 hc
    have := h.1 k hl j hj
    rw [List.getD_eq_getElem?_getD (l := xss.getD k []), List.getElem?_eq_getElem hj] at this
    simp only [Option.getD_some, e] at this
    exact ⟨this.1, this.2.1⟩
  · rw [List.getD_eq_getElem?_getD, List.getElem?_eq_none (by omega)] at hc; simp at hc

/-- Numbers below n, each once, are at most n. -/
theorem nodup_len : ∀ (n : Nat) (L : List Int), L.Nodup → (∀ x ∈ L, 0 ≤ x ∧ x < n) → L.length ≤ n
  | 0, L, _, h => by
    cases L with
    | nil => simp
    | cons x l => have := h x (by simp); omega
  | n + 1, L, hd, h => by
    by_cases hm : (n : Int) ∈ L
    · have h1 := List.length_erase_of_mem hm
      have h2 : (L.erase (n : Int)).Nodup := hd.erase _
      have h3 := nodup_len n (L.erase (n : Int)) h2 (fun x hx => by
        have hx' : x ∈ L := List.mem_of_mem_erase hx
        have hne : x ≠ (n : Int) := by
          rintro rfl
          exact absurd hx (by simp [List.Nodup.mem_erase_iff hd])
        have := h x hx'
        omega)
      have : 0 < L.length := List.length_pos_of_mem hm
      omega
    · have h3 := nodup_len n L hd (fun x hx => by
        have := h x hx
        have : x ≠ (n : Int) := fun e => hm (e ▸ hx)
        omega)
      omega

structure Bfs (xss : List (List Int)) (wo fr : Int) (L : List Int) (k : Nat) : Prop where
  nd : L.Nodup
  rng : ∀ x ∈ L, 0 ≤ x ∧ x < xss.length
  rc : ∀ x ∈ L, RC xss wo fr x
  hk : k ≤ L.length
  cl : ∀ p, p < k → ∀ c ∈ xss.getD (L.getD p 0).toNat [], c ≠ wo → c ∈ L
  hfr : fr ≠ wo → fr ∈ L

section
variable {xss : List (List Int)} {wo fr : Int} {L : List Int} {k : Nat}
theorem Bfs.len (h : Bfs xss wo fr L k) : L.length ≤ xss.length := nodup_len _ _ h.nd h.rng
theorem Bfs.start (h0 : 0 ≤ fr) (h1 : fr < xss.length) (hne : fr ≠ wo) : Bfs xss wo fr [fr] 0 :=
  ⟨by simp, by simp [h0, h1], by intro x hx; simp at hx; subst hx; exact .refl _ hne, by simp, by simp, by simp⟩
theorem Bfs.empty (hne : fr = wo) : Bfs xss wo fr [] 0 := ⟨by simp, by simp, by simp, by simp, by simp, fun h => absurd hne h⟩
theorem getD_append_left' {L M : List Int} {p : Nat} (h : p < L.length) : (L ++ M).getD p 0 = L.getD p 0 := by
  simp [List.getD_eq_getElem?_getD, List.getElem?_append_left h]
theorem Bfs.push (h : Bfs xss wo fr L k) (hlt : k < L.length) {c : Int} (hc : c ∈ xss.getD (L.getD k 0).toNat []) (hr : 0 ≤ c ∧ c ≤ (xss.length : Int) - 1) (hw : c ≠ wo) (hn : c ∉ L) : Bfs xss wo fr (L ++ [c]) k := by
  have hm : L.getD k 0 ∈ L := by simp [List.getD_eq_getElem?_getD, hlt]
  refine ⟨?_, ?_, ?_, by simp; omega, ?_, fun hf => by simp [h.hfr hf]⟩
  · rw [List.nodup_append]
    refine ⟨h.nd, by simp, ?_⟩
    intro a ha b hb
    simp at hb; subst hb
    rintro rfl
    exact hn ha
  · intro x hx
    rcases List.mem_append.1 hx with hx | hx
    · exact h.rng x hx
    · simp at hx; subst hx; omega
  · intro x hx
    rcases List.mem_append.1 hx with hx | hx
    · exact h.rc x hx
    · simp at hx; subst hx; exact .step _ _ _ (h.rc _ hm) hc hw
  · intro p hp d hd hdw
    rw [getD_append_left' (by omega)] at hd
    exact List.mem_append_left _ (h.cl p hp d hd hdw)
theorem Bfs.next (h : Bfs xss wo fr L k) (hlt : k < L.length) (ha : ∀ c ∈ xss.getD (L.getD k 0).toNat [], c ≠ wo → c ∈ L) : Bfs xss wo fr L (k + 1) :=
  ⟨h.nd, h.rng, h.rc, by omega, fun p hp c hc hw => by
    by_cases e : p = k
    · subst e; exact ha c hc hw
    · exact h.cl p (by omega) c hc hw, h.hfr⟩
theorem Bfs.done (h : Bfs xss wo fr L L.length) (x : Int) : x ∈ L ↔ RC xss wo fr x := by
  refine ⟨h.rc x, fun hr => ?_⟩
  have hf := h.hfr hr.ne_left
  induction hr with
  | refl => exact hf
  | step b c hb hc hw ih =>
    obtain ⟨p, hp, e⟩ := List.mem_iff_getElem.1 ih
    have : L.getD p 0 = b := by simp [List.getD_eq_getElem?_getD, hp, e]
    exact h.cl p hp c (by rw [this]; exact hc) hw
end

end Go.Proofs.Ytajaonejpggcbaa

namespace Go.Proofs.Ytajaonejpggcbaa

/-- A block opens at b, ends at e, and is divided at o (or o is -1). -/
structure BI (cs : List Cd) (b e : Nat) (o : Int) : Prop where
  op : Opens (cs.getD b default)
  lt : b < e
  le : e < cs.length
  en : cs.getD e default = cEnd
  ar : aroundAt cs e = b
  ends : endAt cs b = ((e : Int), o)
  el : o = -1 ∨ ∃ q : Nat, o = q ∧ b < q ∧ q < e ∧ cs.getD q default = cElse ∧ aroundAt cs q = b ∧ (cs.getD b default).op = 11

def PI (cs : List Cd) (p : Nat) : Prop :=
  (Opens (cs.getD p default) → ∃ e o, BI cs p e o) ∧ ((cs.getD p default).op = 12 → ∃ b e, BI cs b e p) ∧ ((cs.getD p default).op = 14 → ∃ b o, BI cs b p o)

theorem pi_of_seg {cs : List Cd} : ∀ (t : Tr) (i p : Nat), t.Ok → Seg cs i t → i ≤ p → p < i + t.len → PI cs p
  | .nil, i, p, _, _, h1, h2 => by simp [Tr.len, Tr.flat] at h2; omega
  | .op c k, i, p, h, hs, h1, h2 => by
    obtain ⟨⟨_, q1, q2, q3, q4⟩, h5⟩ := h
    obtain ⟨e1, _, e2⟩ := hs.op
    rw [Tr.len_op] at h2
    by_cases e : p = i
    · subst e
      unfold PI
      rw [e1]
      exact ⟨fun h => absurd h (by unfold Opens; omega), fun h => absurd h q2, fun h => absurd h q4⟩
    · exact pi_of_seg k (i + 1) p h5 e2 (by omega) (by omega)
  | .ite a t k, i, p, h, hs, h1, h2 => by
    obtain ⟨_, o1, o2⟩ := id h
    obtain ⟨e1, e2, e3, e3', e4⟩ := hs.ite
    obtain ⟨e5, e6⟩ := end_ite h hs
    have bi : BI cs i (i + 1 + t.len) (-1) := ⟨by rw [e1]; exact opens_if a, by omega, e3', e3, e6, e5, .inl rfl⟩
    rw [Tr.len_ite] at h2
    by_cases e : p = i
    · subst e
      unfold PI
      rw [e1]
      exact ⟨fun _ => ⟨_, _, bi⟩, fun h => by simp [cIf] at h, fun h => by simp [cIf] at h⟩
    · by_cases e' : p = i + 1 + t.len
      · subst e'
        unfold PI
        rw [e3]
        exact ⟨fun h => absurd h opens_end, fun h => by simp [cEnd] at h, fun _ => ⟨_, _, bi⟩⟩
      · by_cases hl : p < i + 1 + t.len
        · exact pi_of_seg t (i + 1) p o1 e2 (by omega) (by omega)
        · exact pi_of_seg k _ p o2 e4 (by omega) (by omega)
  | .itee a t e k, i, p, h, hs, h1, h2 => by
    obtain ⟨_, o1, o2, o3⟩ := id h
    obtain ⟨e1, e2, e3, e4, e5, e5', e6⟩ := hs.itee
    obtain ⟨e7, e8, e9⟩ := end_itee h hs
    have bi : BI cs i (i + 1 + t.len + 1 + e.len) ((i + 1 + t.len : Nat) : Int) := ⟨by rw [e1]; exact opens_if a, by omega, e5', e5, e9, e7, .inr ⟨_, rfl, by omega, by omega, e3, e8, by rw [e1]; rfl⟩⟩
    rw [Tr.len_itee] at h2
    by_cases q : p = i
    · subst q
      unfold PI
      rw [e1]
      exact ⟨fun _ => ⟨_, _, bi⟩, fun h => by simp [cIf] at h, fun h => by simp [cIf] at h⟩
    · by_cases q' : p = i + 1 + t.len
      · subst q'
        unfold PI
        rw [e3]
        exact ⟨fun h => absurd h opens_else, fun _ => ⟨_, _, bi⟩, fun h => by simp [cElse] at h⟩
      · by_cases q'' : p = i + 1 + t.len + 1 + e.len
        · subst q''
          unfold PI
          rw [e5]
          exact ⟨fun h => absurd h opens_end, fun h => by simp [cEnd] at h, fun _ => ⟨_, _, bi⟩⟩
        · by_cases hl : p < i + 1 + t.len
          · exact pi_of_seg t (i + 1) p o1 e2 (by omega) (by omega)
          · by_cases hl2 : p < i + 1 + t.len + 1 + e.len
            · exact pi_of_seg e _ p o2 e4 (by omega) (by omega)
            · exact pi_of_seg k _ p o3 e6 (by omega) (by omega)
  | .loop a b t k, i, p, h, hs, h1, h2 => by
    obtain ⟨_, _, o1, o2⟩ := id h
    obtain ⟨e1, e2, e3, e3', e4⟩ := hs.loop
    obtain ⟨e5, e6⟩ := end_loop h hs
    have bi : BI cs i (i + 1 + t.len) (-1) := ⟨by rw [e1]; exact opens_loop a b, by omega, e3', e3, e6, e5, .inl rfl⟩
    rw [Tr.len_loop] at h2
    by_cases e : p = i
    · subst e
      unfold PI
      rw [e1]
      exact ⟨fun _ => ⟨_, _, bi⟩, fun h => by simp [cLoop] at h, fun h => by simp [cLoop] at h⟩
    · by_cases e' : p = i + 1 + t.len
      · subst e'
        unfold PI
        rw [e3]
        exact ⟨fun h => absurd h opens_end, fun h => by simp [cEnd] at h, fun _ => ⟨_, _, bi⟩⟩
      · by_cases hl : p < i + 1 + t.len
        · exact pi_of_seg t (i + 1) p o1 e2 (by omega) (by omega)
        · exact pi_of_seg k _ p o2 e4 (by omega) (by omega)

theorem PValid.pi {cs : List Cd} (h : PValid cs) {p : Nat} (hp : p < cs.length) : PI cs p := by
  obtain ⟨t, e, h1, _⟩ := h.tree
  exact pi_of_seg t 0 p h1 (Seg.whole e) (by omega) (by have : cs.length = t.len := by rw [e]; rfl
                                                        omega)

/-- The successors of a place. -/
def succs (cs : List Cd) (k : Nat) : List Int :=
  let c := cs.getD k default
  if Opens c then
    let to := if 0 ≤ (endAt cs k).2 then (endAt cs k).2 + 1 else (endAt cs k).1 + 1
    if to = (k : Int) + 1 then [(k : Int) + 1] else [(k : Int) + 1, to]
  else if c.op = 12 then [(endAt cs (aroundAt cs k).toNat).1 + 1]
  else if c.op = 14 then
    (if (cs.getD (aroundAt cs k).toNat default).op = 13 then [aroundAt cs k + 1, (k : Int) + 1] else [(k : Int) + 1])
  else [(k : Int) + 1]
def graph (cs : List Cd) : List (List Int) := (List.range cs.length).map (succs cs) ++ [[]]
theorem graph_length (cs : List Cd) : (graph cs).length = cs.length + 1 := by simp [graph]
theorem graph_lt {cs : List Cd} {k : Nat} (h : k < cs.length) : (graph cs).getD k [] = succs cs k := by
  simp [graph, List.getD_eq_getElem?_getD, List.getElem?_append_left, h]
theorem graph_end (cs : List Cd) : (graph cs).getD cs.length [] = [] := by
  simp [graph, List.getD_eq_getElem?_getD]

theorem rowOk_one {n : Nat} {x : Int} (h1 : 0 ≤ x) (h2 : x ≤ (n : Int) - 1) : rowOk n [x] [x].length := by
  intro j hj
  have : j = 0 := by simp at hj; omega
  subst this
  exact ⟨h1, h2, fun i hi => by omega⟩
theorem rowOk_two {n : Nat} {x y : Int} (h1 : 0 ≤ x) (h2 : x ≤ (n : Int) - 1) (h3 : 0 ≤ y) (h4 : y ≤ (n : Int) - 1) (h5 : x ≠ y) : rowOk n [x, y] [x, y].length := by
  intro j hj
  have : j = 0 ∨ j = 1 := by simp at hj; omega
  rcases this with rfl | rfl
  · exact ⟨h1, h2, fun i hi => by omega⟩
  · refine ⟨h3, h4, fun i hi => ?_⟩
    have : i = 0 := by omega
    subst this
    exact h5

theorem graph_valid {cs : List Cd} (h : PValid cs) : GValid (graph cs) := by
  refine ⟨fun k hk => ?_, by rw [graph_length]; have := h.2.1; omega⟩
  rw [graph_length] at hk ⊢
  by_cases e : k = cs.length
  · subst e
    rw [graph_end]
    intro j hj
    simp at hj
  · have hk' : k < cs.length := by omega
    rw [graph_lt hk']
    obtain ⟨p1, p2, p3⟩ := h.pi hk'
    unfold succs
    simp only
    by_cases h1 : Opens (cs.getD k default)
    · rw [if_pos h1]
      obtain ⟨e, o, bi⟩ := p1 h1
      have hb := bi.lt; have hb2 := bi.le
      rw [bi.ends]
      simp only
      have hto : ∃ to : Int, (if 0 ≤ o then o + 1 else (e : Int) + 1) = to ∧ 0 ≤ to ∧ to ≤ (cs.length : Int) := by
        refine ⟨_, rfl, ?_⟩
        rcases bi.el with rfl | ⟨q, rfl, _, _, _⟩
        · rw [if_neg (by omega)]; omega
        · rw [if_pos (by omega)]; omega
      obtain ⟨to, e1, e2, e3⟩ := hto
      rw [e1]
      split
      · exact rowOk_one (by omega) (by omega)
      · exact rowOk_two (by omega) (by omega) (by omega) (by omega) (by omega)
    · rw [if_neg h1]
      by_cases h2 : (cs.getD k default).op = 12
      · rw [if_pos h2]
        obtain ⟨b, e, bi⟩ := p2 h2
        have hb := bi.lt; have hb2 := bi.le
        have har : aroundAt cs k = b := by
          rcases bi.el with e' | ⟨q, e', _, _, _, e3, _⟩
          · omega
          · have : q = k := by omega
            subst this; exact e3
        rw [har, Int.toNat_natCast, bi.ends]
        exact rowOk_one (by omega) (by omega)
      · rw [if_neg h2]
        by_cases h3 : (cs.getD k default).op = 14
        · rw [if_pos h3]
          obtain ⟨b, o, bi⟩ := p3 h3
          have hb := bi.lt; have hb2 := bi.le
          rw [bi.ar]
          split
          · exact rowOk_two (by omega) (by omega) (by omega) (by omega) (by omega)
          · exact rowOk_one (by omega) (by omega)
        · rw [if_neg h3]
          exact rowOk_one (by omega) (by omega)

end Go.Proofs.Ytajaonejpggcbaa
