/- Which programs are valid, as the reference finds it; where blocks end and which block is around a place. A block of instructions in lockstep, as the reference walks through it. A region that draws its order, and ends in operations that make memory or write, in a forced order: what only reads may be taken first. Cells that are kept. The whole run in lockstep, as the reference makes it. Plain facts on reachability in a graph, and on a search that goes breadth first. No program in sight. Blocks of valid programs; the graph of a program, plainly. No program in sight. The graph of a program, as the reference makes it. No condition. -/
import Derived.StillTailTactics
import Derived.OrdersHeld
import Derived.Test.YtajaonejpggcbaaQaa
import Derived.Test.YtajaonejpggcbaaQab
import Derived.Test.YtajaonejpggcbaaQac
import Derived.Test.YtajaonejpggcbaaQad
import Derived.Test.YtajaonejpggcbaaQae
import Derived.Test.YtajaonejpggcbaaQaf

namespace Go.Proofs.Ytajaonejpggcbaa
open Go.RowKit

theorem cdOk_mem {cs : List Cd} {k : Nat} (hk : k < cs.length) : cs.getD k default ∈ cs := by simp [List.getD_eq_getElem?_getD, hk]
theorem cdOk_all {cs : List Cd} (h : ∀ j, j < cs.length → CdOk (cs.getD j default)) : ∀ c ∈ cs, CdOk c := by
  intro c hc
  obtain ⟨j, hj, e⟩ := List.mem_iff_getElem.1 hc
  have := h j hj
  simpa [List.getD_eq_getElem?_getD, hj, e] using this

def marks (st : List (Nat × Int)) : List Value := ((st.map fun x => Value.int .i64 x.2)).reverse
theorem marks_length (st : List (Nat × Int)) : (marks st).length = st.length := by simp [marks]
theorem marks_cons (x : Nat × Int) (r : List (Nat × Int)) : marks (x :: r) = marks r ++ [.int .i64 x.2] := by simp [marks]

set_option maxHeartbeats 1000000 in
set_option maxRecDepth 100000 in
theorem spv_any (v : Value) (cs : List Cd) (w : World) (h : Codes w v cs) (hsmall : cs.length ≤ 1048576) (B : Bool) (hB : B = true ↔ PValid cs) :
    Calls Try.prog 68 #[v] w fun e w' => e = .returned (.bool B) ∧ Pure w w' := by
  have H := Lib.hid h
  have HB := Lib.hid hB
  obtain ⟨A, c, rfl, hnc, hcm⟩ := h.form
  clear h hB
  have hO0 := Lib.hid (OwnO.empty_lit (w := w) (B := w.heap.size) (e := 3) (s := 1) (Nat.le_refl _))
  go_enter Try.func68, Try.ntmps68
  go_wp2
  go_loopg [4, 3] cs.length (fun gk i q wr => ∃ (k : Nat) (st : List (Nat × Int)), gk + k = cs.length ∧ i = .int .i64 k ∧ Pure w wr ∧ sscan (cs.take k) 0 [] = some st ∧ st.length ≤ 3 ∧ OwnO wr w.heap.size 3 1 q st.length (marks st) ∧ ∀ j, j < k → CdOk (cs.getD j default))
  case atStart => exact ⟨0, [], rfl, rfl, Pure.alloc (Pure.refl _) _, by simp [sscan], by simp, hO0.out, fun j hj => absurd hj (by omega)⟩
  case round =>
    obtain ⟨k, st, hgk, rfl, hp, hsc, hst, hown, hall⟩ := hrel
    have Hgk := Lib.hid hgk
    have Hsc := Lib.hid hsc
    have Hown := Lib.hid hown
    have Hall := Lib.hid hall
    have hkn : k ≤ cs.length := by omega
    clear hgk hsc hown hall
    obtain ⟨Aq, cq, rfl⟩ := Hown.out.form
    by_cases hlt : k < cs.length
    · obtain ⟨b, o, rfl, hb, hc⟩ := H.out.at_ hlt
      obtain ⟨cd, Hcd⟩ : ∃ cd, Hid (cs.getD k default = cd) := ⟨_, rfl⟩
      have hat := hc.keep hp hb
      rw [Hcd.out] at hat
      obtain ⟨q0, q1, q2, q3⟩ := hat
      clear hc
      have Hst := Lib.hid (sscan_take hlt Hsc.out)
      have bad : sstep st k cd = none → ¬ PValid cs := fun h1 h2 => by
        have := Hst.out
        rw [Hcd.out, h1] at this
        have := sscan_none this
        rw [h2.2.2] at this
        cases this
      have Bad := Lib.hid bad
      clear bad
      have HBf : ¬ PValid cs → false = B := fun h => by
        cases hb : B
        · rfl
        · exact absurd (HB.out.1 hb) h
      have HBF := Lib.hid HBf
      clear HBf
      by_cases hok : CdOk cd
      · have Hok := Lib.hid hok; clear hok
        have Hnext : Hid (∀ j, j < k + 1 → CdOk (cs.getD j default)) := fun j hj => by
          by_cases e : j = k
          · rw [e, Hcd.out]; exact Hok.out
          · exact Hall.out j (by omega)
        go_wp2_with fail
        refine (scv_any cd _ true (by simp [Hok.out])).mono ?_
        rintro e w1 ⟨rfl, hp1⟩
        have hp2 := hp.trans hp1
        have HO1 := Lib.hid (Hown.out.pure hp1)
        have p0 := (hp1.cell b (o + k * 4) (by have := hp.size; omega)).trans q0
        clear q0 q1 q2 q3
        by_cases hopen : cd.op = 11 ∨ cd.op = 13
        · have hd : (cd.op == 11) = true ∨ ((cd.op == 11) = false ∧ (cd.op == 13) = true) := by
            rcases hopen with h | h
            · exact .inl (by simp [h])
            · exact .inr ⟨by simp [h], by simp [h]⟩
          have hstep : sstep st k cd = if st.length < 3 then some ((k, cd.op) :: st) else none := by unfold sstep; rw [if_pos hopen]
          have Hstep := Lib.hid hstep
          clear hstep hopen
          by_cases h3 : st.length < 3
          · rcases hd with hd | ⟨hd, hd2⟩
            all_goals
              go_wp2_with (at_builtin; go_must (refine wl_append1 elInt rfl _ _ rfl w.heap.size (.slice Aq st.length cq) st.length (marks st) rfl HO1.out w1.heap.size 1 [.int .i64 cd.op] rfl rfl rfl rfl (by decide) (by omega) hp2.size ?_); intro v' w' hO' hg'; go_must (have hP' := Lib.hid (hp2.grown hg' (fun k hk => (HO1.out.lt k hk).1)); have HO' := Lib.hid hO'; obtain ⟨A2, c2, rfl⟩ := HO'.out.form; clear hO' hg'))
              go_roundg (cs.length - (k + 1))
              case measure => have := Hgk.out; omega
              case rel =>
                refine ⟨k + 1, (k, cd.op) :: st, by have := Hgk.out; omega, by go_num, hP'.out, ?_, by simp; omega, ?_, Hnext.out⟩
                · rw [Hst.out, Hcd.out, Hstep.out, if_pos h3]
                · rw [marks_cons]; exact HO'.out
          · rcases hd with hd | ⟨hd, hd2⟩
            all_goals
              go_wp2_with (at_builtin; go_must (refine wl_append1 elInt rfl _ _ rfl w.heap.size (.slice Aq st.length cq) st.length (marks st) rfl HO1.out w1.heap.size 1 [.int .i64 cd.op] rfl rfl rfl rfl (by decide) (by omega) hp2.size ?_); intro v' w' hO' hg'; go_must (have hP' := Lib.hid (hp2.grown hg' (fun k hk => (HO1.out.lt k hk).1)); have HO' := Lib.hid hO'; obtain ⟨A2, c2, rfl⟩ := HO'.out.form; clear hO' hg'))
              go_ret
              exact ⟨ret_bool (HBF.out (Bad.out (by rw [Hstep.out, if_neg (by omega)]))), hP'.out⟩
        · have hd11 : (cd.op == 11) = false := by rw [beq_eq_false_iff_ne]; omega
          have hd13 : (cd.op == 13) = false := by rw [beq_eq_false_iff_ne]; omega
          have Hopen := Lib.hid hopen
          clear hopen
          by_cases h12 : cd.op = 12
          · have hd12 : (cd.op == 12) = true := by simp [h12]
            have H12 := Lib.hid h12
            clear h12
            rcases st with _ | ⟨⟨p, m⟩, r⟩
            · simp only [List.length_nil] at *
              have hz : ((0 : Nat) : Int) - 1 < 0 := by omega
              go_wp2
              go_ret
              exact ⟨ret_bool (HBF.out (Bad.out (by unfold sstep; rw [if_neg Hopen.out, if_pos H12.out]))), hp2⟩
            · obtain ⟨g, off, c2, hq, hq1, hq2, hq3, hq4⟩ := HO1.out.formSome (by simp)
              injection hq with hq5 hq6 hq7
              subst hq5 hq7
              have hcell := HO1.out.cell r.length (by simp)
              have hmk : (marks ((p, m) :: r))[r.length]? = some (.int .i64 m) := by
                rw [marks_cons, List.getElem?_append_right (by rw [marks_length]; omega), marks_length]; simp
              rw [hmk] at hcell
              have hfz := HO1.out.frozen (off + r.length)
              have hset := Lib.hid (HO1.out.stored r.length (.int .i64 12))
              have hms : (marks ((p, m) :: r)).set r.length (.int .i64 12) = marks ((p, 12) :: r) := by
                rw [marks_cons, marks_cons, List.set_append_right _ _ (by rw [marks_length]; omega), marks_length]; simp
              have Hms := Lib.hid hms
              clear hmk hms
              simp only [List.length_cons] at hst hq1 ⊢
              have hidx : ((r.length + 1 : Nat) : Int) - 1 = r.length := by omega
              have hstep : sstep ((p, m) :: r) k cd = if m = 11 then some ((p, 12) :: r) else none := by unfold sstep; rw [if_neg Hopen.out, if_pos H12.out]
              have Hstep := Lib.hid hstep
              clear hstep
              by_cases hm : m = 11
              · have hdm : (m != 11) = false := by simp [hm]
                have Hm := Lib.hid hm; clear hm
                go_wp2
                go_roundg (cs.length - (k + 1))
                case measure => have := Hgk.out; omega
                case rel =>
                  refine ⟨k + 1, (p, 12) :: r, by have := Hgk.out; omega, by go_num, hp2.setCell hq3 _, ?_, by simp; omega, ?_, Hnext.out⟩
                  · rw [Hst.out, Hcd.out, Hstep.out, if_pos Hm.out]
                  · rw [← Hms.out]
                    exact hset.out
              · have hdm : (m != 11) = true := by simp [hm]
                have Hm := Lib.hid hm; clear hm
                go_wp2
                go_ret
                exact ⟨ret_bool (HBF.out (Bad.out (by rw [Hstep.out, if_neg Hm.out]))), hp2⟩
          · have hd12 : (cd.op == 12) = false := by simp [h12]
            have H12 := Lib.hid h12
            clear h12
            by_cases h14 : cd.op = 14
            · have hd14 : (cd.op == 14) = true := by simp [h14]
              have H14 := Lib.hid h14
              clear h14
              rcases st with _ | ⟨x, r⟩
              · simp only [List.length_nil] at *
                have hz : ((0 : Nat) : Int) - 1 < 0 := by omega
                go_wp2
                go_ret
                exact ⟨ret_bool (HBF.out (Bad.out (by unfold sstep; rw [if_neg Hopen.out, if_neg H12.out, if_pos H14.out]))), hp2⟩
              · obtain ⟨g, off, c2, hq, hq1, hq2, hq3, hq4⟩ := HO1.out.formSome (by simp)
                injection hq with hq5 hq6 hq7
                subst hq5 hq7
                have htk := HO1.out.take (k := r.length) (by simp)
                have hms : (marks (x :: r)).take (r.length * 1) = marks r := by
                  rw [marks_cons, List.take_append_of_le_length (by rw [marks_length]; omega), List.take_of_length_le (by rw [marks_length]; omega)]
                rw [hms] at htk
                have Htk := Lib.hid htk
                clear hms htk
                simp only [List.length_cons] at hst hq1 ⊢
                have hstep : sstep (x :: r) k cd = some r := by unfold sstep; rw [if_neg Hopen.out, if_neg H12.out, if_pos H14.out]
                have Hstep := Lib.hid hstep
                clear hstep
                go_wp2
                go_roundg (cs.length - (k + 1))
                case measure => have := Hgk.out; omega
                case rel =>
                  refine ⟨k + 1, r, by have := Hgk.out; omega, by go_num, hp2, ?_, by omega, Htk.out, Hnext.out⟩
                  rw [Hst.out, Hcd.out, Hstep.out]
            · have hd14 : (cd.op == 14) = false := by simp [h14]
              have H14 := Lib.hid h14
              clear h14
              go_wp2
              go_roundg (cs.length - (k + 1))
              case measure => have := Hgk.out; omega
              case rel =>
                refine ⟨k + 1, st, by have := Hgk.out; omega, by go_num, hp2, ?_, hst, HO1.out, Hnext.out⟩
                rw [Hst.out, Hcd.out]; unfold sstep; rw [if_neg Hopen.out, if_neg H12.out, if_neg H14.out]
      · have Hok := Lib.hid hok; clear hok
        go_wp2_with fail
        refine (scv_any cd _ false (by simp [Hok.out])).mono ?_
        rintro e w1 ⟨rfl, hp1⟩
        go_wp2
        go_ret
        refine ⟨ret_bool (HBF.out fun hv => Hok.out ?_), hp.trans hp1⟩
        rw [← Hcd.out]; exact hv.1 _ (cdOk_mem hlt)
    · have hkl : k = cs.length := by omega
      subst hkl
      have hsc2 : sscan cs 0 [] = some st := by have := Hsc.out; rwa [List.take_length] at this
      have Hsc2 := Lib.hid hsc2
      clear hsc2
      have fin : (decide (st.length = 0) && decide (cs.length ≤ 40)) = B := by
        rw [Bool.eq_iff_iff, HB.out]
        simp only [Bool.and_eq_true, decide_eq_true_eq]
        constructor
        · rintro ⟨h1, h2⟩
          have : st = [] := List.eq_nil_of_length_eq_zero h1
          exact ⟨cdOk_all Hall.out, h2, by rw [Hsc2.out, this]⟩
        · rintro ⟨h1, h2, h3⟩
          rw [Hsc2.out] at h3
          injection h3 with h3
          exact ⟨by rw [h3]; rfl, h2⟩
      have Fin := Lib.hid fin
      clear fin
      by_cases hs0 : st.length = 0
      · have hd : ((st.length : Int) == 0) = true := by simp [hs0]
        have Hs0 := Lib.hid hs0
        clear hs0
        go_wp2
        go_ret
        refine ⟨ret_bool ?_, hp⟩
        rw [← Fin.out, decide_eq_true Hs0.out, Bool.true_and]
        rw [Bool.eq_iff_iff]; simp only [decide_eq_true_eq]; omega
      · have hd : ((st.length : Int) == 0) = false := by rw [beq_eq_false_iff_ne]; omega
        have Hs0 := Lib.hid hs0
        clear hs0
        go_wp2
        go_ret
        refine ⟨ret_bool ?_, hp⟩
        rw [← Fin.out, decide_eq_false Hs0.out, Bool.false_and]

end Go.Proofs.Ytajaonejpggcbaa

namespace Go.Proofs.Ytajaonejpggcbaa
open Go.RowKit

/-- The run under way, with its two flags. -/
structure SRunF (o : SO) (w : World) (vt : Value) (s : LS) (sp un : Bool) : Prop where
  pure : Pure o.w0 w
  codes : Codes o.w0 o.vl o.cs
  base : o.rm.B = o.w0.heap.size
  rm : RM o.rm w s.R s.M
  n1 : 1 ≤ o.rm.n
  obj : Obj8 o w vt sp un
  plo : o.w0.heap.size ≤ o.p
  tr : OwnO w o.w0.heap.size 84 2 vt s.H.length (beatsL s.H)
  good : Good s
  noChk : o.chk = false → o.vc = .slice none 0 0
  chkS : o.chk = true → (∀ k, o.sets k < 16) ∧ Cells o.w0 o.vc o.cs.length 1 fun j => .int .i64 (o.sets j : Nat)
section
variable {o : SO} {w w' : World} {vt vt' : Value} {s : LS} {sp un : Bool}
theorem SRunF.run (h : SRunF o w vt s sp un) (h1 : splitH o.cs o.rm.n s.H = sp) (h2 : o.un s.H = un) : SRun o w vt s := ⟨h.1, h.2, h.3, h.4, h.5, by rw [h1, h2]; exact h.6, h.7, h.8, h.9, h.10, h.11⟩
theorem SRunF.keep (h : SRunF o w vt s sp un) (hp : Pure w w') : SRunF o w' vt s sp un :=
  ⟨h.pure.trans hp, h.codes, h.base, h.rm.pure hp, h.n1, h.obj.pure hp, h.plo, h.tr.pure hp, h.good, h.noChk, h.chkS⟩
theorem SRunF.own_lo (h : SRunF o w vt s sp un) : ∀ k, o.own vt k → o.w0.heap.size ≤ k := by
  rintro k (rfl | hk | hk)
  · exact h.plo
  · rw [← h.base]; exact h.rm.own_lo k hk
  · exact (h.tr.lt k hk).1
theorem SRunF.tr_ne (h : SRunF o w vt s sp un) : ∀ k, vt.ownBlock = some k → k ≠ o.p ∧ k ≠ o.rm.gr ∧ ¬ o.rm.own k := by
  intro k hk
  obtain ⟨cur, b1, _⟩ := h.rm.outer
  refine ⟨h.tr.ne_heap h.obj (by decide) k hk, h.tr.ne_heap b1 (by decide) k hk, ?_⟩
  rintro (⟨l, hl, e⟩ | e)
  · exact h.tr.ne_heap (h.rm.row l hl) (by decide) k hk e
  · exact h.tr.ne h.rm.mem (by decide) k hk (by rw [e]; rfl)
/-- A lane has executed an instruction. -/
theorem SRunF.lane {k : Nat} {c : Cd} (h : SRunF o w vt s sp un) (hk : k < o.rm.n) (hc : CdOk c) (hr : RM o.rm w' (upR s.R k (simR c k o.rm.m (s.R k) s.M)) (simM c o.rm.m (s.R k) s.M)) (hch : Chg (o.rm.lane k) w w') :
    SRunF o w' vt (lane1 c o.rm.m k s) sp un ∧ SStep o w vt w' vt := by
  have hlo : ∀ b, o.rm.lane k b → o.rm.own b := by
    rintro b (hb | hb)
    · exact .inl ⟨k, hk, hb⟩
    · exact .inr hb
  have hap := h.obj.apart h.rm
  have hn8 := h.rm.n8
  refine ⟨⟨Chg.pure h.pure hch (fun b hb => by rw [← h.base]; exact h.rm.lane_lo hk b hb), h.codes, h.base, hr, h.n1, h.obj.chg hch (fun e => hap.1 (hlo _ e)), h.plo, h.tr.chg hch (fun g hg e => (h.tr_ne g hg).2.2 (hlo _ e)), h.good.lane1 hc (by omega), h.noChk, h.chkS⟩, hch.mono fun b hb => .inr (.inl (hlo b hb)), fun g hg => .inl hg⟩
/-- The flag for split barriers is written. -/
theorem SRunF.split (h : SRunF o w vt s sp un) (b : Bool) : SRunF o (w.setCell ⟨o.p, 5, none⟩ (.bool b)) vt s b un ∧ SStep o w vt (w.setCell ⟨o.p, 5, none⟩ (.bool b)) vt := by
  have hc : Chg (fun k => k = o.p) w (w.setCell ⟨o.p, 5, none⟩ (.bool b)) := Chg.of_set w _ _ _ rfl
  have hap := h.obj.apart h.rm
  refine ⟨⟨Chg.pure h.pure hc (fun k hk => by rw [hk]; exact h.plo), h.codes, h.base, h.rm.chg hc (fun e => hap.2.1 e.symm) (fun k hk e => hap.2.2.2 k hk e.symm) (fun e => hap.2.2.1 e.symm), h.n1, h.obj.setSplit b, h.plo, h.tr.chg hc (fun g hg e => (h.tr_ne g hg).1 e), h.good, h.noChk, h.chkS⟩, hc.mono fun k hk => .inl hk, fun g hg => .inl hg⟩
theorem SRunF.phase (h : SRunF o w vt s sp un) (P : Nat) : SRunF o w vt { s with P := P } sp un := ⟨h.1, h.2, h.3, h.4, h.5, h.6, h.7, h.8, h.9, h.10, h.11⟩
/-- An instruction that lies in a block of its own is still there behind a step of the run. -/
theorem SStep.box {a b : World} {u v : Value} (h : SStep o a u b v) {g : Nat} (hg : g < a.heap.size) (hn : ¬ o.own u g) (i : Nat) : b.cell? ⟨g, i, none⟩ = a.cell? ⟨g, i, none⟩ := h.1.cell hg hn
end
/-- An instruction that lies in a block of its own. -/
def Box (w : World) (g : Nat) (c : Cd) : Prop := w.cell? ⟨g, 0, none⟩ = some (.int .i64 c.op) ∧ w.cell? ⟨g, 1, none⟩ = some (.int .i64 c.a) ∧ w.cell? ⟨g, 2, none⟩ = some (.int .i64 c.b) ∧ w.cell? ⟨g, 3, none⟩ = some (.int .i64 c.c)
theorem Box.chg {S : Nat → Prop} {w w' : World} {g : Nat} {c : Cd} (h : Box w g c) (hc : Chg S w w') (hn : ¬ S g) : Box w' g c := by
  have hg := World.block_lt_of_cell? _ _ h.1
  exact ⟨(hc.cell hg hn).trans h.1, (hc.cell hg hn).trans h.2.1, (hc.cell hg hn).trans h.2.2.1, (hc.cell hg hn).trans h.2.2.2⟩
theorem Box.lt {w : World} {g : Nat} {c : Cd} (h : Box w g c) : g < w.heap.size := World.block_lt_of_cell? _ _ h.1
theorem Box.pure {w w' : World} {g : Nat} {c : Cd} (h : Box w g c) (hp : Pure w w') : Box w' g c := h.chg (S := fun _ => False) (Chg.of_pure hp) id
theorem Box.step {o : SO} {w w' : World} {u v : Value} {g : Nat} {c : Cd} (h : Box w g c) (hs : SStep o w u w' v) (hn : ¬ o.own u g) : Box w' g c := h.chg hs.1 hn
end Go.Proofs.Ytajaonejpggcbaa

namespace Go.Proofs.Ytajaonejpggcbaa
open Go.RowKit

section
variable {P : Program} {ops : Array Oper} {Q : Exit → Act → World → Prop} {md : Region.Mode} {S : World → Prop}

/-- Whatever order is picked: behind every operation but number z the world meets S. -/
def AnyK (P : Program) (md : Region.Mode) (ops : Array Oper) (Q : Exit → Act → World → Prop) (S : World → Prop) (z : Nat) : Nat → Array Bool → Act → World → Prop
  | 0, l, a, w => Region.ready md ops l = [] ∧ Q .normal a w
  | f + 1, l, a, w => (Region.ready md ops l = [] → Q .normal a w) ∧ ∀ i ∈ Region.ready md ops l, wpOp P ops Q i (fun b u => (i ≠ z → S u) ∧ AnyK P md ops Q S z f (l.setIfInBounds i true) b u) a w
theorem AnyK.any {z : Nat} : ∀ (f : Nat) (l : Array Bool) (a : Act) (w : World), AnyK P md ops Q S z f l a w → wpAny P md ops Q f l a w
  | 0, _, _, _, h => h
  | f + 1, _, _, _, h => ⟨h.1, fun i hi => wpOp_mono (fun b u k => AnyK.any f _ b u k.2) (h.2 i hi)⟩

/-- What yields its value wherever S holds may come first, if the last operation waits for everything. -/
theorem AnyK.first {i z : Nat} {o : Oper} {v : Value} (ho : ops[i]? = some o) (hns : Region.noSelect ops = true) (hQ : ∀ c a w, Q (.panic c) (a.put o.dst v) w → Q (.panic c) a w)
    (hk : Region.sinkB md ops z = true) (hc : Region.chainB md ops z = true) (hz : z + 1 = ops.size) (hiz : i < z) :
    ∀ (f : Nat) (l : Array Bool) (a : Act) (w : World), HeadInv md ops z l →
      (∀ j p, ops[j]? = some p → j ≠ i → l.getD j true = false → (∀ e ∈ p.after, Region.binds md e = true → e.on ≠ i) → o.apart ops p = true) →
      i ∈ Region.ready md ops l → YieldsIf P ops S o v a → S w → AnyK P md ops Q S z f (l.setIfInBounds i true) (a.put o.dst v) w → AnyK P md ops Q S z (f + 1) l a w := by
  intro f
  induction f with
  | zero =>
    intro l a w inv hf hr hy hS H
    refine ⟨fun h0 => absurd hr (by rw [h0]; simp), fun j hj => ?_⟩
    by_cases e : j = i
    · rw [e]; exact hy.wpOp ho hS ⟨fun _ => hS, H⟩
    · exact absurd (ready_mono hj e) (by rw [H.1]; simp)
  | succ f ih =>
    intro l a w inv hf hr hy hS H
    refine ⟨fun h0 => absurd hr (by rw [h0]; simp), fun j hj => ?_⟩
    by_cases e : j = i
    · rw [e]; exact hy.wpOp ho hS ⟨fun _ => hS, H⟩
    have hun := (mem_ready.1 hr).1
    obtain ⟨hju, p, hp, hall⟩ := mem_ready.1 hj
    have hjs : j < ops.size := (Array.getElem?_eq_some_iff.1 hp).1
    have hjz : j ≠ z := fun e2 => tail_waits hk hc (by omega) inv _ i rfl hiz hun j (by omega) hj
    have hno : ∀ x ∈ p.after, Region.binds md x = true → x.on ≠ i := fun x hx hb e2 => by
      have h1 := hall x hx hb
      rw [e2] at h1
      have h2 := getD_both hun
      rw [h1] at h2; cases h2
    have hput := wpOp_putIf hp (hf j p hp e hju hno) (fun cs b => Region.noSelect_spec hns i o cs b ho) (fun cs b => Region.noSelect_spec hns j p cs b hp) hQ hy (H.2 j (ready_mono hj e))
    have hf' : ∀ k q, ops[k]? = some q → k ≠ i → (l.setIfInBounds j true).getD k true = false → (∀ x ∈ q.after, Region.binds md x = true → x.on ≠ i) → o.apart ops q = true := fun k q hq hki hku hn => by
      refine hf k q hq hki ?_ hn
      by_cases e3 : j = k
      · rw [← e3]; exact hju
      · rwa [getD_set_ne true e3] at hku
    refine wpOp_mono (fun b u h => ⟨fun _ => h.2.1 hjz, ih (l.setIfInBounds j true) b u (inv.set hj (by omega)) hf' (ready_mono hr (fun e4 => e e4.symm)) h.1 (h.2.1 hjz) ?_⟩) hput
    rw [Array.setIfInBounds_comm _ _ e]
    exact h.2.2

def thenK (Q : Exit → Act → World → Prop) (K : Act → World → Prop) : Exit → Act → World → Prop
  | .normal, a, w => K a w
  | e, a, w => Q e a w
theorem upon_thenK {K K' : Act → World → Prop} {o : Oper} {a : Act} (r : Result Next) (h : o.upon P a K (thenK Q K') r) : o.upon P a K Q r := by
  have hl : LetsOut (thenK Q K') → LetsOut Q := fun ⟨b, u, k⟩ => ⟨b, u, k⟩
  cases r with
  | ok n u =>
    cases n with
    | enter g xs =>
      refine Calls.mono h fun e u' k => ?_
      cases e with
      | returned v => exact k
      | panicked c => exact k
      | outgrown => exact hl k
    | value v => exact h
    | skip => exact h
    | defer d => exact h
    | row r xs => exact h
    | _ => exact h
  | halt x u => cases x <;> exact h
theorem wpOp_of_one {K : Act → World → Prop} {i : Nat} {o : Oper} {a : Act} {w : World} (ho : ops[i]? = some o) (h : wpList P ops (thenK Q K) [o] a w) : wpOp P ops Q i K a w := by
  unfold wpOp
  simp only [ho]
  unfold wpList at h
  split
  · rename_i hw
    rw [if_pos hw] at h
    rcases h with h | ⟨h1, b, u, h2⟩
    · exact .inl (upon_thenK _ h)
    · exact .inr ⟨h1, b, u, h2⟩
  · rename_i hw
    rw [if_neg hw] at h
    exact h

/-- The operations that only read, one after another. -/
def Held (P : Program) (ops : Array Oper) (S : World → Prop) (E : Act → Prop) : List Oper → Act → Prop
  | [], a => E a
  | o :: r, a => ∃ v, YieldsIf P ops S o v a ∧ Held P ops S E r (a.put o.dst v)
/-- The operations that come last, one after another. -/
def Tail (P : Program) (ops : Array Oper) (Q : Exit → Act → World → Prop) (S : World → Prop) : List Oper → Act → World → Prop
  | [], a, w => Q .normal a w
  | [o], a, w => wpList P ops Q [o] a w
  | o :: o2 :: r, a, w => wpList P ops (thenK Q fun b u => S u ∧ Tail P ops Q S (o2 :: r) b u) [o] a w
def hdsB (md : Region.Mode) (ops : Array Oper) (T : Array Bool → Bool) : List Nat → Array Bool → Bool
  | [], l => T l
  | i :: r, l => (Region.ready md ops l).contains i && Region.free md ops l i && decide (i + 1 < ops.size) && hdsB md ops T r (l.setIfInBounds i true)
def tlsB (md : Region.Mode) (ops : Array Oper) : List Nat → Array Bool → Bool
  | [], l => (Region.ready md ops l).isEmpty
  | t :: r, l => decide (Region.ready md ops l = [t]) && (decide (t + 1 = ops.size) == r.isEmpty) && tlsB md ops r (l.setIfInBounds t true)

theorem tail_any {z : Nat} (hz : z + 1 = ops.size) : ∀ (ts : List Nat) (os : List Oper) (f : Nat) (l : Array Bool) (a : Act) (w : World), ts.map (ops[·]?) = os.map some → tlsB md ops ts l = true → ts.length ≤ f → Tail P ops Q S os a w → AnyK P md ops Q S z f l a w
  | [], os, f, l, a, w, hm, hB, _, h => by
    obtain rfl : os = [] := by cases os with
      | nil => rfl
      | cons => simp at hm
    have hr : Region.ready md ops l = [] := by simpa [tlsB] using hB
    cases f with
    | zero => exact ⟨hr, h⟩
    | succ f => exact ⟨fun _ => h, by rw [hr]; simp⟩
  | t :: ts, [], _, _, _, _, hm, _, _, _ => by simp at hm
  | t :: ts, o :: os, 0, _, _, _, _, _, hf, _ => by simp at hf
  | t :: ts, o :: os, f + 1, l, a, w, hm, hB, hf, h => by
    simp only [List.map_cons, List.cons.injEq] at hm
    simp only [tlsB, Bool.and_eq_true, decide_eq_true_eq, beq_iff_eq] at hB
    obtain ⟨⟨hr, hlast⟩, hB⟩ := hB
    refine ⟨fun h0 => absurd hr (by rw [h0]; simp), fun i hi => ?_⟩
    rw [hr] at hi
    obtain rfl : i = t := by simpa using hi
    cases os with
    | nil =>
      have hts : ts = [] := by cases ts with
        | nil => rfl
        | cons => simp at hm
      subst hts
      have hzi : i = z := by simp at hlast; omega
      have h1 : wpOp P ops Q i (fun b u => Q .normal b u) a w := wpOp_of_one hm.1 (by
        have e : thenK Q (fun b u => Q .normal b u) = Q := by funext e b u; cases e <;> rfl
        rw [e]; exact h)
      exact wpOp_mono (fun b u k => ⟨fun hne => absurd hzi hne, tail_any hz [] [] f _ b u rfl hB (by simp) k⟩) h1
    | cons o2 os => exact wpOp_mono (fun b u k => ⟨fun _ => k.1, tail_any hz ts (o2 :: os) f _ b u hm.2 hB (by simpa using hf) k.2⟩) (wpOp_of_one hm.1 h)

theorem heads_any {z : Nat} {ts : List Nat} {tl : List Oper} (hz : z + 1 = ops.size) (hns : Region.noSelect ops = true) (hk : Region.sinkB md ops z = true) (hc : Region.chainB md ops z = true)
    (hQ : ∀ (c : _) (a : Act) (d : Option Tmp) (v : Value) (w : World), Q (.panic c) (a.put d v) w → Q (.panic c) a w) (ht : ts.map (ops[·]?) = tl.map some) :
    ∀ (hs : List Nat) (hl : List Oper) (f : Nat) (l : Array Bool) (a : Act) (w : World), hs.map (ops[·]?) = hl.map some → hdsB md ops (tlsB md ops ts) hs l = true → hs.length + ts.length ≤ f → HeadInv md ops z l → S w →
      Held P ops S (fun b => Tail P ops Q S tl b w) hl a → AnyK P md ops Q S z f l a w
  | [], hl, f, l, a, w, hm, hB, hf, inv, hS, h => by
    obtain rfl : hl = [] := by cases hl with
      | nil => rfl
      | cons => simp at hm
    exact tail_any hz ts tl f l a w ht hB (by simpa using hf) h
  | i :: hs, [], _, _, _, _, hm, _, _, _, _, _ => by simp at hm
  | i :: hs, o :: hl, 0, _, _, _, _, _, hf, _, _, _ => by simp at hf
  | i :: hs, o :: hl, f + 1, l, a, w, hm, hB, hf, inv, hS, h => by
    simp only [List.map_cons, List.cons.injEq] at hm
    simp only [hdsB, Bool.and_eq_true, decide_eq_true_eq] at hB
    obtain ⟨⟨⟨hr, hfr⟩, hlt⟩, hB⟩ := hB
    obtain ⟨v, hy, h⟩ := h
    have hr' : i ∈ Region.ready md ops l := by simpa using hr
    exact AnyK.first hm.1 hns (fun c b u => hQ c b o.dst v u) hk hc hz (by omega) f l a w inv (Region.free_spec hm.1 hfr) hr' hy hS
      (heads_any hz hns hk hc hQ ht hs hl f _ _ w hm.2 hB (by simp at hf; omega) (inv.set hr' (by omega)) hS h)
end

/-- A region: the operations hl (number by number: hs) only read where S holds; tl (ts) come last. -/
theorem region_held {P : Program} {id : Nat} {Q : Exit → Act → World → Prop} {a : Act} {w : World} {l : List Oper} (S : World → Prop) (hs ts : List Nat) (hl tl : List Oper) (hm : P.follows .mixedOrders = true)
    (hB : (Region.noSelect l.toArray && Region.sinkB .any l.toArray (l.toArray.size - 1) && Region.chainB .any l.toArray (l.toArray.size - 1) && decide (0 < l.toArray.size) && decide (hs.length + ts.length = l.toArray.size) && hdsB .any l.toArray (tlsB .any l.toArray ts) hs (Array.replicate l.toArray.size false)) = true)
    (hh : hs.map (l.toArray[·]?) = hl.map some) (ht : ts.map (l.toArray[·]?) = tl.map some)
    (hQ : ∀ (c : _) (a : Act) (d : Option Tmp) (v : Value) (w : World), Q (.panic c) (a.put d v) w → Q (.panic c) a w) (hS : S w.drew)
    (h : Held P l.toArray S (fun b => Tail P l.toArray Q S tl b w.drew) hl a) : (Code.region id l.toArray true).wp P Q a w := by
  simp only [Bool.and_eq_true, decide_eq_true_eq] at hB
  obtain ⟨⟨⟨⟨⟨hns, hk⟩, hc⟩, h0⟩, hlen⟩, hB⟩ := hB
  have inv0 : HeadInv .any l.toArray (l.toArray.size - 1) (Array.replicate l.toArray.size false) :=
    ⟨by simp, fun j p _ hx => (by rw [getD_replicate_false] at hx; cases hx), fun t _ hx => getD_in (by simpa using hx) (getD_replicate_false _ _)⟩
  exact wp_region_any hm (AnyK.any _ _ _ _ (heads_any (by omega) hns hk hc hQ ht hs hl _ _ a w.drew hh hB (by omega) inv0 hS h))

theorem held_of {P : Program} {ops : Array Oper} {S : World → Prop} {E : Act → Prop} {o : Oper} {r : List Oper} {a : Act} {v : Value} (hw : Region.wanted o (yielded ops a.tmps) = true) (hv : ∀ w, S w → (execOp a.eval o).run P w = .ok (.value v) w)
    (h : Held P ops S E r (a.put o.dst v)) : Held P ops S E (o :: r) a := ⟨v, .inl ⟨hw, hv⟩, h⟩
theorem held_nil {P : Program} {ops : Array Oper} {S : World → Prop} {E : Act → Prop} {a : Act} (h : E a) : Held P ops S E [] a := h

theorem region_heldF {P : Program} {id : Nat} {Q : Exit → Act → World → Prop} {a : Act} {w : World} {l : List Oper} (S : World → Prop) (hs ts : List Nat) (fH fT : List Oper → List Oper) (hm : P.follows .mixedOrders = true)
    (hB : (Region.noSelect l.toArray && Region.sinkB .any l.toArray (l.toArray.size - 1) && Region.chainB .any l.toArray (l.toArray.size - 1) && decide (0 < l.toArray.size) && decide (hs.length + ts.length = l.toArray.size) && hdsB .any l.toArray (tlsB .any l.toArray ts) hs (Array.replicate l.toArray.size false)) = true)
    (hh : hs.map (l.toArray[·]?) = (fH l).map some) (ht : ts.map (l.toArray[·]?) = (fT l).map some)
    (hQ : ∀ (c : _) (a : Act) (d : Option Tmp) (v : Value) (w : World), Q (.panic c) (a.put d v) w → Q (.panic c) a w) (hS : S w.drew)
    (h : Held P l.toArray S (fun b => Tail P l.toArray Q S (fT l) b w.drew) (fH l) a) : (Code.region id l.toArray true).wp P Q a w :=
  region_held S hs ts (fH l) (fT l) hm hB hh ht hQ hS h

end Go.Proofs.Ytajaonejpggcbaa

namespace Go.Proofs.Ytajaonejpggcbaa
open Go.RowKit

theorem keepPc {w w' : World} {b i : Nat} {v : Value} (h : Pure w w') (hc : w.cell? ⟨b, i, none⟩ = some v) : w'.cell? ⟨b, i, none⟩ = some v := (h.cell b i (World.block_lt_of_cell? _ _ hc)).trans hc

end Go.Proofs.Ytajaonejpggcbaa

namespace Go.Proofs.Ytajaonejpggcbaa
open Go.RowKit

def MemOk (mem : List Int) : Prop := (1 ≤ mem.length ∧ mem.length ≤ 32) ∧ ∀ x ∈ mem, Word x
def startLS (mem : List Int) : LS := ⟨fun _ _ => 0, fun j => mem.getD j 0, [], [], 0⟩
open Classical in
noncomputable def treeOf (cs : List Cd) : Tr := if h : ∃ t : Tr, cs = t.flat ∧ t.Ok ∧ t.depth ≤ 3 then h.choose else .nil
theorem treeOf_spec {cs : List Cd} (h : PValid cs) : cs = (treeOf cs).flat ∧ (treeOf cs).Ok ∧ (treeOf cs).depth ≤ 3 := by
  have ht := h.tree
  unfold treeOf
  rw [dif_pos ht]
  exact ht.choose_spec
/-- The registers under way: the first j lanes have theirs. -/
structure RegsB (w : World) (B : Nat) (vr : Value) (j : Nat) (rows : Nat → Nat) : Prop where
  own : w.ownsRow B 23 1 vr j ((List.range j).map fun i => .slice (some ⟨rows i, 0, none⟩) 4 4)
  lo : ∀ i, i < j → B ≤ rows i
  row : ∀ i, i < j → w.heap[rows i]? = some (.cells #[.int .i64 0, .int .i64 0, .int .i64 0, .int .i64 0] 3 (0, 0))
  inj : ∀ i k, i < j → k < j → rows i = rows k → i = k
theorem own_form {w : World} {B e s n : Nat} {v : Value} {xs : List Value} (h : w.ownsRow B e s v n xs) (hn : 0 < n) : ∃ g cap, v = .slice (some ⟨g, 0, none⟩) n cap ∧ B ≤ g ∧ g < w.heap.size ∧ n ≤ cap ∧ cap ≤ 9223372036854775807 := by
  rcases h.2 with ⟨_, h0⟩ | ⟨g, cap, cur, rfl, h1, h2, h3, h4, _⟩
  · omega
  · exact ⟨g, cap, rfl, h1, (Array.getElem?_eq_some_iff.1 h2).1, h3, h4⟩
theorem own_zero4 {w : World} {B g : Nat} (h : w.ownsRow B 3 1 (.slice (some ⟨g, 0, none⟩) 4 4) 4 (zeros [.int .i64 0] 4)) : w.heap[g]? = some (.cells #[.int .i64 0, .int .i64 0, .int .i64 0, .int .i64 0] 3 (0, 0)) := by
  rcases h.2 with ⟨hv, _⟩ | ⟨g', cap, cur, hv, h1, h2, h3, h4, h5, h6⟩
  · cases hv
  · injection hv with hv _ hc
    injection hv with hv
    injection hv with e1 e2
    subst e1
    have hcap : cap = 4 := hc.symm
    subst hcap
    have hl : cur.toList.length = 4 := by simpa using h5
    have ht : cur.toList = zeros [.int .i64 0] 4 := by
      rw [← h6, List.take_of_length_le (by omega)]
    have : cur = #[.int .i64 0, .int .i64 0, .int .i64 0, .int .i64 0] := by
      apply Array.ext'
      rw [ht]
      apply List.ext_getElem?
      intro j
      by_cases hj : j < 4
      · rw [zeros_get _ _ _ (by simpa using hj)]
        have : j = 0 ∨ j = 1 ∨ j = 2 ∨ j = 3 := by omega
        rcases this with rfl | rfl | rfl | rfl <;> rfl
      · rw [List.getElem?_eq_none (by rw [zeros_length]; simp; omega), List.getElem?_eq_none (by simp; omega)]
    rw [h2, this]
theorem own_ne_heap {w : World} {B e s n g e' : Nat} {v : Value} {xs : List Value} {cur : Array Value} (h : w.ownsRow B e s v n xs) (h' : w.heap[g]? = some (.cells cur e' (0, 0))) (hne : e ≠ e') : ∀ k, v.ownBlock = some k → k ≠ g := by
  intro k hk
  rcases h.2 with ⟨rfl, _⟩ | ⟨g', cap, cur', rfl, _, h2, _⟩
  · simp [Value.ownBlock] at hk
  · simp [Value.ownBlock] at hk
    subst hk
    exact ne_of_heap h2 h' hne
theorem RegsB.pure {w w' : World} {B j : Nat} {vr : Value} {rows : Nat → Nat} (h : RegsB w B vr j rows) (hp : Pure w w') : RegsB w' B vr j rows :=
  ⟨own_pure h.own hp, h.lo, fun i hi => (Chg.of_pure (S := fun _ => False) hp).heap (h.row i hi) id, h.inj⟩
theorem RegsB.chg {S : Nat → Prop} {w w' : World} {B j : Nat} {vr : Value} {rows : Nat → Nat} (h : RegsB w B vr j rows) (hc : Chg S w w') (h1 : ∀ g, vr.ownBlock = some g → ¬ S g) (h2 : ∀ i, i < j → ¬ S (rows i)) : RegsB w' B vr j rows := by
  refine ⟨⟨h.own.1, ?_⟩, h.lo, fun i hi => hc.heap (h.row i hi) (h2 i hi), h.inj⟩
  rcases h.own.2 with q | ⟨g, cap, cur, rfl, q1, q2, q3⟩
  · exact .inl q
  · exact .inr ⟨g, cap, cur, rfl, q1, hc.heap q2 (h1 g rfl), q3⟩
/-- One lane more has its registers. -/
theorem RegsB.push {w w1 w2 : World} {B j g : Nat} {vr vr' : Value} {rows : Nat → Nat} (h : RegsB w B vr j rows) (hp : Pure w w1) (hg : w.heap.size ≤ g) (hB : B ≤ w.heap.size) (hz : w1.heap[g]? = some (.cells #[.int .i64 0, .int .i64 0, .int .i64 0, .int .i64 0] 3 (0, 0)))
    (ho : w2.ownsRow B 23 1 vr' (j + 1) (((List.range j).map fun i => .slice (some ⟨rows i, 0, none⟩) 4 4) ++ [.slice (some ⟨g, 0, none⟩) 4 4])) (hgr : w1.grownBy w2 vr.ownBlock) : RegsB w2 B vr' (j + 1) (fun i => if i = j then g else rows i) := by
  have h1 := h.pure hp
  have hc : Chg (fun k => vr.ownBlock = some k) w1 w2 := Chg.of_grown hgr (fun k hk => hk)
  refine ⟨?_, fun i hi => ?_, fun i hi => ?_, fun i k hi hk e => ?_⟩
  · have : (List.range (j + 1)).map (fun i => Value.slice (some ⟨if i = j then g else rows i, 0, none⟩) 4 4) = ((List.range j).map fun i => Value.slice (some ⟨rows i, 0, none⟩) 4 4) ++ [.slice (some ⟨g, 0, none⟩) 4 4] := by
      rw [List.range_succ, List.map_append]
      congr 1
      · refine List.map_congr_left fun i hi => ?_
        rw [if_neg (by have := List.mem_range.1 hi; omega)]
      · simp
    rw [this]; exact ho
  · show B ≤ if i = j then g else rows i
    split
    · omega
    · exact h.lo i (by omega)
  · show w2.heap[if i = j then g else rows i]? = _
    split
    · exact hc.heap hz (fun e => own_ne_heap h1.own hz (by decide) _ e rfl)
    · exact hc.heap (h1.row i (by omega)) (fun e => own_ne_heap h1.own (h1.row i (by omega)) (by decide) _ e rfl)
  · have hlt : ∀ i, i < j → rows i < w.heap.size := fun i hi => (Array.getElem?_eq_some_iff.1 (h.row i hi)).1
    try simp only at e
    by_cases e1 : i = j
    · by_cases e2 : k = j
      · omega
      · rw [if_pos e1, if_neg e2] at e
        have := hlt k (by omega); omega
    · by_cases e2 : k = j
      · rw [if_neg e1, if_pos e2] at e
        have := hlt i (by omega); omega
      · rw [if_neg e1, if_neg e2] at e
        exact h.inj i k (by omega) (by omega) e

theorem own_cells {w : World} {B e n g c : Nat} {xs : List Value} (h : w.ownsRow B e 1 (.slice (some ⟨g, 0, none⟩) n c) n xs) : ∃ cur : Array Value, w.heap[g]? = some (.cells cur e (0, 0)) ∧ ∀ k, k < n → cur[k]? = xs[k]? := by
  rcases h.2 with ⟨hv, _⟩ | ⟨g', cap, cur, hv, h1, h2, h3, h4, h5, h6⟩
  · cases hv
  · injection hv with hv _ hc
    injection hv with hv
    injection hv with e1 e2
    subst e1
    refine ⟨cur, h2, fun k hk => ?_⟩
    rw [← h6, List.getElem?_take, if_pos (by omega)]
    simp
theorem RegsB.rm {w : World} {B n m gr cr gm cm : Nat} {rows : Nat → Nat} {mem : List Int} (h : RegsB w B (.slice (some ⟨gr, 0, none⟩) n cr) n rows) (hn1 : 1 ≤ n) (hn8 : n ≤ 8) (hm1 : 1 ≤ m) (hm32 : m ≤ 32)
    (hm : OwnO w B 3 1 (.slice (some ⟨gm, 0, none⟩) m cm) m ((List.range m).map fun j => .int .i64 (mem.getD j 0))) (hne : ∀ i, i < n → rows i ≠ gm) :
    RM ⟨B, n, m, gr, cr, gm, cm, rows⟩ w (startLS mem).R (startLS mem).M := by
  obtain ⟨cur, q1, q2⟩ := own_cells h.own
  obtain ⟨g', c', hv, b1, _, b3, b4⟩ := own_form h.own (by omega)
  injection hv with hv _ hc
  injection hv with hv
  injection hv with e1 _
  subst e1 hc
  refine ⟨hn8, hm1, hm32, b3, b4, b1, ⟨cur, q1, fun k hk => ?_⟩, h.lo, h.row, h.inj, hm, hne⟩
  rw [q2 k hk]
  have hk' : k < n := hk
  simp [hk', RMo.row]

end Go.Proofs.Ytajaonejpggcbaa

namespace Go.Proofs.Ytajaonejpggcbaa

/-- From a, b is reached without wo. -/
inductive RC (xss : List (List Int)) (wo : Int) : Int → Int → Prop where
  | refl (a : Int) (h : a ≠ wo) : RC xss wo a a
  | step (a b c : Int) (h : RC xss wo a b) (hc : c ∈ xss.getD b.toNat []) (hw : c ≠ wo) : RC xss wo a c

theorem RC.ne_left {xss : List (List Int)} {wo a b : Int} (h : RC xss wo a b) : a ≠ wo := by
  induction h <;> assumption
theorem RC.trans {xss : List (List Int)} {wo a b c : Int} (h : RC xss wo a b) (k : RC xss wo b c) : RC xss wo a c := by
  induction k with
  | refl => exact h
  | step y z _ hc hw ih => exact .step _ _ _ ih hc hw
theorem GValid.mem {xss : List (List Int)} (h : GValid xss) {k : Nat} {c : Int} (hc : c ∈ xss.getD k []) : 0 ≤ c ∧ c ≤ (xss.length : Int) - 1 := by
  by_cases hl : k < xss.length
  · obtain ⟨j, hj, e⟩ := List.mem_iff_getElem.1 hc
    have := h.1 k hl j hj
    rw [List.getD_eq_getElem?_getD (l := xss.getD k []), List.getElem?_eq_getElem hj] at this
    simp only [Option.getD_some, e] at this
    exact ⟨this.1, this.2.1⟩
  · rw [List.getD_eq_getElem?_getD, List.getElem?_eq_none (by omega)] at hc; simp at hc

/-- Numbers below n, each once, are at most n. -/
theorem nodup_len : ∀ (n : Nat) (L : List Int), L.Nodup → (∀ x ∈ L, 0 ≤ x ∧ x < n) → L.length ≤ n
  | 0, L, _, h => by
    cases L with
    | nil => simp
    | cons x l => have := h x (by simp); omega
  | n + 1, L, hd, h => by
    by_cases hm : (n : Int) ∈ L
    · have h1 := List.length_erase_of_mem hm
      have h2 : (L.erase (n : Int)).Nodup := hd.erase _
      have h3 := nodup_len n (L.erase (n : Int)) h2 (fun x hx => by
        have hx' : x ∈ L := List.mem_of_mem_erase hx
        have hne : x ≠ (n : Int) := by
          rintro rfl
          exact absurd hx (by simp [List.Nodup.mem_erase_iff hd])
        have := h x hx'
        omega)
      have : 0 < L.length := List.length_pos_of_mem hm
      omega
    · have h3 := nodup_len n L hd (fun x hx => by
        have := h x hx
        have : x ≠ (n : Int) := fun e => hm (e ▸ hx)
        omega)
      omega

structure Bfs (xss : List (List Int)) (wo fr : Int) (L : List Int) (k : Nat) : Prop where
  nd : L.Nodup
  rng : ∀ x ∈ L, 0 ≤ x ∧ x < xss.length
  rc : ∀ x ∈ L, RC xss wo fr x
  hk : k ≤ L.length
  cl : ∀ p, p < k → ∀ c ∈ xss.getD (L.getD p 0).toNat [], c ≠ wo → c ∈ L
  hfr : fr ≠ wo → fr ∈ L

section
variable {xss : List (List Int)} {wo fr : Int} {L : List Int} {k : Nat}
theorem Bfs.len (h : Bfs xss wo fr L k) : L.length ≤ xss.length := nodup_len _ _ h.nd h.rng
theorem Bfs.start (h0 : 0 ≤ fr) (h1 : fr < xss.length) (hne : fr ≠ wo) : Bfs xss wo fr [fr] 0 :=
  ⟨by simp, by simp [h0, h1], by intro x hx; simp at hx; subst hx; exact .refl _ hne, by simp, by simp, by simp⟩
theorem getD_append_left' {L M : List Int} {p : Nat} (h : p < L.length) : (L ++ M).getD p 0 = L.getD p 0 := by
  simp [List.getD_eq_getElem?_getD, List.getElem?_append_left h]
theorem Bfs.push (h : Bfs xss wo fr L k) (hlt : k < L.length) {c : Int} (hc : c ∈ xss.getD (L.getD k 0).toNat []) (hr : 0 ≤ c ∧ c ≤ (xss.length : Int) - 1) (hw : c ≠ wo) (hn : c ∉ L) : Bfs xss wo fr (L ++ [c]) k := by
  have hm : L.getD k 0 ∈ L := by simp [List.getD_eq_getElem?_getD, hlt]
  refine ⟨?_, ?_, ?_, by simp; omega, ?_, fun hf => by simp [h.hfr hf]⟩
  · rw [List.nodup_append]
    refine ⟨h.nd, by simp, ?_⟩
    intro a ha b hb
    simp at hb; subst hb
    rintro rfl
    exact hn ha
  · intro x hx
    rcases List.mem_append.1 hx with hx | hx
    · exact h.rng x hx
    · simp at hx; subst hx; omega
  · intro x hx
    rcases List.mem_append.1 hx with hx | hx
    · exact h.rc x hx
    · simp at hx; subst hx; exact .step _ _ _ (h.rc _ hm) hc hw
  · intro p hp d hd hdw
    rw [getD_append_left' (by omega)] at hd
    exact List.mem_append_left _ (h.cl p hp d hd hdw)
theorem Bfs.done (h : Bfs xss wo fr L L.length) (x : Int) : x ∈ L ↔ RC xss wo fr x := by
  refine ⟨h.rc x, fun hr => ?_⟩
  have hf := h.hfr hr.ne_left
  induction hr with
  | refl => exact hf
  | step b c hb hc hw ih =>
    obtain ⟨p, hp, e⟩ := List.mem_iff_getElem.1 ih
    have : L.getD p 0 = b := by simp [List.getD_eq_getElem?_getD, hp, e]
    exact h.cl p hp c (by rw [this]; exact hc) hw
end

end Go.Proofs.Ytajaonejpggcbaa

namespace Go.Proofs.Ytajaonejpggcbaa

/-- A block opens at b, ends at e, and is divided at o (or o is -1). -/
structure BI (cs : List Cd) (b e : Nat) (o : Int) : Prop where
  op : Opens (cs.getD b default)
  lt : b < e
  le : e < cs.length
  en : cs.getD e default = cEnd
  ar : aroundAt cs e = b
  ends : endAt cs b = ((e : Int), o)
  el : o = -1 ∨ ∃ q : Nat, o = q ∧ b < q ∧ q < e ∧ cs.getD q default = cElse ∧ aroundAt cs q = b ∧ (cs.getD b default).op = 11

def PI (cs : List Cd) (p : Nat) : Prop :=
  (Opens (cs.getD p default) → ∃ e o, BI cs p e o) ∧ ((cs.getD p default).op = 12 → ∃ b e, BI cs b e p) ∧ ((cs.getD p default).op = 14 → ∃ b o, BI cs b p o)

theorem pi_of_seg {cs : List Cd} : ∀ (t : Tr) (i p : Nat), t.Ok → Seg cs i t → i ≤ p → p < i + t.len → PI cs p
  | .nil, i, p, _, _, h1, h2 => by simp [Tr.len, Tr.flat] at h2; omega
  | .op c k, i, p, h, hs, h1, h2 => by
    obtain ⟨⟨_, q1, q2, q3, q4⟩, h5⟩ := h
    obtain ⟨e1, _, e2⟩ := hs.op
    rw [Tr.len_op] at h2
    by_cases e : p = i
    · subst e
      unfold PI
      rw [e1]
      exact ⟨fun h => absurd h (by unfold Opens; omega), fun h => absurd h q2, fun h => absurd h q4⟩
    · exact pi_of_seg k (i + 1) p h5 e2 (by omega) (by omega)
  | .ite a t k, i, p, h, hs, h1, h2 => by
    obtain ⟨_, o1, o2⟩ := id h
    obtain ⟨e1, e2, e3, e3', e4⟩ := hs.ite
    obtain ⟨e5, e6⟩ := end_ite h hs
    have bi : BI cs i (i + 1 + t.len) (-1) := ⟨by rw [e1]; exact opens_if a, by omega, e3', e3, e6, e5, .inl rfl⟩
    rw [Tr.len_ite] at h2
    by_cases e : p = i
    · subst e
      unfold PI
      rw [e1]
      exact ⟨fun _ => ⟨_, _, bi⟩, fun h => by simp [cIf] at h, fun h => by simp [cIf] at h⟩
    · by_cases e' : p = i + 1 + t.len
      · subst e'
        unfold PI
        rw [e3]
        exact ⟨fun h => absurd h opens_end, fun h => by simp [cEnd] at h, fun _ => ⟨_, _, bi⟩⟩
      · by_cases hl : p < i + 1 + t.len
        · exact pi_of_seg t (i + 1) p o1 e2 (by omega) (by omega)
        · exact pi_of_seg k _ p o2 e4 (by omega) (by omega)
  | .itee a t e k, i, p, h, hs, h1, h2 => by
    obtain ⟨_, o1, o2, o3⟩ := id h
    obtain ⟨e1, e2, e3, e4, e5, e5', e6⟩ := hs.itee
    obtain ⟨e7, e8, e9⟩ := end_itee h hs
    have bi : BI cs i (i + 1 + t.len + 1 + e.len) ((i + 1 + t.len : Nat) : Int) := ⟨by rw [e1]; exact opens_if a, by omega, e5', e5, e9, e7, .inr ⟨_, rfl, by omega, by omega, e3, e8, by rw [e1]; rfl⟩⟩
    rw [Tr.len_itee] at h2
    by_cases q : p = i
    · subst q
      unfold PI
      rw [e1]
      exact ⟨fun _ => ⟨_, _, bi⟩, fun h => by simp [cIf] at h, fun h => by simp [cIf] at h⟩
    · by_cases q' : p = i + 1 + t.len
      · subst q'
        unfold PI
        rw [e3]
        exact ⟨fun h => absurd h opens_else, fun _ => ⟨_, _, bi⟩, fun h => by simp [cElse] at h⟩
      · by_cases q'' : p = i + 1 + t.len + 1 + e.len
        · subst q''
          unfold PI
          rw [e5]
          exact ⟨fun h => absurd h opens_end, fun h => by simp [cEnd] at h, fun _ => ⟨_, _, bi⟩⟩
        · by_cases hl : p < i + 1 + t.len
          · exact pi_of_seg t (i + 1) p o1 e2 (by omega) (by omega)
          · by_cases hl2 : p < i + 1 + t.len + 1 + e.len
            · exact pi_of_seg e _ p o2 e4 (by omega) (by omega)
            · exact pi_of_seg k _ p o3 e6 (by omega) (by omega)
  | .loop a b t k, i, p, h, hs, h1, h2 => by
    obtain ⟨_, _, o1, o2⟩ := id h
    obtain ⟨e1, e2, e3, e3', e4⟩ := hs.loop
    obtain ⟨e5, e6⟩ := end_loop h hs
    have bi : BI cs i (i + 1 + t.len) (-1) := ⟨by rw [e1]; exact opens_loop a b, by omega, e3', e3, e6, e5, .inl rfl⟩
    rw [Tr.len_loop] at h2
    by_cases e : p = i
    · subst e
      unfold PI
      rw [e1]
      exact ⟨fun _ => ⟨_, _, bi⟩, fun h => by simp [cLoop] at h, fun h => by simp [cLoop] at h⟩
    · by_cases e' : p = i + 1 + t.len
      · subst e'
        unfold PI
        rw [e3]
        exact ⟨fun h => absurd h opens_end, fun h => by simp [cEnd] at h, fun _ => ⟨_, _, bi⟩⟩
      · by_cases hl : p < i + 1 + t.len
        · exact pi_of_seg t (i + 1) p o1 e2 (by omega) (by omega)
        · exact pi_of_seg k _ p o2 e4 (by omega) (by omega)

theorem PValid.pi {cs : List Cd} (h : PValid cs) {p : Nat} (hp : p < cs.length) : PI cs p := by
  obtain ⟨t, e, h1, _⟩ := h.tree
  exact pi_of_seg t 0 p h1 (Seg.whole e) (by omega) (by have : cs.length = t.len := by rw [e]; rfl
                                                        omega)

/-- The successors of a place. -/
def succs (cs : List Cd) (k : Nat) : List Int :=
  let c := cs.getD k default
  if Opens c then
    let to := if 0 ≤ (endAt cs k).2 then (endAt cs k).2 + 1 else (endAt cs k).1 + 1
    if to = (k : Int) + 1 then [(k : Int) + 1] else [(k : Int) + 1, to]
  else if c.op = 12 then [(endAt cs (aroundAt cs k).toNat).1 + 1]
  else if c.op = 14 then
    (if (cs.getD (aroundAt cs k).toNat default).op = 13 then [aroundAt cs k + 1, (k : Int) + 1] else [(k : Int) + 1])
  else [(k : Int) + 1]
end Go.Proofs.Ytajaonejpggcbaa

namespace Go.Proofs.Ytajaonejpggcbaa
open Go.RowKit

/-- A table of rows of numbers, all of the call's own. -/
def RowsO (w : World) (B : Nat) (q : Value) (n : Nat) (S : Nat → List Int) (vs : List Value) : Prop :=
  OwnO w B 23 1 q n vs ∧ ∀ j, j < n → ∃ r, vs[j]? = some r ∧ OwnO w B 3 1 r (S j).length ((S j).map (.int .i64))
theorem RowsO.pure {w w' : World} {B n : Nat} {q : Value} {S : Nat → List Int} {vs : List Value} (h : RowsO w B q n S vs) (hp : Pure w w') : RowsO w' B q n S vs :=
  ⟨h.1.pure hp, fun j hj => let ⟨r, a, b⟩ := h.2 j hj; ⟨r, a, b.pure hp⟩⟩
theorem RowsO.push {w w' : World} {B n : Nat} {q q' r : Value} {S : Nat → List Int} {vs : List Value} (h : RowsO w B q n S vs) (hr : OwnO w B 3 1 r (S n).length ((S n).map (.int .i64))) (hq : OwnO w' B 23 1 q' (n + 1) (vs ++ [r])) (hg : w.grownBy w' q.ownBlock) :
    RowsO w' B q' (n + 1) S (vs ++ [r]) := by
  refine ⟨hq, fun j hj => ?_⟩
  have hl : vs.length = n := by have := h.1.1; omega
  by_cases e : j = n
  · subst e
    exact ⟨r, by rw [List.getElem?_append_right (by omega), hl]; simp, hr.kept hg (fun g hg2 => hr.ne h.1 (by decide) g hg2)⟩
  · obtain ⟨r', a, b⟩ := h.2 j (by omega)
    exact ⟨r', by rw [List.getElem?_append_left (by omega)]; exact a, b.kept hg (fun g hg2 => b.ne h.1 (by decide) g hg2)⟩
theorem Ints.of_ownO {w : World} {B e : Nat} {v : Value} {ys : List Int} (h : OwnO w B e 1 v ys.length (ys.map (.int .i64))) : Ints w v ys := by
  unfold Ints
  refine Cells.of_ownO h fun j hj => ?_
  have : j < ys.length := by omega
  simp [List.getD_eq_getElem?_getD, this]
theorem RowsO.rows {w : World} {B n : Nat} {q : Value} {S : Nat → List Int} {vs : List Value} (h : RowsO w B q n S vs) : IntRows w q ((List.range n).map S) := by
  have hl : ((List.range n).map S).length = n := by simp
  obtain ⟨A, c, rfl⟩ := h.1.form
  have hc := Cells.of_ownO (f := fun j => vs.getD j undef) h.1 (fun j hj => by
    obtain ⟨r, a, _⟩ := h.2 j (by omega)
    simp [List.getD_eq_getElem?_getD, a])
  obtain ⟨A', c', hv, h1, h2, h3⟩ := hc
  injection hv with e1 e2 e3
  subst e1 e3
  refine ⟨A, c, by rw [hl], by omega, h2, fun hn => ?_⟩
  rw [hl] at hn
  obtain ⟨b, o, e, hb, hc⟩ := h3 hn
  refine ⟨b, o, e, hb, fun k hk => ?_⟩
  rw [hl] at hk
  obtain ⟨r, a, b2⟩ := h.2 k hk
  refine ⟨r, ?_, ?_⟩
  · rw [hc k (by omega)]; simp [List.getD_eq_getElem?_getD, a]
  · have : ((List.range n).map S).getD k [] = S k := by simp [List.getD_eq_getElem?_getD, hk]
    rw [this]
    exact Ints.of_ownO b2

end Go.Proofs.Ytajaonejpggcbaa
