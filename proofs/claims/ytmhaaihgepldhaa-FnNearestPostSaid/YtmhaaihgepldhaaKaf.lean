/- Which programs are valid, as the reference finds it; where blocks end and which block is around a place. Where a block ends and which block is around a place, as the reference finds them. Valid programs are trees of blocks; where blocks end and which block is around a place, told by the tree. No program in sight. Blocks of valid programs; the graph of a program, plainly. No program in sight. No condition. -/
import Derived.Test.YtmhaaihgepldhaaKaa
import Derived.Test.YtmhaaihgepldhaaKac
import Derived.Test.YtmhaaihgepldhaaKae

namespace Go.Proofs.Ytmhaaihgepldhaa
open Go.RowKit

theorem cdOk_mem {cs : List Cd} {k : Nat} (hk : k < cs.length) : cs.getD k default ∈ cs := by simp [List.getD_eq_getElem?_getD, hk]
theorem cdOk_all {cs : List Cd} (h : ∀ j, j < cs.length → CdOk (cs.getD j default)) : ∀ c ∈ cs, CdOk c := by
  intro c hc
  obtain ⟨j, hj, e⟩ := List.mem_iff_getElem.1 hc
  have := h j hj
  simpa [List.getD_eq_getElem?_getD, hj, e] using this

def marks (st : List (Nat × Int)) : List Value := ((st.map fun x => Value.int .i64 x.2)).reverse
theorem marks_length (st : List (Nat × Int)) : (marks st).length = st.length := by simp [marks]
theorem marks_cons (x : Nat × Int) (r : List (Nat × Int)) : marks (x :: r) = marks r ++ [.int .i64 x.2] := by simp [marks]

set_option maxHeartbeats 1000000 in
set_option maxRecDepth 100000 in
theorem spv_any (v : Value) (cs : List Cd) (w : World) (h : Codes w v cs) (hsmall : cs.length ≤ 1048576) (B : Bool) (hB : B = true ↔ PValid cs) :
    Calls Try.prog 52 #[v] w fun e w' => e = .returned (.bool B) ∧ Pure w w' := by
  have H := Lib.hid h
  have HB := Lib.hid hB
  obtain ⟨A, c, rfl, hnc, hcm⟩ := h.form
  clear h hB
  have hO0 := Lib.hid (OwnO.empty_lit (w := w) (B := w.heap.size) (e := 3) (s := 1) (Nat.le_refl _))
  go_enter Try.func52, Try.ntmps52
  go_wp2
  go_loopg [4, 3] cs.length (fun gk i q wr => ∃ (k : Nat) (st : List (Nat × Int)), gk + k = cs.length ∧ i = .int .i64 k ∧ Pure w wr ∧ sscan (cs.take k) 0 [] = some st ∧ st.length ≤ 3 ∧ OwnO wr w.heap.size 3 1 q st.length (marks st) ∧ ∀ j, j < k → CdOk (cs.getD j default))
  case atStart => exact ⟨0, [], rfl, rfl, Pure.alloc (Pure.refl _) _, by simp [sscan], by simp, hO0.out, fun j hj => absurd hj (by omega)⟩
  case round =>
    obtain ⟨k, st, hgk, rfl, hp, hsc, hst, hown, hall⟩ := hrel
    have Hgk := Lib.hid hgk
    have Hsc := Lib.hid hsc
    have Hown := Lib.hid hown
    have Hall := Lib.hid hall
    have hkn : k ≤ cs.length := by omega
    clear hgk hsc hown hall
    obtain ⟨Aq, cq, rfl⟩ := Hown.out.form
    by_cases hlt : k < cs.length
    · obtain ⟨b, o, rfl, hb, hc⟩ := H.out.at_ hlt
      obtain ⟨cd, Hcd⟩ : ∃ cd, Hid (cs.getD k default = cd) := ⟨_, rfl⟩
      have hat := hc.keep hp hb
      rw [Hcd.out] at hat
      obtain ⟨q0, q1, q2, q3⟩ := hat
      clear hc
      have Hst := Lib.hid (sscan_take hlt Hsc.out)
      have bad : sstep st k cd = none → ¬ PValid cs := fun h1 h2 => by
        have := Hst.out
        rw [Hcd.out, h1] at this
        have := sscan_none this
        rw [h2.2.2] at this
        cases this
      have Bad := Lib.hid bad
      clear bad
      have HBf : ¬ PValid cs → false = B := fun h => by
        cases hb : B
        · rfl
        · exact absurd (HB.out.1 hb) h
      have HBF := Lib.hid HBf
      clear HBf
      by_cases hok : CdOk cd
      · have Hok := Lib.hid hok; clear hok
        have Hnext : Hid (∀ j, j < k + 1 → CdOk (cs.getD j default)) := fun j hj => by
          by_cases e : j = k
          · rw [e, Hcd.out]; exact Hok.out
          · exact Hall.out j (by omega)
        go_wp2_with fail
        refine (scv_any cd _ true (by simp [Hok.out])).mono ?_
        rintro e w1 ⟨rfl, hp1⟩
        have hp2 := hp.trans hp1
        have HO1 := Lib.hid (Hown.out.pure hp1)
        have p0 := (hp1.cell b (o + k * 4) (by have := hp.size; omega)).trans q0
        clear q0 q1 q2 q3
        by_cases hopen : cd.op = 11 ∨ cd.op = 13
        · have hd : (cd.op == 11) = true ∨ ((cd.op == 11) = false ∧ (cd.op == 13) = true) := by
            rcases hopen with h | h
            · exact .inl (by simp [h])
            · exact .inr ⟨by simp [h], by simp [h]⟩
          have hstep : sstep st k cd = if st.length < 3 then some ((k, cd.op) :: st) else none := by unfold sstep; rw [if_pos hopen]
          have Hstep := Lib.hid hstep
          clear hstep hopen
          by_cases h3 : st.length < 3
          · rcases hd with hd | ⟨hd, hd2⟩
            all_goals
              go_wp2_with (at_builtin; go_must (refine wl_append1 elInt rfl _ _ rfl w.heap.size (.slice Aq st.length cq) st.length (marks st) rfl HO1.out w1.heap.size 1 [.int .i64 cd.op] rfl rfl rfl rfl (by decide) (by omega) hp2.size ?_); intro v' w' hO' hg'; go_must (have hP' := Lib.hid (hp2.grown hg' (fun k hk => (HO1.out.lt k hk).1)); have HO' := Lib.hid hO'; obtain ⟨A2, c2, rfl⟩ := HO'.out.form; clear hO' hg'))
              go_roundg (cs.length - (k + 1))
              case measure => have := Hgk.out; omega
              case rel =>
                refine ⟨k + 1, (k, cd.op) :: st, by have := Hgk.out; omega, by go_num, hP'.out, ?_, by simp; omega, ?_, Hnext.out⟩
                · rw [Hst.out, Hcd.out, Hstep.out, if_pos h3]
                · rw [marks_cons]; exact HO'.out
          · rcases hd with hd | ⟨hd, hd2⟩
            all_goals
              go_wp2_with (at_builtin; go_must (refine wl_append1 elInt rfl _ _ rfl w.heap.size (.slice Aq st.length cq) st.length (marks st) rfl HO1.out w1.heap.size 1 [.int .i64 cd.op] rfl rfl rfl rfl (by decide) (by omega) hp2.size ?_); intro v' w' hO' hg'; go_must (have hP' := Lib.hid (hp2.grown hg' (fun k hk => (HO1.out.lt k hk).1)); have HO' := Lib.hid hO'; obtain ⟨A2, c2, rfl⟩ := HO'.out.form; clear hO' hg'))
              go_ret
              exact ⟨ret_bool (HBF.out (Bad.out (by rw [Hstep.out, if_neg (by omega)]))), hP'.out⟩
        · have hd11 : (cd.op == 11) = false := by rw [beq_eq_false_iff_ne]; omega
          have hd13 : (cd.op == 13) = false := by rw [beq_eq_false_iff_ne]; omega
          have Hopen := Lib.hid hopen
          clear hopen
          by_cases h12 : cd.op = 12
          · have hd12 : (cd.op == 12) = true := by simp [h12]
            have H12 := Lib.hid h12
            clear h12
            rcases st with _ | ⟨⟨p, m⟩, r⟩
            · simp only [List.length_nil] at *
              have hz : ((0 : Nat) : Int) - 1 < 0 := by omega
              go_wp2
              go_ret
              exact ⟨ret_bool (HBF.out (Bad.out (by unfold sstep; rw [if_neg Hopen.out, if_pos H12.out]))), hp2⟩
            · obtain ⟨g, off, c2, hq, hq1, hq2, hq3, hq4⟩ := HO1.out.formSome (by simp)
              injection hq with hq5 hq6 hq7
              subst hq5 hq7
              have hcell := HO1.out.cell r.length (by simp)
              have hmk : (marks ((p, m) :: r))[r.length]? = some (.int .i64 m) := by
                rw [marks_cons, List.getElem?_append_right (by rw [marks_length]; omega), marks_length]; simp
              rw [hmk] at hcell
              have hfz := HO1.out.frozen (off + r.length)
              have hset := Lib.hid (HO1.out.stored r.length (.int .i64 12))
              have hms : (marks ((p, m) :: r)).set r.length (.int .i64 12) = marks ((p, 12) :: r) := by
                rw [marks_cons, marks_cons, List.set_append_right _ _ (by rw [marks_length]; omega), marks_length]; simp
              have Hms := Lib.hid hms
              clear hmk hms
              simp only [List.length_cons] at hst hq1 ⊢
              have hidx : ((r.length + 1 : Nat) : Int) - 1 = r.length := by omega
              have hstep : sstep ((p, m) :: r) k cd = if m = 11 then some ((p, 12) :: r) else none := by unfold sstep; rw [if_neg Hopen.out, if_pos H12.out]
              have Hstep := Lib.hid hstep
              clear hstep
              by_cases hm : m = 11
              · have hdm : (m != 11) = false := by simp [hm]
                have Hm := Lib.hid hm; clear hm
                go_wp2
                go_roundg (cs.length - (k + 1))
                case measure => have := Hgk.out; omega
                case rel =>
                  refine ⟨k + 1, (p, 12) :: r, by have := Hgk.out; omega, by go_num, hp2.setCell hq3 _, ?_, by simp; omega, ?_, Hnext.out⟩
                  · rw [Hst.out, Hcd.out, Hstep.out, if_pos Hm.out]
                  · rw [← Hms.out]
                    exact hset.out
              · have hdm : (m != 11) = true := by simp [hm]
                have Hm := Lib.hid hm; clear hm
                go_wp2
                go_ret
                exact ⟨ret_bool (HBF.out (Bad.out (by rw [Hstep.out, if_neg Hm.out]))), hp2⟩
          · have hd12 : (cd.op == 12) = false := by simp [h12]
            have H12 := Lib.hid h12
            clear h12
            by_cases h14 : cd.op = 14
            · have hd14 : (cd.op == 14) = true := by simp [h14]
              have H14 := Lib.hid h14
              clear h14
              rcases st with _ | ⟨x, r⟩
              · simp only [List.length_nil] at *
                have hz : ((0 : Nat) : Int) - 1 < 0 := by omega
                go_wp2
                go_ret
                exact ⟨ret_bool (HBF.out (Bad.out (by unfold sstep; rw [if_neg Hopen.out, if_neg H12.out, if_pos H14.out]))), hp2⟩
              · obtain ⟨g, off, c2, hq, hq1, hq2, hq3, hq4⟩ := HO1.out.formSome (by simp)
                injection hq with hq5 hq6 hq7
                subst hq5 hq7
                have htk := HO1.out.take (k := r.length) (by simp)
                have hms : (marks (x :: r)).take (r.length * 1) = marks r := by
                  rw [marks_cons, List.take_append_of_le_length (by rw [marks_length]; omega), List.take_of_length_le (by rw [marks_length]; omega)]
                rw [hms] at htk
                have Htk := Lib.hid htk
                clear hms htk
                simp only [List.length_cons] at hst hq1 ⊢
                have hstep : sstep (x :: r) k cd = some r := by unfold sstep; rw [if_neg Hopen.out, if_neg H12.out, if_pos H14.out]
                have Hstep := Lib.hid hstep
                clear hstep
                go_wp2
                go_roundg (cs.length - (k + 1))
                case measure => have := Hgk.out; omega
                case rel =>
                  refine ⟨k + 1, r, by have := Hgk.out; omega, by go_num, hp2, ?_, by omega, Htk.out, Hnext.out⟩
                  rw [Hst.out, Hcd.out, Hstep.out]
            · have hd14 : (cd.op == 14) = false := by simp [h14]
              have H14 := Lib.hid h14
              clear h14
              go_wp2
              go_roundg (cs.length - (k + 1))
              case measure => have := Hgk.out; omega
              case rel =>
                refine ⟨k + 1, st, by have := Hgk.out; omega, by go_num, hp2, ?_, hst, HO1.out, Hnext.out⟩
                rw [Hst.out, Hcd.out]; unfold sstep; rw [if_neg Hopen.out, if_neg H12.out, if_neg H14.out]
      · have Hok := Lib.hid hok; clear hok
        go_wp2_with fail
        refine (scv_any cd _ false (by simp [Hok.out])).mono ?_
        rintro e w1 ⟨rfl, hp1⟩
        go_wp2
        go_ret
        refine ⟨ret_bool (HBF.out fun hv => Hok.out ?_), hp.trans hp1⟩
        rw [← Hcd.out]; exact hv.1 _ (cdOk_mem hlt)
    · have hkl : k = cs.length := by omega
      subst hkl
      have hsc2 : sscan cs 0 [] = some st := by have := Hsc.out; rwa [List.take_length] at this
      have Hsc2 := Lib.hid hsc2
      clear hsc2
      have fin : (decide (st.length = 0) && decide (cs.length ≤ 40)) = B := by
        rw [Bool.eq_iff_iff, HB.out]
        simp only [Bool.and_eq_true, decide_eq_true_eq]
        constructor
        · rintro ⟨h1, h2⟩
          have : st = [] := List.eq_nil_of_length_eq_zero h1
          exact ⟨cdOk_all Hall.out, h2, by rw [Hsc2.out, this]⟩
        · rintro ⟨h1, h2, h3⟩
          rw [Hsc2.out] at h3
          injection h3 with h3
          exact ⟨by rw [h3]; rfl, h2⟩
      have Fin := Lib.hid fin
      clear fin
      by_cases hs0 : st.length = 0
      · have hd : ((st.length : Int) == 0) = true := by simp [hs0]
        have Hs0 := Lib.hid hs0
        clear hs0
        go_wp2
        go_ret
        refine ⟨ret_bool ?_, hp⟩
        rw [← Fin.out, decide_eq_true Hs0.out, Bool.true_and]
        rw [Bool.eq_iff_iff]; simp only [decide_eq_true_eq]; omega
      · have hd : ((st.length : Int) == 0) = false := by rw [beq_eq_false_iff_ne]; omega
        have Hs0 := Lib.hid hs0
        clear hs0
        go_wp2
        go_ret
        refine ⟨ret_bool ?_, hp⟩
        rw [← Fin.out, decide_eq_false Hs0.out, Bool.false_and]

end Go.Proofs.Ytmhaaihgepldhaa

namespace Go.Proofs.Ytmhaaihgepldhaa
open Go.RowKit

set_option maxHeartbeats 400000 in
theorem l4Opens_any (c : Cd) (w : World) (B : Bool) (hB : B = true ↔ Opens c) :
    Calls Try.prog 53 #[cdv c] w fun e w' => e = .returned (.bool B) ∧ Pure w w' := by
  unfold cdv
  obtain ⟨o, a, b, c⟩ := c
  unfold Opens at hB
  simp only at hB ⊢
  have HB := Lib.hid hB; clear hB
  by_cases h11 : o = 11
  · have d11 : (o == 11) = true := by simp [h11]
    have H11 := Lib.hid h11; clear h11
    go_enter Try.func53, Try.ntmps53
    go_wp2
    go_ret
    exact ⟨ret_bool (HB.out.2 (.inl H11.out)).symm, (by repeat (first | assumption | exact Pure.refl _ | refine Pure.drewN ?_ _ | refine Pure.drew ?_ | refine Pure.alloc ?_ _ | refine Pure.setCell ?_ (by simp <;> omega) _))⟩
  · have d11 : (o == 11) = false := by simp [h11]
    have H11 := Lib.hid h11; clear h11
    go_enter Try.func53, Try.ntmps53
    go_wp2
    go_ret
    refine ⟨ret_bool ?_, (by repeat (first | assumption | exact Pure.refl _ | refine Pure.drewN ?_ _ | refine Pure.drew ?_ | refine Pure.alloc ?_ _ | refine Pure.setCell ?_ (by simp <;> omega) _))⟩
    rw [Bool.eq_iff_iff, HB.out, beq_iff_eq]
    exact ⟨fun h => .inr h, fun h => h.resolve_left H11.out⟩

def ret2 (a b : Int) : Ending := .returned (.tuple #[.int .i64 a, .int .i64 b])
theorem ret2_eq {a b c d : Int} (h : (a, b) = (c, d)) : (.returned (.tuple #[.int .i64 a, .int .i64 b]) : Ending) = ret2 c d := by
  injection h with h1 h2
  rw [h1, h2]; rfl

def EndPost (r : Int × Int) (w : World) (e : Ending) (w' : World) : Prop := e = .returned (.tuple #[.int .i64 r.1, .int .i64 r.2]) ∧ Pure w w'

set_option maxHeartbeats 1000000 in
set_option maxRecDepth 100000 in
theorem l4End_any (v : Value) (cs : List Cd) (p : Nat) (r : Int × Int) (w : World) (h : Codes w v cs) (_hsmall : cs.length ≤ 1048576) (hp : p < cs.length) (hr : endAt cs p = r) :
    Calls Try.prog 70 #[v, .int .i64 p] w (EndPost r w) := by
  have H := Lib.hid h
  have HR := Lib.hid hr
  obtain ⟨A, c, rfl, hnc, hcm⟩ := h.form
  clear h hr
  go_enter Try.func70, Try.ntmps70
  go_wp2
  go_loopg [8, 6, 7] (cs.length - (p + 1)) (fun gk i d ot wr => ∃ (k d' : Nat) (o : Int), gk + k = cs.length ∧ i = .int .i64 k ∧ d = .int .i64 d' ∧ ot = .int .i64 o ∧ Pure w wr ∧ d' ≤ k ∧ endAt cs p = eScan (cs.drop k) k d' o)
  case atStart => exact ⟨p + 1, 0, -1, Nat.sub_add_cancel (show p + 1 ≤ cs.length from hp), by go_num, rfl, rfl, Pure.refl _, by omega, rfl⟩
  case round =>
    obtain ⟨k, d, ot, hgk, rfl, rfl, rfl, hp, hdk, hsc⟩ := hrel
    have Hgk := Lib.hid hgk
    have Hsc := Lib.hid hsc
    have hkn : k ≤ cs.length := by omega
    clear hgk hsc
    by_cases hlt : k < cs.length
    · obtain ⟨b, o, rfl, hb, hc⟩ := H.out.at_ hlt
      obtain ⟨cd, Hcd⟩ : ∃ cd, Hid (cs.getD k default = cd) := ⟨_, rfl⟩
      have hat := hc.keep hp hb
      rw [Hcd.out] at hat
      obtain ⟨q0, q1, q2, q3⟩ := hat
      clear hc
      have hdr := drop_cons hlt
      rw [Hcd.out] at hdr
      have hst := Hsc.out
      rw [hdr] at hst
      have Hst := Lib.hid hst
      clear hst hdr
      by_cases hop : Opens cd
      · go_wp2_with fail
        refine (l4Opens_any cd _ true (by simp [hop])).mono ?_
        rintro e w1 ⟨rfl, hp1⟩
        have hp2 := hp.trans hp1
        have Hop := Lib.hid hop
        clear hop q0 q1 q2 q3
        go_wp2
        go_roundg (cs.length - (k + 1))
        case measure => have := Hgk.out; omega
        case rel =>
          refine ⟨k + 1, d + 1, ot, by have := Hgk.out; omega, by go_num, by go_num, rfl, hp2, by omega, ?_⟩
          rw [Hst.out]; simp only [eScan, if_pos Hop.out]
      · go_wp2_with fail
        refine (l4Opens_any cd _ false (by simp [hop])).mono ?_
        rintro e w1 ⟨rfl, hp1⟩
        have hp2 := hp.trans hp1
        have p0 := (hp1.cell b (o + k * 4) (by have := hp.size; omega)).trans q0
        have Hop := Lib.hid hop
        clear hop q0 q1 q2 q3
        by_cases h12 : cd.op = 12
        · have d12 : (cd.op == 12) = true := by simp [h12]
          have d14 : (cd.op == 14) = false := by simp [h12]
          have H12 := Lib.hid h12
          clear h12
          by_cases hd0 : d = 0
          · subst hd0
            go_wp2
            go_roundg (cs.length - (k + 1))
            case measure => have := Hgk.out; omega
            case rel =>
              refine ⟨k + 1, 0, k, by have := Hgk.out; omega, by go_num, by go_num, rfl, hp2, by omega, ?_⟩
              rw [Hst.out]; simp only [eScan, if_neg Hop.out, H12.out, true_and, if_true]
          · have dd : ((d : Int) == 0) = false := by rw [beq_eq_false_iff_ne]; omega
            have Hd0 := Lib.hid hd0
            clear hd0
            go_wp2
            go_roundg (cs.length - (k + 1))
            case measure => have := Hgk.out; omega
            case rel =>
              refine ⟨k + 1, d, ot, by have := Hgk.out; omega, by go_num, by go_num, rfl, hp2, by omega, ?_⟩
              rw [Hst.out]; simp only [eScan, if_neg Hop.out, H12.out, Hd0.out]; simp
        · have d12 : (cd.op == 12) = false := by simp [h12]
          have H12 := Lib.hid h12
          clear h12
          by_cases h14 : cd.op = 14
          · have d14 : (cd.op == 14) = true := by simp [h14]
            have H14 := Lib.hid h14
            clear h14
            by_cases hd0 : d = 0
            · subst hd0
              have hres : r = ((k : Int), ot) := by
                rw [← HR.out, Hst.out]; unfold eScan; rw [if_neg Hop.out, if_neg (fun h => H12.out h.1), if_pos ⟨H14.out, rfl⟩]
              have Hres := Lib.hid hres
              clear hres
              go_wp2
              refine bodyPost_ret (results_tmp2 rfl _ _ _) rfl ⟨?_, hp2⟩
              rw [Hres.out]; rfl
            · have dd : ((d : Int) == 0) = false := by rw [beq_eq_false_iff_ne]; omega
              have Hd0 := Lib.hid hd0
              have hd1 : 1 ≤ d := by omega
              clear hd0
              go_wp2
              go_roundg (cs.length - (k + 1))
              case measure => have := Hgk.out; omega
              case rel =>
                refine ⟨k + 1, d - 1, ot, by have := Hgk.out; omega, by go_num, by go_num, rfl, hp2, by omega, ?_⟩
                rw [Hst.out]; simp only [eScan, if_neg Hop.out, H14.out, Hd0.out]; simp
          · have d14 : (cd.op == 14) = false := by simp [h14]
            have H14 := Lib.hid h14
            clear h14
            go_wp2
            go_roundg (cs.length - (k + 1))
            case measure => have := Hgk.out; omega
            case rel =>
              refine ⟨k + 1, d, ot, by have := Hgk.out; omega, by go_num, by go_num, rfl, hp2, by omega, ?_⟩
              rw [Hst.out]; simp only [eScan, if_neg Hop.out, if_neg (fun h : cd.op = 12 ∧ d = 0 => H12.out h.1), if_neg (fun h : cd.op = 14 ∧ d = 0 => H14.out h.1), if_neg H14.out]
    · have hkl : k = cs.length := by omega
      subst hkl
      have hres : r = (-1, ot) := by
        rw [← HR.out, Hsc.out, List.drop_length]; rfl
      have Hres := Lib.hid hres
      clear hres
      go_wp2
      refine bodyPost_ret (results_tmp2 rfl _ _ _) rfl ⟨?_, hp⟩
      rw [Hres.out]; rfl

set_option maxHeartbeats 1000000 in
set_option maxRecDepth 100000 in
theorem l4Around_any (v : Value) (cs : List Cd) (p : Nat) (r : Int) (w : World) (h : Codes w v cs) (_hsmall : cs.length ≤ 1048576) (hp : p ≤ cs.length) (hr : aroundAt cs p = r) :
    Calls Try.prog 71 #[v, .int .i64 p] w fun e w' => e = .returned (.int .i64 r) ∧ Pure w w' := by
  have H := Lib.hid h
  have HR := Lib.hid hr
  obtain ⟨A, c, rfl, hnc, hcm⟩ := h.form
  clear h hr
  go_enter Try.func71, Try.ntmps71
  go_wp2
  go_loopg [6, 5] p (fun gk i d wr => ∃ (d' : Nat), gk ≤ p ∧ i = .int .i64 ((gk : Int) - 1) ∧ d = .int .i64 d' ∧ Pure w wr ∧ d' + gk ≤ p ∧ aroundAt cs p = bScan cs gk d')
  case atStart => exact ⟨0, Nat.le_refl _, rfl, rfl, Pure.refl _, by omega, rfl⟩
  case round =>
    obtain ⟨d, hgp, rfl, rfl, hp1, hdk, hsc⟩ := hrel
    rcases gk with _ | k
    · have hres : r = -1 := by rw [← HR.out, hsc]; rfl
      have Hres := Lib.hid hres
      clear hres hsc
      have hlt : ((0 : Nat) : Int) - 1 < 0 := by omega
      go_wp2
      go_ret
      exact ⟨ret_int Hres.out.symm, hp1⟩
    · have hlt : k < cs.length := by omega
      have hk1 : ((k + 1 : Nat) : Int) - 1 = k := by omega
      rw [hk1]
      clear hk1
      simp only [bScan] at hsc
      obtain ⟨b, o, rfl, hb, hc⟩ := H.out.at_ hlt
      obtain ⟨cd, Hcd⟩ : ∃ cd, Hid (cs.getD k default = cd) := ⟨_, rfl⟩
      have hat := hc.keep hp1 hb
      rw [Hcd.out] at hat hsc
      have Hsc := Lib.hid hsc
      obtain ⟨q0, q1, q2, q3⟩ := hat
      clear hc hsc
      by_cases h14 : cd.op = 14
      · have d14 : (cd.op == 14) = true := by simp [h14]
        have hop : ¬ Opens cd := by unfold Opens; omega
        have H14 := Lib.hid h14
        clear h14
        go_wp2_with fail
        refine (l4Opens_any cd _ false (by simp [hop])).mono ?_
        rintro e w1 ⟨rfl, hp2⟩
        have hp3 := hp1.trans hp2
        have Hop := Lib.hid hop
        clear hop q0 q1 q2 q3
        go_wp2
        go_roundg k
        case measure => omega
        case rel =>
          refine ⟨d + 1, by omega, by go_num, by go_num, hp3, by omega, ?_⟩
          rw [Hsc.out, if_pos H14.out]
      · have d14 : (cd.op == 14) = false := by simp [h14]
        have H14 := Lib.hid h14
        clear h14
        by_cases hop : Opens cd
        · by_cases hd0 : d = 0
          · subst hd0
            have hres : r = (k : Int) := by rw [← HR.out, Hsc.out, if_neg H14.out, if_pos hop, if_pos rfl]
            have Hres := Lib.hid hres
            clear hres
            go_wp2_with fail
            refine (l4Opens_any cd _ true (by simp [hop])).mono ?_
            rintro e w1 ⟨rfl, hp2⟩
            have hp3 := hp1.trans hp2
            clear hop q0 q1 q2 q3
            go_wp2
            go_ret
            exact ⟨ret_int Hres.out.symm, hp3⟩
          · have dd : ((d : Int) == 0) = false := by rw [beq_eq_false_iff_ne]; omega
            have Hd0 := Lib.hid hd0
            have hd1 : 1 ≤ d := by omega
            clear hd0
            go_wp2_with fail
            refine (l4Opens_any cd _ true (by simp [hop])).mono ?_
            rintro e w1 ⟨rfl, hp2⟩
            have hp3 := hp1.trans hp2
            have Hop := Lib.hid hop
            clear hop q0 q1 q2 q3
            go_wp2
            go_roundg k
            case measure => omega
            case rel =>
              refine ⟨d - 1, by omega, by go_num, by go_num, hp3, by omega, ?_⟩
              rw [Hsc.out, if_neg H14.out, if_pos Hop.out, if_neg Hd0.out]
        · go_wp2_with fail
          refine (l4Opens_any cd _ false (by simp [hop])).mono ?_
          rintro e w1 ⟨rfl, hp2⟩
          have hp3 := hp1.trans hp2
          have Hop := Lib.hid hop
          clear hop q0 q1 q2 q3
          go_wp2
          go_roundg k
          case measure => omega
          case rel =>
            refine ⟨d, by omega, by go_num, by go_num, hp3, by omega, ?_⟩
            rw [Hsc.out, if_neg H14.out, if_neg Hop.out]

end Go.Proofs.Ytmhaaihgepldhaa

namespace Go.Proofs.Ytmhaaihgepldhaa

inductive Tr where
  | nil
  | op (c : Cd) (k : Tr)
  | ite (a : Int) (t k : Tr)
  | itee (a : Int) (t e k : Tr)
  | loop (a b : Int) (t k : Tr)

def cIf (a : Int) : Cd := ⟨11, a, 0, 0⟩
def cElse : Cd := ⟨12, 0, 0, 0⟩
def cEnd : Cd := ⟨14, 0, 0, 0⟩
def cLoop (a b : Int) : Cd := ⟨13, a, b, 0⟩

def Tr.flat : Tr → List Cd
  | .nil => []
  | .op c k => c :: k.flat
  | .ite a t k => cIf a :: (t.flat ++ cEnd :: k.flat)
  | .itee a t e k => cIf a :: (t.flat ++ cElse :: (e.flat ++ cEnd :: k.flat))
  | .loop a b t k => cLoop a b :: (t.flat ++ cEnd :: k.flat)
def Tr.len (t : Tr) : Nat := t.flat.length
def Tr.depth : Tr → Nat
  | .nil => 0
  | .op _ k => k.depth
  | .ite _ t k => max (t.depth + 1) k.depth
  | .itee _ t e k => max (max (t.depth + 1) (e.depth + 1)) k.depth
  | .loop _ _ t k => max (t.depth + 1) k.depth
def Plain (c : Cd) : Prop := CdOk c ∧ c.op ≠ 11 ∧ c.op ≠ 12 ∧ c.op ≠ 13 ∧ c.op ≠ 14
def Tr.Ok : Tr → Prop
  | .nil => True
  | .op c k => Plain c ∧ k.Ok
  | .ite a t k => Reg a ∧ t.Ok ∧ k.Ok
  | .itee a t e k => Reg a ∧ t.Ok ∧ e.Ok ∧ k.Ok
  | .loop a b t k => Reg a ∧ (1 ≤ b ∧ b ≤ 4) ∧ t.Ok ∧ k.Ok

/-- What is still to come, with some blocks open. -/
def Rest : Nat → List (Nat × Int) → List Cd → Prop
  | d, [], cs => ∃ t : Tr, cs = t.flat ∧ t.Ok ∧ t.depth + d ≤ 3
  | d, (_, m) :: st, cs =>
    (∃ (t : Tr) (r : List Cd), cs = t.flat ++ cEnd :: r ∧ t.Ok ∧ t.depth + (d + st.length + 1) ≤ 3 ∧ Rest d st r) ∨
    (m = 11 ∧ ∃ (t e : Tr) (r : List Cd), cs = t.flat ++ cElse :: (e.flat ++ cEnd :: r) ∧ t.Ok ∧ e.Ok ∧ t.depth + (d + st.length + 1) ≤ 3 ∧ e.depth + (d + st.length + 1) ≤ 3 ∧ Rest d st r)

theorem Rest.cons {d : Nat} {st : List (Nat × Int)} {cs pre : List Cd} (N : Tr → Tr) (h : Rest d st cs) (hf : ∀ t, (N t).flat = pre ++ t.flat) (hok : ∀ t, t.Ok → (N t).Ok) (hd : ∀ t, t.depth + (d + st.length) ≤ 3 → (N t).depth + (d + st.length) ≤ 3) : Rest d st (pre ++ cs) := by
  cases st with
  | nil =>
    obtain ⟨t, rfl, h1, h2⟩ := h
    exact ⟨N t, (hf t).symm, hok t h1, by have := hd t (by simpa using h2); simpa using this⟩
  | cons x st =>
    obtain ⟨p, m⟩ := x
    have hl : d + ((p, m) :: st).length = d + st.length + 1 := by simp; omega
    rcases h with ⟨t, r, rfl, h1, h2, h3⟩ | ⟨hm, t, e, r, rfl, h1, h2, h3, h4, h5⟩
    · exact .inl ⟨N t, r, by rw [hf]; simp, hok t h1, by have := hd t (by omega); omega, h3⟩
    · exact .inr ⟨hm, N t, e, r, by rw [hf]; simp, hok t h1, h2, by have := hd t (by omega); omega, h4, h5⟩

theorem code_end {c : Cd} (h : CdOk c) (ho : c.op = 14) : c = cEnd := by
  obtain ⟨o, a, b, c⟩ := c
  unfold CdOk at h
  simp only at h ho
  subst ho
  have : a = 0 ∧ b = 0 ∧ c = 0 := by omega
  simp [cEnd, this]
theorem code_else {c : Cd} (h : CdOk c) (ho : c.op = 12) : c = cElse := by
  obtain ⟨o, a, b, c⟩ := c
  unfold CdOk at h
  simp only at h ho
  subst ho
  have : a = 0 ∧ b = 0 ∧ c = 0 := by omega
  simp [cElse, this]
theorem code_if {c : Cd} (h : CdOk c) (ho : c.op = 11) : c = cIf c.a ∧ Reg c.a := by
  obtain ⟨o, a, b, c⟩ := c
  unfold CdOk at h
  simp only at h ho
  subst ho
  have : Reg a ∧ b = 0 ∧ c = 0 := by
    rcases h with h | h | h | h | h | h
    · omega
    · exact h.2
    · omega
    · omega
    · omega
    · omega
  simp [cIf, this]
theorem code_loop {c : Cd} (h : CdOk c) (ho : c.op = 13) : c = cLoop c.a c.b ∧ Reg c.a ∧ (1 ≤ c.b ∧ c.b ≤ 4) := by
  obtain ⟨o, a, b, c⟩ := c
  unfold CdOk at h
  simp only at h ho
  subst ho
  have : Reg a ∧ (1 ≤ b ∧ b ≤ 4) ∧ c = 0 := by
    rcases h with h | h | h | h | h | h
    · omega
    · omega
    · omega
    · omega
    · exact h.2
    · omega
  simp [cLoop, this]

theorem rest_of_scan : ∀ (cs : List Cd) (k : Nat) (st : List (Nat × Int)), (∀ c ∈ cs, CdOk c) → st.length ≤ 3 → sscan cs k st = some [] → Rest 0 st cs
  | [], k, st, _, _, h => by
    simp only [sscan, Option.some.injEq] at h
    subst h
    exact ⟨.nil, rfl, trivial, by simp [Tr.depth]⟩
  | c :: cs, k, st, hok, hl, h => by
    have hc := hok c (by simp)
    have hcs : ∀ c ∈ cs, CdOk c := fun x hx => hok x (by simp [hx])
    simp only [sscan] at h
    by_cases h1 : Opens c
    · rw [sstep_open h1] at h
      by_cases h3 : st.length < 3
      · rw [if_pos h3] at h
        have ih := rest_of_scan cs (k + 1) ((k, c.op) :: st) hcs (by simp; omega) h
        rcases ih with ⟨t, r, rfl, h4, h5, h6⟩ | ⟨hm, t, e, r, rfl, h4, h5, h6, h7, h8⟩
        · rcases h1 with h1 | h1
          · obtain ⟨e1, e2⟩ := code_if hc h1
            have := Rest.cons (pre := cIf c.a :: (t.flat ++ [cEnd])) (fun k => .ite c.a t k) h6 (fun k => by simp [Tr.flat]) (fun k hk => ⟨e2, h4, hk⟩) (fun k hk => by simp only [Tr.depth]; omega)
            rw [e1]
            simpa [cIf] using this
          · obtain ⟨e1, e2, e3⟩ := code_loop hc h1
            have := Rest.cons (pre := cLoop c.a c.b :: (t.flat ++ [cEnd])) (fun k => .loop c.a c.b t k) h6 (fun k => by simp [Tr.flat]) (fun k hk => ⟨e2, e3, h4, hk⟩) (fun k hk => by simp only [Tr.depth]; omega)
            rw [e1]
            simpa [cLoop] using this
        · have h1 : c.op = 11 := hm
          obtain ⟨e1, e2⟩ := code_if hc h1
          have := Rest.cons (pre := cIf c.a :: (t.flat ++ cElse :: (e.flat ++ [cEnd]))) (fun k => .itee c.a t e k) h8 (fun k => by simp [Tr.flat]) (fun k hk => ⟨e2, h4, h5, hk⟩) (fun k hk => by simp only [Tr.depth]; omega)
          rw [e1]
          simpa [cIf] using this
      · rw [if_neg h3] at h; cases h
    · by_cases h2 : c.op = 12
      · rw [sstep_else h2] at h
        cases st with
        | nil => cases h
        | cons x st =>
          obtain ⟨p, m⟩ := x
          simp only at h
          by_cases hm : m = 11
          · rw [if_pos hm] at h
            have ih := rest_of_scan cs (k + 1) ((p, 12) :: st) hcs (by simpa using hl) h
            rw [code_else hc h2]
            rcases ih with ⟨t, r, rfl, h4, h5, h6⟩ | ⟨hm2, _⟩
            · exact .inr ⟨hm, .nil, t, r, by simp [Tr.flat], trivial, h4, by simp [Tr.depth] at hl ⊢; omega, h5, h6⟩
            · omega
          · rw [if_neg hm] at h; cases h
      · by_cases h4 : c.op = 14
        · rw [sstep_end h4] at h
          cases st with
          | nil => cases h
          | cons x st =>
            obtain ⟨p, m⟩ := x
            have ih := rest_of_scan cs (k + 1) st hcs (by simp at hl; omega) h
            rw [code_end hc h4]
            exact .inl ⟨.nil, cs, by simp [Tr.flat], trivial, by simp [Tr.depth] at hl ⊢; omega, ih⟩
        · rw [sstep_other h1 h2 h4] at h
          have ih := rest_of_scan cs (k + 1) st hcs hl h
          have := Rest.cons (pre := [c]) (fun k => .op c k) ih (fun k => by simp [Tr.flat]) (fun k hk => ⟨⟨hc, fun e => h1 (.inl e), h2, fun e => h1 (.inr e), h4⟩, hk⟩) (fun k hk => by simpa [Tr.depth] using hk)
          simpa using this

theorem PValid.tree {cs : List Cd} (h : PValid cs) : ∃ t : Tr, cs = t.flat ∧ t.Ok ∧ t.depth ≤ 3 := by
  obtain ⟨t, h1, h2, h3⟩ := rest_of_scan cs 0 [] h.1 (by simp) h.2.2
  exact ⟨t, h1, h2, by omega⟩

/-- The tree t lies in the program from place i on. -/
def Seg (cs : List Cd) (i : Nat) (t : Tr) : Prop := ∃ post, cs.drop i = t.flat ++ post
theorem Seg.whole {cs : List Cd} {t : Tr} (h : cs = t.flat) : Seg cs 0 t := ⟨[], by simp [h]⟩

theorem drop_at {cs pre post : List Cd} {i : Nat} (h : cs.drop i = pre ++ post) : cs.drop (i + pre.length) = post := by
  rw [← List.drop_drop, h]; simp
theorem getD_at {cs post : List Cd} {c : Cd} {i : Nat} (h : cs.drop i = c :: post) : cs.getD i default = c ∧ i < cs.length := by
  have h1 : (cs.drop i)[0]? = some c := by rw [h]; rfl
  rw [List.getElem?_drop, Nat.add_zero] at h1
  refine ⟨by simp [List.getD_eq_getElem?_getD, h1], ?_⟩
  exact (List.getElem?_eq_some_iff.1 h1).1

section
variable {cs : List Cd} {i : Nat}
theorem Seg.op {c : Cd} {k : Tr} (h : Seg cs i (.op c k)) : cs.getD i default = c ∧ i < cs.length ∧ Seg cs (i + 1) k := by
  obtain ⟨post, h⟩ := h
  have h1 := getD_at (c := c) (post := k.flat ++ post) (by simpa [Tr.flat] using h)
  exact ⟨h1.1, h1.2, post, drop_at (pre := [c]) (by simpa [Tr.flat] using h)⟩
theorem Seg.ite {a : Int} {t k : Tr} (h : Seg cs i (.ite a t k)) : cs.getD i default = cIf a ∧ Seg cs (i + 1) t ∧ cs.getD (i + 1 + t.len) default = cEnd ∧ i + 1 + t.len < cs.length ∧ Seg cs (i + 1 + t.len + 1) k := by
  obtain ⟨post, h⟩ := h
  have h1 : cs.drop (i + 1) = t.flat ++ (cEnd :: (k.flat ++ post)) := drop_at (pre := [cIf a]) (by simpa [Tr.flat] using h)
  have h2 := drop_at h1
  have h3 := getD_at h2
  exact ⟨(getD_at (c := cIf a) (post := t.flat ++ (cEnd :: (k.flat ++ post))) (by simpa [Tr.flat] using h)).1, ⟨_, h1⟩, h3.1, h3.2, post, drop_at (pre := [cEnd]) (show cs.drop (i + 1 + t.len) = [cEnd] ++ (k.flat ++ post) from h2)⟩
theorem Seg.itee {a : Int} {t e k : Tr} (h : Seg cs i (.itee a t e k)) : cs.getD i default = cIf a ∧ Seg cs (i + 1) t ∧ cs.getD (i + 1 + t.len) default = cElse ∧ Seg cs (i + 1 + t.len + 1) e ∧ cs.getD (i + 1 + t.len + 1 + e.len) default = cEnd ∧ i + 1 + t.len + 1 + e.len < cs.length ∧ Seg cs (i + 1 + t.len + 1 + e.len + 1) k := by
  obtain ⟨post, h⟩ := h
  have h1 : cs.drop (i + 1) = t.flat ++ (cElse :: (e.flat ++ (cEnd :: (k.flat ++ post)))) := drop_at (pre := [cIf a]) (by simpa [Tr.flat] using h)
  have h2 := drop_at h1
  have h3 := getD_at h2
  have h4 : cs.drop (i + 1 + t.flat.length + 1) = e.flat ++ (cEnd :: (k.flat ++ post)) := drop_at (pre := [cElse]) (by simpa using h2)
  have h5 := drop_at h4
  have h6 := getD_at h5
  exact ⟨(getD_at (c := cIf a) (post := t.flat ++ (cElse :: (e.flat ++ (cEnd :: (k.flat ++ post))))) (by simpa [Tr.flat] using h)).1, ⟨_, h1⟩, h3.1, ⟨_, h4⟩, h6.1, h6.2, post, drop_at (pre := [cEnd]) (show cs.drop (i + 1 + t.len + 1 + e.len) = [cEnd] ++ (k.flat ++ post) from h5)⟩
theorem Seg.loop {a b : Int} {t k : Tr} (h : Seg cs i (.loop a b t k)) : cs.getD i default = cLoop a b ∧ Seg cs (i + 1) t ∧ cs.getD (i + 1 + t.len) default = cEnd ∧ i + 1 + t.len < cs.length ∧ Seg cs (i + 1 + t.len + 1) k := by
  obtain ⟨post, h⟩ := h
  have h1 : cs.drop (i + 1) = t.flat ++ (cEnd :: (k.flat ++ post)) := drop_at (pre := [cLoop a b]) (by simpa [Tr.flat] using h)
  have h2 := drop_at h1
  have h3 := getD_at h2
  exact ⟨(getD_at (c := cLoop a b) (post := t.flat ++ (cEnd :: (k.flat ++ post))) (by simpa [Tr.flat] using h)).1, ⟨_, h1⟩, h3.1, h3.2, post, drop_at (pre := [cEnd]) (show cs.drop (i + 1 + t.len) = [cEnd] ++ (k.flat ++ post) from h2)⟩
end

theorem Tr.len_op (c : Cd) (k : Tr) : (Tr.op c k).len = k.len + 1 := by simp [Tr.len, Tr.flat]
theorem Tr.len_ite (a : Int) (t k : Tr) : (Tr.ite a t k).len = 1 + t.len + 1 + k.len := by simp [Tr.len, Tr.flat]; omega
theorem Tr.len_itee (a : Int) (t e k : Tr) : (Tr.itee a t e k).len = 1 + t.len + 1 + e.len + 1 + k.len := by simp [Tr.len, Tr.flat]; omega
theorem Tr.len_loop (a b : Int) (t k : Tr) : (Tr.loop a b t k).len = 1 + t.len + 1 + k.len := by simp [Tr.len, Tr.flat]; omega

theorem opens_if (a : Int) : Opens (cIf a) := .inl rfl
theorem opens_loop (a b : Int) : Opens (cLoop a b) := .inr rfl
theorem opens_else : ¬ Opens cElse := by unfold Opens cElse; simp
theorem opens_end : ¬ Opens cEnd := by unfold Opens cEnd; simp

theorem eScan_flat : ∀ (t : Tr) (r : List Cd) (k d : Nat) (o : Int), t.Ok → eScan (t.flat ++ r) k d o = eScan r (k + t.len) d o
  | .nil, r, k, d, o, _ => by simp [Tr.flat, Tr.len]
  | .op c t, r, k, d, o, h => by
    obtain ⟨⟨_, h1, h2, h3, h4⟩, h5⟩ := h
    simp only [Tr.flat, List.cons_append]
    rw [eScan_cons, if_neg (by unfold Opens; omega), if_neg (fun h => h2 h.1), if_neg (fun h => h4 h.1), if_neg h4, eScan_flat t r _ _ _ h5, Tr.len_op]
    congr 1; omega
  | .ite a t k, r, p, d, o, h => by
    obtain ⟨_, h1, h2⟩ := h
    simp only [Tr.flat, List.cons_append, List.append_assoc]
    rw [eScan_cons, if_pos (opens_if a), eScan_flat t _ _ _ _ h1, eScan_cons, if_neg opens_end, if_neg (fun h => by cases h.2), if_neg (fun h => by cases h.2), if_pos (show cEnd.op = 14 from rfl), Nat.add_sub_cancel, eScan_flat k _ _ _ _ h2, Tr.len_ite]
    congr 1; omega
  | .itee a t e k, r, p, d, o, h => by
    obtain ⟨_, h1, h2, h3⟩ := h
    simp only [Tr.flat, List.cons_append, List.append_assoc]
    rw [eScan_cons, if_pos (opens_if a), eScan_flat t _ _ _ _ h1, eScan_cons, if_neg opens_else, if_neg (fun h => by cases h.2), if_neg (fun h => by cases h.2), if_neg (by simp [cElse]), eScan_flat e _ _ _ _ h2, eScan_cons, if_neg opens_end, if_neg (fun h => by cases h.2), if_neg (fun h => by cases h.2), if_pos (show cEnd.op = 14 from rfl), Nat.add_sub_cancel, eScan_flat k _ _ _ _ h3, Tr.len_itee]
    congr 1; omega
  | .loop a b t k, r, p, d, o, h => by
    obtain ⟨_, _, h1, h2⟩ := h
    simp only [Tr.flat, List.cons_append, List.append_assoc]
    rw [eScan_cons, if_pos (opens_loop a b), eScan_flat t _ _ _ _ h1, eScan_cons, if_neg opens_end, if_neg (fun h => by cases h.2), if_neg (fun h => by cases h.2), if_pos (show cEnd.op = 14 from rfl), Nat.add_sub_cancel, eScan_flat k _ _ _ _ h2, Tr.len_loop]
    congr 1; omega

theorem bScan_succ (cs : List Cd) (k d : Nat) : bScan cs (k + 1) d = if (cs.getD k default).op = 14 then bScan cs k (d + 1) else if Opens (cs.getD k default) then (if d = 0 then (k : Int) else bScan cs k (d - 1)) else bScan cs k d := rfl

theorem bScan_flat {cs : List Cd} : ∀ (t : Tr) (i d : Nat), t.Ok → Seg cs i t → bScan cs (i + t.len) d = bScan cs i d
  | .nil, i, d, _, _ => by simp [Tr.flat, Tr.len]
  | .op c k, i, d, h, hs => by
    obtain ⟨⟨_, h1, h2, h3, h4⟩, h5⟩ := h
    obtain ⟨e1, _, e2⟩ := hs.op
    rw [Tr.len_op, show i + (k.len + 1) = (i + 1) + k.len by omega, bScan_flat k _ _ h5 e2, bScan_succ, e1, if_neg h4, if_neg (by unfold Opens; omega)]
  | .ite a t k, i, d, h, hs => by
    obtain ⟨_, h1, h2⟩ := h
    obtain ⟨e1, e2, e3, _, e4⟩ := hs.ite
    rw [Tr.len_ite, show i + (1 + t.len + 1 + k.len) = (i + 1 + t.len + 1) + k.len by omega, bScan_flat k _ _ h2 e4, bScan_succ, e3, if_pos (show cEnd.op = 14 from rfl), bScan_flat t _ _ h1 e2, bScan_succ, e1, if_neg (by simp [cIf]), if_pos (opens_if a), if_neg (by omega), Nat.add_sub_cancel]
  | .itee a t e k, i, d, h, hs => by
    obtain ⟨_, h1, h2, h3⟩ := h
    obtain ⟨e1, e2, e3, e4, e5, _, e6⟩ := hs.itee
    rw [Tr.len_itee, show i + (1 + t.len + 1 + e.len + 1 + k.len) = (i + 1 + t.len + 1 + e.len + 1) + k.len by omega, bScan_flat k _ _ h3 e6, bScan_succ, e5, if_pos (show cEnd.op = 14 from rfl), bScan_flat e _ _ h2 e4, bScan_succ, e3, if_neg (by simp [cElse]), if_neg opens_else, bScan_flat t _ _ h1 e2, bScan_succ, e1, if_neg (by simp [cIf]), if_pos (opens_if a), if_neg (by omega), Nat.add_sub_cancel]
  | .loop a b t k, i, d, h, hs => by
    obtain ⟨_, _, h1, h2⟩ := h
    obtain ⟨e1, e2, e3, _, e4⟩ := hs.loop
    rw [Tr.len_loop, show i + (1 + t.len + 1 + k.len) = (i + 1 + t.len + 1) + k.len by omega, bScan_flat k _ _ h2 e4, bScan_succ, e3, if_pos (show cEnd.op = 14 from rfl), bScan_flat t _ _ h1 e2, bScan_succ, e1, if_neg (by simp [cLoop]), if_pos (opens_loop a b), if_neg (by omega), Nat.add_sub_cancel]

/-- What the tree tells of a block that opens at place i. -/
theorem end_ite {cs : List Cd} {i : Nat} {a : Int} {t k : Tr} (h : (Tr.ite a t k).Ok) (hs : Seg cs i (.ite a t k)) : endAt cs i = (((i + 1 + t.len : Nat) : Int), -1) ∧ aroundAt cs (i + 1 + t.len) = i := by
  obtain ⟨_, h1, h2⟩ := h
  obtain ⟨e1, e2, e3, _, e4⟩ := hs.ite
  obtain ⟨post, hp⟩ := hs
  have h3 : cs.drop (i + 1) = t.flat ++ (cEnd :: (k.flat ++ post)) := drop_at (pre := [cIf a]) (by simpa [Tr.flat] using hp)
  constructor
  · unfold endAt; rw [h3, eScan_flat t _ _ _ _ h1, eScan_cons, if_neg opens_end, if_neg (fun h => by simp [cEnd] at h), if_pos ⟨rfl, rfl⟩]
  · unfold aroundAt; rw [bScan_flat t _ _ h1 e2, bScan_succ, e1, if_neg (by simp [cIf]), if_pos (opens_if a), if_pos rfl]
theorem end_itee {cs : List Cd} {i : Nat} {a : Int} {t e k : Tr} (h : (Tr.itee a t e k).Ok) (hs : Seg cs i (.itee a t e k)) :
    endAt cs i = (((i + 1 + t.len + 1 + e.len : Nat) : Int), ((i + 1 + t.len : Nat) : Int)) ∧ aroundAt cs (i + 1 + t.len) = i ∧ aroundAt cs (i + 1 + t.len + 1 + e.len) = i := by
  obtain ⟨_, h1, h2, h3⟩ := h
  obtain ⟨e1, e2, e3, e4, e5, _, e6⟩ := hs.itee
  obtain ⟨post, hp⟩ := hs
  have h4 : cs.drop (i + 1) = t.flat ++ (cElse :: (e.flat ++ (cEnd :: (k.flat ++ post)))) := drop_at (pre := [cIf a]) (by simpa [Tr.flat] using hp)
  refine ⟨?_, ?_, ?_⟩
  · unfold endAt; rw [h4, eScan_flat t _ _ _ _ h1, eScan_cons, if_neg opens_else, if_pos ⟨rfl, rfl⟩, eScan_flat e _ _ _ _ h2, eScan_cons, if_neg opens_end, if_neg (fun h => by simp [cEnd] at h), if_pos ⟨rfl, rfl⟩]
  · unfold aroundAt; rw [bScan_flat t _ _ h1 e2, bScan_succ, e1, if_neg (by simp [cIf]), if_pos (opens_if a), if_pos rfl]
  · unfold aroundAt; rw [bScan_flat e _ _ h2 e4, bScan_succ, e3, if_neg (by simp [cElse]), if_neg opens_else, bScan_flat t _ _ h1 e2, bScan_succ, e1, if_neg (by simp [cIf]), if_pos (opens_if a), if_pos rfl]
theorem end_loop {cs : List Cd} {i : Nat} {a b : Int} {t k : Tr} (h : (Tr.loop a b t k).Ok) (hs : Seg cs i (.loop a b t k)) : endAt cs i = (((i + 1 + t.len : Nat) : Int), -1) ∧ aroundAt cs (i + 1 + t.len) = i := by
  obtain ⟨_, _, h1, h2⟩ := h
  obtain ⟨e1, e2, e3, _, e4⟩ := hs.loop
  obtain ⟨post, hp⟩ := hs
  have h3 : cs.drop (i + 1) = t.flat ++ (cEnd :: (k.flat ++ post)) := drop_at (pre := [cLoop a b]) (by simpa [Tr.flat] using hp)
  constructor
  · unfold endAt; rw [h3, eScan_flat t _ _ _ _ h1, eScan_cons, if_neg opens_end, if_neg (fun h => by simp [cEnd] at h), if_pos ⟨rfl, rfl⟩]
  · unfold aroundAt; rw [bScan_flat t _ _ h1 e2, bScan_succ, e1, if_neg (by simp [cLoop]), if_pos (opens_loop a b), if_pos rfl]

end Go.Proofs.Ytmhaaihgepldhaa

namespace Go.Proofs.Ytmhaaihgepldhaa

/-- A block opens at b, ends at e, and is divided at o (or o is -1). -/
structure BI (cs : List Cd) (b e : Nat) (o : Int) : Prop where
  op : Opens (cs.getD b default)
  lt : b < e
  le : e < cs.length
  en : cs.getD e default = cEnd
  ar : aroundAt cs e = b
  ends : endAt cs b = ((e : Int), o)
  el : o = -1 ∨ ∃ q : Nat, o = q ∧ b < q ∧ q < e ∧ cs.getD q default = cElse ∧ aroundAt cs q = b ∧ (cs.getD b default).op = 11

def PI (cs : List Cd) (p : Nat) : Prop :=
  (Opens (cs.getD p default) → ∃ e o, BI cs p e o) ∧ ((cs.getD p default).op = 12 → ∃ b e, BI cs b e p) ∧ ((cs.getD p default).op = 14 → ∃ b o, BI cs b p o)

theorem pi_of_seg {cs : List Cd} : ∀ (t : Tr) (i p : Nat), t.Ok → Seg cs i t → i ≤ p → p < i + t.len → PI cs p
  | .nil, i, p, _, _, h1, h2 => by simp [Tr.len, Tr.flat] at h2; omega
  | .op c k, i, p, h, hs, h1, h2 => by
    obtain ⟨⟨_, q1, q2, q3, q4⟩, h5⟩ := h
    obtain ⟨e1, _, e2⟩ := hs.op
    rw [Tr.len_op] at h2
    by_cases e : p = i
    · subst e
      unfold PI
      rw [e1]
      exact ⟨fun h => absurd h (by unfold Opens; omega), fun h => absurd h q2, fun h => absurd h q4⟩
    · exact pi_of_seg k (i + 1) p h5 e2 (by omega) (by omega)
  | .ite a t k, i, p, h, hs, h1, h2 => by
    obtain ⟨_, o1, o2⟩ := id h
    obtain ⟨e1, e2, e3, e3', e4⟩ := hs.ite
    obtain ⟨e5, e6⟩ := end_ite h hs
    have bi : BI cs i (i + 1 + t.len) (-1) := ⟨by rw [e1]; exact opens_if a, by omega, e3', e3, e6, e5, .inl rfl⟩
    rw [Tr.len_ite] at h2
    by_cases e : p = i
    · subst e
      unfold PI
      rw [e1]
      exact ⟨fun _ => ⟨_, _, bi⟩, fun h => by simp [cIf] at h, fun h => by simp [cIf] at h⟩
    · by_cases e' : p = i + 1 + t.len
      · subst e'
        unfold PI
        rw [e3]
        exact ⟨fun h => absurd h opens_end, fun h => by simp [cEnd] at h, fun _ => ⟨_, _, bi⟩⟩
      · by_cases hl : p < i + 1 + t.len
        · exact pi_of_seg t (i + 1) p o1 e2 (by omega) (by omega)
        · exact pi_of_seg k _ p o2 e4 (by omega) (by omega)
  | .itee a t e k, i, p, h, hs, h1, h2 => by
    obtain ⟨_, o1, o2, o3⟩ := id h
    obtain ⟨e1, e2, e3, e4, e5, e5', e6⟩ := hs.itee
    obtain ⟨e7, e8, e9⟩ := end_itee h hs
    have bi : BI cs i (i + 1 + t.len + 1 + e.len) ((i + 1 + t.len : Nat) : Int) := ⟨by rw [e1]; exact opens_if a, by omega, e5', e5, e9, e7, .inr ⟨_, rfl, by omega, by omega, e3, e8, by rw [e1]; rfl⟩⟩
    rw [Tr.len_itee] at h2
    by_cases q : p = i
    · subst q
      unfold PI
      rw [e1]
      exact ⟨fun _ => ⟨_, _, bi⟩, fun h => by simp [cIf] at h, fun h => by simp [cIf] at h⟩
    · by_cases q' : p = i + 1 + t.len
      · subst q'
        unfold PI
        rw [e3]
        exact ⟨fun h => absurd h opens_else, fun _ => ⟨_, _, bi⟩, fun h => by simp [cElse] at h⟩
      · by_cases q'' : p = i + 1 + t.len + 1 + e.len
        · subst q''
          unfold PI
          rw [e5]
          exact ⟨fun h => absurd h opens_end, fun h => by simp [cEnd] at h, fun _ => ⟨_, _, bi⟩⟩
        · by_cases hl : p < i + 1 + t.len
          · exact pi_of_seg t (i + 1) p o1 e2 (by omega) (by omega)
          · by_cases hl2 : p < i + 1 + t.len + 1 + e.len
            · exact pi_of_seg e _ p o2 e4 (by omega) (by omega)
            · exact pi_of_seg k _ p o3 e6 (by omega) (by omega)
  | .loop a b t k, i, p, h, hs, h1, h2 => by
    obtain ⟨_, _, o1, o2⟩ := id h
    obtain ⟨e1, e2, e3, e3', e4⟩ := hs.loop
    obtain ⟨e5, e6⟩ := end_loop h hs
    have bi : BI cs i (i + 1 + t.len) (-1) := ⟨by rw [e1]; exact opens_loop a b, by omega, e3', e3, e6, e5, .inl rfl⟩
    rw [Tr.len_loop] at h2
    by_cases e : p = i
    · subst e
      unfold PI
      rw [e1]
      exact ⟨fun _ => ⟨_, _, bi⟩, fun h => by simp [cLoop] at h, fun h => by simp [cLoop] at h⟩
    · by_cases e' : p = i + 1 + t.len
      · subst e'
        unfold PI
        rw [e3]
        exact ⟨fun h => absurd h opens_end, fun h => by simp [cEnd] at h, fun _ => ⟨_, _, bi⟩⟩
      · by_cases hl : p < i + 1 + t.len
        · exact pi_of_seg t (i + 1) p o1 e2 (by omega) (by omega)
        · exact pi_of_seg k _ p o2 e4 (by omega) (by omega)

theorem PValid.pi {cs : List Cd} (h : PValid cs) {p : Nat} (hp : p < cs.length) : PI cs p := by
  obtain ⟨t, e, h1, _⟩ := h.tree
  exact pi_of_seg t 0 p h1 (Seg.whole e) (by omega) (by have : cs.length = t.len := by rw [e]; rfl
                                                        omega)

/-- The successors of a place. -/
def succs (cs : List Cd) (k : Nat) : List Int :=
  let c := cs.getD k default
  if Opens c then
    let to := if 0 ≤ (endAt cs k).2 then (endAt cs k).2 + 1 else (endAt cs k).1 + 1
    if to = (k : Int) + 1 then [(k : Int) + 1] else [(k : Int) + 1, to]
  else if c.op = 12 then [(endAt cs (aroundAt cs k).toNat).1 + 1]
  else if c.op = 14 then
    (if (cs.getD (aroundAt cs k).toNat default).op = 13 then [aroundAt cs k + 1, (k : Int) + 1] else [(k : Int) + 1])
  else [(k : Int) + 1]
def graph (cs : List Cd) : List (List Int) := (List.range cs.length).map (succs cs) ++ [[]]
theorem graph_length (cs : List Cd) : (graph cs).length = cs.length + 1 := by simp [graph]
theorem graph_lt {cs : List Cd} {k : Nat} (h : k < cs.length) : (graph cs).getD k [] = succs cs k := by
  simp [graph, List.getD_eq_getElem?_getD, List.getElem?_append_left, h]
theorem graph_end (cs : List Cd) : (graph cs).getD cs.length [] = [] := by
  simp [graph, List.getD_eq_getElem?_getD]

theorem rowOk_one {n : Nat} {x : Int} (h1 : 0 ≤ x) (h2 : x ≤ (n : Int) - 1) : rowOk n [x] [x].length := by
  intro j hj
  have : j = 0 := by simp at hj; omega
  subst this
  exact ⟨h1, h2, fun i hi => by omega⟩
theorem rowOk_two {n : Nat} {x y : Int} (h1 : 0 ≤ x) (h2 : x ≤ (n : Int) - 1) (h3 : 0 ≤ y) (h4 : y ≤ (n : Int) - 1) (h5 : x ≠ y) : rowOk n [x, y] [x, y].length := by
  intro j hj
  have : j = 0 ∨ j = 1 := by simp at hj; omega
  rcases this with rfl | rfl
  · exact ⟨h1, h2, fun i hi => by omega⟩
  · refine ⟨h3, h4, fun i hi => ?_⟩
    have : i = 0 := by omega
    subst this
    exact h5

theorem graph_valid {cs : List Cd} (h : PValid cs) : GValid (graph cs) := by
  refine ⟨fun k hk => ?_, by rw [graph_length]; have := h.2.1; omega⟩
  rw [graph_length] at hk ⊢
  by_cases e : k = cs.length
  · subst e
    rw [graph_end]
    intro j hj
    simp at hj
  · have hk' : k < cs.length := by omega
    rw [graph_lt hk']
    obtain ⟨p1, p2, p3⟩ := h.pi hk'
    unfold succs
    simp only
    by_cases h1 : Opens (cs.getD k default)
    · rw [if_pos h1]
      obtain ⟨e, o, bi⟩ := p1 h1
      have hb := bi.lt; have hb2 := bi.le
      rw [bi.ends]
      simp only
      have hto : ∃ to : Int, (if 0 ≤ o then o + 1 else (e : Int) + 1) = to ∧ 0 ≤ to ∧ to ≤ (cs.length : Int) := by
        refine ⟨_, rfl, ?_⟩
        rcases bi.el with rfl | ⟨q, rfl, _, _, _⟩
        · rw [if_neg (by omega)]; omega
        · rw [if_pos (by omega)]; omega
      obtain ⟨to, e1, e2, e3⟩ := hto
      rw [e1]
      split
      · exact rowOk_one (by omega) (by omega)
      · exact rowOk_two (by omega) (by omega) (by omega) (by omega) (by omega)
    · rw [if_neg h1]
      by_cases h2 : (cs.getD k default).op = 12
      · rw [if_pos h2]
        obtain ⟨b, e, bi⟩ := p2 h2
        have hb := bi.lt; have hb2 := bi.le
        have har : aroundAt cs k = b := by
          rcases bi.el with e' | ⟨q, e', _, _, _, e3, _⟩
          · omega
          · have : q = k := by omega
            subst this; exact e3
        rw [har, Int.toNat_natCast, bi.ends]
        exact rowOk_one (by omega) (by omega)
      · rw [if_neg h2]
        by_cases h3 : (cs.getD k default).op = 14
        · rw [if_pos h3]
          obtain ⟨b, o, bi⟩ := p3 h3
          have hb := bi.lt; have hb2 := bi.le
          rw [bi.ar]
          split
          · exact rowOk_two (by omega) (by omega) (by omega) (by omega) (by omega)
          · exact rowOk_one (by omega) (by omega)
        · rw [if_neg h3]
          exact rowOk_one (by omega) (by omega)

end Go.Proofs.Ytmhaaihgepldhaa
