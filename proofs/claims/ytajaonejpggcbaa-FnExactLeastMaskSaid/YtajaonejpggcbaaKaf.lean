/- Which programs are valid, as the reference finds it; where blocks end and which block is around a place. No condition. -/
import Derived.Test.YtajaonejpggcbaaKae

namespace Go.Proofs.Ytajaonejpggcbaa
open Go.RowKit

theorem cdOk_mem {cs : List Cd} {k : Nat} (hk : k < cs.length) : cs.getD k default ∈ cs := by simp [List.getD_eq_getElem?_getD, hk]
theorem cdOk_all {cs : List Cd} (h : ∀ j, j < cs.length → CdOk (cs.getD j default)) : ∀ c ∈ cs, CdOk c := by
  intro c hc
  obtain ⟨j, hj, e⟩ := List.mem_iff_getElem.1 hc
  have := h j hj
  simpa [List.getD_eq_getElem?_getD, hj, e] using this

def marks (st : List (Nat × Int)) : List Value := ((st.map fun x => Value.int .i64 x.2)).reverse
theorem marks_length (st : List (Nat × Int)) : (marks st).length = st.length := by simp [marks]
theorem marks_cons (x : Nat × Int) (r : List (Nat × Int)) : marks (x :: r) = marks r ++ [.int .i64 x.2] := by simp [marks]

set_option maxHeartbeats 1000000 in
set_option maxRecDepth 100000 in
theorem spv_any (v : Value) (cs : List Cd) (w : World) (h : Codes w v cs) (hsmall : cs.length ≤ 1048576) (B : Bool) (hB : B = true ↔ PValid cs) :
    Calls Try.prog 68 #[v] w fun e w' => e = .returned (.bool B) ∧ Pure w w' := by
  have H := Lib.hid h
  have HB := Lib.hid hB
  obtain ⟨A, c, rfl, hnc, hcm⟩ := h.form
  clear h hB
  have hO0 := Lib.hid (OwnO.empty_lit (w := w) (B := w.heap.size) (e := 3) (s := 1) (Nat.le_refl _))
  go_enter Try.func68, Try.ntmps68
  go_wp2
  go_loopg [4, 3] cs.length (fun gk i q wr => ∃ (k : Nat) (st : List (Nat × Int)), gk + k = cs.length ∧ i = .int .i64 k ∧ Pure w wr ∧ sscan (cs.take k) 0 [] = some st ∧ st.length ≤ 3 ∧ OwnO wr w.heap.size 3 1 q st.length (marks st) ∧ ∀ j, j < k → CdOk (cs.getD j default))
  case atStart => exact ⟨0, [], rfl, rfl, Pure.alloc (Pure.refl _) _, by simp [sscan], by simp, hO0.out, fun j hj => absurd hj (by omega)⟩
  case round =>
    obtain ⟨k, st, hgk, rfl, hp, hsc, hst, hown, hall⟩ := hrel
    have Hgk := Lib.hid hgk
    have Hsc := Lib.hid hsc
    have Hown := Lib.hid hown
    have Hall := Lib.hid hall
    have hkn : k ≤ cs.length := by omega
    clear hgk hsc hown hall
    obtain ⟨Aq, cq, rfl⟩ := Hown.out.form
    by_cases hlt : k < cs.length
    · obtain ⟨b, o, rfl, hb, hc⟩ := H.out.at_ hlt
      obtain ⟨cd, Hcd⟩ : ∃ cd, Hid (cs.getD k default = cd) := ⟨_, rfl⟩
      have hat := hc.keep hp hb
      rw [Hcd.out] at hat
      obtain ⟨q0, q1, q2, q3⟩ := hat
      clear hc
      have Hst := Lib.hid (sscan_take hlt Hsc.out)
      have bad : sstep st k cd = none → ¬ PValid cs := fun h1 h2 => by
        have := Hst.out
        rw [Hcd.out, h1] at this
        have := sscan_none this
        rw [h2.2.2] at this
        cases this
      have Bad := Lib.hid bad
      clear bad
      have HBf : ¬ PValid cs → false = B := fun h => by
        cases hb : B
        · rfl
        · exact absurd (HB.out.1 hb) h
      have HBF := Lib.hid HBf
      clear HBf
      by_cases hok : CdOk cd
      · have Hok := Lib.hid hok; clear hok
        have Hnext : Hid (∀ j, j < k + 1 → CdOk (cs.getD j default)) := fun j hj => by
          by_cases e : j = k
          · rw [e, Hcd.out]; exact Hok.out
          · exact Hall.out j (by omega)
        go_wp2_with fail
        refine (scv_any cd _ true (by simp [Hok.out])).mono ?_
        rintro e w1 ⟨rfl, hp1⟩
        have hp2 := hp.trans hp1
        have HO1 := Lib.hid (Hown.out.pure hp1)
        have p0 := (hp1.cell b (o + k * 4) (by have := hp.size; omega)).trans q0
        clear q0 q1 q2 q3
        by_cases hopen : cd.op = 11 ∨ cd.op = 13
        · have hd : (cd.op == 11) = true ∨ ((cd.op == 11) = false ∧ (cd.op == 13) = true) := by
            rcases hopen with h | h
            · exact .inl (by simp [h])
            · exact .inr ⟨by simp [h], by simp [h]⟩
          have hstep : sstep st k cd = if st.length < 3 then some ((k, cd.op) :: st) else none := by unfold sstep; rw [if_pos hopen]
          have Hstep := Lib.hid hstep
          clear hstep hopen
          by_cases h3 : st.length < 3
          · rcases hd with hd | ⟨hd, hd2⟩
            all_goals
              go_wp2_with (at_builtin; go_must (refine wl_append1 elInt rfl _ _ rfl w.heap.size (.slice Aq st.length cq) st.length (marks st) rfl HO1.out w1.heap.size 1 [.int .i64 cd.op] rfl rfl rfl rfl (by decide) (by omega) hp2.size ?_); intro v' w' hO' hg'; go_must (have hP' := Lib.hid (hp2.grown hg' (fun k hk => (HO1.out.lt k hk).1)); have HO' := Lib.hid hO'; obtain ⟨A2, c2, rfl⟩ := HO'.out.form; clear hO' hg'))
              go_roundg (cs.length - (k + 1))
              case measure => have := Hgk.out; omega
              case rel =>
                refine ⟨k + 1, (k, cd.op) :: st, by have := Hgk.out; omega, by go_num, hP'.out, ?_, by simp; omega, ?_, Hnext.out⟩
                · rw [Hst.out, Hcd.out, Hstep.out, if_pos h3]
                · rw [marks_cons]; exact HO'.out
          · rcases hd with hd | ⟨hd, hd2⟩
            all_goals
              go_wp2_with (at_builtin; go_must (refine wl_append1 elInt rfl _ _ rfl w.heap.size (.slice Aq st.length cq) st.length (marks st) rfl HO1.out w1.heap.size 1 [.int .i64 cd.op] rfl rfl rfl rfl (by decide) (by omega) hp2.size ?_); intro v' w' hO' hg'; go_must (have hP' := Lib.hid (hp2.grown hg' (fun k hk => (HO1.out.lt k hk).1)); have HO' := Lib.hid hO'; obtain ⟨A2, c2, rfl⟩ := HO'.out.form; clear hO' hg'))
              go_ret
              exact ⟨ret_bool (HBF.out (Bad.out (by rw [Hstep.out, if_neg (by omega)]))), hP'.out⟩
        · have hd11 : (cd.op == 11) = false := by rw [beq_eq_false_iff_ne]; omega
          have hd13 : (cd.op == 13) = false := by rw [beq_eq_false_iff_ne]; omega
          have Hopen := Lib.hid hopen
          clear hopen
          by_cases h12 : cd.op = 12
          · have hd12 : (cd.op == 12) = true := by simp [h12]
            have H12 := Lib.hid h12
            clear h12
            rcases st with _ | ⟨⟨p, m⟩, r⟩
            · simp only [List.length_nil] at *
              have hz : ((0 : Nat) : Int) - 1 < 0 := by omega
              go_wp2
              go_ret
              exact ⟨ret_bool (HBF.out (Bad.out (by unfold sstep; rw [if_neg Hopen.out, if_pos H12.out]))), hp2⟩
            · obtain ⟨g, off, c2, hq, hq1, hq2, hq3, hq4⟩ := HO1.out.formSome (by simp)
              injection hq with hq5 hq6 hq7
              subst hq5 hq7
              have hcell := HO1.out.cell r.length (by simp)
              have hmk : (marks ((p, m) :: r))[r.length]? = some (.int .i64 m) := by
                rw [marks_cons, List.getElem?_append_right (by rw [marks_length]; omega), marks_length]; simp
              rw [hmk] at hcell
              have hfz := HO1.out.frozen (off + r.length)
              have hset := Lib.hid (HO1.out.stored r.length (.int .i64 12))
              have hms : (marks ((p, m) :: r)).set r.length (.int .i64 12) = marks ((p, 12) :: r) := by
                rw [marks_cons, marks_cons, List.set_append_right _ _ (by rw [marks_length]; omega), marks_length]; simp
              have Hms := Lib.hid hms
              clear hmk hms
              simp only [List.length_cons] at hst hq1 ⊢
              have hidx : ((r.length + 1 : Nat) : Int) - 1 = r.length := by omega
              have hstep : sstep ((p, m) :: r) k cd = if m = 11 then some ((p, 12) :: r) else none := by unfold sstep; rw [if_neg Hopen.out, if_pos H12.out]
              have Hstep := Lib.hid hstep
              clear hstep
              by_cases hm : m = 11
              · have hdm : (m != 11) = false := by simp [hm]
                have Hm := Lib.hid hm; clear hm
                go_wp2
                go_roundg (cs.length - (k + 1))
                case measure => have := Hgk.out; omega
                case rel =>
                  refine ⟨k + 1, (p, 12) :: r, by have := Hgk.out; omega, by go_num, hp2.setCell hq3 _, ?_, by simp; omega, ?_, Hnext.out⟩
                  · rw [Hst.out, Hcd.out, Hstep.out, if_pos Hm.out]
                  · rw [← Hms.out]
                    exact hset.out
              · have hdm : (m != 11) = true := by simp [hm]
                have Hm := Lib.hid hm; clear hm
                go_wp2
                go_ret
                exact ⟨ret_bool (HBF.out (Bad.out (by rw [Hstep.out, if_neg Hm.out]))), hp2⟩
          · have hd12 : (cd.op == 12) = false := by simp [h12]
            have H12 := Lib.hid h12
            clear h12
            by_cases h14 : cd.op = 14
            · have hd14 : (cd.op == 14) = true := by simp [h14]
              have H14 := Lib.hid h14
              clear h14
              rcases st with _ | ⟨x, r⟩
              · simp only [List.length_nil] at *
                have hz : ((0 : Nat) : Int) - 1 < 0 := by omega
                go_wp2
                go_ret
                exact ⟨ret_bool (HBF.out (Bad.out (by unfold sstep; rw [if_neg Hopen.out, if_neg H12.out, if_pos H14.out]))), hp2⟩
              · obtain ⟨g, off, c2, hq, hq1, hq2, hq3, hq4⟩ := HO1.out.formSome (by simp)
                injection hq with hq5 hq6 hq7
                subst hq5 hq7
                have htk := HO1.out.take (k := r.length) (by simp)
                have hms : (marks (x :: r)).take (r.length * 1) = marks r := by
                  rw [marks_cons, List.take_append_of_le_length (by rw [marks_length]; omega), List.take_of_length_le (by rw [marks_length]; omega)]
                rw [hms] at htk
                have Htk := Lib.hid htk
                clear hms htk
                simp only [List.length_cons] at hst hq1 ⊢
                have hstep : sstep (x :: r) k cd = some r := by unfold sstep; rw [if_neg Hopen.out, if_neg H12.out, if_pos H14.out]
                have Hstep := Lib.hid hstep
                clear hstep
                go_wp2
                go_roundg (cs.length - (k + 1))
                case measure => have := Hgk.out; omega
                case rel =>
                  refine ⟨k + 1, r, by have := Hgk.out; omega, by go_num, hp2, ?_, by omega, Htk.out, Hnext.out⟩
                  rw [Hst.out, Hcd.out, Hstep.out]
            · have hd14 : (cd.op == 14) = false := by simp [h14]
              have H14 := Lib.hid h14
              clear h14
              go_wp2
              go_roundg (cs.length - (k + 1))
              case measure => have := Hgk.out; omega
              case rel =>
                refine ⟨k + 1, st, by have := Hgk.out; omega, by go_num, hp2, ?_, hst, HO1.out, Hnext.out⟩
                rw [Hst.out, Hcd.out]; unfold sstep; rw [if_neg Hopen.out, if_neg H12.out, if_neg H14.out]
      · have Hok := Lib.hid hok; clear hok
        go_wp2_with fail
        refine (scv_any cd _ false (by simp [Hok.out])).mono ?_
        rintro e w1 ⟨rfl, hp1⟩
        go_wp2
        go_ret
        refine ⟨ret_bool (HBF.out fun hv => Hok.out ?_), hp.trans hp1⟩
        rw [← Hcd.out]; exact hv.1 _ (cdOk_mem hlt)
    · have hkl : k = cs.length := by omega
      subst hkl
      have hsc2 : sscan cs 0 [] = some st := by have := Hsc.out; rwa [List.take_length] at this
      have Hsc2 := Lib.hid hsc2
      clear hsc2
      have fin : (decide (st.length = 0) && decide (cs.length ≤ 40)) = B := by
        rw [Bool.eq_iff_iff, HB.out]
        simp only [Bool.and_eq_true, decide_eq_true_eq]
        constructor
        · rintro ⟨h1, h2⟩
          have : st = [] := List.eq_nil_of_length_eq_zero h1
          exact ⟨cdOk_all Hall.out, h2, by rw [Hsc2.out, this]⟩
        · rintro ⟨h1, h2, h3⟩
          rw [Hsc2.out] at h3
          injection h3 with h3
          exact ⟨by rw [h3]; rfl, h2⟩
      have Fin := Lib.hid fin
      clear fin
      by_cases hs0 : st.length = 0
      · have hd : ((st.length : Int) == 0) = true := by simp [hs0]
        have Hs0 := Lib.hid hs0
        clear hs0
        go_wp2
        go_ret
        refine ⟨ret_bool ?_, hp⟩
        rw [← Fin.out, decide_eq_true Hs0.out, Bool.true_and]
        rw [Bool.eq_iff_iff]; simp only [decide_eq_true_eq]; omega
      · have hd : ((st.length : Int) == 0) = false := by rw [beq_eq_false_iff_ne]; omega
        have Hs0 := Lib.hid hs0
        clear hs0
        go_wp2
        go_ret
        refine ⟨ret_bool ?_, hp⟩
        rw [← Fin.out, decide_eq_false Hs0.out, Bool.false_and]

end Go.Proofs.Ytajaonejpggcbaa
