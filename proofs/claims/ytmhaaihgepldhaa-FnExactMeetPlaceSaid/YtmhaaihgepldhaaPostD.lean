/- Post-dominators, as the reference and the program find them. No condition. -/
import Derived.Test.YtmhaaihgepldhaaReach2
namespace Go.Proofs.Ytmhaaihgepldhaa
open Go.RowKit

def PD (xss : List (List Int)) (a b en : Int) : Prop := RC xss (-1) a en ∧ (a = b ∨ ¬ RC xss b a en)
def InG (xss : List (List Int)) (a : Int) : Prop := 0 ≤ a ∧ a ≤ (xss.length : Int) - 1

/-- What a call of reach gives, at one node. -/
theorem ReachPost.at_ {xss : List (List Int)} {wo fr : Int} {w : World} {e : Ending} {w' : World} (h : ReachPost xss wo fr w e w') (en : Int) (he : InG xss en) (B : Bool) (hB : B = true ↔ RC xss wo fr en) :
    ∃ b o c, e = .returned (.slice (some ⟨b, o, none⟩) xss.length c) ∧ w'.cell? ⟨b, o + en.toNat, none⟩ = some (.bool B) ∧ b < w'.heap.size ∧ Pure w w' := by
  obtain ⟨v, bs, rfl, hv, hl, hbs, hp⟩ := h
  obtain ⟨A, c, rfl, h1, h2, h3⟩ := hv
  obtain ⟨h4, h5⟩ := he
  obtain ⟨b, o, rfl, hb, hc⟩ := h3 (by omega)
  refine ⟨b, o, c, by rw [hl], ?_, hb, hp⟩
  rw [hc en.toNat (by omega)]
  have := hbs en.toNat (by omega)
  rw [Int.toNat_of_nonneg h4] at this
  have e : bs.getD en.toNat false = B := by rw [Bool.eq_iff_iff, this, hB]
  simp only [e]

set_option maxHeartbeats 400000 in
theorem ipd_any (v : Value) (xss : List (List Int)) (a b en : Int) (w : World) (h : IntRows w v xss) (hG : GValid xss) (ha : InG xss a) (he : InG xss en) (B : Bool) (hB : B = true ↔ PD xss a b en) :
    Calls Try.prog 61 #[v, .int .i64 a, .int .i64 b, .int .i64 en] w fun e w' => e = .returned (.bool B) ∧ Pure w w' := by
  have HB := Lib.hid hB; clear hB
  have HG := Lib.hid hG; clear hG
  obtain ⟨he1, he2⟩ := id he
  by_cases h1 : RC xss (-1) a en
  · have H1 := Lib.hid h1; clear h1
    by_cases hab : a = b
    · have hd : (a == b) = true := by simp [hab]
      have Hab := Lib.hid hab; clear hab
      go_enter Try.func61, Try.ntmps61
      go_wp2_with fail
      refine (reach_any _ _ _ _ _ h HG.out ha).mono ?_
      intro e w1 hr
      obtain ⟨b1, o1, c1, rfl, hc1, hb1, hp1⟩ := hr.at_ en he true (by simp [H1.out])
      clear hr
      go_wp2
      go_ret
      refine ⟨ret_bool ?_, hp1⟩
      exact (HB.out.2 ⟨H1.out, .inl Hab.out⟩).symm
    · have hd : (a == b) = false := by simp [hab]
      have Hab := Lib.hid hab; clear hab
      rcases Classical.em (RC xss b a en) with h2 | h2
      all_goals
        have H2 := Lib.hid h2; clear h2
        go_enter Try.func61, Try.ntmps61
        go_wp2_with fail
        refine (reach_any _ _ _ _ _ h HG.out ha).mono ?_
        intro e w1 hr
        obtain ⟨b1, o1, c1, rfl, hc1, hb1, hp1⟩ := hr.at_ en he true (by simp [H1.out])
        clear hr
        go_wp2_with fail
        refine (reach_any _ _ _ _ _ (h.keep hp1) HG.out ha).mono ?_
        intro e w2 hr
      · obtain ⟨b2, o2, c2, rfl, hc2, hb2, hp2⟩ := hr.at_ en he true (by simp [H2.out])
        clear hr
        go_wp2
        go_ret
        refine ⟨ret_bool ?_, hp1.trans hp2⟩
        cases hb : B
        · rfl
        · rcases (HB.out.1 hb).2 with h | h
          · exact absurd h Hab.out
          · exact absurd H2.out h
      · obtain ⟨b2, o2, c2, rfl, hc2, hb2, hp2⟩ := hr.at_ en he false (by simp [H2.out])
        clear hr
        go_wp2
        go_ret
        refine ⟨ret_bool ?_, hp1.trans hp2⟩
        exact (HB.out.2 ⟨H1.out, .inr H2.out⟩).symm
  · have H1 := Lib.hid h1; clear h1
    go_enter Try.func61, Try.ntmps61
    go_wp2_with fail
    refine (reach_any _ _ _ _ _ h HG.out ha).mono ?_
    intro e w1 hr
    obtain ⟨b1, o1, c1, rfl, hc1, hb1, hp1⟩ := hr.at_ en he false (by simp [H1.out])
    clear hr
    go_wp2
    go_ret
    refine ⟨ret_bool ?_, hp1⟩
    cases hb : B
    · rfl
    · exact absurd (HB.out.1 hb).1 H1.out

-- The reference's PostDominates, for nodes of a valid graph.
set_option maxHeartbeats 400000 in
theorem spd_in (v : Value) (xss : List (List Int)) (a b en : Int) (w : World) (h : IntRows w v xss) (hG : GValid xss) (ha : InG xss a) (hb : InG xss b) (he : InG xss en) (B : Bool) (hB : B = true ↔ PD xss a b en) :
    Calls Try.prog 25 #[v, .int .i64 a, .int .i64 b, .int .i64 en] w fun e w' => e = .returned (.bool B) ∧ Pure w w' := by
  have HB := Lib.hid hB; clear hB
  have HG := Lib.hid hG; clear hG
  have H := Lib.hid h
  obtain ⟨A, cc, rfl, hx1, hx2, hx3⟩ := h
  clear hx3
  obtain ⟨he1, he2⟩ := id he
  go_enter Try.func25, Try.ntmps25
  go_wp2_with fail
  refine (gv_any _ _ _ H.out true (by simp [HG.out])).mono ?_
  rintro e w' ⟨rfl, n0, rfl⟩
  go_wp2_with fail
  refine (l1In_t _ _ _ _ ha).mono ?_
  rintro e w' ⟨rfl, rfl⟩
  go_wp2_with fail
  refine (l1In_t _ _ _ _ hb).mono ?_
  rintro e w' ⟨rfl, rfl⟩
  go_wp2_with fail
  refine (l1In_t _ _ _ _ he).mono ?_
  rintro e w' ⟨rfl, rfl⟩
  have hpd : Pure w (w.drewN n0) := Pure.drewN (Pure.refl _) _
  go_wp2_with fail
  refine (greach_any _ _ _ _ _ (H.out.keep hpd) HG.out ha (by have := ha.2; have := ha.1; omega)).mono ?_
  intro e w1 hr
  by_cases h1 : RC xss (-1) a en
  · obtain ⟨b1, o1, c1, rfl, hc1, hb1, hp1⟩ := hr.at_ en he true (by simp [h1])
    have H1 := Lib.hid h1; clear h1 hr
    have hp01 := hpd.trans hp1
    by_cases hab : a = b
    · have hd : (a == b) = true := by simp [hab]
      have Hab := Lib.hid hab; clear hab
      go_wp2
      go_ret
      refine ⟨ret_bool ?_, hp01⟩
      exact (HB.out.2 ⟨H1.out, .inl Hab.out⟩).symm
    · have hd : (a == b) = false := by simp [hab]
      have Hab := Lib.hid hab; clear hab
      go_wp2_with fail
      refine (greach_any _ _ _ _ _ (H.out.keep hp01) HG.out ha (by have := hb.2; have := hb.1; omega)).mono ?_
      intro e w2 hr
      rcases Classical.em (RC xss b a en) with h2 | h2
      · obtain ⟨b2, o2, c2, rfl, hc2, hb2, hp2⟩ := hr.at_ en he true (by simp [h2])
        have H2 := Lib.hid h2; clear h2 hr
        go_wp2
        go_ret
        refine ⟨ret_bool ?_, hp01.trans hp2⟩
        cases hb : B
        · rfl
        · rcases (HB.out.1 hb).2 with h | h
          · exact absurd h Hab.out
          · exact absurd H2.out h
      · obtain ⟨b2, o2, c2, rfl, hc2, hb2, hp2⟩ := hr.at_ en he false (by simp [h2])
        have H2 := Lib.hid h2; clear h2 hr
        go_wp2
        go_ret
        refine ⟨ret_bool ?_, hp01.trans hp2⟩
        exact (HB.out.2 ⟨H1.out, .inr H2.out⟩).symm
  · obtain ⟨b1, o1, c1, rfl, hc1, hb1, hp1⟩ := hr.at_ en he false (by simp [h1])
    have H1 := Lib.hid h1; clear h1 hr
    have hp01 := hpd.trans hp1
    go_wp2
    go_ret
    refine ⟨ret_bool ?_, hp01⟩
    cases hb : B
    · rfl
    · exact absurd (HB.out.1 hb).1 H1.out

end Go.Proofs.Ytmhaaihgepldhaa
