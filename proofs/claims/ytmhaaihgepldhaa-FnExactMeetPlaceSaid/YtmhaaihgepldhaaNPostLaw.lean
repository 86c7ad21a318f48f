/- The law FnExactNearestPost: the program's NearestPost gives what the reference's gives, for all arguments. No condition. -/
import Derived.Test.YtmhaaihgepldhaaNPostI
import Derived.Test.YtmhaaihgepldhaaIntS
namespace Go.Proofs.Ytmhaaihgepldhaa
open Go.RowKit

def NPAll (xss : List (List Int)) (a en : Int) (w : World) (e : Ending) (w' : World) : Prop :=
  ∃ r : Int, e = .returned (.int .i64 r) ∧ ((GValid xss ∧ InG xss a ∧ InG xss en → IsNP xss a en r) ∧ (¬ (GValid xss ∧ InG xss a ∧ InG xss en) → r = -1)) ∧ Pure w w'

theorem InG.iff {xss : List (List Int)} {a : Int} : InG xss a ↔ (0 ≤ a ∧ a ≤ (xss.length : Int) - 1) := Iff.rfl

set_option maxHeartbeats 400000 in
theorem snp_any (v : Value) (xss : List (List Int)) (a en : Int) (w : World) (h : IntRows w v xss) :
    Calls Try.prog 14 #[v, .int .i64 a, .int .i64 en] w (NPAll xss a en w) := by
  by_cases hG : GValid xss
  · by_cases ha : InG xss a
    · by_cases he : InG xss en
      · refine (snp_in v xss a en w h hG ha he).mono ?_
        rintro e w' ⟨r, h1, h2, h3⟩
        exact ⟨r, h1, ⟨fun _ => h2, fun hn => absurd ⟨hG, ha, he⟩ hn⟩, h3⟩
      · have H := Lib.hid h
        obtain ⟨A, cc, rfl, hx1, hx2, hx3⟩ := h
        clear hx3
        have Hn : Hid (¬ (GValid xss ∧ InG xss a ∧ InG xss en)) := fun h => he h.2.2
        go_enter Try.func14, Try.ntmps14
        go_wp2_with fail
        refine (gv_any _ _ _ H.out true (by simp [hG])).mono ?_
        rintro e w' ⟨rfl, n0, rfl⟩
        go_wp2_with fail
        refine (l1In_t _ _ _ _ ha).mono ?_
        rintro e w' ⟨rfl, rfl⟩
        go_wp2_with fail
        refine (l1In_f _ _ _ _ he).mono ?_
        rintro e w' ⟨rfl, rfl⟩
        go_wp2
        go_ret
        exact ⟨_, rfl, ⟨fun h => absurd h Hn.out, fun _ => rfl⟩, Pure.drewN (Pure.refl _) _⟩
    · have H := Lib.hid h
      obtain ⟨A, cc, rfl, hx1, hx2, hx3⟩ := h
      clear hx3
      have Hn : Hid (¬ (GValid xss ∧ InG xss a ∧ InG xss en)) := fun h => ha h.2.1
      go_enter Try.func14, Try.ntmps14
      go_wp2_with fail
      refine (gv_any _ _ _ H.out true (by simp [hG])).mono ?_
      rintro e w' ⟨rfl, n0, rfl⟩
      go_wp2_with fail
      refine (l1In_f _ _ _ _ ha).mono ?_
      rintro e w' ⟨rfl, rfl⟩
      go_wp2
      go_ret
      exact ⟨_, rfl, ⟨fun h => absurd h Hn.out, fun _ => rfl⟩, Pure.drewN (Pure.refl _) _⟩
  · have H := Lib.hid h
    obtain ⟨A, cc, rfl, hx1, hx2, hx3⟩ := h
    clear hx3
    have Hn : Hid (¬ (GValid xss ∧ InG xss a ∧ InG xss en)) := fun h => hG h.1
    go_enter Try.func14, Try.ntmps14
    go_wp2_with fail
    refine (gv_any _ _ _ H.out false (by simp [hG])).mono ?_
    rintro e w' ⟨rfl, n0, rfl⟩
    go_wp2
    go_ret
    exact ⟨_, rfl, ⟨fun h => absurd h Hn.out, fun _ => rfl⟩, Pure.drewN (Pure.refl _) _⟩

/-- A literal of numbers, just laid. -/
theorem Ints.lit (w : World) (xs : List Int) (t : TypeId) (hl : xs.length ≤ 9223372036854775807) : Ints (w.alloc (.cells (xs.map (.int .i64)).toArray t)) (.slice (some ⟨w.heap.size, 0, none⟩) xs.length xs.length) xs := by
  refine ⟨_, _, rfl, Nat.le_refl _, hl, fun _ => ⟨_, _, rfl, by simp, fun j hj => ?_⟩⟩
  have := cell_of_row (w.alloc (.cells (xs.map (.int .i64)).toArray t)) w.heap.size (0 + j) (xs.map (.int .i64)).toArray t (0, 0) (heap_alloc_new w _)
  rw [this]
  have : j < xs.length := by omega
  simp [List.getD_eq_getElem?_getD, this]

set_option maxHeartbeats 400000 in
theorem inp_any (v : Value) (xss : List (List Int)) (a en : Int) (w : World) (h : IntRows w v xss) :
    Calls Try.prog 16 #[v, .int .i64 a, .int .i64 en] w (NPAll xss a en w) := by
  have H := Lib.hid h
  have hp1 : Pure w (w.alloc (.cells #[.int .i64 a, .int .i64 en] 3)) := (Pure.refl _).alloc _
  have hlit := Ints.lit w [a, en] 3 (by simp)
  obtain ⟨A, cc, rfl, hx1, hx2, hx3⟩ := h
  clear hx3
  have Hlit := Lib.hid hlit
  clear hlit
  by_cases hall : GValid xss ∧ InG xss a ∧ InG xss en
  · obtain ⟨hG, ha, he⟩ := hall
    go_enter Try.func16, Try.ntmps16
    go_wp2_with fail
    refine (areNodes_any _ _ _ [a, en] _ (H.out.keep hp1) Hlit.out true ?_).mono ?_
    · simp only [true_iff]
      refine ⟨hG, fun x hx => ?_⟩
      simp at hx
      rcases hx with rfl | rfl
      · exact ha
      · exact he
    rintro e w' ⟨rfl, rfl⟩
    go_wp2_with fail
    refine (inp_in _ xss _ _ _ (H.out.keep hp1) hG ha he).mono ?_
    rintro e w2 ⟨r, rfl, hr, hp2⟩
    have Hr := Lib.hid hr; clear hr
    go_wp2
    go_ret
    exact ⟨r, rfl, ⟨fun _ => Hr.out, fun hn => absurd ⟨hG, ha, he⟩ hn⟩, hp1.trans hp2⟩
  · have Hn := Lib.hid hall; clear hall
    go_enter Try.func16, Try.ntmps16
    go_wp2_with fail
    refine (areNodes_any _ _ _ [a, en] _ (H.out.keep hp1) Hlit.out false ?_).mono ?_
    · simp only [Bool.false_eq_true, false_iff]
      rintro ⟨h1, h2⟩
      exact Hn.out ⟨h1, h2 a (by simp), h2 en (by simp)⟩
    rintro e w' ⟨rfl, rfl⟩
    go_wp2
    go_ret
    exact ⟨_, rfl, ⟨fun h => absurd h Hn.out, fun _ => rfl⟩, hp1⟩

set_option maxHeartbeats 400000 in
theorem law_np (v : Value) (xss : List (List Int)) (a en : Int) (w : World) (h : IntRows w v xss) :
    Calls Try.prog 3 #[v, .int .i64 a, .int .i64 en] w fun e w' => e = .returned (.bool true) ∧ Pure w w' := by
  have H := Lib.hid h; clear h
  go_enter Try.func3, Try.ntmps3
  go_wp2_with fail
  refine (szIntSS_any _ _ _ _ H.out (by omega) (by omega)).mono ?_
  rintro e w' ⟨⟨r, rfl, hr⟩, rfl⟩
  have Hr := Lib.hid hr; clear hr
  by_cases h0 : r < 0
  · go_wp2_with fail
    go_ret
    exact ⟨rfl, Pure.refl _⟩
  · have hl := Hr.out (by omega)
    obtain ⟨hl1, hl2⟩ := hl
    have Hl2 := Lib.hid hl2; clear hl2
    have hlen : xss.length ≤ 1048576 := by omega
    have HL : Hid (∀ k, k < xss.length → (xss.getD k []).length ≤ 1048576) := fun k hk => by have := Hl2.out k hk; omega
    go_wp2_with fail
    refine (toIntSS_any _ _ _ H.out hlen HL.out).mono ?_
    rintro e w1 ⟨v1, rfl, hv1, hp1⟩
    have HV1 := Lib.hid hv1; clear hv1
    go_wp2_with fail
    refine (snp_any _ xss _ _ _ HV1.out).mono ?_
    rintro e w2 ⟨r2, rfl, hr2, hp2⟩
    have HR2 := Lib.hid hr2; clear hr2
    have hp12 := hp1.trans hp2
    go_wp2_with fail
    refine (toIntSS_any _ _ _ (H.out.keep hp12) hlen HL.out).mono ?_
    rintro e w3 ⟨v3, rfl, hv3, hp3⟩
    have HV3 := Lib.hid hv3; clear hv3
    have hp13 := hp12.trans hp3
    go_wp2_with fail
    refine (inp_any _ xss _ _ _ HV3.out).mono ?_
    rintro e w4 ⟨r4, rfl, hr4, hp4⟩
    have e42 : r4 = r2 := by
      by_cases hall : GValid xss ∧ InG xss a ∧ InG xss en
      · exact (hr4.1 hall).unique (HR2.out.1 hall)
      · rw [hr4.2 hall, HR2.out.2 hall]
    subst e42
    clear hr4
    have hp14 := hp13.trans hp4
    have hd : (r4 != r4) = false := by simp
    go_wp2_with fail
    refine (toIntSS_any _ _ _ (H.out.keep hp14) hlen HL.out).mono ?_
    rintro e w5 ⟨v5, rfl, hv5, hp5⟩
    have HV5 := Lib.hid hv5; clear hv5
    go_wp2_with fail
    refine (eqIntSS_any _ _ xss xss _ (HV3.out.keep (hp4.trans hp5)) HV5.out rfl).mono ?_
    rintro e w6 ⟨rfl, hp6⟩
    go_wp2
    go_ret
    exact ⟨rfl, hp14.trans (hp5.trans hp6)⟩

end Go.Proofs.Ytmhaaihgepldhaa
