/- What an instruction writes, by the reference and by the program; what is wanted behind an instruction. No condition. -/
import Derived.Test.YtmhaaihgepldhaaLiveC
namespace Go.Proofs.Ytmhaaihgepldhaa
open Go.RowKit
--CUT
set_option maxHeartbeats 1000000 in
theorem swrites_any (x : Cd) (w : World) (h : CdOk x) :
    Calls Try.prog 76 #[cdv x] w fun e w' => e = .returned (.int .i64 (wrg x)) ∧ Pure w w' := by
  obtain ⟨o, a, b, c⟩ := x
  have H := Lib.hid h
  clear h
  unfold cdv
  simp only
  by_cases h8 : 1 ≤ o ∧ o ≤ 8
  · have e8 : wrg ⟨o, a, b, c⟩ = a := if_pos h8
    rw [e8]
    clear e8
    have H8 := Lib.hid h8
    clear h8
    go_enter Try.func76, Try.ntmps76
    go_wp2_with fail
    refine (scv_any ⟨o, a, b, c⟩ _ true (by simp [H.out])).mono ?_
    rintro e w1 ⟨rfl, hp1⟩
    obtain ⟨q0, q1, q2, q3, hp⟩ := boxed hp1
    go_wp2_with fail
    refine (l1In_t _ _ _ _ H8.out).mono ?_
    rintro e w2 ⟨rfl, rfl⟩
    go_wp2
    go_ret
    exact ⟨rfl, hp⟩
  · have e8 : wrg ⟨o, a, b, c⟩ = -1 := if_neg h8
    rw [e8]
    clear e8
    have H8 := Lib.hid h8
    clear h8
    go_enter Try.func76, Try.ntmps76
    go_wp2_with fail
    refine (scv_any ⟨o, a, b, c⟩ _ true (by simp [H.out])).mono ?_
    rintro e w1 ⟨rfl, hp1⟩
    obtain ⟨q0, q1, q2, q3, hp⟩ := boxed hp1
    go_wp2_with fail
    refine (l1In_f _ _ _ _ H8.out).mono ?_
    rintro e w2 ⟨rfl, rfl⟩
    go_wp2
    go_ret
    exact ⟨rfl, hp⟩

set_option maxHeartbeats 1000000 in
theorem iwrites_any (x : Cd) (w : World) (h : CdOk x) :
    Calls Try.prog 98 #[cdv x] w fun e w' => e = .returned (.int .i64 (wrg x)) ∧ Pure w w' := by
  obtain ⟨o, a, b, c⟩ := x
  have H := Lib.hid h
  obtain ⟨_, _, _, _, _, ho1, ho2⟩ := h.regs
  have ho : o = 1 ∨ o = 2 ∨ o = 3 ∨ o = 4 ∨ o = 5 ∨ o = 6 ∨ o = 7 ∨ o = 8 ∨ o = 9 ∨ o = 10 ∨ o = 11 ∨ o = 12 ∨ o = 13 ∨ o = 14 := by omega
  clear h ho1 ho2
  unfold cdv
  simp only
  rcases ho with rfl | rfl | rfl | rfl | rfl | rfl | rfl | rfl | rfl | rfl | rfl | rfl | rfl | rfl
  all_goals
    go_enter Try.func98, Try.ntmps98
    go_wp2_with fail
    refine (icv_any ⟨_, a, b, c⟩ _ true (by simp [H.out])).mono ?_
    rintro e w1 ⟨rfl, hp1⟩
    obtain ⟨q0, q1, q2, q3, hp⟩ := boxed hp1
    go_wp2
    go_ret
    exact ⟨rfl, hp⟩

set_option maxHeartbeats 1000000 in
theorem iwritten_any (x : Cd) (w : World) (h : CdOk x) :
    Calls Try.prog 91 #[cdv x] w fun e w' => e = .returned (.int .i64 (wst x : Nat)) ∧ Pure w w' := by
  have H := Lib.hid h
  have hr : (0 ≤ wrg x ∧ wrg x ≤ 3 ∧ wst x = pw (wrg x)) ∨ (wrg x = -1 ∧ wst x = 0) := by
    obtain ⟨⟨h1, h2⟩, _⟩ := h.regs
    unfold wrg wst
    split
    · exact .inl ⟨h1, h2, rfl⟩
    · exact .inr ⟨rfl, rfl⟩
  obtain ⟨g, Hg⟩ : ∃ g, Hid (wrg x = g) := ⟨_, rfl⟩
  obtain ⟨v, Hv⟩ : ∃ v, Hid (wst x = v) := ⟨_, rfl⟩
  have hi := iwrites_any x
  rw [Hg.out, Hv.out] at hr
  rw [Hv.out]
  have HI := Lib.hid hi
  clear hi h
  obtain ⟨o, a, b, c⟩ := x
  unfold cdv
  simp only
  go_enter Try.func91, Try.ntmps91
  go_wp2_with fail
  refine (HI.out _ H.out).mono ?_
  rintro e w1 ⟨rfl, hp1⟩
  rw [Hg.out]
  have hpw := Lib.hid ((Pure.alloc (Pure.refl w) _).trans hp1)
  rcases hr with ⟨hg0, hg3, rfl⟩ | ⟨rfl, rfl⟩
  · go_wp2
    go_ret
    exact ⟨by rw [shl_pw hg0 hg3] <;> rfl, hpw.out⟩
  · go_wp2
    go_ret
    exact ⟨rfl, hpw.out⟩

/-- A table of sets: n + 1 numbers. -/
def Sets (w : World) (v : Value) (m : Nat) (live : Nat → Nat) : Prop := Cells w v m 1 (fun j => .int .i64 (live j : Nat))

set_option maxHeartbeats 1000000 in
theorem l19_any (vg vl : Value) (xss : List (List Int)) (m k : Nat) (live : Nat → Nat) (w : World) (hg : IntRows w vg xss) (hl : Sets w vl m live) (hlt : ∀ j, live j < 16) (hk : k < xss.length)
    (hrow : ∀ x ∈ xss.getD k [], 0 ≤ x ∧ x < m) (hsm : (xss.getD k []).length ≤ 64) :
    Calls Try.prog 75 #[vg, vl, .int .i64 k] w fun e w' => e = .returned (.int .i64 (orAll live (xss.getD k []) : Nat)) ∧ Pure w w' := by
  obtain ⟨A, cA, rfl, hg1, hg2, hg3⟩ := hg
  obtain ⟨b, o, rfl, hb, hcell⟩ := hg3 (by omega)
  obtain ⟨r, hr1, hr2⟩ := hcell k hk
  obtain ⟨row, Hrow⟩ : ∃ row, Hid (xss.getD k [] = row) := ⟨_, rfl⟩
  rw [Hrow.out] at hr2 hrow hsm ⊢
  have HL := Lib.hid hl
  have HLT := Lib.hid hlt
  have HROW := Lib.hid hrow
  obtain ⟨Al, cl, rfl, hl1, hl2, hl3⟩ := hl
  have HL3 := Lib.hid hl3
  obtain ⟨Ar, cr, rfl, hr3, hr4, hr5⟩ := hr2
  have HR5 := Lib.hid hr5
  clear hg3 hcell hlt hrow hl3 hr5
  go_enter Try.func75, Try.ntmps75
  go_wp2
  go_loopg [8, 7] row.length (fun gk i s wr => ∃ j : Nat, gk + j = row.length ∧ i = .int .i64 j ∧ s = .int .i64 (orAll live (row.take j) : Nat) ∧ Pure w wr)
  case atStart => exact ⟨0, rfl, rfl, rfl, Pure.refl _⟩
  case round =>
    obtain ⟨j, hgk, rfl, rfl, hp⟩ := hrel
    have Hgk := Lib.hid hgk
    have hjn : j ≤ row.length := by omega
    clear hgk
    have q1 := (hp.cell b (o + k) hb).trans hr1
    by_cases hj : j < row.length
    · obtain ⟨br, or_, rfl, hbr, hcr⟩ := HR5.out (by omega)
      obtain ⟨x, Hx⟩ : ∃ x, Hid (row.getD j 0 = x) := ⟨_, rfl⟩
      have q2 := (hp.cell br (or_ + j) hbr).trans (hcr j (by omega))
      simp only [Hx.out] at q2
      have hxm : x ∈ row := by have := Hx.out; subst this; simp [List.getD_eq_getElem?_getD, hj]
      obtain ⟨hx0, hxm2⟩ := HROW.out x hxm
      obtain ⟨y, rfl⟩ := Int.eq_ofNat_of_zero_le hx0
      have hy : y < m := by omega
      obtain ⟨bl, ol, rfl, hbl, hcl⟩ := HL3.out (by omega)
      have q3 := (hp.cell bl (ol + y) hbl).trans (hcl y (by omega))
      have hs : orAll live (row.take j) < 16 := orAll_lt HLT.out _
      have hv : live y < 16 := HLT.out y
      have hnext : orAll live (row.take (j + 1)) = orAll live (row.take j) ||| live y := by
        rw [List.take_add_one]
        have : row[j]? = some (y : Int) := by have := Hx.out; simp [List.getD_eq_getElem?_getD, hj] at this; simp [hj, this]
        rw [this]
        show List.foldl _ 0 (List.take j row ++ [(y : Int)]) = _
        rw [List.foldl_append]
        rfl
      obtain ⟨s, Hs⟩ : ∃ s, Hid (orAll live (row.take j) = s) := ⟨_, rfl⟩
      obtain ⟨u, Hu⟩ : ∃ u, Hid (live y = u) := ⟨_, rfl⟩
      rw [Hs.out, Hu.out] at hnext
      rw [Hu.out] at q3 hv
      rw [Hs.out] at hs ⊢
      have Hnext := Lib.hid hnext
      have HV := Lib.hid (show bits .or .i64 (s : Int) (u : Int) = ((s ||| u : Nat) : Int) from or16 hs hv)
      clear hnext
      go_wp2
      go_roundg (row.length - (j + 1))
      case measure => have := Hgk.out; omega
      case rel => exact ⟨j + 1, by have := Hgk.out; omega, by go_num, by rw [Hnext.out, ← HV.out], (by repeat (first | assumption | exact Pure.refl _ | refine Pure.drewN ?_ _ | refine Pure.drew ?_ | refine Pure.alloc ?_ _ | refine Pure.setCell ?_ (by simp <;> omega) _))⟩
    · have hjl : j = row.length := by omega
      subst hjl
      rw [List.take_length]
      go_wp2
      go_ret
      exact ⟨rfl, (by repeat (first | assumption | exact Pure.refl _ | refine Pure.drewN ?_ _ | refine Pure.drew ?_ | refine Pure.alloc ?_ _ | refine Pure.setCell ?_ (by simp <;> omega) _))⟩

end Go.Proofs.Ytmhaaihgepldhaa
