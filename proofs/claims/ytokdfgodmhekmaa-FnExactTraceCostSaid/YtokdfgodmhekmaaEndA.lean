/- Where a block ends and which block is around a place, as the reference finds them. No condition. -/
import Derived.Test.YtokdfgodmhekmaaCodes
namespace Go.Proofs.Ytokdfgodmhekmaa
open Go.RowKit

set_option maxHeartbeats 400000 in
theorem l4Opens_any (c : Cd) (w : World) (B : Bool) (hB : B = true ↔ Opens c) :
    Calls Try.prog 94 #[cdv c] w fun e w' => e = .returned (.bool B) ∧ Pure w w' := by
  unfold cdv
  obtain ⟨o, a, b, c⟩ := c
  unfold Opens at hB
  simp only at hB ⊢
  have HB := Lib.hid hB; clear hB
  by_cases h11 : o = 11
  · have d11 : (o == 11) = true := by simp [h11]
    have H11 := Lib.hid h11; clear h11
    go_enter Try.func94, Try.ntmps94
    go_wp2
    go_ret
    exact ⟨ret_bool (HB.out.2 (.inl H11.out)).symm, (by repeat (first | assumption | exact Pure.refl _ | refine Pure.drewN ?_ _ | refine Pure.drew ?_ | refine Pure.alloc ?_ _ | refine Pure.setCell ?_ (by simp <;> omega) _))⟩
  · have d11 : (o == 11) = false := by simp [h11]
    have H11 := Lib.hid h11; clear h11
    go_enter Try.func94, Try.ntmps94
    go_wp2
    go_ret
    refine ⟨ret_bool ?_, (by repeat (first | assumption | exact Pure.refl _ | refine Pure.drewN ?_ _ | refine Pure.drew ?_ | refine Pure.alloc ?_ _ | refine Pure.setCell ?_ (by simp <;> omega) _))⟩
    rw [Bool.eq_iff_iff, HB.out, beq_iff_eq]
    exact ⟨fun h => .inr h, fun h => h.resolve_left H11.out⟩

def ret2 (a b : Int) : Ending := .returned (.tuple #[.int .i64 a, .int .i64 b])
theorem ret2_eq {a b c d : Int} (h : (a, b) = (c, d)) : (.returned (.tuple #[.int .i64 a, .int .i64 b]) : Ending) = ret2 c d := by
  injection h with h1 h2
  rw [h1, h2]; rfl

def EndPost (r : Int × Int) (w : World) (e : Ending) (w' : World) : Prop := e = .returned (.tuple #[.int .i64 r.1, .int .i64 r.2]) ∧ Pure w w'

set_option maxHeartbeats 1000000 in
set_option maxRecDepth 100000 in
theorem l4End_any (v : Value) (cs : List Cd) (p : Nat) (r : Int × Int) (w : World) (h : Codes w v cs) (hsmall : cs.length ≤ 1048576) (hp : p < cs.length) (hr : endAt cs p = r) :
    Calls Try.prog 95 #[v, .int .i64 p] w (EndPost r w) := by
  have H := Lib.hid h
  have HR := Lib.hid hr
  obtain ⟨A, c, rfl, hnc, hcm⟩ := h.form
  clear h hr
  go_enter Try.func95, Try.ntmps95
  go_wp2
  go_loopg [8, 6, 7] (cs.length - (p + 1)) (fun gk i d ot wr => ∃ (k d' : Nat) (o : Int), gk + k = cs.length ∧ i = .int .i64 k ∧ d = .int .i64 d' ∧ ot = .int .i64 o ∧ Pure w wr ∧ d' ≤ k ∧ endAt cs p = eScan (cs.drop k) k d' o)
  case atStart => exact ⟨p + 1, 0, -1, Nat.sub_add_cancel (show p + 1 ≤ cs.length from hp), by go_num, rfl, rfl, Pure.refl _, by omega, rfl⟩
  case round =>
    obtain ⟨k, d, ot, hgk, rfl, rfl, rfl, hp, hdk, hsc⟩ := hrel
    have Hgk := Lib.hid hgk
    have Hsc := Lib.hid hsc
    have hkn : k ≤ cs.length := by omega
    clear hgk hsc
    by_cases hlt : k < cs.length
    · obtain ⟨b, o, rfl, hb, hc⟩ := H.out.at_ hlt
      obtain ⟨cd, Hcd⟩ : ∃ cd, Hid (cs.getD k default = cd) := ⟨_, rfl⟩
      have hat := hc.keep hp hb
      rw [Hcd.out] at hat
      obtain ⟨q0, q1, q2, q3⟩ := hat
      clear hc
      have hdr := drop_cons hlt
      rw [Hcd.out] at hdr
      have hst := Hsc.out
      rw [hdr] at hst
      have Hst := Lib.hid hst
      clear hst hdr
      by_cases hop : Opens cd
      · go_wp2_with fail
        refine (l4Opens_any cd _ true (by simp [hop])).mono ?_
        rintro e w1 ⟨rfl, hp1⟩
        have hp2 := hp.trans hp1
        have Hop := Lib.hid hop
        clear hop q0 q1 q2 q3
        go_wp2
        go_roundg (cs.length - (k + 1))
        case measure => have := Hgk.out; omega
        case rel =>
          refine ⟨k + 1, d + 1, ot, by have := Hgk.out; omega, by go_num, by go_num, rfl, hp2, by omega, ?_⟩
          rw [Hst.out]; simp only [eScan, if_pos Hop.out]
      · go_wp2_with fail
        refine (l4Opens_any cd _ false (by simp [hop])).mono ?_
        rintro e w1 ⟨rfl, hp1⟩
        have hp2 := hp.trans hp1
        have p0 := (hp1.cell b (o + k * 4) (by have := hp.size; omega)).trans q0
        have Hop := Lib.hid hop
        clear hop q0 q1 q2 q3
        by_cases h12 : cd.op = 12
        · have d12 : (cd.op == 12) = true := by simp [h12]
          have d14 : (cd.op == 14) = false := by simp [h12]
          have H12 := Lib.hid h12
          clear h12
          by_cases hd0 : d = 0
          · subst hd0
            go_wp2
            go_roundg (cs.length - (k + 1))
            case measure => have := Hgk.out; omega
            case rel =>
              refine ⟨k + 1, 0, k, by have := Hgk.out; omega, by go_num, by go_num, rfl, hp2, by omega, ?_⟩
              rw [Hst.out]; simp only [eScan, if_neg Hop.out, H12.out, true_and, if_true]
          · have dd : ((d : Int) == 0) = false := by rw [beq_eq_false_iff_ne]; omega
            have Hd0 := Lib.hid hd0
            clear hd0
            go_wp2
            go_roundg (cs.length - (k + 1))
            case measure => have := Hgk.out; omega
            case rel =>
              refine ⟨k + 1, d, ot, by have := Hgk.out; omega, by go_num, by go_num, rfl, hp2, by omega, ?_⟩
              rw [Hst.out]; simp only [eScan, if_neg Hop.out, H12.out, Hd0.out]; simp
        · have d12 : (cd.op == 12) = false := by simp [h12]
          have H12 := Lib.hid h12
          clear h12
          by_cases h14 : cd.op = 14
          · have d14 : (cd.op == 14) = true := by simp [h14]
            have H14 := Lib.hid h14
            clear h14
            by_cases hd0 : d = 0
            · subst hd0
              have hres : r = ((k : Int), ot) := by
                rw [← HR.out, Hst.out]; unfold eScan; rw [if_neg Hop.out, if_neg (fun h => H12.out h.1), if_pos ⟨H14.out, rfl⟩]
              have Hres := Lib.hid hres
              clear hres
              go_wp2
              refine bodyPost_ret (results_tmp2 rfl _ _ _) rfl ⟨?_, hp2⟩
              rw [Hres.out]; rfl
            · have dd : ((d : Int) == 0) = false := by rw [beq_eq_false_iff_ne]; omega
              have Hd0 := Lib.hid hd0
              have hd1 : 1 ≤ d := by omega
              clear hd0
              go_wp2
              go_roundg (cs.length - (k + 1))
              case measure => have := Hgk.out; omega
              case rel =>
                refine ⟨k + 1, d - 1, ot, by have := Hgk.out; omega, by go_num, by go_num, rfl, hp2, by omega, ?_⟩
                rw [Hst.out]; simp only [eScan, if_neg Hop.out, H14.out, Hd0.out]; simp
          · have d14 : (cd.op == 14) = false := by simp [h14]
            have H14 := Lib.hid h14
            clear h14
            go_wp2
            go_roundg (cs.length - (k + 1))
            case measure => have := Hgk.out; omega
            case rel =>
              refine ⟨k + 1, d, ot, by have := Hgk.out; omega, by go_num, by go_num, rfl, hp2, by omega, ?_⟩
              rw [Hst.out]; simp only [eScan, if_neg Hop.out, if_neg (fun h : cd.op = 12 ∧ d = 0 => H12.out h.1), if_neg (fun h : cd.op = 14 ∧ d = 0 => H14.out h.1), if_neg H14.out]
    · have hkl : k = cs.length := by omega
      subst hkl
      have hres : r = (-1, ot) := by
        rw [← HR.out, Hsc.out, List.drop_length]; rfl
      have Hres := Lib.hid hres
      clear hres
      go_wp2
      refine bodyPost_ret (results_tmp2 rfl _ _ _) rfl ⟨?_, hp⟩
      rw [Hres.out]; rfl

end Go.Proofs.Ytokdfgodmhekmaa
