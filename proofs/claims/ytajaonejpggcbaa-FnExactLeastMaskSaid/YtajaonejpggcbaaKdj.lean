/- The reference's lanes: a barrier is passed; the least place. The reference's least place. The reference's run by the least places. No condition. -/
import Derived.Test.YtajaonejpggcbaaKdg
import Derived.Test.YtajaonejpggcbaaKdi

namespace Go.Proofs.Ytajaonejpggcbaa
open Go.RowKit

theorem QRun.setW {o : QO} {w : World} {vr vt : Nat → Value} {L : Nat → Ln} {M : Nat → Int} (h : QRun o w vr vt L M) {k : Nat} (hk : k < o.n) (b : Bool) :
    QRun o (w.setCell ⟨o.gl, k * 4 + 3, none⟩ (.bool b)) vr vt (upL L k { L k with W := b }) M ∧ Chg (fun c => c = o.gl) w (w.setCell ⟨o.gl, k * 4 + 3, none⟩ (.bool b)) := by
  have hc : Chg (fun c => c = o.gl) w (w.setCell ⟨o.gl, k * 4 + 3, none⟩ (.bool b)) := Chg.of_set w _ _ _ rfl
  have hne := h.ne_gl
  obtain ⟨cur, b1, b2⟩ := h.lanes
  refine ⟨⟨Chg.pure h.pure hc (fun c e => by rw [e]; exact h.gl0), h.codes, h.n1, h.n8, h.cl1, h.cl2, h.gl0, ⟨_, heap_setCell_same w o.gl _ _ _ _ b1, fun j hj => ?_⟩, fun j hj => ?_, h.mem.chg hc hne.1, h.ne, fun j hj r => ?_⟩, hc⟩
  · obtain ⟨c0, c1, c2, c3⟩ := b2 j hj
    unfold QLaneC upL
    by_cases e : j = k
    · subst e
      rw [if_pos rfl]
      have hlt : j * 4 + 3 < cur.size := (Array.getElem?_eq_some_iff.1 c3).1
      refine ⟨by rw [Array.getElem?_setIfInBounds_ne (by omega)]; exact c0, by rw [Array.getElem?_setIfInBounds_ne (by omega)]; exact c1, by rw [Array.getElem?_setIfInBounds_ne (by omega)]; exact c2, by rw [Array.getElem?_setIfInBounds_self_of_lt hlt]⟩
    · rw [if_neg e]
      refine ⟨by rw [Array.getElem?_setIfInBounds_ne (by omega)]; exact c0, by rw [Array.getElem?_setIfInBounds_ne (by omega)]; exact c1, by rw [Array.getElem?_setIfInBounds_ne (by omega)]; exact c2, by rw [Array.getElem?_setIfInBounds_ne (by omega)]; exact c3⟩
  · have hl := (h.lnb j hj).chg hc (fun g hg e => (hne.2 j hj).1 (by rw [hg, e])) (fun g hg e => (hne.2 j hj).2 (by rw [hg, e]))
    unfold upL
    split
    · rename_i e; subst e; exact hl
    · exact hl
  · unfold upL
    split
    · rename_i e; subst e; exact h.good j hj r
    · exact h.good j hj r
theorem freeL_succ (L : Nat → Ln) (j : Nat) : freeL (j + 1) L = upL (freeL j L) j { freeL j L j with W := false } := funext fun l => by
  unfold freeL upL
  by_cases e : l = j
  · subst e; simp
  · by_cases hl : l < j
    · have : l < j + 1 := by omega
      simp [e, hl, this]
    · have : ¬ l < j + 1 := by omega
      simp [e, hl, this]
theorem freeL_zero (L : Nat → Ln) : freeL 0 L = L := funext fun l => by unfold freeL; simp
def FreeP (o : QO) (w : World) (vr vt : Nat → Value) (L : Nat → Ln) (M : Nat → Int) (e : Ending) (w' : World) : Prop :=
  e = .returned (.tuple #[]) ∧ QRun o w' vr vt (if anyGo o.cs L o.n = true then L else freeL o.n L) M ∧ Chg (fun b => b = o.gl) w w'

set_option maxHeartbeats 2000000 in
set_option maxRecDepth 100000 in
theorem sfree_any (o : QO) (w : World) (vr vt : Nat → Value) (L : Nat → Ln) (M : Nat → Int) (h : QRun o w vr vt L M) (_h40 : o.cs.length ≤ 40) (hat : ∀ k, k < o.n → (L k).at_ ≤ o.cs.length) :
    Calls Try.prog 94 #[o.crowd, o.vl] w (FreeP o w vr vt L M) := by
  have H := Lib.hid h
  have HAT := Lib.hid hat
  obtain ⟨A, c, hvl, hnc, hcm⟩ := h.codes.form
  have hn8 := h.n8
  have hn1 := h.n1
  have hcl1 := h.cl1
  have hcl2 := h.cl2
  have hglt := h.glLt
  have hbx := heap_alloc_new w (.cells #[.slice (some ⟨o.gl, 0, none⟩) o.n o.cl, .slice (some ⟨o.gm, 0, none⟩) o.m o.cm] 33)
  have HBX := Lib.hid hbx
  unfold QO.crowd
  rw [hvl]
  clear h hat hvl hbx
  go_enter Try.func94, Try.ntmps94
  go_wp2_with fail
  go_loopg [4] o.n (fun gk i wr => ∃ j : Nat, gk + j = o.n ∧ i = .int .i64 j ∧ (∀ k, k < j → goesL o.cs.length (L k) = false) ∧ Pure (w.alloc (.cells #[.slice (some ⟨o.gl, 0, none⟩) o.n o.cl, .slice (some ⟨o.gm, 0, none⟩) o.m o.cm] 33)) wr)
  case atStart => exact ⟨0, rfl, rfl, fun k hk => absurd hk (Nat.not_lt_zero _), by exact (by repeat (first | assumption | exact Pure.refl _ | refine Pure.drewN ?_ _ | refine Pure.drew ?_ | refine Pure.alloc ?_ _ | refine Pure.setCell ?_ (by simp <;> omega) _))⟩
  case round =>
    obtain ⟨j, hgk, rfl, hdn, hp⟩ := hrel
    have Hgk := Lib.hid hgk
    have HDN := Lib.hid hdn
    have HP := Lib.hid hp
    have HPW := Lib.hid ((show Pure w (w.alloc (.cells #[.slice (some ⟨o.gl, 0, none⟩) o.n o.cl, .slice (some ⟨o.gm, 0, none⟩) o.m o.cm] 33)) from (by repeat (first | assumption | exact Pure.refl _ | refine Pure.drewN ?_ _ | refine Pure.drew ?_ | refine Pure.alloc ?_ _ | refine Pure.setCell ?_ (by simp <;> omega) _))).trans hp)
    have hjn : j ≤ o.n := by omega
    have hx := (Chg.of_pure (S := fun _ => False) hp).heap HBX.out id
    have HX := Lib.hid hx
    have x0 := cell_of_row _ _ 0 _ _ _ hx
    simp only [List.getElem?_toArray, List.getElem?_cons_zero] at x0
    clear hgk hdn hp hx
    by_cases hlt : j < o.n
    · have hcl := (H.out.keep HPW.out).cells hlt
      obtain ⟨_, c1, _, c3, _⟩ := hcl
      have hjI : (j : Int) < (o.n : Int) := by omega
      have hj0 : (0 : Int) ≤ (j : Int) := by omega
      have hat := HAT.out j hlt
      have HGB : Hid (goesL o.cs.length (L j) = (!(L j).W && decide ((L j).at_ < o.cs.length))) := Lib.hid rfl
      obtain ⟨a, Ha⟩ : ∃ a, Hid ((L j).at_ = a) := ⟨_, Lib.hid rfl⟩
      obtain ⟨W, HW⟩ : ∃ W, Hid ((L j).W = W) := ⟨_, Lib.hid rfl⟩
      rw [Ha.out] at c1 hat HGB
      rw [HW.out] at c3 HGB
      by_cases hgo : W = false ∧ a < o.cs.length
      · obtain ⟨rfl, hlt2⟩ := hgo
        have hd : decide ((a : Int) < (o.cs.length : Int)) = true := by rw [decide_eq_true_iff]; omega
        have HAG : Hid (anyGo o.cs L o.n = true) := Lib.hid (anyGo_iff.2 ⟨j, hlt, by rw [HGB.out]; simp [hlt2]⟩)
        go_wp2
        go_end0
        refine ⟨rfl, ?_, Chg.of_pure HPW.out⟩
        rw [HAG.out]
        exact H.out.keep HPW.out
      · have HGF : Hid (goesL o.cs.length (L j) = false) := Lib.hid (by
          rw [HGB.out]
          cases W
          · have : ¬ a < o.cs.length := fun h => hgo ⟨rfl, h⟩
            simp [this]
          · rfl)
        have hrel2 : ∀ k, k < j + 1 → goesL o.cs.length (L k) = false := fun k hk => by
          by_cases e : k = j
          · rw [e]; exact HGF.out
          · exact HDN.out k (by omega)
        have HR2 := Lib.hid hrel2
        cases W
        · have hnl : ¬ a < o.cs.length := fun h => hgo ⟨rfl, h⟩
          have hle2 : o.cs.length ≤ a := by omega
          have hd : decide ((a : Int) < (o.cs.length : Int)) = false := by rw [decide_eq_false_iff_not]; omega
          clear hnl
          clear hgo hrel2
          go_wp2
          go_roundg (o.n - (j + 1))
          case measure => have := Hgk.out; omega
          case rel => exact ⟨j + 1, by have := Hgk.out; omega, by go_num, HR2.out, HP.out⟩
        · clear hgo hrel2
          go_wp2
          go_roundg (o.n - (j + 1))
          case measure => have := Hgk.out; omega
          case rel => exact ⟨j + 1, by have := Hgk.out; omega, by go_num, HR2.out, HP.out⟩
    · have hjl : j = o.n := by omega
      have HAG : Hid (anyGo o.cs L o.n = false) := Lib.hid (by
        cases hq : anyGo o.cs L o.n
        · rfl
        · obtain ⟨l, h1, h2⟩ := anyGo_iff.1 hq
          rw [HDN.out l (by omega)] at h2; cases h2)
      have HQ := Lib.hid (H.out.keep HPW.out)
      have hglr : o.gl ≠ w.heap.size := by omega
      obtain ⟨bx, Hbx⟩ : ∃ bx, Hid (w.heap.size = bx) := ⟨_, Lib.hid rfl⟩
      obtain ⟨wz, rfl⟩ : ∃ wz, wz = wr := ⟨_, rfl⟩
      go_wp2_with fail
      go_loopg [5] o.n (fun gk i wr' => ∃ j : Nat, gk + j = o.n ∧ i = .int .i64 j ∧ QRun o wr' vr vt (freeL j L) M ∧ Chg (fun b => b = o.gl) wz wr')
      case atStart => exact ⟨0, rfl, rfl, by rw [freeL_zero]; exact HQ.out, Chg.refl _ _⟩
      case round =>
        obtain ⟨k, hgk2, rfl, hq, hch⟩ := hrel
        have Hgk2 := Lib.hid hgk2
        have HQK := Lib.hid hq
        have HCH := Lib.hid hch
        have hx2 := hch.heap HX.out (fun e => hglr e.symm)
        have x0 := cell_of_row _ _ 0 _ _ _ hx2
        simp only [List.getElem?_toArray, List.getElem?_cons_zero] at x0
        have hkn : k ≤ o.n := by omega
        clear hgk2 hq hch hx2
        by_cases hlt2 : k < o.n
        · obtain ⟨_, _, _, c3, cf⟩ := HQK.out.cells hlt2
          have hkI : (k : Int) < (o.n : Int) := by omega
          have hk0 : (0 : Int) ≤ (k : Int) := by omega
          have cf3 := cf (k * 4 + 3)
          clear cf
          have HS := Lib.hid (HQK.out.setW hlt2 false)
          rw [← freeL_succ] at HS
          go_wp2
          go_roundg (o.n - (k + 1))
          case measure => have := Hgk2.out; omega
          case rel => exact ⟨k + 1, by have := Hgk2.out; omega, by go_num, HS.out.1, HCH.out.trans HS.out.2⟩
        · have hkl : k = o.n := by omega
          subst hkl
          go_wp2
          go_end0
          refine ⟨rfl, ?_, (Chg.of_pure HPW.out).trans HCH.out⟩
          rw [HAG.out]
          exact HQK.out

end Go.Proofs.Ytajaonejpggcbaa

namespace Go.Proofs.Ytajaonejpggcbaa
open Go.RowKit

set_option maxHeartbeats 4000000 in
set_option maxRecDepth 100000 in
theorem sleast_any (o : QO) (w : World) (vr vt : Nat → Value) (L : Nat → Ln) (M : Nat → Int) (h : QRun o w vr vt L M) (_h40 : o.cs.length ≤ 40) (hat : ∀ k, k < o.n → (L k).at_ ≤ o.cs.length) :
    Calls Try.prog 51 #[o.crowd, o.vl] w fun e w' => e = .returned (.tuple #[.int .i64 ((leastTo o.cs L o.n).1 : Nat), .int .i64 ((leastTo o.cs L o.n).2 : Nat)]) ∧ Pure w w' := by
  have H := Lib.hid h
  have HAT := Lib.hid hat
  obtain ⟨A, c, hvl, hnc, hcm⟩ := h.codes.form
  have hn8 := h.n8
  have hn1 := h.n1
  have hcl1 := h.cl1
  have hcl2 := h.cl2
  have hglt := h.glLt
  have hbx := heap_alloc_new w (.cells #[.slice (some ⟨o.gl, 0, none⟩) o.n o.cl, .slice (some ⟨o.gm, 0, none⟩) o.m o.cm] 33)
  have HBX := Lib.hid hbx
  unfold QO.crowd
  rw [hvl]
  clear h hat hvl hbx
  go_enter Try.func51, Try.ntmps51
  go_wp2_with fail
  go_loopg [8, 6, 7, 9] o.n (fun gk i a6 a7 a9 wr => ∃ j : Nat, gk + j = o.n ∧ i = .int .i64 j ∧ a6 = .int .i64 ((leastTo o.cs L j).1 : Nat) ∧ a7 = .int .i64 ((leastTo o.cs L j).2 : Nat) ∧ Pure (w.alloc (.cells #[.slice (some ⟨o.gl, 0, none⟩) o.n o.cl, .slice (some ⟨o.gm, 0, none⟩) o.m o.cm] 33)) wr)
  case atStart => exact ⟨0, rfl, rfl, rfl, rfl, by exact (by repeat (first | assumption | exact Pure.refl _ | refine Pure.drewN ?_ _ | refine Pure.drew ?_ | refine Pure.alloc ?_ _ | refine Pure.setCell ?_ (by simp <;> omega) _))⟩
  case round =>
    obtain ⟨j, hgk, rfl, rfl, rfl, hp⟩ := hrel
    have Hgk := Lib.hid hgk
    have HP := Lib.hid hp
    have HPW := Lib.hid ((show Pure w (w.alloc (.cells #[.slice (some ⟨o.gl, 0, none⟩) o.n o.cl, .slice (some ⟨o.gm, 0, none⟩) o.m o.cm] 33)) from (by repeat (first | assumption | exact Pure.refl _ | refine Pure.drewN ?_ _ | refine Pure.drew ?_ | refine Pure.alloc ?_ _ | refine Pure.setCell ?_ (by simp <;> omega) _))).trans hp)
    have hjn : j ≤ o.n := by omega
    have hx := (Chg.of_pure (S := fun _ => False) hp).heap HBX.out id
    have x0 := cell_of_row _ _ 0 _ _ _ hx
    simp only [List.getElem?_toArray, List.getElem?_cons_zero] at x0
    have HL8 := least_bits o.cs L j (by omega)
    obtain ⟨hs2, _, _, _, _⟩ := least_spec (cs := o.cs) (L := L) j
    have HSU := Lib.hid (least_succ o.cs L j)
    obtain ⟨mk, Hmk⟩ : ∃ mk, Hid ((leastTo o.cs L j).1 = mk) := ⟨_, Lib.hid rfl⟩
    obtain ⟨pl, Hpl⟩ : ∃ pl, Hid ((leastTo o.cs L j).2 = pl) := ⟨_, Lib.hid rfl⟩
    have hpair : leastTo o.cs L j = (mk, pl) := by rw [← Hmk.out, ← Hpl.out]
    have HPR := Lib.hid hpair
    rw [Hmk.out] at HL8 ⊢
    rw [Hpl.out] at hs2 ⊢
    rw [hpair] at HSU
    clear hgk hp hx hpair
    by_cases hlt : j < o.n
    · obtain ⟨c0, c1, c2, c3, _⟩ := (H.out.keep HPW.out).cells hlt
      obtain ⟨⟨g1, cg, hvr⟩, _, ht⟩ := (H.out.keep HPW.out).lnb j hlt
      obtain ⟨At, ct, hvt⟩ := ht.form
      rw [hvr] at c0
      rw [hvt] at c2
      have hjI : (j : Int) < (o.n : Int) := by omega
      have hj0 : (0 : Int) ≤ (j : Int) := by omega
      have hat := HAT.out j hlt
      have HGB : Hid (goesL o.cs.length (L j) = (!(L j).W && decide ((L j).at_ < o.cs.length))) := Lib.hid rfl
      obtain ⟨tl, Htl⟩ : ∃ tl, Hid ((L j).T.length = tl) := ⟨_, Lib.hid rfl⟩
      obtain ⟨a, Ha⟩ : ∃ a, Hid ((L j).at_ = a) := ⟨_, Lib.hid rfl⟩
      obtain ⟨W, HW⟩ : ∃ W, Hid ((L j).W = W) := ⟨_, Lib.hid rfl⟩
      rw [Htl.out] at c2
      rw [Ha.out] at c1 hat HGB HSU
      rw [HW.out] at c3 HGB
      have hglr : o.gl < wr.heap.size := Nat.lt_of_lt_of_le hglt HPW.out.size
      have hs := shlI (j := j) (by omega)
      have hor : bits .or .i64 (mk : Int) ((2 ^ j : Nat) : Int) = ((mk ||| 2 ^ j : Nat) : Int) := bits_or (Nat.lt_trans HL8 (by decide)) (Nat.lt_of_le_of_lt (powI (show j ≤ 8 by omega)) (by decide))
      have hor0 : bits .or .i64 (0 : Int) ((2 ^ j : Nat) : Int) = ((2 ^ j : Nat) : Int) := by
        have := bits_or (a := 0) (b := 2 ^ j) (by decide) (Nat.lt_of_le_of_lt (powI (show j ≤ 8 by omega)) (by decide))
        rw [Nat.zero_or] at this
        exact this
      obtain ⟨s, Hs⟩ : ∃ s, Hid (2 ^ j = s) := ⟨2 ^ j, Lib.hid rfl⟩
      rw [Hs.out] at hs hor hor0 HSU
      obtain ⟨mk', Hmk'⟩ : ∃ mk', Hid (mk ||| s = mk') := ⟨_, Lib.hid rfl⟩
      rw [Hmk'.out] at hor HSU
      clear hvr hvt ht
      cases W
      case true =>
        have HN : Hid (leastTo o.cs L (j + 1) = (mk, pl)) := Lib.hid (by rw [HSU.out, HGB.out]; simp)
        go_wp2
        go_roundg (o.n - (j + 1))
        case measure => have := Hgk.out; omega
        case rel => exact ⟨j + 1, by have := Hgk.out; omega, by go_num, by rw [HN.out], by rw [HN.out], by exact HP.out.trans (by repeat (first | assumption | exact Pure.refl _ | refine Pure.drewN ?_ _ | refine Pure.drew ?_ | refine Pure.alloc ?_ _ | refine Pure.setCell ?_ (by simp <;> omega) _))⟩
      case false =>
        by_cases hge : o.cs.length ≤ a
        · have HN : Hid (leastTo o.cs L (j + 1) = (mk, pl)) := Lib.hid (by rw [HSU.out, HGB.out]; have : ¬ a < o.cs.length := by omega
                                                                           simp [this])
          have hd : decide ((a : Int) ≥ (o.cs.length : Int)) = true := by rw [decide_eq_true_iff]; omega
          go_wp2
          go_roundg (o.n - (j + 1))
          case measure => have := Hgk.out; omega
          case rel => exact ⟨j + 1, by have := Hgk.out; omega, by go_num, by rw [HN.out], by rw [HN.out], by exact HP.out.trans (by repeat (first | assumption | exact Pure.refl _ | refine Pure.drewN ?_ _ | refine Pure.drew ?_ | refine Pure.alloc ?_ _ | refine Pure.setCell ?_ (by simp <;> omega) _))⟩
        · have hd : decide ((a : Int) ≥ (o.cs.length : Int)) = false := by rw [decide_eq_false_iff_not]; omega
          have hlt3 : a < o.cs.length := by omega
          have HG1 : Hid (goesL o.cs.length (L j) = true) := Lib.hid (by rw [HGB.out]; simp [hlt3])
          clear hge
          by_cases hgt : pl < a
          · have HN : Hid (leastTo o.cs L (j + 1) = (mk, pl)) := Lib.hid (by rw [HSU.out, HG1.out, if_pos rfl, if_neg (by omega), if_neg (by omega)])
            have hd2 : decide ((a : Int) > (pl : Int)) = true := by rw [decide_eq_true_iff]; omega
            go_wp2
            go_roundg (o.n - (j + 1))
            case measure => have := Hgk.out; omega
            case rel => exact ⟨j + 1, by have := Hgk.out; omega, by go_num, by rw [HN.out], by rw [HN.out], by exact HP.out.trans (by repeat (first | assumption | exact Pure.refl _ | refine Pure.drewN ?_ _ | refine Pure.drew ?_ | refine Pure.alloc ?_ _ | refine Pure.setCell ?_ (by simp <;> omega) _))⟩
          · have hle3 : a ≤ pl := by omega
            have hd2 : decide ((a : Int) > (pl : Int)) = false := by rw [decide_eq_false_iff_not]; omega
            clear hgt
            by_cases hlt2 : a < pl
            · have HN : Hid (leastTo o.cs L (j + 1) = (s, a)) := Lib.hid (by rw [HSU.out, HG1.out, if_pos rfl, if_pos hlt2])
              have hd3 : decide ((a : Int) < (pl : Int)) = true := by rw [decide_eq_true_iff]; omega
              go_wp2
              go_roundg (o.n - (j + 1))
              case measure => have := Hgk.out; omega
              case rel => exact ⟨j + 1, by have := Hgk.out; omega, by go_num, by rw [HN.out], by rw [HN.out], by exact HP.out.trans (by repeat (first | assumption | exact Pure.refl _ | refine Pure.drewN ?_ _ | refine Pure.drew ?_ | refine Pure.alloc ?_ _ | refine Pure.setCell ?_ (by simp <;> omega) _))⟩
            · have heq : a = pl := by omega
              have HN : Hid (leastTo o.cs L (j + 1) = (mk', pl)) := Lib.hid (by rw [HSU.out, HG1.out, if_pos rfl, if_neg hlt2, if_pos heq])
              have hd3 : decide ((a : Int) < (pl : Int)) = false := by rw [decide_eq_false_iff_not]; omega
              have hge3 : pl ≤ a := by omega
              clear hlt2 heq
              go_wp2
              go_roundg (o.n - (j + 1))
              case measure => have := Hgk.out; omega
              case rel => exact ⟨j + 1, by have := Hgk.out; omega, by go_num, by rw [HN.out], by rw [HN.out], by exact HP.out.trans (by repeat (first | assumption | exact Pure.refl _ | refine Pure.drewN ?_ _ | refine Pure.drew ?_ | refine Pure.alloc ?_ _ | refine Pure.setCell ?_ (by simp <;> omega) _))⟩
    · have hjl : j = o.n := by omega
      subst hjl
      go_wp2
      refine bodyPost_ret (results_tmp2 rfl _ _ _) rfl ?_
      exact ⟨by rw [HPR.out]; rfl, HPW.out⟩

end Go.Proofs.Ytajaonejpggcbaa

namespace Go.Proofs.Ytajaonejpggcbaa
open Go.RowKit

def OnC (cs : List Cd) (n : Nat) (L : Nat → Ln) : Prop := ∀ l, l < n → ∃ W, OnWay cs (L l) W
theorem OnC.le {cs : List Cd} {n : Nat} {L : Nat → Ln} (h : OnC cs n L) : ∀ k, k < n → (L k).at_ ≤ cs.length := fun k hk => (h k hk).elim fun _ h => h.le
theorem OnC.start {cs : List Cd} (hv : PValid cs) (n : Nat) (mem : List Int) : OnC cs n (startCS mem).L := fun l _ => by
  obtain ⟨h1, h2, h3⟩ := treeOf_spec hv
  exact ⟨_, OnWay.start h1 h2⟩
theorem OnC.steps {cs : List Cd} {n m mask : Nat} {s : CS} (h : OnC cs n s.L) (hm : ∀ l, mask.testBit l = true → goesL cs.length (s.L l) = true) : ∀ j, OnC cs n (stepTo cs m mask j s).L
  | 0 => h
  | j + 1 => fun l hl => by
    have ih := OnC.steps (m := m) h hm j
    show ∃ W, OnWay cs ((if mask.testBit j = true then laneS cs m j (stepTo cs m mask j s) else stepTo cs m mask j s).L l) W
    split
    · rename_i hb
      show ∃ W, OnWay cs (if l = j then _ else _) W
      split
      · rename_i e
        subst e
        obtain ⟨W, hW⟩ := ih l hl
        have hg := hm l hb
        rw [← step_at (cs := cs) (m := m) (mask := mask) (s := s) l l (.inl (Nat.le_refl _))] at hg
        exact ⟨_, (hW.step (goes_iff.1 hg).2).2⟩
      · exact ih l hl
    · exact ih l hl
theorem OnC.pass {cs : List Cd} {n : Nat} {s : CS} (h : OnC cs n s.L) : OnC cs n (passS cs n s).L := by
  intro l hl
  rw [pass_L]
  split
  · exact h l hl
  · unfold freeL
    rw [if_pos hl]
    obtain ⟨W, hw⟩ := h l hl
    exact ⟨W, hw.pass false⟩
theorem least_goes {cs : List Cd} {n : Nat} {L : Nat → Ln} : ∀ l, (leastTo cs L n).1.testBit l = true → goesL cs.length (L l) = true := fun l hb => by
  have := (least_spec (cs := cs) (L := L) n).2.2.1 l
  rw [hb] at this
  simp only [Bool.true_eq, Bool.and_eq_true, decide_eq_true_eq] at this
  exact this.2.1
theorem lnStep_good {cs : List Cd} {m id : Nat} {l : Ln} {M : Nat → Int} (hv : PValid cs) (hlt : l.at_ < cs.length) (hid : id ≤ 255) (hR : ∀ r, Word (l.R r)) (hM : ∀ j, Word (M j)) (r : Nat) : Word ((lnStep cs m id l M).R r) := by
  have hc : CdOk (cs.getD l.at_ default) := hv.1 _ (cdOk_mem hlt)
  unfold lnStep
  simp only
  split
  · exact hR r
  split
  · split <;> exact hR r
  split
  · exact hR r
  split
  · split <;> exact hR r
  split
  · split
    · split <;> exact hR r
    · exact hR r
  · exact simR_word hc hid hR hM r

/-- A new crowd's lanes. -/
theorem crowd_q {w0 w1 w2 : World} {n gl cl gm cm : Nat} {rows : Nat → Nat} {mem : List Int} {cs : List Cd} {vl : Value} (hok : RunOk cs n mem) (hcs : Codes w0 vl cs) (hp01 : Pure w0 w1) (hc : CrowdP w0.heap.size w1 n mem gl cl gm cm rows) (hcl : n ≤ cl) (hcl2 : cl ≤ 9223372036854775807) (hp12 : Pure w1 w2) :
    QRun ⟨w0, cs, vl, n, mem.length, gl, cl, gm, cm⟩ w2 (fun k => .slice (some ⟨rows k, 0, none⟩) 4 4) (fun _ => .slice none 0 0) (fun _ => ln0) (fun j => mem.getD j 0) := by
  obtain ⟨hcr, hmem⟩ := hc
  obtain ⟨_, ⟨hn1, hn8⟩, ⟨hm1, hm32⟩, hwords⟩ := hok
  have hf : ∀ {k : Nat} {ob : Obj}, w1.heap[k]? = some ob → w2.heap[k]? = some ob := fun hk => (Chg.of_pure (S := fun _ => False) hp12).heap hk id
  have hglo := own_lt hcr.own gl rfl
  refine ⟨hp01.trans hp12, hcs, (show 1 ≤ n by omega), (show n ≤ 8 by omega), hcl, hcl2, hglo.1, ?_, fun k hk => ⟨⟨_, _, rfl⟩, ?_, ?_⟩, ⟨hm1, hm32, hmem.pure hp12, fun j => ?_⟩, fun k hk => ⟨fun e => ?_, fun e => by cases e⟩, fun k hk r => show Word 0 from ⟨Int.le_refl 0, by decide⟩⟩
  · rcases hcr.own.2 with ⟨hv, _⟩ | ⟨g, cap, cur, hv, h1, h2, h3, h4, h5, h6⟩
    · cases hv
    · injection hv with hv _ hcc
      injection hv with hv
      injection hv with e1 e2
      subst e1
      refine ⟨cur, hf h2, fun k hk => ?_⟩
      have hk' : k < n := hk
      have hat : ∀ i, i < 4 → cur[k * 4 + i]? = (lane0L (rows k))[i]? := fun i hi => by
        rw [← laneLs_at rows hk' hi, ← h6, List.getElem?_take, if_pos (by omega), Array.getElem?_toList]
      exact ⟨(hat 0 (by decide)).trans rfl, (hat 1 (by decide)).trans rfl, (hat 2 (by decide)).trans rfl, (hat 3 (by decide)).trans rfl⟩
  · have hr := hf (hcr.row k hk)
    refine ⟨rfl, .inr ⟨rows k, 0, 4, zero4, rfl, hcr.lo k hk, hr, Nat.le_refl _, by decide, by decide, fun j u hu => ?_⟩⟩
    rw [Nat.zero_add, ← hu]
    show zero4[j]? = (row4 (fun _ => 0)).toList[j]?
    rw [← Array.getElem?_toList]; rfl
  · exact OwnO.of_own (World.ownsRow_nil _ _ _ _)
  · show Word (mem.getD j 0)
    by_cases hj : j < mem.length
    · exact hwords _ (getD_mem hj)
    · have : mem.getD j 0 = 0 := by rw [List.getD_eq_getElem?_getD, List.getElem?_eq_none (by omega)]; rfl
      rw [this]
      exact ⟨Int.le_refl 0, by decide⟩
  · have e2 : some (rows k) = some gm := e
    injection e2 with e2
    exact hcr.ne k hk e2

/-- A lane is stepped and laid back. -/
theorem QRun.laid {o : QO} {w w2 : World} {vr vt : Nat → Value} {L : Nat → Ln} {M M' : Nat → Int} {l' : Ln} {vr' vt' : Value} (h : QRun o w vr vt L M) {k : Nat} (hk : k < o.n) (hb : LnB w2 w.heap.size vr' vt' l') (hm : SMem w2 o.w0.heap.size o.gm o.m o.cm M') (hc : Chg (fun b => b = o.gm) w w2) (hg : ∀ r, Word (l'.R r)) :
    QRun o ((((w2.setCell ⟨o.gl, k * 4, none⟩ vr').setCell ⟨o.gl, k * 4 + 1, none⟩ (.int .i64 (l'.at_ : Nat))).setCell ⟨o.gl, k * 4 + 2, none⟩ vt').setCell ⟨o.gl, k * 4 + 3, none⟩ (.bool l'.W)) (upV vr k vr') (upV vt k vt') (upL L k l') M' ∧
    Chg (fun b => b = o.gl) w2 ((((w2.setCell ⟨o.gl, k * 4, none⟩ vr').setCell ⟨o.gl, k * 4 + 1, none⟩ (.int .i64 (l'.at_ : Nat))).setCell ⟨o.gl, k * 4 + 2, none⟩ vt').setCell ⟨o.gl, k * 4 + 3, none⟩ (.bool l'.W)) := by
  obtain ⟨cur, b1, b2⟩ := h.lanes
  have hne := h.ne_gl
  have hgm := h.gmLo
  have hw0 : o.w0.heap.size ≤ w.heap.size := h.pure.size
  have hb2' : w2.heap[o.gl]? = some (.cells cur 55 (0, 0)) := hc.heap b1 (fun e => hne.1 e.symm)
  have hcs : ∀ (u : World) (i : Nat) (x : Value), Chg (fun b => b = o.gl) u (u.setCell ⟨o.gl, i, none⟩ x) := fun u i x => Chg.of_set u _ _ _ rfl
  have hch := (((hcs w2 (k * 4) vr').trans (hcs _ (k * 4 + 1) (.int .i64 (l'.at_ : Nat)))).trans (hcs _ (k * 4 + 2) vt')).trans (hcs _ (k * 4 + 3) (.bool l'.W))
  have hrl := (hb.2.1).ne_heap hb2' (by decide)
  have htl := (hb.2.2).ne_heap hb2' (by decide)
  refine ⟨⟨Chg.pure (Chg.pure h.pure hc (fun b e => by rw [e]; exact hgm.1)) hch (fun b e => by rw [e]; exact h.gl0), h.codes, h.n1, h.n8, h.cl1, h.cl2, h.gl0,
    ⟨_, heap_setCell_same _ o.gl _ _ _ _ (heap_setCell_same _ o.gl _ _ _ _ (heap_setCell_same _ o.gl _ _ _ _ (heap_setCell_same _ o.gl _ _ _ _ hb2'))), fun j hj => ?_⟩, fun j hj => ?_, hm.chg hch hne.1, fun j hj => ?_, fun j hj r => ?_⟩, hch⟩
  · obtain ⟨c0, c1, c2, c3⟩ := b2 j hj
    unfold QLaneC upL upV
    by_cases e : j = k
    · subst e
      simp only [if_true]
      have hlt : j * 4 + 3 < cur.size := (Array.getElem?_eq_some_iff.1 c3).1
      refine ⟨?_, ?_, ?_, ?_⟩
      · rw [Array.getElem?_setIfInBounds_ne (by omega), Array.getElem?_setIfInBounds_ne (by omega), Array.getElem?_setIfInBounds_ne (by omega), Array.getElem?_setIfInBounds_self_of_lt (by omega)]
      · rw [Array.getElem?_setIfInBounds_ne (by omega), Array.getElem?_setIfInBounds_ne (by omega), Array.getElem?_setIfInBounds_self_of_lt (by simp; omega)]
      · rw [Array.getElem?_setIfInBounds_ne (by omega), Array.getElem?_setIfInBounds_self_of_lt (by simp; omega)]
      · rw [Array.getElem?_setIfInBounds_self_of_lt (by simp; omega)]
    · simp only [e, if_false]
      refine ⟨?_, ?_, ?_, ?_⟩ <;> (rw [Array.getElem?_setIfInBounds_ne (by omega), Array.getElem?_setIfInBounds_ne (by omega), Array.getElem?_setIfInBounds_ne (by omega), Array.getElem?_setIfInBounds_ne (by omega)]; assumption)
  · unfold upL upV
    by_cases e : j = k
    · subst e
      simp only [if_true]
      exact ⟨hb.1, (OwnO.base' hb.2.1 hw0).chg hch (fun g hg e => hrl g hg e), (OwnO.base' hb.2.2 hw0).chg hch (fun g hg e => htl g hg e)⟩
    · simp only [e, if_false]
      exact ((h.lnb j hj).chg hc (fun g hg e2 => (h.ne j hj).1 (by rw [hg, e2])) (fun g hg e2 => (h.ne j hj).2 (by rw [hg, e2]))).chg hch (fun g hg e2 => (hne.2 j hj).1 (by rw [hg, e2])) (fun g hg e2 => (hne.2 j hj).2 (by rw [hg, e2]))
  · unfold upV
    by_cases e : j = k
    · subst e
      simp only [if_true]
      exact ⟨fun e2 => by have := (hb.2.1.lt o.gm e2).1; omega, fun e2 => by have := (hb.2.2.lt o.gm e2).1; omega⟩
    · simp only [e, if_false]
      exact h.ne j hj
  · unfold upL
    by_cases e : j = k
    · subst e
      simp only [if_true]
      exact hg r
    · simp only [e, if_false]
      exact h.good j hj r

end Go.Proofs.Ytajaonejpggcbaa
