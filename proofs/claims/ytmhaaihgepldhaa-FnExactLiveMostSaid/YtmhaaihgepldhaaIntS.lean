/- The laws' helpers on []int and [][]int: sizes, copies, comparisons. No condition. -/
import Derived.Test.YtmhaaihgepldhaaElems
namespace Go.Proofs.Ytmhaaihgepldhaa
open Go.RowKit

set_option maxHeartbeats 400000 in
theorem szIntS_any (v : Value) (xs : List Int) (left : Int) (w : World) (h : Ints w v xs) (hl0 : 0 ≤ left) (hl1 : left ≤ 1048576) :
    Calls Try.prog 47 #[v, .int .i64 left] w fun e w' => e = .returned (.int .i64 (if left < xs.length then -1 else left - xs.length)) ∧ w = w' := by
  obtain ⟨A, c, rfl, hnc, hcm, hread⟩ := h
  clear hread
  by_cases hlt : left < xs.length
  · rw [if_pos hlt]
    go_enter Try.func47, Try.ntmps47
    go_wp2
    go_ret
    exact ⟨rfl, rfl⟩
  · rw [if_neg hlt]
    go_enter Try.func47, Try.ntmps47
    go_wp2
    go_ret
    exact ⟨rfl, rfl⟩

set_option maxHeartbeats 400000 in
theorem toIntS_any (v : Value) (xs : List Int) (w : World) (h : Ints w v xs) (hlen : xs.length ≤ 17592186044416) :
    Calls Try.prog 49 #[v] w fun e w' => ∃ v', e = .returned v' ∧ w'.ownsRow w.heap.size 3 1 v' xs.length (xs.map (.int .i64)) ∧ Pure w w' := by
  obtain ⟨A, c, rfl, hnc, hcm, hread⟩ := h
  go_enter Try.func49, Try.ntmps49
  go_wp2_with (at_make; refine wl_make elInt rfl _ _ rfl w.heap.size _ _ _ _ xs.length rfl rfl rfl rfl (by omega) (by omega) (Nat.le_refl _) ?_; intro w1 hown hp hsz)
  go_loopw [4] (fun i wr => ∃ k : Nat, k ≤ xs.length ∧ i = .int .i64 k ∧ Pure w wr ∧ ∃ ys, wr.ownsRow w.heap.size 3 1 (.slice (some ⟨w.heap.size, 0, none⟩) xs.length xs.length) xs.length ys ∧ ∀ j, j < k → ys[j]? = some (.int .i64 (xs.getD j 0))) (fun i _ => xs.length - (intOf i).toNat)
  case atStart => exact ⟨0, Nat.zero_le _, rfl, hp, _, hown, fun j hj => absurd hj (by omega)⟩
  case round =>
    clear hown hp hsz w1
    obtain ⟨k, hk, rfl, hp, ys, hown, hys⟩ := hrel
    by_cases hlt : k < xs.length
    · obtain ⟨b, o, rfl, hb, hc⟩ := hread (by omega)
      have hx := (hp.cell b (o + k) hb).trans (hc k (by omega))
      have hy := hown.cellAt k (by omega)
      have hl : k < ys.length := by have := hown.1; omega
      rw [List.getElem?_eq_getElem hl] at hy
      have hf := hown.frozenAt k
      have hne : w.heap.size ≠ b := by omega
      have Hst := Lib.hid (hown.stored k (.int .i64 (xs.getD k 0))).1
      have Hys := Lib.hid hys
      clear hread hc hys hown
      obtain ⟨x, Hx⟩ : ∃ x, Hid (xs.getD k 0 = x) := ⟨_, rfl⟩
      rw [Hx.out] at hx Hst
      go_wp2
      go_roundw
      case rel =>
        refine ⟨k + 1, by omega, by go_num, Pure.setCell hp (Nat.le_refl _) _, _, Hst.out, fun j hj => ?_⟩
        rw [List.getElem?_set]
        by_cases hjk : k = j
        · subst hjk; rw [if_pos rfl, if_pos hl, Hx.out]
        · rw [if_neg hjk]; exact Hys.out j (by omega)
      case measure => simp [intOf]; omega
    · have hk' : k = xs.length := by omega
      subst hk'
      go_wp2
      go_ret
      refine ⟨_, rfl, ?_, hp⟩
      have hl := hown.1
      have : ys = xs.map (.int .i64) := by
        apply List.ext_getElem?
        intro j
        by_cases hj : j < xs.length
        · rw [hys j hj]; simp [hj]
        · rw [List.getElem?_eq_none (by omega), List.getElem?_eq_none (by simp; omega)]
      rw [← this]; exact hown


theorem getD_ext {xs ys : List Int} (hl : xs.length = ys.length) (h : ∀ j, j < xs.length → xs.getD j 0 = ys.getD j 0) : xs = ys := by
  apply List.ext_getElem hl
  intro j h1 h2
  have := h j h1
  simpa [List.getD_eq_getElem?_getD, h1, h2] using this

set_option maxHeartbeats 400000 in
theorem eqIntS_any (v v' : Value) (xs ys : List Int) (w : World) (h : Ints w v xs) (h' : Ints w v' ys) (B : Bool) (hB : decide (xs = ys) = B) :
    Calls Try.prog 39 #[v, v'] w fun e w' => e = .returned (.bool B) ∧ ∃ n, w' = w.drewN n := by
  obtain ⟨A, c, rfl, hnc, hcm, hread⟩ := h
  obtain ⟨A', c', rfl, hnc', hcm', hread'⟩ := h'
  have HB := Lib.hid hB; clear hB
  by_cases hl : xs.length = ys.length
  · have hl' : (!((xs.length : Int) == ys.length)) = false := by simp [hl]
    have hl2 : ((xs.length : Int) != ys.length) = false := by simp [hl]
    have hle : xs.length ≤ ys.length := by omega
    have hle' : ys.length ≤ xs.length := by omega
    have HL := Lib.hid hl; clear hl
    go_enter Try.func39, Try.ntmps39
    go_wp2
    go_loopw [5] (fun i wr => ∃ k : Nat, k ≤ xs.length ∧ i = .int .i64 k ∧ (∃ n, wr = w.drewN n) ∧ ∀ j, j < k → xs.getD j 0 = ys.getD j 0) (fun i _ => xs.length - (intOf i).toNat)
    case atStart => exact ⟨0, Nat.zero_le _, rfl, ⟨0, rfl⟩, fun j hj => absurd hj (by omega)⟩
    case round =>
      obtain ⟨k, hk, rfl, ⟨n0, rfl⟩, heq⟩ := hrel
      have Heq := Lib.hid heq; clear heq
      by_cases hlt : k < xs.length
      · obtain ⟨b, o, rfl, hb, hc⟩ := hread (by omega)
        obtain ⟨b', o', rfl, hb', hc'⟩ := hread' (by omega)
        have hx := hc k (by omega)
        have hy := hc' k (by omega)
        clear hread hread' hc hc'
        have hlt' : k < ys.length := by omega
        obtain ⟨x, Hx⟩ : ∃ x, Hid (xs.getD k 0 = x) := ⟨_, rfl⟩
        obtain ⟨y, Hy⟩ : ∃ y, Hid (ys.getD k 0 = y) := ⟨_, rfl⟩
        rw [Hx.out] at hx
        rw [Hy.out] at hy
        by_cases hxy : x = y
        · have hd : (x != y) = false := by simp [hxy]
          have Hxy := Lib.hid hxy; clear hxy
          go_wp2
          go_quiet (fail)
          go_wp2
          go_roundw
          case rel =>
            refine ⟨k + 1, by omega, by go_num, (by first | exact ⟨_, rfl⟩ | exact ⟨_, World.drewN_drewN _ _ _⟩ | exact ⟨0, rfl⟩), fun j hj => ?_⟩
            by_cases hjk : j = k
            · subst hjk; rw [Hx.out, Hy.out]; exact Hxy.out
            · exact Heq.out j (by omega)
          case measure => simp [intOf]; omega
        · have hd : (x != y) = true := by simp [hxy]
          have Hxy := Lib.hid hxy; clear hxy
          go_wp2
          go_quiet (fail)
          go_wp2
          go_ret
          refine ⟨ret_bool ?_, (by first | exact ⟨_, rfl⟩ | exact ⟨_, World.drewN_drewN _ _ _⟩ | exact ⟨0, rfl⟩)⟩
          rw [← HB.out]
          refine (decide_eq_false ?_).symm
          rintro rfl
          exact Hxy.out (Hx.out.symm.trans Hy.out)
      · go_wp2
        go_ret
        refine ⟨ret_bool ?_, _, rfl⟩
        rw [← HB.out]
        exact (decide_eq_true (getD_ext HL.out fun j hj => Heq.out j (by omega))).symm
  · have hl' : ((xs.length : Int) != ys.length) = true := by rw [bne_iff_ne]; omega
    have HL := Lib.hid hl; clear hl
    go_enter Try.func39, Try.ntmps39
    go_wp2
    go_ret
    refine ⟨ret_bool ?_, 0, rfl⟩
    rw [← HB.out]
    refine (decide_eq_false ?_).symm
    rintro rfl
    exact HL.out rfl

def SzSS (xss : List (List Int)) (left : Int) (w : World) (e : Ending) (w' : World) : Prop :=
  (∃ r : Int, e = .returned (.int .i64 r) ∧ (0 ≤ r → xss.length ≤ left ∧ ∀ k, k < xss.length → (xss.getD k []).length ≤ left)) ∧ w = w'

set_option maxHeartbeats 400000 in
theorem szIntSS_any (v : Value) (xss : List (List Int)) (left : Int) (w : World) (h : IntRows w v xss) (hl0 : 0 ≤ left) (hl1 : left ≤ 1048576) :
    Calls Try.prog 13 #[v, .int .i64 left] w (SzSS xss left w) := by
  obtain ⟨A, c, rfl, hnc, hcm, hread⟩ := h
  by_cases hl : left < xss.length
  · go_enter Try.func13, Try.ntmps13
    go_wp2
    go_ret
    exact ⟨⟨_, rfl, fun h => absurd h (by omega)⟩, rfl⟩
  · go_enter Try.func13, Try.ntmps13
    go_wp2
    go_loop [1, 5] (fun l i => ∃ (k : Nat) (z : Int), k ≤ xss.length ∧ i = .int .i64 k ∧ l = .int .i64 z ∧ 0 ≤ z ∧ z ≤ left ∧ ∀ j, j < k → (xss.getD j []).length ≤ left) (fun _ i => xss.length - (intOf i).toNat)
    case atStart => exact ⟨0, _, Nat.zero_le _, rfl, rfl, by omega, by omega, fun j hj => absurd hj (by omega)⟩
    case round =>
      obtain ⟨k, z, hk, rfl, rfl, hz0, hz1, hall⟩ := hrel
      have Hall := Lib.hid hall; clear hall
      by_cases hlt : k < xss.length
      · obtain ⟨b, o, rfl, hb, hc⟩ := hread (by omega)
        obtain ⟨r, hr, hrow⟩ := hc k hlt
        clear hread hc
        obtain ⟨xs, Hxs⟩ : ∃ xs, Hid (xss.getD k [] = xs) := ⟨_, rfl⟩
        rw [Hxs.out] at hrow
        by_cases hzl : z < xs.length
        · go_wp2_with (go_at_call 47; refine (szIntS_any _ _ _ _ hrow hz0 (by omega)).mono ?_; rw [if_pos hzl]; rintro e w' ⟨rfl, rfl⟩)
          go_ret
          exact ⟨⟨_, rfl, fun h => absurd h (by omega)⟩, rfl⟩
        · go_wp2_with (go_at_call 47; refine (szIntS_any _ _ _ _ hrow hz0 (by omega)).mono ?_; rw [if_neg hzl]; rintro e w' ⟨rfl, rfl⟩)
          go_round
          case rel =>
            refine ⟨k + 1, _, by omega, by go_num, rfl, by omega, by omega, fun j hj => ?_⟩
            by_cases hjk : j = k
            · subst hjk; rw [Hxs.out]; omega
            · exact Hall.out j (by omega)
          case measure => simp [intOf]; omega
      · go_wp2
        go_ret
        exact ⟨⟨_, rfl, fun _ => ⟨by omega, fun j hj => Hall.out j (by omega)⟩⟩, rfl⟩

theorem IntRows.of_own {w : World} {B e n : Nat} {v : Value} {xs : List Value} {xss : List (List Int)} (h : w.ownsRow B e 1 v n xs) (hn : n = xss.length) (hf : ∀ j, j < xss.length → ∃ r, xs[j]? = some r ∧ Ints w r (xss.getD j [])) : IntRows w v xss := by
  subst hn
  rcases h.2 with ⟨rfl, h0⟩ | ⟨g, cap, cur, rfl, _, hg, hnc, hcm, _⟩
  · exact ⟨none, 0, by rw [h0], by omega, by omega, fun h => absurd h (by omega)⟩
  · refine ⟨_, cap, rfl, hnc, by unfold maxLen at hcm; omega, fun hn => ⟨g, 0, rfl, (Array.getElem?_eq_some_iff.1 hg).1, fun j hj => ?_⟩⟩
    obtain ⟨r, h1, h2⟩ := hf j hj
    exact ⟨r, by rw [Nat.zero_add, h.cellAt j (by omega)]; exact h1, h2⟩

set_option maxHeartbeats 400000 in
theorem toIntSS_any (v : Value) (xss : List (List Int)) (w : World) (h : IntRows w v xss) (hlen : xss.length ≤ 1048576) (hlens : ∀ k, k < xss.length → (xss.getD k []).length ≤ 1048576) :
    Calls Try.prog 15 #[v] w fun e w' => ∃ v', e = .returned v' ∧ IntRows w' v' xss ∧ Pure w w' := by
  obtain ⟨A, c, rfl, hnc, hcm, hread⟩ := h
  have Hlens := Lib.hid hlens; clear hlens
  go_enter Try.func15, Try.ntmps15
  go_wp2_with (at_make; refine wl_make elInts rfl _ _ rfl w.heap.size _ _ _ _ xss.length rfl rfl rfl rfl (by omega) (by omega) (Nat.le_refl _) ?_; intro w1 hown hp hsz)
  go_loopw [4] (fun i wr => ∃ k : Nat, k ≤ xss.length ∧ i = .int .i64 k ∧ Pure w wr ∧ ∃ ys, wr.ownsRow w.heap.size 53 1 (.slice (some ⟨w.heap.size, 0, none⟩) xss.length xss.length) xss.length ys ∧ ∀ j, j < k → ∃ r, ys[j]? = some r ∧ Ints wr r (xss.getD j []) ∧ ∀ g, r.ownBlock = some g → w.heap.size < g) (fun i _ => xss.length - (intOf i).toNat)
  case atStart => exact ⟨0, Nat.zero_le _, rfl, hp, _, hown, fun j hj => absurd hj (by omega)⟩
  case round =>
    clear hown hp hsz w1
    obtain ⟨k, hk, rfl, hp, ys, hown, hys⟩ := hrel
    by_cases hlt : k < xss.length
    · obtain ⟨b, o, rfl, hb, hc⟩ := hread (by omega)
      obtain ⟨r, hr, hrow⟩ := hc k hlt
      have hx := (hp.cell b (o + k) hb).trans hr
      obtain ⟨xs, Hxs⟩ : ∃ xs, Hid (xss.getD k [] = xs) := ⟨_, rfl⟩
      have hl1 := Hlens.out k hlt
      rw [Hxs.out] at hrow hl1
      have hrow' := hrow.keep hp
      have Hys := Lib.hid hys
      clear hread hc hys hr hrow
      have hcell := hown.cellAt k (by omega)
      have hl : k < ys.length := by have := hown.1; omega
      rw [List.getElem?_eq_getElem hl] at hcell
      have hf := hown.frozenAt k
      have hsz := (hown.lt w.heap.size rfl).2
      have Hown := Lib.hid hown; clear hown
      go_wp2_with fail
      refine (toIntS_any _ _ _ hrow' (by omega)).mono ?_
      rintro e w1 ⟨r1, rfl, hown1, hp1⟩
      have hints := Ints.of_map hown1
      obtain ⟨A1, c1, rfl⟩ := hints.form
      have hown2 := own_pure Hown.out hp1
      have hcell2 := (hp1.cell w.heap.size k hsz).trans hcell
      have hf2 := (hp1.frozen w.heap.size k hsz).trans hf
      have Hst := Lib.hid (hown2.stored k (.slice A1 xs.length c1)).1
      have Hints := Lib.hid hints
      have Hown1 := Lib.hid hown1
      have hb2 : b < w1.heap.size := by have := hp.size; have := hp1.size; omega
      have hp2 := hp.trans hp1
      clear hown2 hints hown1 hx hcell hf
      go_wp2
      go_roundw
      case rel =>
        refine ⟨k + 1, by omega, by go_num, Pure.setCell hp2 (Nat.le_refl _) _, _, Hst.out, fun j hj => ?_⟩
        have hg := grown_setCell w1 ⟨w.heap.size, k, none⟩ (.slice A1 xs.length c1)
        rw [List.getElem?_set]
        by_cases hjk : k = j
        · subst hjk
          have hne : ∀ g, (Value.slice A1 xs.length c1).ownBlock = some g → w.heap.size < g := fun g hg => by have := own_lt Hown1.out g hg; omega
          exact ⟨_, by rw [if_pos rfl, if_pos hl], by rw [Hxs.out]; exact Hints.out.other hg (fun g hg => by have := hne g hg; simp; omega), hne⟩
        · rw [if_neg hjk]
          obtain ⟨r, h1, h2, h3⟩ := Hys.out j (by omega)
          exact ⟨r, h1, (h2.keep hp1).other hg (fun g hg => by have := h3 g hg; simp; omega), h3⟩
      case measure => simp [intOf]; omega
    · have hk' : k = xss.length := by omega
      subst hk'
      go_wp2
      go_ret
      exact ⟨_, rfl, IntRows.of_own hown rfl (fun j hj => (hys j hj).imp fun r h => ⟨h.1, h.2.1⟩), hp⟩

set_option maxHeartbeats 400000 in
theorem eqIntSS_any (v v' : Value) (xss yss : List (List Int)) (w : World) (h : IntRows w v xss) (h' : IntRows w v' yss) (hxy : xss = yss) :
    Calls Try.prog 17 #[v, v'] w fun e w' => e = .returned (.bool true) ∧ Pure w w' := by
  subst hxy
  obtain ⟨A, c, rfl, hnc, hcm, hread⟩ := h
  obtain ⟨A', c', rfl, hnc', hcm', hread'⟩ := h'
  have hl' : (!((xss.length : Int) == xss.length)) = false := by simp
  have hl2 : ((xss.length : Int) != xss.length) = false := by simp
  go_enter Try.func17, Try.ntmps17
  go_wp2
  go_loopw [5] (fun i wr => ∃ k : Nat, k ≤ xss.length ∧ i = .int .i64 k ∧ Pure w wr) (fun i _ => xss.length - (intOf i).toNat)
  case atStart => exact ⟨0, Nat.zero_le _, rfl, Pure.refl _⟩
  case round =>
    obtain ⟨k, hk, rfl, hp⟩ := hrel
    by_cases hlt : k < xss.length
    · obtain ⟨b, o, rfl, hb, hc⟩ := hread (by omega)
      obtain ⟨b', o', rfl, hb', hc'⟩ := hread' (by omega)
      obtain ⟨r, hr, hrow⟩ := hc k hlt
      obtain ⟨r', hr', hrow'⟩ := hc' k hlt
      have hx := (hp.cell b (o + k) hb).trans hr
      have hy := (hp.cell b' (o' + k) hb').trans hr'
      have hrow1 := hrow.keep hp
      have hrow1' := hrow'.keep hp
      clear hread hread' hc hc' hr hr' hrow hrow'
      obtain ⟨xs, Hxs⟩ : ∃ xs, Hid (xss.getD k [] = xs) := ⟨_, rfl⟩
      rw [Hxs.out] at hrow1 hrow1'
      go_wp2
      go_quiet ((go_at_call 39; exact Calls.quiet_of (eqIntS_any _ _ xs xs _ (hrow1.keep (Pure.drewN (Pure.refl _) _)) (hrow1'.keep (Pure.drewN (Pure.refl _) _)) true (by simp))))
      go_wp2
      go_roundw
      case rel => exact ⟨k + 1, by omega, by go_num, Pure.drewN hp _⟩
      case measure => simp [intOf]; omega
    · go_wp2
      go_ret
      exact ⟨rfl, hp⟩

end Go.Proofs.Ytmhaaihgepldhaa
