/- The laws' helpers on []int and [][]int: sizes, copies, comparisons. The law FnExactNearestPost: the program's NearestPost gives what the reference's gives, for all arguments. Instructions and programs, plainly: which are valid, where blocks end, which block is around a place. No program in sight. Slices of instructions in memory; the laws' helpers on them: size, copy, comparison. append, and where the grown slice lies: in the block where it was, or in a new one; from whatever source. No condition. -/
import Derived.Deep.LoopGhost
import Derived.Deep.RegionWith
import Derived.Maps.AppendAt
import Derived.Test.YtmhaaihgepldhaaKaa
import Derived.Test.YtmhaaihgepldhaaKab

namespace Go.Proofs.Ytmhaaihgepldhaa
open Go.RowKit

set_option maxHeartbeats 400000 in
theorem szIntS_any (v : Value) (xs : List Int) (left : Int) (w : World) (h : Ints w v xs) (hl0 : 0 ≤ left) (hl1 : left ≤ 1048576) :
    Calls Try.prog 47 #[v, .int .i64 left] w fun e w' => e = .returned (.int .i64 (if left < xs.length then -1 else left - xs.length)) ∧ w = w' := by
  obtain ⟨A, c, rfl, hnc, hcm, hread⟩ := h
  clear hread
  by_cases hlt : left < xs.length
  · rw [if_pos hlt]
    go_enter Try.func47, Try.ntmps47
    go_wp2
    go_ret
    exact ⟨rfl, rfl⟩
  · rw [if_neg hlt]
    go_enter Try.func47, Try.ntmps47
    go_wp2
    go_ret
    exact ⟨rfl, rfl⟩

set_option maxHeartbeats 400000 in
theorem toIntS_any (v : Value) (xs : List Int) (w : World) (h : Ints w v xs) (hlen : xs.length ≤ 17592186044416) :
    Calls Try.prog 49 #[v] w fun e w' => ∃ v', e = .returned v' ∧ w'.ownsRow w.heap.size 3 1 v' xs.length (xs.map (.int .i64)) ∧ Pure w w' := by
  obtain ⟨A, c, rfl, hnc, hcm, hread⟩ := h
  go_enter Try.func49, Try.ntmps49
  go_wp2_with (at_make; refine wl_make elInt rfl _ _ rfl w.heap.size _ _ _ _ xs.length rfl rfl rfl rfl (by omega) (by omega) (Nat.le_refl _) ?_; intro w1 hown hp hsz)
  go_loopw [4] (fun i wr => ∃ k : Nat, k ≤ xs.length ∧ i = .int .i64 k ∧ Pure w wr ∧ ∃ ys, wr.ownsRow w.heap.size 3 1 (.slice (some ⟨w.heap.size, 0, none⟩) xs.length xs.length) xs.length ys ∧ ∀ j, j < k → ys[j]? = some (.int .i64 (xs.getD j 0))) (fun i _ => xs.length - (intOf i).toNat)
  case atStart => exact ⟨0, Nat.zero_le _, rfl, hp, _, hown, fun j hj => absurd hj (by omega)⟩
  case round =>
    clear hown hp hsz w1
    obtain ⟨k, hk, rfl, hp, ys, hown, hys⟩ := hrel
    by_cases hlt : k < xs.length
    · obtain ⟨b, o, rfl, hb, hc⟩ := hread (by omega)
      have hx := (hp.cell b (o + k) hb).trans (hc k (by omega))
      have hy := hown.cellAt k (by omega)
      have hl : k < ys.length := by have := hown.1; omega
      rw [List.getElem?_eq_getElem hl] at hy
      have hf := hown.frozenAt k
      have hne : w.heap.size ≠ b := by omega
      have Hst := Lib.hid (hown.stored k (.int .i64 (xs.getD k 0))).1
      have Hys := Lib.hid hys
      clear hread hc hys hown
      obtain ⟨x, Hx⟩ : ∃ x, Hid (xs.getD k 0 = x) := ⟨_, rfl⟩
      rw [Hx.out] at hx Hst
      go_wp2
      go_roundw
      case rel =>
        refine ⟨k + 1, by omega, by go_num, Pure.setCell hp (Nat.le_refl _) _, _, Hst.out, fun j hj => ?_⟩
        rw [List.getElem?_set]
        by_cases hjk : k = j
        · subst hjk; rw [if_pos rfl, if_pos hl, Hx.out]
        · rw [if_neg hjk]; exact Hys.out j (by omega)
      case measure => simp [intOf]; omega
    · have hk' : k = xs.length := by omega
      subst hk'
      go_wp2
      go_ret
      refine ⟨_, rfl, ?_, hp⟩
      have hl := hown.1
      have : ys = xs.map (.int .i64) := by
        apply List.ext_getElem?
        intro j
        by_cases hj : j < xs.length
        · rw [hys j hj]; simp [hj]
        · rw [List.getElem?_eq_none (by omega), List.getElem?_eq_none (by simp; omega)]
      rw [← this]; exact hown


theorem getD_ext {xs ys : List Int} (hl : xs.length = ys.length) (h : ∀ j, j < xs.length → xs.getD j 0 = ys.getD j 0) : xs = ys := by
  apply List.ext_getElem hl
  intro j h1 h2
  have := h j h1
  simpa [List.getD_eq_getElem?_getD, h1, h2] using this

set_option maxHeartbeats 400000 in
theorem eqIntS_any (v v' : Value) (xs ys : List Int) (w : World) (h : Ints w v xs) (h' : Ints w v' ys) (B : Bool) (hB : decide (xs = ys) = B) :
    Calls Try.prog 39 #[v, v'] w fun e w' => e = .returned (.bool B) ∧ ∃ n, w' = w.drewN n := by
  obtain ⟨A, c, rfl, hnc, hcm, hread⟩ := h
  obtain ⟨A', c', rfl, hnc', hcm', hread'⟩ := h'
  have HB := Lib.hid hB; clear hB
  by_cases hl : xs.length = ys.length
  · have hl' : (!((xs.length : Int) == ys.length)) = false := by simp [hl]
    have hl2 : ((xs.length : Int) != ys.length) = false := by simp [hl]
    have hle : xs.length ≤ ys.length := by omega
    have hle' : ys.length ≤ xs.length := by omega
    have HL := Lib.hid hl; clear hl
    go_enter Try.func39, Try.ntmps39
    go_wp2
    go_loopw [5] (fun i wr => ∃ k : Nat, k ≤ xs.length ∧ i = .int .i64 k ∧ (∃ n, wr = w.drewN n) ∧ ∀ j, j < k → xs.getD j 0 = ys.getD j 0) (fun i _ => xs.length - (intOf i).toNat)
    case atStart => exact ⟨0, Nat.zero_le _, rfl, ⟨0, rfl⟩, fun j hj => absurd hj (by omega)⟩
    case round =>
      obtain ⟨k, hk, rfl, ⟨n0, rfl⟩, heq⟩ := hrel
      have Heq := Lib.hid heq; clear heq
      by_cases hlt : k < xs.length
      · obtain ⟨b, o, rfl, hb, hc⟩ := hread (by omega)
        obtain ⟨b', o', rfl, hb', hc'⟩ := hread' (by omega)
        have hx := hc k (by omega)
        have hy := hc' k (by omega)
        clear hread hread' hc hc'
        have hlt' : k < ys.length := by omega
        obtain ⟨x, Hx⟩ : ∃ x, Hid (xs.getD k 0 = x) := ⟨_, rfl⟩
        obtain ⟨y, Hy⟩ : ∃ y, Hid (ys.getD k 0 = y) := ⟨_, rfl⟩
        rw [Hx.out] at hx
        rw [Hy.out] at hy
        by_cases hxy : x = y
        · have hd : (x != y) = false := by simp [hxy]
          have Hxy := Lib.hid hxy; clear hxy
          go_wp2
          go_quiet (fail)
          go_wp2
          go_roundw
          case rel =>
            refine ⟨k + 1, by omega, by go_num, (by first | exact ⟨_, rfl⟩ | exact ⟨_, World.drewN_drewN _ _ _⟩ | exact ⟨0, rfl⟩), fun j hj => ?_⟩
            by_cases hjk : j = k
            · subst hjk; rw [Hx.out, Hy.out]; exact Hxy.out
            · exact Heq.out j (by omega)
          case measure => simp [intOf]; omega
        · have hd : (x != y) = true := by simp [hxy]
          have Hxy := Lib.hid hxy; clear hxy
          go_wp2
          go_quiet (fail)
          go_wp2
          go_ret
          refine ⟨ret_bool ?_, (by first | exact ⟨_, rfl⟩ | exact ⟨_, World.drewN_drewN _ _ _⟩ | exact ⟨0, rfl⟩)⟩
          rw [← HB.out]
          refine (decide_eq_false ?_).symm
          rintro rfl
          exact Hxy.out (Hx.out.symm.trans Hy.out)
      · go_wp2
        go_ret
        refine ⟨ret_bool ?_, _, rfl⟩
        rw [← HB.out]
        exact (decide_eq_true (getD_ext HL.out fun j hj => Heq.out j (by omega))).symm
  · have hl' : ((xs.length : Int) != ys.length) = true := by rw [bne_iff_ne]; omega
    have HL := Lib.hid hl; clear hl
    go_enter Try.func39, Try.ntmps39
    go_wp2
    go_ret
    refine ⟨ret_bool ?_, 0, rfl⟩
    rw [← HB.out]
    refine (decide_eq_false ?_).symm
    rintro rfl
    exact HL.out rfl

def SzSS (xss : List (List Int)) (left : Int) (w : World) (e : Ending) (w' : World) : Prop :=
  (∃ r : Int, e = .returned (.int .i64 r) ∧ (0 ≤ r → xss.length ≤ left ∧ ∀ k, k < xss.length → (xss.getD k []).length ≤ left)) ∧ w = w'

set_option maxHeartbeats 400000 in
theorem szIntSS_any (v : Value) (xss : List (List Int)) (left : Int) (w : World) (h : IntRows w v xss) (hl0 : 0 ≤ left) (hl1 : left ≤ 1048576) :
    Calls Try.prog 13 #[v, .int .i64 left] w (SzSS xss left w) := by
  obtain ⟨A, c, rfl, hnc, hcm, hread⟩ := h
  by_cases hl : left < xss.length
  · go_enter Try.func13, Try.ntmps13
    go_wp2
    go_ret
    exact ⟨⟨_, rfl, fun h => absurd h (by omega)⟩, rfl⟩
  · go_enter Try.func13, Try.ntmps13
    go_wp2
    go_loop [1, 5] (fun l i => ∃ (k : Nat) (z : Int), k ≤ xss.length ∧ i = .int .i64 k ∧ l = .int .i64 z ∧ 0 ≤ z ∧ z ≤ left ∧ ∀ j, j < k → (xss.getD j []).length ≤ left) (fun _ i => xss.length - (intOf i).toNat)
    case atStart => exact ⟨0, _, Nat.zero_le _, rfl, rfl, by omega, by omega, fun j hj => absurd hj (by omega)⟩
    case round =>
      obtain ⟨k, z, hk, rfl, rfl, hz0, hz1, hall⟩ := hrel
      have Hall := Lib.hid hall; clear hall
      by_cases hlt : k < xss.length
      · obtain ⟨b, o, rfl, hb, hc⟩ := hread (by omega)
        obtain ⟨r, hr, hrow⟩ := hc k hlt
        clear hread hc
        obtain ⟨xs, Hxs⟩ : ∃ xs, Hid (xss.getD k [] = xs) := ⟨_, rfl⟩
        rw [Hxs.out] at hrow
        by_cases hzl : z < xs.length
        · go_wp2_with (go_at_call 47; refine (szIntS_any _ _ _ _ hrow hz0 (by omega)).mono ?_; rw [if_pos hzl]; rintro e w' ⟨rfl, rfl⟩)
          go_ret
          exact ⟨⟨_, rfl, fun h => absurd h (by omega)⟩, rfl⟩
        · go_wp2_with (go_at_call 47; refine (szIntS_any _ _ _ _ hrow hz0 (by omega)).mono ?_; rw [if_neg hzl]; rintro e w' ⟨rfl, rfl⟩)
          go_round
          case rel =>
            refine ⟨k + 1, _, by omega, by go_num, rfl, by omega, by omega, fun j hj => ?_⟩
            by_cases hjk : j = k
            · subst hjk; rw [Hxs.out]; omega
            · exact Hall.out j (by omega)
          case measure => simp [intOf]; omega
      · go_wp2
        go_ret
        exact ⟨⟨_, rfl, fun _ => ⟨by omega, fun j hj => Hall.out j (by omega)⟩⟩, rfl⟩

theorem IntRows.of_own {w : World} {B e n : Nat} {v : Value} {xs : List Value} {xss : List (List Int)} (h : w.ownsRow B e 1 v n xs) (hn : n = xss.length) (hf : ∀ j, j < xss.length → ∃ r, xs[j]? = some r ∧ Ints w r (xss.getD j [])) : IntRows w v xss := by
  subst hn
  rcases h.2 with ⟨rfl, h0⟩ | ⟨g, cap, cur, rfl, _, hg, hnc, hcm, _⟩
  · exact ⟨none, 0, by rw [h0], by omega, by omega, fun h => absurd h (by omega)⟩
  · refine ⟨_, cap, rfl, hnc, by unfold maxLen at hcm; omega, fun hn => ⟨g, 0, rfl, (Array.getElem?_eq_some_iff.1 hg).1, fun j hj => ?_⟩⟩
    obtain ⟨r, h1, h2⟩ := hf j hj
    exact ⟨r, by rw [Nat.zero_add, h.cellAt j (by omega)]; exact h1, h2⟩

set_option maxHeartbeats 400000 in
theorem toIntSS_any (v : Value) (xss : List (List Int)) (w : World) (h : IntRows w v xss) (hlen : xss.length ≤ 1048576) (hlens : ∀ k, k < xss.length → (xss.getD k []).length ≤ 1048576) :
    Calls Try.prog 15 #[v] w fun e w' => ∃ v', e = .returned v' ∧ IntRows w' v' xss ∧ Pure w w' := by
  obtain ⟨A, c, rfl, hnc, hcm, hread⟩ := h
  have Hlens := Lib.hid hlens; clear hlens
  go_enter Try.func15, Try.ntmps15
  go_wp2_with (at_make; refine wl_make elInts rfl _ _ rfl w.heap.size _ _ _ _ xss.length rfl rfl rfl rfl (by omega) (by omega) (Nat.le_refl _) ?_; intro w1 hown hp hsz)
  go_loopw [4] (fun i wr => ∃ k : Nat, k ≤ xss.length ∧ i = .int .i64 k ∧ Pure w wr ∧ ∃ ys, wr.ownsRow w.heap.size 53 1 (.slice (some ⟨w.heap.size, 0, none⟩) xss.length xss.length) xss.length ys ∧ ∀ j, j < k → ∃ r, ys[j]? = some r ∧ Ints wr r (xss.getD j []) ∧ ∀ g, r.ownBlock = some g → w.heap.size < g) (fun i _ => xss.length - (intOf i).toNat)
  case atStart => exact ⟨0, Nat.zero_le _, rfl, hp, _, hown, fun j hj => absurd hj (by omega)⟩
  case round =>
    clear hown hp hsz w1
    obtain ⟨k, hk, rfl, hp, ys, hown, hys⟩ := hrel
    by_cases hlt : k < xss.length
    · obtain ⟨b, o, rfl, hb, hc⟩ := hread (by omega)
      obtain ⟨r, hr, hrow⟩ := hc k hlt
      have hx := (hp.cell b (o + k) hb).trans hr
      obtain ⟨xs, Hxs⟩ : ∃ xs, Hid (xss.getD k [] = xs) := ⟨_, rfl⟩
      have hl1 := Hlens.out k hlt
      rw [Hxs.out] at hrow hl1
      have hrow' := hrow.keep hp
      have Hys := Lib.hid hys
      clear hread hc hys hr hrow
      have hcell := hown.cellAt k (by omega)
      have hl : k < ys.length := by have := hown.1; omega
      rw [List.getElem?_eq_getElem hl] at hcell
      have hf := hown.frozenAt k
      have hsz := (hown.lt w.heap.size rfl).2
      have Hown := Lib.hid hown; clear hown
      go_wp2_with fail
      refine (toIntS_any _ _ _ hrow' (by omega)).mono ?_
      rintro e w1 ⟨r1, rfl, hown1, hp1⟩
      have hints := Ints.of_map hown1
      obtain ⟨A1, c1, rfl⟩ := hints.form
      have hown2 := own_pure Hown.out hp1
      have hcell2 := (hp1.cell w.heap.size k hsz).trans hcell
      have hf2 := (hp1.frozen w.heap.size k hsz).trans hf
      have Hst := Lib.hid (hown2.stored k (.slice A1 xs.length c1)).1
      have Hints := Lib.hid hints
      have Hown1 := Lib.hid hown1
      have hb2 : b < w1.heap.size := by have := hp.size; have := hp1.size; omega
      have hp2 := hp.trans hp1
      clear hown2 hints hown1 hx hcell hf
      go_wp2
      go_roundw
      case rel =>
        refine ⟨k + 1, by omega, by go_num, Pure.setCell hp2 (Nat.le_refl _) _, _, Hst.out, fun j hj => ?_⟩
        have hg := grown_setCell w1 ⟨w.heap.size, k, none⟩ (.slice A1 xs.length c1)
        rw [List.getElem?_set]
        by_cases hjk : k = j
        · subst hjk
          have hne : ∀ g, (Value.slice A1 xs.length c1).ownBlock = some g → w.heap.size < g := fun g hg => by have := own_lt Hown1.out g hg; omega
          exact ⟨_, by rw [if_pos rfl, if_pos hl], by rw [Hxs.out]; exact Hints.out.other hg (fun g hg => by have := hne g hg; simp; omega), hne⟩
        · rw [if_neg hjk]
          obtain ⟨r, h1, h2, h3⟩ := Hys.out j (by omega)
          exact ⟨r, h1, (h2.keep hp1).other hg (fun g hg => by have := h3 g hg; simp; omega), h3⟩
      case measure => simp [intOf]; omega
    · have hk' : k = xss.length := by omega
      subst hk'
      go_wp2
      go_ret
      exact ⟨_, rfl, IntRows.of_own hown rfl (fun j hj => (hys j hj).imp fun r h => ⟨h.1, h.2.1⟩), hp⟩

set_option maxHeartbeats 400000 in
theorem eqIntSS_any (v v' : Value) (xss yss : List (List Int)) (w : World) (h : IntRows w v xss) (h' : IntRows w v' yss) (hxy : xss = yss) :
    Calls Try.prog 17 #[v, v'] w fun e w' => e = .returned (.bool true) ∧ Pure w w' := by
  subst hxy
  obtain ⟨A, c, rfl, hnc, hcm, hread⟩ := h
  obtain ⟨A', c', rfl, hnc', hcm', hread'⟩ := h'
  have hl' : (!((xss.length : Int) == xss.length)) = false := by simp
  have hl2 : ((xss.length : Int) != xss.length) = false := by simp
  go_enter Try.func17, Try.ntmps17
  go_wp2
  go_loopw [5] (fun i wr => ∃ k : Nat, k ≤ xss.length ∧ i = .int .i64 k ∧ Pure w wr) (fun i _ => xss.length - (intOf i).toNat)
  case atStart => exact ⟨0, Nat.zero_le _, rfl, Pure.refl _⟩
  case round =>
    obtain ⟨k, hk, rfl, hp⟩ := hrel
    by_cases hlt : k < xss.length
    · obtain ⟨b, o, rfl, hb, hc⟩ := hread (by omega)
      obtain ⟨b', o', rfl, hb', hc'⟩ := hread' (by omega)
      obtain ⟨r, hr, hrow⟩ := hc k hlt
      obtain ⟨r', hr', hrow'⟩ := hc' k hlt
      have hx := (hp.cell b (o + k) hb).trans hr
      have hy := (hp.cell b' (o' + k) hb').trans hr'
      have hrow1 := hrow.keep hp
      have hrow1' := hrow'.keep hp
      clear hread hread' hc hc' hr hr' hrow hrow'
      obtain ⟨xs, Hxs⟩ : ∃ xs, Hid (xss.getD k [] = xs) := ⟨_, rfl⟩
      rw [Hxs.out] at hrow1 hrow1'
      go_wp2
      go_quiet ((go_at_call 39; exact Calls.quiet_of (eqIntS_any _ _ xs xs _ (hrow1.keep (Pure.drewN (Pure.refl _) _)) (hrow1'.keep (Pure.drewN (Pure.refl _) _)) true (by simp))))
      go_wp2
      go_roundw
      case rel => exact ⟨k + 1, by omega, by go_num, Pure.drewN hp _⟩
      case measure => simp [intOf]; omega
    · go_wp2
      go_ret
      exact ⟨rfl, hp⟩

end Go.Proofs.Ytmhaaihgepldhaa

namespace Go.Proofs.Ytmhaaihgepldhaa
open Go.RowKit

def NPAll (xss : List (List Int)) (a en : Int) (w : World) (e : Ending) (w' : World) : Prop :=
  ∃ r : Int, e = .returned (.int .i64 r) ∧ ((GValid xss ∧ InG xss a ∧ InG xss en → IsNP xss a en r) ∧ (¬ (GValid xss ∧ InG xss a ∧ InG xss en) → r = -1)) ∧ Pure w w'

theorem InG.iff {xss : List (List Int)} {a : Int} : InG xss a ↔ (0 ≤ a ∧ a ≤ (xss.length : Int) - 1) := Iff.rfl

set_option maxHeartbeats 400000 in
theorem snp_any (v : Value) (xss : List (List Int)) (a en : Int) (w : World) (h : IntRows w v xss) :
    Calls Try.prog 14 #[v, .int .i64 a, .int .i64 en] w (NPAll xss a en w) := by
  by_cases hG : GValid xss
  · by_cases ha : InG xss a
    · by_cases he : InG xss en
      · refine (snp_in v xss a en w h hG ha he).mono ?_
        rintro e w' ⟨r, h1, h2, h3⟩
        exact ⟨r, h1, ⟨fun _ => h2, fun hn => absurd ⟨hG, ha, he⟩ hn⟩, h3⟩
      · have H := Lib.hid h
        obtain ⟨A, cc, rfl, hx1, hx2, hx3⟩ := h
        clear hx3
        have Hn : Hid (¬ (GValid xss ∧ InG xss a ∧ InG xss en)) := fun h => he h.2.2
        go_enter Try.func14, Try.ntmps14
        go_wp2_with fail
        refine (gv_any _ _ _ H.out true (by simp [hG])).mono ?_
        rintro e w' ⟨rfl, n0, rfl⟩
        go_wp2_with fail
        refine (l1In_t _ _ _ _ ha).mono ?_
        rintro e w' ⟨rfl, rfl⟩
        go_wp2_with fail
        refine (l1In_f _ _ _ _ he).mono ?_
        rintro e w' ⟨rfl, rfl⟩
        go_wp2
        go_ret
        exact ⟨_, rfl, ⟨fun h => absurd h Hn.out, fun _ => rfl⟩, Pure.drewN (Pure.refl _) _⟩
    · have H := Lib.hid h
      obtain ⟨A, cc, rfl, hx1, hx2, hx3⟩ := h
      clear hx3
      have Hn : Hid (¬ (GValid xss ∧ InG xss a ∧ InG xss en)) := fun h => ha h.2.1
      go_enter Try.func14, Try.ntmps14
      go_wp2_with fail
      refine (gv_any _ _ _ H.out true (by simp [hG])).mono ?_
      rintro e w' ⟨rfl, n0, rfl⟩
      go_wp2_with fail
      refine (l1In_f _ _ _ _ ha).mono ?_
      rintro e w' ⟨rfl, rfl⟩
      go_wp2
      go_ret
      exact ⟨_, rfl, ⟨fun h => absurd h Hn.out, fun _ => rfl⟩, Pure.drewN (Pure.refl _) _⟩
  · have H := Lib.hid h
    obtain ⟨A, cc, rfl, hx1, hx2, hx3⟩ := h
    clear hx3
    have Hn : Hid (¬ (GValid xss ∧ InG xss a ∧ InG xss en)) := fun h => hG h.1
    go_enter Try.func14, Try.ntmps14
    go_wp2_with fail
    refine (gv_any _ _ _ H.out false (by simp [hG])).mono ?_
    rintro e w' ⟨rfl, n0, rfl⟩
    go_wp2
    go_ret
    exact ⟨_, rfl, ⟨fun h => absurd h Hn.out, fun _ => rfl⟩, Pure.drewN (Pure.refl _) _⟩

/-- A literal of numbers, just laid. -/
theorem Ints.lit (w : World) (xs : List Int) (t : TypeId) (hl : xs.length ≤ 9223372036854775807) : Ints (w.alloc (.cells (xs.map (.int .i64)).toArray t)) (.slice (some ⟨w.heap.size, 0, none⟩) xs.length xs.length) xs := by
  refine ⟨_, _, rfl, Nat.le_refl _, hl, fun _ => ⟨_, _, rfl, by simp, fun j hj => ?_⟩⟩
  have := cell_of_row (w.alloc (.cells (xs.map (.int .i64)).toArray t)) w.heap.size (0 + j) (xs.map (.int .i64)).toArray t (0, 0) (heap_alloc_new w _)
  rw [this]
  have : j < xs.length := by omega
  simp [List.getD_eq_getElem?_getD, this]

set_option maxHeartbeats 400000 in
theorem inp_any (v : Value) (xss : List (List Int)) (a en : Int) (w : World) (h : IntRows w v xss) :
    Calls Try.prog 16 #[v, .int .i64 a, .int .i64 en] w (NPAll xss a en w) := by
  have H := Lib.hid h
  have hp1 : Pure w (w.alloc (.cells #[.int .i64 a, .int .i64 en] 3)) := (Pure.refl _).alloc _
  have hlit := Ints.lit w [a, en] 3 (by simp)
  obtain ⟨A, cc, rfl, hx1, hx2, hx3⟩ := h
  clear hx3
  have Hlit := Lib.hid hlit
  clear hlit
  by_cases hall : GValid xss ∧ InG xss a ∧ InG xss en
  · obtain ⟨hG, ha, he⟩ := hall
    go_enter Try.func16, Try.ntmps16
    go_wp2_with fail
    refine (areNodes_any _ _ _ [a, en] _ (H.out.keep hp1) Hlit.out true ?_).mono ?_
    · simp only [true_iff]
      refine ⟨hG, fun x hx => ?_⟩
      simp at hx
      rcases hx with rfl | rfl
      · exact ha
      · exact he
    rintro e w' ⟨rfl, rfl⟩
    go_wp2_with fail
    refine (inp_in _ xss _ _ _ (H.out.keep hp1) hG ha he).mono ?_
    rintro e w2 ⟨r, rfl, hr, hp2⟩
    have Hr := Lib.hid hr; clear hr
    go_wp2
    go_ret
    exact ⟨r, rfl, ⟨fun _ => Hr.out, fun hn => absurd ⟨hG, ha, he⟩ hn⟩, hp1.trans hp2⟩
  · have Hn := Lib.hid hall; clear hall
    go_enter Try.func16, Try.ntmps16
    go_wp2_with fail
    refine (areNodes_any _ _ _ [a, en] _ (H.out.keep hp1) Hlit.out false ?_).mono ?_
    · simp only [Bool.false_eq_true, false_iff]
      rintro ⟨h1, h2⟩
      exact Hn.out ⟨h1, h2 a (by simp), h2 en (by simp)⟩
    rintro e w' ⟨rfl, rfl⟩
    go_wp2
    go_ret
    exact ⟨_, rfl, ⟨fun h => absurd h Hn.out, fun _ => rfl⟩, hp1⟩

set_option maxHeartbeats 400000 in
theorem law_np (v : Value) (xss : List (List Int)) (a en : Int) (w : World) (h : IntRows w v xss) :
    Calls Try.prog 3 #[v, .int .i64 a, .int .i64 en] w fun e w' => e = .returned (.bool true) ∧ Pure w w' := by
  have H := Lib.hid h; clear h
  go_enter Try.func3, Try.ntmps3
  go_wp2_with fail
  refine (szIntSS_any _ _ _ _ H.out (by omega) (by omega)).mono ?_
  rintro e w' ⟨⟨r, rfl, hr⟩, rfl⟩
  have Hr := Lib.hid hr; clear hr
  by_cases h0 : r < 0
  · go_wp2_with fail
    go_ret
    exact ⟨rfl, Pure.refl _⟩
  · have hl := Hr.out (by omega)
    obtain ⟨hl1, hl2⟩ := hl
    have Hl2 := Lib.hid hl2; clear hl2
    have hlen : xss.length ≤ 1048576 := by omega
    have HL : Hid (∀ k, k < xss.length → (xss.getD k []).length ≤ 1048576) := fun k hk => by have := Hl2.out k hk; omega
    go_wp2_with fail
    refine (toIntSS_any _ _ _ H.out hlen HL.out).mono ?_
    rintro e w1 ⟨v1, rfl, hv1, hp1⟩
    have HV1 := Lib.hid hv1; clear hv1
    go_wp2_with fail
    refine (snp_any _ xss _ _ _ HV1.out).mono ?_
    rintro e w2 ⟨r2, rfl, hr2, hp2⟩
    have HR2 := Lib.hid hr2; clear hr2
    have hp12 := hp1.trans hp2
    go_wp2_with fail
    refine (toIntSS_any _ _ _ (H.out.keep hp12) hlen HL.out).mono ?_
    rintro e w3 ⟨v3, rfl, hv3, hp3⟩
    have HV3 := Lib.hid hv3; clear hv3
    have hp13 := hp12.trans hp3
    go_wp2_with fail
    refine (inp_any _ xss _ _ _ HV3.out).mono ?_
    rintro e w4 ⟨r4, rfl, hr4, hp4⟩
    have e42 : r4 = r2 := by
      by_cases hall : GValid xss ∧ InG xss a ∧ InG xss en
      · exact (hr4.1 hall).unique (HR2.out.1 hall)
      · rw [hr4.2 hall, HR2.out.2 hall]
    subst e42
    clear hr4
    have hp14 := hp13.trans hp4
    have hd : (r4 != r4) = false := by simp
    go_wp2_with fail
    refine (toIntSS_any _ _ _ (H.out.keep hp14) hlen HL.out).mono ?_
    rintro e w5 ⟨v5, rfl, hv5, hp5⟩
    have HV5 := Lib.hid hv5; clear hv5
    go_wp2_with fail
    refine (eqIntSS_any _ _ xss xss _ (HV3.out.keep (hp4.trans hp5)) HV5.out rfl).mono ?_
    rintro e w6 ⟨rfl, hp6⟩
    go_wp2
    go_ret
    exact ⟨rfl, hp14.trans (hp5.trans hp6)⟩

end Go.Proofs.Ytmhaaihgepldhaa

namespace Go.Proofs.Ytmhaaihgepldhaa

structure Cd where
  op : Int
  a : Int
  b : Int
  c : Int
deriving DecidableEq, Inhabited

def Reg (x : Int) : Prop := 0 ≤ x ∧ x ≤ 3
def Word (x : Int) : Prop := 0 ≤ x ∧ x ≤ 255
def CdOk (c : Cd) : Prop :=
  (c.op = 1 ∧ Reg c.a ∧ Word c.b ∧ c.c = 0) ∨ ((c.op = 2 ∨ c.op = 11) ∧ Reg c.a ∧ c.b = 0 ∧ c.c = 0) ∨
  ((c.op = 3 ∨ c.op = 4 ∨ c.op = 5 ∨ c.op = 8 ∨ c.op = 9) ∧ Reg c.a ∧ Reg c.b ∧ c.c = 0) ∨
  ((c.op = 6 ∨ c.op = 7) ∧ Reg c.a ∧ Reg c.b ∧ Reg c.c) ∨ (c.op = 13 ∧ Reg c.a ∧ (1 ≤ c.b ∧ c.b ≤ 4) ∧ c.c = 0) ∨
  ((c.op = 10 ∨ c.op = 12 ∨ c.op = 14) ∧ c.a = 0 ∧ c.b = 0 ∧ c.c = 0)
def Opens (c : Cd) : Prop := c.op = 11 ∨ c.op = 13
instance (c : Cd) : Decidable (Opens c) := by unfold Opens; infer_instance

/-- A step of the scan: the open blocks, the innermost one first: its place, and 11 (an if), 12 (an if behind its else) or 13 (a loop). -/
def sstep (st : List (Nat × Int)) (k : Nat) (c : Cd) : Option (List (Nat × Int)) :=
  if c.op = 11 ∨ c.op = 13 then (if st.length < 3 then some ((k, c.op) :: st) else none)
  else if c.op = 12 then (match st with | (p, m) :: r => if m = 11 then some ((p, 12) :: r) else none | [] => none)
  else if c.op = 14 then (match st with | _ :: r => some r | [] => none)
  else some st
theorem sstep_open {st : List (Nat × Int)} {k : Nat} {c : Cd} (h : Opens c) : sstep st k c = if st.length < 3 then some ((k, c.op) :: st) else none := by
  unfold sstep; exact if_pos h
theorem sstep_else {st : List (Nat × Int)} {k : Nat} {c : Cd} (h : c.op = 12) : sstep st k c = (match st with | (p, m) :: r => if m = 11 then some ((p, 12) :: r) else none | [] => none) := by
  unfold sstep; rw [if_neg (by omega), if_pos h]
theorem sstep_end {st : List (Nat × Int)} {k : Nat} {c : Cd} (h : c.op = 14) : sstep st k c = (match st with | _ :: r => some r | [] => none) := by
  unfold sstep; rw [if_neg (by omega), if_neg (by omega), if_pos h]
theorem sstep_other {st : List (Nat × Int)} {k : Nat} {c : Cd} (h1 : ¬ Opens c) (h2 : c.op ≠ 12) (h3 : c.op ≠ 14) : sstep st k c = some st := by
  unfold Opens at h1
  unfold sstep; rw [if_neg h1, if_neg h2, if_neg h3]
def sscan : List Cd → Nat → List (Nat × Int) → Option (List (Nat × Int))
  | [], _, st => some st
  | c :: r, k, st => (sstep st k c).bind (sscan r (k + 1))
theorem sscan_append (l m : List Cd) (k : Nat) (st : List (Nat × Int)) : sscan (l ++ m) k st = (sscan l k st).bind (sscan m (k + l.length)) := by
  induction l generalizing k st with
  | nil => simp [sscan]
  | cons c r ih =>
    simp only [List.cons_append, sscan, List.length_cons]
    cases sstep st k c with
    | none => rfl
    | some st' => simp only [Option.bind_some]; rw [ih, show k + 1 + r.length = k + (r.length + 1) by omega]
theorem sscan_take {cs : List Cd} {k : Nat} (hk : k < cs.length) {st : List (Nat × Int)} (h : sscan (cs.take k) 0 [] = some st) : sscan (cs.take (k + 1)) 0 [] = sstep st k (cs.getD k default) := by
  rw [List.take_succ_eq_append_getElem hk, sscan_append, h]
  simp only [Option.bind_some, List.length_take, sscan, List.getD_eq_getElem?_getD, List.getElem?_eq_getElem hk, Option.getD_some]
  rw [show 0 + min k cs.length = k by omega]
  cases sstep st k cs[k] <;> rfl
theorem sscan_none {cs : List Cd} {k : Nat} (h : sscan (cs.take k) 0 [] = none) : sscan cs 0 [] = none := by
  have := sscan_append (cs.take k) (cs.drop k) 0 []
  rw [List.take_append_drop] at this
  rw [this, h]; rfl

theorem sscan_lt' : ∀ (l : List Cd) (k : Nat) (st st' : List (Nat × Int)), (∀ x ∈ st, x.1 < k) → sscan l k st = some st' → ∀ x ∈ st', x.1 < k + l.length
  | [], k, st, st', h, hs => by
    simp only [sscan, Option.some.injEq] at hs
    subst hs
    simpa using h
  | c :: r, k, st, st', h, hs => by
    simp only [sscan] at hs
    cases hc : sstep st k c with
    | none => rw [hc] at hs; cases hs
    | some st1 =>
      rw [hc] at hs
      have h1 : ∀ x ∈ st1, x.1 < k + 1 := by
        unfold sstep at hc
        split at hc
        · split at hc
          · injection hc with hc; subst hc
            intro x hx
            rcases List.mem_cons.1 hx with rfl | hx
            · simp
            · have := h x hx; omega
          · cases hc
        · split at hc
          · split at hc
            · rename_i p m r'
              split at hc
              · injection hc with hc; subst hc
                intro x hx
                rcases List.mem_cons.1 hx with rfl | hx
                · have := h (p, m) (by simp); simp at this ⊢; omega
                · have := h x (by simp [hx]); omega
              · cases hc
            · cases hc
          · split at hc
            · split at hc
              · injection hc with hc; subst hc
                intro x hx
                have := h x (by simp [hx]); omega
              · cases hc
            · injection hc with hc; subst hc
              intro x hx
              have := h x hx; omega
      have := sscan_lt' r (k + 1) st1 st' h1 hs
      intro x hx
      have := this x hx
      simp only [List.length_cons]; omega
theorem sscan_lt {l : List Cd} {st : List (Nat × Int)} (h : sscan l 0 [] = some st) : ∀ x ∈ st, x.1 < l.length := by
  intro x hx
  have := sscan_lt' l 0 [] st (by simp) h x hx
  omega
def PValid (cs : List Cd) : Prop := (∀ c ∈ cs, CdOk c) ∧ cs.length ≤ 40 ∧ sscan cs 0 [] = some []

/-- Where the block ends whose instructions follow, and where it is divided. -/
def eScan : List Cd → Nat → Nat → Int → Int × Int
  | [], _, _, o => (-1, o)
  | c :: r, k, d, o =>
    if Opens c then eScan r (k + 1) (d + 1) o
    else if c.op = 12 ∧ d = 0 then eScan r (k + 1) d k
    else if c.op = 14 ∧ d = 0 then (k, o)
    else if c.op = 14 then eScan r (k + 1) (d - 1) o
    else eScan r (k + 1) d o
theorem eScan_cons (c : Cd) (r : List Cd) (k d : Nat) (o : Int) : eScan (c :: r) k d o =
    if Opens c then eScan r (k + 1) (d + 1) o
    else if c.op = 12 ∧ d = 0 then eScan r (k + 1) d k
    else if c.op = 14 ∧ d = 0 then (k, o)
    else if c.op = 14 then eScan r (k + 1) (d - 1) o
    else eScan r (k + 1) d o := rfl
def endAt (cs : List Cd) (p : Nat) : Int × Int := eScan (cs.drop (p + 1)) (p + 1) 0 (-1)

/-- The place that opens the innermost block around place k, but for d blocks within. -/
def bScan (cs : List Cd) : Nat → Nat → Int
  | 0, _ => -1
  | k + 1, d =>
    if (cs.getD k default).op = 14 then bScan cs k (d + 1)
    else if Opens (cs.getD k default) then (if d = 0 then (k : Int) else bScan cs k (d - 1))
    else bScan cs k d
def aroundAt (cs : List Cd) (k : Nat) : Int := bScan cs k 0

/-- What the scan's stack knows of the blocks that are open at place k. -/
structure Stk (cs : List Cd) (k : Nat) (st : List (Nat × Int)) : Prop where
  len : st.length ≤ 3
  lt : ∀ i (h : i < st.length), (st[i]).1 < k
  mono : st.Pairwise (fun x y => y.1 < x.1)
  around : ∀ i, bScan cs k i = (match st[i]? with | some x => (x.1 : Int) | none => -1)
  ends : ∀ i (h : i < st.length), ∃ o : Int, endAt cs (st[i]).1 = eScan (cs.drop k) k i o ∧
    ((st[i].2 = 11 ∧ (cs.getD st[i].1 default).op = 11 ∧ o = -1) ∨ (st[i].2 = 12 ∧ (cs.getD st[i].1 default).op = 11 ∧ (st[i].1 : Int) < o ∧ o < k) ∨ (st[i].2 = 13 ∧ (cs.getD st[i].1 default).op = 13 ∧ o = -1))

theorem Stk.nil (cs : List Cd) : Stk cs 0 [] := ⟨by simp, by simp, .nil, fun i => by simp [bScan], by simp⟩

theorem drop_cons {cs : List Cd} {k : Nat} (hk : k < cs.length) : cs.drop k = cs.getD k default :: cs.drop (k + 1) := by
  rw [List.drop_eq_getElem_cons hk]; simp [List.getD_eq_getElem?_getD, hk]

theorem Stk.step {cs : List Cd} {k : Nat} {st st' : List (Nat × Int)} (h : Stk cs k st) (hk : k < cs.length) (hs : sstep st k (cs.getD k default) = some st') : Stk cs (k + 1) st' := by
  have hd := drop_cons hk
  generalize hc : cs.getD k default = c at hs hd
  unfold sstep at hs
  by_cases h1 : c.op = 11 ∨ c.op = 13
  · rw [if_pos h1] at hs
    by_cases h3 : st.length < 3
    · rw [if_pos h3] at hs
      injection hs with hs
      subst hs
      have hop : Opens c := h1
      have h14 : c.op ≠ 14 := by rcases h1 with h | h <;> omega
      refine ⟨by simp; omega, ?_, ?_, ?_, ?_⟩
      · intro i hi
        cases i with
        | zero => simp
        | succ i => have := h.lt i (by simpa using hi); simp; omega
      · refine List.pairwise_cons.2 ⟨fun x hx => ?_, h.mono⟩
        obtain ⟨i, hi, e⟩ := List.mem_iff_getElem.1 hx
        have := h.lt i hi
        rw [e] at this
        exact this
      · intro i
        simp only [bScan, hc, if_neg h14, if_pos hop]
        cases i with
        | zero => simp
        | succ i => simp [h.around i]
      · intro i hi
        cases i with
        | zero =>
          refine ⟨-1, rfl, ?_⟩
          simp only [List.getElem_cons_zero, hc]
          rcases h1 with h1 | h1
          · exact .inl ⟨h1, h1, by trivial⟩
          · exact .inr (.inr ⟨h1, h1, by trivial⟩)
        | succ i =>
          obtain ⟨o, e, hm⟩ := h.ends i (by simpa using hi)
          refine ⟨o, ?_, ?_⟩
          · simp only [List.getElem_cons_succ]
            rw [e, hd]
            simp only [eScan, if_pos hop]
          · simp only [List.getElem_cons_succ]
            rcases hm with hm | ⟨a, b, c, d⟩ | hm
            · exact .inl hm
            · exact .inr (.inl ⟨a, b, c, by omega⟩)
            · exact .inr (.inr hm)
    · rw [if_neg h3] at hs; cases hs
  · rw [if_neg h1] at hs
    have hop : ¬ Opens c := h1
    by_cases h2 : c.op = 12
    · rw [if_pos h2] at hs
      have h14 : c.op ≠ 14 := by omega
      cases st with
      | nil => cases hs
      | cons x r =>
        obtain ⟨p, m⟩ := x
        simp only at hs
        by_cases hm : m = 11
        · rw [if_pos hm] at hs
          injection hs with hs
          subst hs hm
          refine ⟨by simpa using h.len, ?_, ?_, ?_, ?_⟩
          · intro i hi
            cases i with
            | zero => have := h.lt 0 (by simp); simp at this ⊢; omega
            | succ i => have := h.lt (i + 1) (by simpa using hi); simp at this ⊢; omega
          · have := List.pairwise_cons.1 h.mono
            exact List.pairwise_cons.2 ⟨this.1, this.2⟩
          · intro i
            simp only [bScan, hc, if_neg h14, if_neg hop]
            rw [h.around i]
            cases i <;> simp
          · intro i hi
            cases i with
            | zero =>
              obtain ⟨o, e, hm⟩ := h.ends 0 (by simp)
              have hlt := h.lt 0 (by simp)
              simp only [List.getElem_cons_zero] at e hm hlt ⊢
              refine ⟨k, ?_, ?_⟩
              · rw [e, hd]
                simp only [eScan, if_neg hop, h2, true_and, if_true]
              · rcases hm with hm | hm | hm
                · exact .inr (.inl ⟨by trivial, hm.2.1, by omega, by omega⟩)
                · omega
                · omega
            | succ i =>
              obtain ⟨o, e, hm⟩ := h.ends (i + 1) (by simpa using hi)
              simp only [List.getElem_cons_succ] at e hm ⊢
              refine ⟨o, ?_, ?_⟩
              · rw [e, hd]
                simp only [eScan, if_neg hop, h2]
                simp
              · rcases hm with hm | ⟨a, b, c, d⟩ | hm
                · exact .inl hm
                · exact .inr (.inl ⟨a, b, c, by omega⟩)
                · exact .inr (.inr hm)
        · rw [if_neg hm] at hs; cases hs
    · rw [if_neg h2] at hs
      by_cases h4 : c.op = 14
      · rw [if_pos h4] at hs
        cases st with
        | nil => cases hs
        | cons x r =>
          simp only at hs
          injection hs with hs
          subst hs
          refine ⟨by have := h.len; simp at this; omega, ?_, (List.pairwise_cons.1 h.mono).2, ?_, ?_⟩
          · intro i hi
            have := h.lt (i + 1) (by simpa using hi)
            simp at this ⊢; omega
          · intro i
            simp only [bScan, hc, if_pos h4]
            rw [h.around (i + 1)]
            simp
          · intro i hi
            obtain ⟨o, e, hm⟩ := h.ends (i + 1) (by simpa using hi)
            simp only [List.getElem_cons_succ] at e hm
            refine ⟨o, ?_, ?_⟩
            · rw [e, hd]
              simp only [eScan, if_neg hop, h4]
              simp
            · rcases hm with hm | ⟨a, b, c, d⟩ | hm
              · exact .inl hm
              · exact .inr (.inl ⟨a, b, c, by omega⟩)
              · exact .inr (.inr hm)
      · rw [if_neg h4] at hs
        injection hs with hs
        subst hs
        refine ⟨h.len, ?_, h.mono, ?_, ?_⟩
        · intro i hi
          have := h.lt i hi
          omega
        · intro i
          simp only [bScan, hc, if_neg h4, if_neg hop]
          exact h.around i
        · intro i hi
          obtain ⟨o, e, hm⟩ := h.ends i hi
          refine ⟨o, ?_, ?_⟩
          · rw [e, hd]
            simp only [eScan, if_neg hop, h2, h4, false_and, if_false]
          · rcases hm with hm | ⟨a, b, c, d⟩ | hm
            · exact .inl hm
            · exact .inr (.inl ⟨a, b, c, by omega⟩)
            · exact .inr (.inr hm)

end Go.Proofs.Ytmhaaihgepldhaa

namespace Go.Proofs.Ytmhaaihgepldhaa
open Go.RowKit

theorem elLCode : ElT Try.prog 28 67 4 [.int .i64 0, .int .i64 0, .int .i64 0, .int .i64 0] 32 := ⟨by kernel_rfl, ⟨.agg #[.int .i64 0, .int .i64 0, .int .i64 0, .int .i64 0], by kernel_rfl, by kernel_rfl, rfl⟩, by decide⟩

def cdCells (c : Cd) : List Value := [.int .i64 c.op, .int .i64 c.a, .int .i64 c.b, .int .i64 c.c]
def cdv (c : Cd) : Value := .agg #[.int .i64 c.op, .int .i64 c.a, .int .i64 c.b, .int .i64 c.c]
def cdf (cs : List Cd) (j : Nat) : Value := (cdCells (cs.getD (j / 4) default)).getD (j % 4) undef
def Codes (w : World) (v : Value) (cs : List Cd) : Prop := Cells w v cs.length 4 (cdf cs)
theorem Codes.keep {w w' : World} {v : Value} {cs : List Cd} (h : Codes w v cs) (hp : Pure w w') : Codes w' v cs := Cells.keep h hp
theorem Codes.form {w : World} {v : Value} {cs : List Cd} (h : Codes w v cs) : ∃ A c, v = .slice A cs.length c ∧ cs.length ≤ c ∧ c ≤ 9223372036854775807 := by
  obtain ⟨A, c, h, h1, h2, _⟩ := h
  exact ⟨A, c, h, h1, h2⟩

/-- An instruction lies in block b from offset o on. -/
structure CodeAt (w : World) (b o : Nat) (c : Cd) : Prop where
  c0 : w.cell? ⟨b, o, none⟩ = some (.int .i64 c.op)
  c1 : w.cell? ⟨b, o + 1, none⟩ = some (.int .i64 c.a)
  c2 : w.cell? ⟨b, o + 2, none⟩ = some (.int .i64 c.b)
  c3 : w.cell? ⟨b, o + 3, none⟩ = some (.int .i64 c.c)
theorem CodeAt.keep {w w' : World} {b o : Nat} {c : Cd} (h : CodeAt w b o c) (hp : Pure w w') (hb : b < w.heap.size) : CodeAt w' b o c :=
  ⟨(hp.cell b _ hb).trans h.c0, (hp.cell b _ hb).trans h.c1, (hp.cell b _ hb).trans h.c2, (hp.cell b _ hb).trans h.c3⟩

theorem cdf_at (cs : List Cd) (k i : Nat) (hi : i < 4) : cdf cs (k * 4 + i) = (cdCells (cs.getD k default)).getD i undef := by
  unfold cdf
  rw [show (k * 4 + i) / 4 = k by omega, show (k * 4 + i) % 4 = i by omega]

theorem Codes.at_ {w : World} {A : Option Addr} {n c : Nat} {cs : List Cd} (h : Codes w (.slice A n c) cs) {k : Nat} (hk : k < cs.length) :
    ∃ b o, A = some ⟨b, o, none⟩ ∧ b < w.heap.size ∧ CodeAt w b (o + k * 4) (cs.getD k default) := by
  obtain ⟨A', c', hv, _, _, h4⟩ := h
  injection hv with e1 e2 e3
  subst e1
  obtain ⟨b, o, rfl, hb, hc⟩ := h4 (by omega)
  refine ⟨b, o, rfl, hb, ?_, ?_, ?_, ?_⟩
  · have := hc (k * 4 + 0) (by omega); rw [cdf_at _ _ _ (by omega)] at this; exact this
  · have := hc (k * 4 + 1) (by omega); rw [cdf_at _ _ _ (by omega)] at this; rw [Nat.add_assoc]; exact this
  · have := hc (k * 4 + 2) (by omega); rw [cdf_at _ _ _ (by omega)] at this; rw [Nat.add_assoc]; exact this
  · have := hc (k * 4 + 3) (by omega); rw [cdf_at _ _ _ (by omega)] at this; rw [Nat.add_assoc]; exact this

theorem Codes.of_ownO {w : World} {B e n : Nat} {v : Value} {xs : List Value} {cs : List Cd} (h : OwnO w B e 4 v n xs) (hn : n = cs.length) (hf : ∀ j, j < cs.length * 4 → xs[j]? = some (cdf cs j)) : Codes w v cs := by
  subst hn
  exact Cells.of_ownO h hf

set_option maxHeartbeats 400000 in
theorem szCodeS_any (v : Value) (cs : List Cd) (left : Int) (w : World) (h : Codes w v cs) (hl0 : 0 ≤ left) (hl1 : left ≤ 1048576) :
    Calls Try.prog 18 #[v, .int .i64 left] w fun e w' => e = .returned (.int .i64 (if left < cs.length then -1 else left - cs.length)) ∧ w = w' := by
  obtain ⟨A, c, rfl, hnc, hcm⟩ := h.form
  clear h
  by_cases hlt : left < cs.length
  · rw [if_pos hlt]
    go_enter Try.func18, Try.ntmps18
    go_wp2
    go_ret
    exact ⟨rfl, rfl⟩
  · rw [if_neg hlt]
    go_enter Try.func18, Try.ntmps18
    go_wp2
    go_ret
    exact ⟨rfl, rfl⟩

set_option maxHeartbeats 400000 in
theorem toCode_any (c : Cd) (w : World) :
    Calls Try.prog 54 #[cdv c] w fun e w' => e = .returned (cdv c) ∧ Pure w w' := by
  unfold cdv
  go_enter Try.func54, Try.ntmps54
  go_wp2
  exact bodyPost_ret (v := .agg #[.int .i64 c.op, .int .i64 c.a, .int .i64 c.b, .int .i64 c.c]) (by simp [results, Try.results54, go_sem]) rfl ⟨rfl, (by repeat (first | assumption | exact Pure.refl _ | refine Pure.drewN ?_ _ | refine Pure.drew ?_ | refine Pure.alloc ?_ _ | refine Pure.setCell ?_ (by simp <;> omega) _))⟩

def rep4 (ys : List Value) (k : Nat) (c : Cd) : List Value := (((ys.set (k * 4) (.int .i64 c.op)).set (k * 4 + 1) (.int .i64 c.a)).set (k * 4 + 2) (.int .i64 c.b)).set (k * 4 + 3) (.int .i64 c.c)
theorem rep4_length (ys : List Value) (k : Nat) (c : Cd) : (rep4 ys k c).length = ys.length := by simp [rep4]
theorem rep4_other (ys : List Value) (k : Nat) (c : Cd) (j : Nat) (h : j < k * 4 ∨ k * 4 + 4 ≤ j) : (rep4 ys k c)[j]? = ys[j]? := by
  unfold rep4
  rw [List.getElem?_set_ne (by omega), List.getElem?_set_ne (by omega), List.getElem?_set_ne (by omega), List.getElem?_set_ne (by omega)]
theorem rep4_same (ys : List Value) (k : Nat) (c : Cd) (i : Nat) (hi : i < 4) (hl : k * 4 + 4 ≤ ys.length) : (rep4 ys k c)[k * 4 + i]? = some ((cdCells c).getD i undef) := by
  unfold rep4
  match i, hi with
  | 0, _ => rw [List.getElem?_set_ne (by omega), List.getElem?_set_ne (by omega), List.getElem?_set_ne (by omega), Nat.add_zero, List.getElem?_set_self (by omega)]; rfl
  | 1, _ => rw [List.getElem?_set_ne (by omega), List.getElem?_set_ne (by omega), List.getElem?_set_self (by simp; omega)]; rfl
  | 2, _ => rw [List.getElem?_set_ne (by omega), List.getElem?_set_self (by simp; omega)]; rfl
  | 3, _ => rw [List.getElem?_set_self (by simp; omega)]; rfl
theorem rep4_cdf {ys : List Value} {k : Nat} {cs : List Cd} (hl : k * 4 + 4 ≤ ys.length) (h : ∀ j, j < k * 4 → ys[j]? = some (cdf cs j)) : ∀ j, j < (k + 1) * 4 → (rep4 ys k (cs.getD k default))[j]? = some (cdf cs j) := by
  intro j hj
  by_cases h1 : j < k * 4
  · rw [rep4_other _ _ _ _ (.inl h1)]; exact h j h1
  · obtain ⟨i, rfl⟩ : ∃ i, j = k * 4 + i := ⟨j - k * 4, by omega⟩
    rw [rep4_same _ _ _ _ (by omega) hl, cdf_at _ _ _ (by omega)]

set_option maxHeartbeats 400000 in
theorem toCodeS_any (v : Value) (cs : List Cd) (w : World) (h : Codes w v cs) (hlen : cs.length ≤ 1048576) :
    Calls Try.prog 20 #[v] w fun e w' => ∃ v', e = .returned v' ∧ OwnO w' w.heap.size 65 4 v' cs.length ((List.range (cs.length * 4)).map (cdf cs)) ∧ Pure w w' := by
  have H := Lib.hid h
  obtain ⟨A, c, rfl, hnc, hcm⟩ := h.form
  clear h
  go_enter Try.func20, Try.ntmps20
  go_wp2_with (at_make; go_must (refine wl_make elCode rfl _ _ rfl w.heap.size _ _ _ _ cs.length rfl rfl rfl rfl (by omega) (by omega) (Nat.le_refl _) ?_); intro w1 hown hp hsz)
  have hO := OwnO.of_own hown
  clear hown
  go_loopg [4] cs.length (fun gk i wr => ∃ k : Nat, gk + k = cs.length ∧ i = .int .i64 k ∧ Pure w wr ∧ ∃ ys, OwnO wr w.heap.size 65 4 (.slice (some ⟨w.heap.size, 0, none⟩) cs.length cs.length) cs.length ys ∧ ∀ j, j < k * 4 → ys[j]? = some (cdf cs j))
  case atStart => exact ⟨0, rfl, rfl, hp, _, hO, fun j hj => absurd hj (by omega)⟩
  case round =>
    clear hO hp hsz
    obtain ⟨k, hgk, rfl, hp, ys, hown, hys⟩ := hrel
    have Hgk := Lib.hid hgk
    have Hys := Lib.hid hys
    have Hown := Lib.hid hown
    have hkn : k ≤ cs.length := by omega
    clear hgk hys hown
    by_cases hlt : k < cs.length
    · obtain ⟨b, o, rfl, hb, hc⟩ := H.out.at_ hlt
      have hat := hc.keep hp hb
      obtain ⟨cd, Hcd⟩ : ∃ cd, Hid (cs.getD k default = cd) := ⟨_, rfl⟩
      rw [Hcd.out] at hat
      obtain ⟨q0, q1, q2, q3⟩ := hat
      clear hc
      go_wp2_with fail
      refine (toCode_any cd _).mono ?_
      rintro e w1 ⟨rfl, hp1⟩
      unfold cdv
      have hp2 := hp.trans hp1
      have hO1 := Hown.out.pure hp1
      have hl := hO1.1
      have f0 := hO1.frozen (k * 4)
      have f1 := hO1.frozen (k * 4 + 1)
      have f2 := hO1.frozen (k * 4 + 2)
      have f3 := hO1.frozen (k * 4 + 3)
      obtain ⟨u0, g0⟩ := hO1.cellSome (k * 4) (by omega)
      obtain ⟨u1, g1⟩ := hO1.cellSome (k * 4 + 1) (by omega)
      obtain ⟨u2, g2⟩ := hO1.cellSome (k * 4 + 2) (by omega)
      obtain ⟨u3, g3⟩ := hO1.cellSome (k * 4 + 3) (by omega)
      rw [Nat.zero_add] at g0 g1 g2 g3
      have s1 := hO1.stored (k * 4) (.int .i64 cd.op)
      have s2 := s1.stored (k * 4 + 1) (.int .i64 cd.a)
      have s3 := s2.stored (k * 4 + 2) (.int .i64 cd.b)
      have s4 := s3.stored (k * 4 + 3) (.int .i64 cd.c)
      simp only [Nat.zero_add] at s4
      have HS := Lib.hid s4
      have HL : Hid (ys.length = cs.length * 4) := hl
      clear s1 s2 s3 s4 hl hO1
      go_wp2
      go_roundg (cs.length - (k + 1))
      case measure => have := Hgk.out; omega
      case rel =>
        refine ⟨k + 1, by have := Hgk.out; omega, by go_num, ?_, rep4 ys k cd, HS.out, ?_⟩
        · exact (((hp2.setCell (Nat.le_refl _) _).setCell (Nat.le_refl _) _).setCell (Nat.le_refl _) _).setCell (Nat.le_refl _) _
        · rw [← Hcd.out]
          exact rep4_cdf (by have := HL.out; omega) Hys.out
      
    · have hkl : k = cs.length := by have := Hgk.out; omega
      subst hkl
      go_wp2
      go_ret
      refine ⟨_, rfl, ?_, hp⟩
      have : ys = (List.range (cs.length * 4)).map (cdf cs) := by
        apply List.ext_getElem?
        intro j
        by_cases hj : j < cs.length * 4
        · rw [Hys.out j hj]; simp [hj]
        · rw [List.getElem?_eq_none (by rw [Hown.out.1]; omega), List.getElem?_eq_none (by simp; omega)]
      rw [← this]; exact Hown.out

set_option maxHeartbeats 400000 in
theorem eqCode_any (x y : Cd) (w : World) (B : Bool) (hB : B = true ↔ x = y) :
    Calls Try.prog 57 #[cdv x, cdv y] w fun e w' => e = .returned (.bool B) ∧ Pure w w' := by
  unfold cdv
  obtain ⟨x0, x1, x2, x3⟩ := x
  obtain ⟨y0, y1, y2, y3⟩ := y
  simp only [Cd.mk.injEq] at hB
  have HB := Lib.hid hB; clear hB
  by_cases h0 : x0 = y0
  · have d0 : (x0 != y0) = false := by simp [h0]
    have H0 := Lib.hid h0; clear h0
    by_cases h1 : x1 = y1
    · have d1 : (x1 != y1) = false := by simp [h1]
      have H1 := Lib.hid h1; clear h1
      by_cases h2 : x2 = y2
      · have d2 : (x2 != y2) = false := by simp [h2]
        have H2 := Lib.hid h2; clear h2
        by_cases h3 : x3 = y3
        · have d3 : (x3 != y3) = false := by simp [h3]
          have H3 := Lib.hid h3; clear h3
          go_enter Try.func57, Try.ntmps57
          go_wp2
          go_ret
          exact ⟨ret_bool (HB.out.2 ⟨H0.out, H1.out, H2.out, H3.out⟩).symm, (by repeat (first | assumption | exact Pure.refl _ | refine Pure.drewN ?_ _ | refine Pure.drew ?_ | refine Pure.alloc ?_ _ | refine Pure.setCell ?_ (by simp <;> omega) _))⟩
        · have d3 : (x3 != y3) = true := by simp [h3]
          have H3 := Lib.hid h3; clear h3
          go_enter Try.func57, Try.ntmps57
          go_wp2
          go_ret
          exact ⟨ret_bool (by cases hb : B; rfl; exact absurd (HB.out.1 hb).2.2.2 H3.out), (by repeat (first | assumption | exact Pure.refl _ | refine Pure.drewN ?_ _ | refine Pure.drew ?_ | refine Pure.alloc ?_ _ | refine Pure.setCell ?_ (by simp <;> omega) _))⟩
      · have d2 : (x2 != y2) = true := by simp [h2]
        have H2 := Lib.hid h2; clear h2
        go_enter Try.func57, Try.ntmps57
        go_wp2
        go_ret
        exact ⟨ret_bool (by cases hb : B; rfl; exact absurd (HB.out.1 hb).2.2.1 H2.out), (by repeat (first | assumption | exact Pure.refl _ | refine Pure.drewN ?_ _ | refine Pure.drew ?_ | refine Pure.alloc ?_ _ | refine Pure.setCell ?_ (by simp <;> omega) _))⟩
    · have d1 : (x1 != y1) = true := by simp [h1]
      have H1 := Lib.hid h1; clear h1
      go_enter Try.func57, Try.ntmps57
      go_wp2
      go_ret
      exact ⟨ret_bool (by cases hb : B; rfl; exact absurd (HB.out.1 hb).2.1 H1.out), (by repeat (first | assumption | exact Pure.refl _ | refine Pure.drewN ?_ _ | refine Pure.drew ?_ | refine Pure.alloc ?_ _ | refine Pure.setCell ?_ (by simp <;> omega) _))⟩
  · have d0 : (x0 != y0) = true := by simp [h0]
    have H0 := Lib.hid h0; clear h0
    go_enter Try.func57, Try.ntmps57
    go_wp2
    go_ret
    exact ⟨ret_bool (by cases hb : B; rfl; exact absurd (HB.out.1 hb).1 H0.out), (by repeat (first | assumption | exact Pure.refl _ | refine Pure.drewN ?_ _ | refine Pure.drew ?_ | refine Pure.alloc ?_ _ | refine Pure.setCell ?_ (by simp <;> omega) _))⟩

set_option maxHeartbeats 400000 in
theorem eqCodeS_same (v v' : Value) (cs : List Cd) (w : World) (h : Codes w v cs) (h' : Codes w v' cs) :
    Calls Try.prog 22 #[v, v'] w fun e w' => e = .returned (.bool true) ∧ Pure w w' := by
  have H := Lib.hid h
  have H' := Lib.hid h'
  obtain ⟨A, c, rfl, hnc, hcm⟩ := h.form
  obtain ⟨A', c', rfl, hnc', hcm'⟩ := h'.form
  clear h h'
  have hd : ((cs.length : Int) != cs.length) = false := by simp
  go_enter Try.func22, Try.ntmps22
  go_wp2
  go_loopg [5] cs.length (fun gk i wr => ∃ k : Nat, gk + k = cs.length ∧ i = .int .i64 k ∧ Pure w wr)
  case atStart => exact ⟨0, rfl, rfl, Pure.refl _⟩
  case round =>
    obtain ⟨k, hgk, rfl, hp⟩ := hrel
    have Hgk := Lib.hid hgk
    have hkn : k ≤ cs.length := by omega
    clear hgk
    by_cases hlt : k < cs.length
    · obtain ⟨b, o, rfl, hb, hc⟩ := H.out.at_ hlt
      obtain ⟨b', o', rfl, hb', hc'⟩ := H'.out.at_ hlt
      have hat := hc.keep hp hb
      have hat' := hc'.keep hp hb'
      obtain ⟨cd, Hcd⟩ : ∃ cd, Hid (cs.getD k default = cd) := ⟨_, rfl⟩
      rw [Hcd.out] at hat hat'
      obtain ⟨q0, q1, q2, q3⟩ := hat
      obtain ⟨r0, r1, r2, r3⟩ := hat'
      clear hc hc'
      go_wp2
      go_region_with (first | (go_at_call 57; refine (eqCode_any cd cd _ true (by simp)).mono ?_; rintro e w1 ⟨rfl, hp1⟩))
      all_goals
        have hp2 := hp.drew.trans hp1
        go_wp2
        go_roundg (cs.length - (k + 1))
        case measure => have := Hgk.out; omega
        case rel => exact ⟨k + 1, by have := Hgk.out; omega, by go_num, hp2⟩
    · go_wp2
      go_ret
      exact ⟨rfl, hp⟩

end Go.Proofs.Ytmhaaihgepldhaa

namespace Go.Proofs.Ytmhaaihgepldhaa
open Go.RowKit

section
variable {P : Program} {t e : TypeId} {s : Nat} {z : List Value} {bytes : Nat}

/-- Where an append leaves its slice. -/
def Lies (w : World) (v v' : Value) : Prop := ∀ g, v'.ownBlock = some g → v.ownBlock = some g ∨ w.heap.size ≤ g

theorem wl_appendF (E : ElT P t e s z bytes) {w : World} {ops : Array Oper} {rest : List Oper} {o : Oper} {a : Act} {Q : Exit → Act → World → Prop}
    (hgd : o.guard = none) (sl x : Operand) (ho : o.op = .call { callee := .builtin .append, args := #[sl, x], argTypes := #[t, t] })
    (B : Nat) (v : Value) (n : Nat) (xs : List Value) (hs : a.eval sl = v) (hown : OwnO w B e s v n xs)
    (b off m c : Nat) (news : List Value) (hx : a.eval x = .slice (some ⟨b, off, none⟩) m c) (hl : news.length = m * s) (hnews : ∀ j u, news[j]? = some u → w.cell? ⟨b, off + j, none⟩ = some u) (h1 : ∀ u ∈ news, u.oneCell' = true)
    (hbytes : (n + m) * bytes ≤ 140737488355328) (h63 : n + m ≤ 9223372036854775807) (hB : B ≤ w.heap.size)
    (h : ∀ v' w', OwnO w' B e s v' (n + m) (xs ++ news) → w.grownBy w' v.ownBlock → Lies w v v' → wpList P ops Q rest (a.put o.dst v') w') : wpList P ops Q (o :: rest) a w := by
  obtain ⟨i, zv, h2, h3, h4, h5, h6, h7⟩ := E.parts
  have hsrc : ∀ j u, news[j]? = some u → w.cell? ((⟨b, off, none⟩ : Addr).add j) = some u := fun j u hu => by rw [add_mid]; exact hnews j u hu
  rcases hown.2 with ⟨rfl, rfl⟩ | ⟨g, off2, cap, cur, rfl, q1, q2, q3, q4, q5, q6⟩
  · have hx0 : xs = [] := List.eq_nil_of_length_eq_zero (by simpa using hown.1)
    subst hx0
    refine wpList_append_own_at w hgd sl x t ho B e i zv s bytes E.ht h2 h3 h4 h5 (by rw [h6]; simpa using h7) E.hs _ 0 [] hs (World.ownsRow_nil w B e s) ⟨b, off, none⟩ m c news hx hl hsrc h1 (by unfold maxLen; omega) hbytes hB fun v' w' r1 r2 _ r4 => h v' w' (OwnO.of_own r1) r2 fun k hk => ?_
    rcases r4 with r4 | r4
    · rw [r4] at hk; exact .inl hk
    · rw [r4] at hk; injection hk with hk; right; omega
  · have hcell : ∀ j u, cur[j]? = some u → w.cell? ⟨g, j, none⟩ = some u := fun j u hu => by rw [cell_of_row w g _ cur e (0, 0) q2]; exact hu
    refine wpList_append_arg w hgd sl x t ho e i zv s bytes E.ht h2 h3 h4 h5 (by rw [h6]; simpa using h7) E.hs g off2 n cap xs hs hown.1 (fun j u hu => hcell _ _ (q6 j u hu)) ⟨b, off, none⟩ m c news hx hl
      hsrc h1 (fun hr j hj => ?_) (by unfold maxLen; omega) hbytes (fun hr => ?_) (fun hg v' w' r1 r2 => ?_)
    · have hlt : off2 + n * s + j < cur.size := by
        have : n * s + m * s ≤ cap * s := by rw [← Nat.add_mul]; exact Nat.mul_le_mul_right s hr
        omega
      exact ⟨by rw [hcell _ _ (Array.getElem?_eq_getElem hlt)]; rfl, frozen_of_row w g _ cur e q2⟩
    · have hle : off2 + n * s + news.length ≤ cur.size := by
        have : n * s + m * s ≤ cap * s := by rw [← Nat.add_mul]; exact Nat.mul_le_mul_right s hr
        omega
      obtain ⟨cur', a1, a2, a3, a4⟩ := heap_setCells_same g news (off2 + n * s) w cur e q2 hle
      refine h _ _ ⟨by rw [List.length_append, hown.1, hl, Nat.add_mul], .inr ⟨g, off2, cap, cur', rfl, q1, a1, hr, q4, by omega, fun j u hu => ?_⟩⟩ (grown_setCells g news _ w) (fun k hk => .inl hk)
      rw [List.getElem?_append] at hu
      split at hu
      · rename_i hj
        rw [a3 _ (by rw [hown.1] at hj; omega)]
        exact q6 j u hu
      · rename_i hj
        have := a4 _ u hu
        rwa [show off2 + n * s + (j - xs.length) = off2 + j by rw [hown.1] at hj ⊢; omega] at this
    · have r1' := OwnO.of_own r1
      refine h v' w' ⟨r1'.1, ?_⟩ ⟨r2.os, r2.tape, r2.output, r2.size, fun k hk _ => r2.block k hk (by simp)⟩ (fun k hk => .inr (r1'.lt k hk).1)
      rcases r1'.2 with h | ⟨g', off', cap', cur', e1, e2, e3⟩
      · exact .inl h
      · exact .inr ⟨g', off', cap', cur', e1, by omega, e3⟩

/-- append of one element, just laid in a new block; and where the slice lies then. -/
theorem wl_append1F (E : ElT P t e s z bytes) {w : World} {ops : Array Oper} {rest : List Oper} {o : Oper} {a : Act} {Q : Exit → Act → World → Prop} {et : TypeId}
    (hgd : o.guard = none) (sl x : Operand) (ho : o.op = .call { callee := .builtin .append, args := #[sl, x], argTypes := #[t, t] })
    (B : Nat) (v : Value) (n : Nat) (xs : List Value) (hs : a.eval sl = v) (hown : OwnO w B e s v n xs)
    (b c : Nat) (news : List Value) (hx : a.eval x = .slice (some ⟨b, 0, none⟩) 1 c) (hb : b = w.heap.size) (hl : news.length = s) (h1 : news.all (·.oneCell') = true)
    (hby : bytes ≤ 128) (hn : n + 1 ≤ 1099511627776) (hB : B ≤ w.heap.size)
    (h : ∀ v' w', OwnO w' B e s v' (n + 1) (xs ++ news) → w.grownBy w' v.ownBlock → Lies w v v' → wpList P ops Q rest (a.put o.dst v') w') : wpList P ops Q (o :: rest) a (w.alloc (.cells news.toArray et)) := by
  subst hb
  refine wl_appendF E hgd sl x ho B v n xs hs (hown.alloc _) w.heap.size 0 1 c news hx (by omega) (fun j u hu => ?_) (fun u hu => (List.all_eq_true.1 h1) u hu) ?_ (by omega) (Nat.le_trans hB (Pure.alloc (Pure.refl w) _).size)
    (fun v' w' r1 r2 r3 => h v' w' r1 ?_ (fun k hk => (r3 k hk).imp id fun h => Nat.le_trans (Pure.alloc (Pure.refl w) _).size h))
  · have := cell_of_row (w.alloc (.cells news.toArray et)) w.heap.size j news.toArray et (0, 0) (heap_alloc_new w _)
    rw [Nat.zero_add, this]
    simpa using hu
  · have := Nat.mul_le_mul hn hby
    omega
  · have h0 := World.grownBy_alloc w (.cells news.toArray et) v.ownBlock
    exact ⟨r2.os.trans h0.os, r2.tape.trans h0.tape, r2.output.trans h0.output, Nat.le_trans h0.size r2.size, fun k hk hne => (r2.block k (Nat.lt_of_lt_of_le hk h0.size) hne).trans (h0.block k hk hne)⟩

/-- append of all that a slice of the call's own holds (it may be nil) to a new empty one. -/
theorem wl_copyF (E : ElT P t e s z bytes) {w : World} {ops : Array Oper} {rest : List Oper} {o : Oper} {a : Act} {Q : Exit → Act → World → Prop} {et : TypeId}
    (hgd : o.guard = none) (sl x : Operand) (ho : o.op = .call { callee := .builtin .append, args := #[sl, x], argTypes := #[t, t] })
    (b : Nat) (hs : a.eval sl = .slice (some ⟨b, 0, none⟩) 0 0) (hb : b = w.heap.size) (vx : Value) (hx : a.eval x = vx) (f : Nat → Value) (m : Nat) (hc : Cells w vx m s f) (h1 : ∀ j, j < m * s → (f j).oneCell' = true)
    (hby : bytes ≤ 128) (hn : m ≤ 1099511627776) (het : et = e)
    (h : ∀ v' w', OwnO w' w.heap.size e s v' m ((List.range (m * s)).map f) → Pure w w' → wpList P ops Q rest (a.put o.dst v') w') : wpList P ops Q (o :: rest) a (w.alloc (.cells #[] et)) := by
  subst hb het
  have hE : OwnO (w.alloc (.cells #[] et)) w.heap.size et s (.slice (some ⟨w.heap.size, 0, none⟩) 0 0) 0 [] := OwnO.empty_lit (Nat.le_refl _)
  obtain ⟨A, c, rfl, hmc, hcm, hrd⟩ := hc
  have hp0 : Pure w (w.alloc (.cells #[] et)) := Pure.alloc (Pure.refl _) _
  rcases A with _ | ⟨b, off, sp⟩
  · have hm0 : m = 0 := by
      rcases Nat.eq_zero_or_pos m with h0 | h0
      · exact h0
      · obtain ⟨_, _, h, _⟩ := hrd h0; cases h
    subst hm0
    obtain ⟨i, zv, h2, h3, h4, h5, h6, h7⟩ := E.parts
    refine wpList_plain hgd fun K hK' => ?_
    have hrun : (Builtin.append_ #[t, t] o.type #[.slice (some ⟨w.heap.size, 0, none⟩) 0 0, .slice none 0 c]).run P (w.alloc (.cells #[] et)) = .ok (.slice (some ⟨w.heap.size, 0, none⟩) 0 0) (w.alloc (.cells #[] et)) := by
      simp [Builtin.append_, run_underlying E.ht, sizeOf, typeInfo, h2, Builtin.lenOf, Builtin.firstCells, storeCells]
    unfold Oper.wp execOp
    simp only [ho, resolve, invoke, builtin, Sem.run_bind, Sem.run_pure, Result.andThen_ok, List.map_toArray, List.map_cons, List.map_nil, hs, hx, hrun]
    exact hK' _ _ (h _ _ (by simpa using hE) hp0)
  · rcases Nat.eq_zero_or_pos m with h0 | h0
    · subst h0
      obtain ⟨i, zv, h2, h3, h4, h5, h6, h7⟩ := E.parts
      refine wpList_plain hgd fun K hK' => ?_
      have hrun : (Builtin.append_ #[t, t] o.type #[.slice (some ⟨w.heap.size, 0, none⟩) 0 0, .slice (some ⟨b, off, sp⟩) 0 c]).run P (w.alloc (.cells #[] et)) = .ok (.slice (some ⟨w.heap.size, 0, none⟩) 0 0) (w.alloc (.cells #[] et)) := by
        simp [Builtin.append_, run_underlying E.ht, sizeOf, typeInfo, h2, Builtin.lenOf, Builtin.firstCells, storeCells, loadCells, loadCellsFrom]
      unfold Oper.wp execOp
      simp only [ho, resolve, invoke, builtin, Sem.run_bind, Sem.run_pure, Result.andThen_ok, List.map_toArray, List.map_cons, List.map_nil, hs, hx, hrun]
      exact hK' _ _ (h _ _ (by simpa using hE) hp0)
    · obtain ⟨b', o', he, hbl, hcc⟩ := hrd h0
      injection he with he
      injection he with e1 e2 e3
      subst e1 e2 e3
      have hmul : m * bytes ≤ 1099511627776 * 128 := Nat.mul_le_mul hn hby
      refine wl_appendF E hgd sl x ho w.heap.size _ 0 [] hs hE b off m c ((List.range (m * s)).map f) hx (by simp) (fun j u hu => ?_) (fun u hu => ?_) (by rw [Nat.zero_add]; omega) (by omega) hp0.size
        (fun v' w' r1 r2 r3 => h v' w' (by simpa using r1) (hp0.grown r2 (fun k hk => by simp [Value.ownBlock] at hk; omega)))
      · rw [hp0.cell b (off + j) hbl]
        have hj : j < m * s := by
          rcases Nat.lt_or_ge j (m * s) with h | h
          · exact h
          · rw [List.getElem?_eq_none (by simpa using h)] at hu; cases hu
        rw [hcc j hj, ← hu]
        simp [hj]
      · obtain ⟨j, hj, rfl⟩ := List.mem_map.1 hu
        exact h1 j (by simpa using hj)
end
end Go.Proofs.Ytmhaaihgepldhaa
