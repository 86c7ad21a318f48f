/- The laws' helpers on []int and [][]int: sizes, copies, comparisons. No condition. -/
import Derived.Test.YtokdfgodmhekmaaElems
namespace Go.Proofs.Ytokdfgodmhekmaa
open Go.RowKit

set_option maxHeartbeats 400000 in
theorem toIntS_any (v : Value) (xs : List Int) (w : World) (h : Ints w v xs) (hlen : xs.length ≤ 17592186044416) :
    Calls Try.prog 18 #[v] w fun e w' => ∃ v', e = .returned v' ∧ w'.ownsRow w.heap.size 3 1 v' xs.length (xs.map (.int .i64)) ∧ Pure w w' := by
  obtain ⟨A, c, rfl, hnc, hcm, hread⟩ := h
  go_enter Try.func18, Try.ntmps18
  go_wp2_with (at_make; refine wl_make elInt rfl _ _ rfl w.heap.size _ _ _ _ xs.length rfl rfl rfl rfl (by omega) (by omega) (Nat.le_refl _) ?_; intro w1 hown hp hsz)
  go_loopw [4] (fun i wr => ∃ k : Nat, k ≤ xs.length ∧ i = .int .i64 k ∧ Pure w wr ∧ ∃ ys, wr.ownsRow w.heap.size 3 1 (.slice (some ⟨w.heap.size, 0, none⟩) xs.length xs.length) xs.length ys ∧ ∀ j, j < k → ys[j]? = some (.int .i64 (xs.getD j 0))) (fun i _ => xs.length - (intOf i).toNat)
  case atStart => exact ⟨0, Nat.zero_le _, rfl, hp, _, hown, fun j hj => absurd hj (by omega)⟩
  case round =>
    clear hown hp hsz w1
    obtain ⟨k, hk, rfl, hp, ys, hown, hys⟩ := hrel
    by_cases hlt : k < xs.length
    · obtain ⟨b, o, rfl, hb, hc⟩ := hread (by omega)
      have hx := (hp.cell b (o + k) hb).trans (hc k (by omega))
      have hy := hown.cellAt k (by omega)
      have hl : k < ys.length := by have := hown.1; omega
      rw [List.getElem?_eq_getElem hl] at hy
      have hf := hown.frozenAt k
      have hne : w.heap.size ≠ b := by omega
      have Hst := Lib.hid (hown.stored k (.int .i64 (xs.getD k 0))).1
      have Hys := Lib.hid hys
      clear hread hc hys hown
      obtain ⟨x, Hx⟩ : ∃ x, Hid (xs.getD k 0 = x) := ⟨_, rfl⟩
      rw [Hx.out] at hx Hst
      go_wp2
      go_roundw
      case rel =>
        refine ⟨k + 1, by omega, by go_num, Pure.setCell hp (Nat.le_refl _) _, _, Hst.out, fun j hj => ?_⟩
        rw [List.getElem?_set]
        by_cases hjk : k = j
        · subst hjk; rw [if_pos rfl, if_pos hl, Hx.out]
        · rw [if_neg hjk]; exact Hys.out j (by omega)
      case measure => simp [intOf]; omega
    · have hk' : k = xs.length := by omega
      subst hk'
      go_wp2
      go_ret
      refine ⟨_, rfl, ?_, hp⟩
      have hl := hown.1
      have : ys = xs.map (.int .i64) := by
        apply List.ext_getElem?
        intro j
        by_cases hj : j < xs.length
        · rw [hys j hj]; simp [hj]
        · rw [List.getElem?_eq_none (by omega), List.getElem?_eq_none (by simp; omega)]
      rw [← this]; exact hown


theorem getD_ext {xs ys : List Int} (hl : xs.length = ys.length) (h : ∀ j, j < xs.length → xs.getD j 0 = ys.getD j 0) : xs = ys := by
  apply List.ext_getElem hl
  intro j h1 h2
  have := h j h1
  simpa [List.getD_eq_getElem?_getD, h1, h2] using this

set_option maxHeartbeats 400000 in
theorem eqIntS_any (v v' : Value) (xs ys : List Int) (w : World) (h : Ints w v xs) (h' : Ints w v' ys) (B : Bool) (hB : decide (xs = ys) = B) :
    Calls Try.prog 20 #[v, v'] w fun e w' => e = .returned (.bool B) ∧ ∃ n, w' = w.drewN n := by
  obtain ⟨A, c, rfl, hnc, hcm, hread⟩ := h
  obtain ⟨A', c', rfl, hnc', hcm', hread'⟩ := h'
  have HB := Lib.hid hB; clear hB
  by_cases hl : xs.length = ys.length
  · have hl' : (!((xs.length : Int) == ys.length)) = false := by simp [hl]
    have hl2 : ((xs.length : Int) != ys.length) = false := by simp [hl]
    have hle : xs.length ≤ ys.length := by omega
    have hle' : ys.length ≤ xs.length := by omega
    have HL := Lib.hid hl; clear hl
    go_enter Try.func20, Try.ntmps20
    go_wp2
    go_loopw [5] (fun i wr => ∃ k : Nat, k ≤ xs.length ∧ i = .int .i64 k ∧ (∃ n, wr = w.drewN n) ∧ ∀ j, j < k → xs.getD j 0 = ys.getD j 0) (fun i _ => xs.length - (intOf i).toNat)
    case atStart => exact ⟨0, Nat.zero_le _, rfl, ⟨0, rfl⟩, fun j hj => absurd hj (by omega)⟩
    case round =>
      obtain ⟨k, hk, rfl, ⟨n0, rfl⟩, heq⟩ := hrel
      have Heq := Lib.hid heq; clear heq
      by_cases hlt : k < xs.length
      · obtain ⟨b, o, rfl, hb, hc⟩ := hread (by omega)
        obtain ⟨b', o', rfl, hb', hc'⟩ := hread' (by omega)
        have hx := hc k (by omega)
        have hy := hc' k (by omega)
        clear hread hread' hc hc'
        have hlt' : k < ys.length := by omega
        obtain ⟨x, Hx⟩ : ∃ x, Hid (xs.getD k 0 = x) := ⟨_, rfl⟩
        obtain ⟨y, Hy⟩ : ∃ y, Hid (ys.getD k 0 = y) := ⟨_, rfl⟩
        rw [Hx.out] at hx
        rw [Hy.out] at hy
        by_cases hxy : x = y
        · have hd : (x != y) = false := by simp [hxy]
          have Hxy := Lib.hid hxy; clear hxy
          go_wp2
          go_quiet (fail)
          go_wp2
          go_roundw
          case rel =>
            refine ⟨k + 1, by omega, by go_num, (by first | exact ⟨_, rfl⟩ | exact ⟨_, World.drewN_drewN _ _ _⟩ | exact ⟨0, rfl⟩), fun j hj => ?_⟩
            by_cases hjk : j = k
            · subst hjk; rw [Hx.out, Hy.out]; exact Hxy.out
            · exact Heq.out j (by omega)
          case measure => simp [intOf]; omega
        · have hd : (x != y) = true := by simp [hxy]
          have Hxy := Lib.hid hxy; clear hxy
          go_wp2
          go_quiet (fail)
          go_wp2
          go_ret
          refine ⟨ret_bool ?_, (by first | exact ⟨_, rfl⟩ | exact ⟨_, World.drewN_drewN _ _ _⟩ | exact ⟨0, rfl⟩)⟩
          rw [← HB.out]
          refine (decide_eq_false ?_).symm
          rintro rfl
          exact Hxy.out (Hx.out.symm.trans Hy.out)
      · go_wp2
        go_ret
        refine ⟨ret_bool ?_, _, rfl⟩
        rw [← HB.out]
        exact (decide_eq_true (getD_ext HL.out fun j hj => Heq.out j (by omega))).symm
  · have hl' : ((xs.length : Int) != ys.length) = true := by rw [bne_iff_ne]; omega
    have HL := Lib.hid hl; clear hl
    go_enter Try.func20, Try.ntmps20
    go_wp2
    go_ret
    refine ⟨ret_bool ?_, 0, rfl⟩
    rw [← HB.out]
    refine (decide_eq_false ?_).symm
    rintro rfl
    exact HL.out rfl

def SzSS (xss : List (List Int)) (left : Int) (w : World) (e : Ending) (w' : World) : Prop :=
  (∃ r : Int, e = .returned (.int .i64 r) ∧ (0 ≤ r → xss.length ≤ left ∧ ∀ k, k < xss.length → (xss.getD k []).length ≤ left)) ∧ w = w'

theorem IntRows.of_own {w : World} {B e n : Nat} {v : Value} {xs : List Value} {xss : List (List Int)} (h : w.ownsRow B e 1 v n xs) (hn : n = xss.length) (hf : ∀ j, j < xss.length → ∃ r, xs[j]? = some r ∧ Ints w r (xss.getD j [])) : IntRows w v xss := by
  subst hn
  rcases h.2 with ⟨rfl, h0⟩ | ⟨g, cap, cur, rfl, _, hg, hnc, hcm, _⟩
  · exact ⟨none, 0, by rw [h0], by omega, by omega, fun h => absurd h (by omega)⟩
  · refine ⟨_, cap, rfl, hnc, by unfold maxLen at hcm; omega, fun hn => ⟨g, 0, rfl, (Array.getElem?_eq_some_iff.1 hg).1, fun j hj => ?_⟩⟩
    obtain ⟨r, h1, h2⟩ := hf j hj
    exact ⟨r, by rw [Nat.zero_add, h.cellAt j (by omega)]; exact h1, h2⟩

set_option maxHeartbeats 400000 in
theorem eqIntSS_any (v v' : Value) (xss yss : List (List Int)) (w : World) (h : IntRows w v xss) (h' : IntRows w v' yss) (hxy : xss = yss) :
    Calls Try.prog 32 #[v, v'] w fun e w' => e = .returned (.bool true) ∧ Pure w w' := by
  subst hxy
  obtain ⟨A, c, rfl, hnc, hcm, hread⟩ := h
  obtain ⟨A', c', rfl, hnc', hcm', hread'⟩ := h'
  have hl' : (!((xss.length : Int) == xss.length)) = false := by simp
  have hl2 : ((xss.length : Int) != xss.length) = false := by simp
  go_enter Try.func32, Try.ntmps32
  go_wp2
  go_loopw [5] (fun i wr => ∃ k : Nat, k ≤ xss.length ∧ i = .int .i64 k ∧ Pure w wr) (fun i _ => xss.length - (intOf i).toNat)
  case atStart => exact ⟨0, Nat.zero_le _, rfl, Pure.refl _⟩
  case round =>
    obtain ⟨k, hk, rfl, hp⟩ := hrel
    by_cases hlt : k < xss.length
    · obtain ⟨b, o, rfl, hb, hc⟩ := hread (by omega)
      obtain ⟨b', o', rfl, hb', hc'⟩ := hread' (by omega)
      obtain ⟨r, hr, hrow⟩ := hc k hlt
      obtain ⟨r', hr', hrow'⟩ := hc' k hlt
      have hx := (hp.cell b (o + k) hb).trans hr
      have hy := (hp.cell b' (o' + k) hb').trans hr'
      have hrow1 := hrow.keep hp
      have hrow1' := hrow'.keep hp
      clear hread hread' hc hc' hr hr' hrow hrow'
      obtain ⟨xs, Hxs⟩ : ∃ xs, Hid (xss.getD k [] = xs) := ⟨_, rfl⟩
      rw [Hxs.out] at hrow1 hrow1'
      go_wp2
      go_quiet ((go_at_call 20; exact Calls.quiet_of (eqIntS_any _ _ xs xs _ (hrow1.keep (Pure.drewN (Pure.refl _) _)) (hrow1'.keep (Pure.drewN (Pure.refl _) _)) true (by simp))))
      go_wp2
      go_roundw
      case rel => exact ⟨k + 1, by omega, by go_num, Pure.drewN hp _⟩
      case measure => simp [intOf]; omega
    · go_wp2
      go_ret
      exact ⟨rfl, hp⟩

end Go.Proofs.Ytokdfgodmhekmaa
