/- Graphs: which are valid, as the reference and the program find it. No condition. -/
import Derived.Test.YtmhaaihgepldhaaElems
namespace Go.Proofs.Ytmhaaihgepldhaa
open Go.RowKit

set_option maxHeartbeats 400000 in
theorem l1In_t (n lo hi : Int) (w : World) (h : lo ≤ n ∧ n ≤ hi) :
    Calls Try.prog 48 #[.int .i64 n, .int .i64 lo, .int .i64 hi] w fun e w' => e = .returned (.bool true) ∧ w = w' := by
  obtain ⟨h1, h2⟩ := h
  go_enter Try.func48, Try.ntmps48
  go_wp2
  go_ret
  exact ⟨rfl, rfl⟩
set_option maxHeartbeats 400000 in
theorem l1In_f (n lo hi : Int) (w : World) (h : ¬ (lo ≤ n ∧ n ≤ hi)) :
    Calls Try.prog 48 #[.int .i64 n, .int .i64 lo, .int .i64 hi] w fun e w' => e = .returned (.bool false) ∧ w = w' := by
  by_cases h1 : lo ≤ n
  · have h2 : ¬ n ≤ hi := by omega
    clear h
    go_enter Try.func48, Try.ntmps48
    go_wp2
    go_ret
    exact ⟨rfl, rfl⟩
  · clear h
    go_enter Try.func48, Try.ntmps48
    go_wp2
    go_ret
    exact ⟨rfl, rfl⟩
theorem l1In_any (n lo hi : Int) (w : World) (B : Bool) (hB : B = true ↔ (lo ≤ n ∧ n ≤ hi)) :
    Calls Try.prog 48 #[.int .i64 n, .int .i64 lo, .int .i64 hi] w fun e w' => e = .returned (.bool B) ∧ w = w' := by
  cases B
  · exact l1In_f n lo hi w (fun h => by simp [h] at hB)
  · exact l1In_t n lo hi w (hB.1 rfl)

set_option maxHeartbeats 400000 in
theorem within_t (n lo hi : Int) (w : World) (h : lo ≤ n ∧ n ≤ hi) :
    Calls Try.prog 72 #[.int .i64 n, .int .i64 lo, .int .i64 hi] w fun e w' => e = .returned (.bool true) ∧ w = w' := by
  obtain ⟨h1, h2⟩ := h
  go_enter Try.func72, Try.ntmps72
  go_wp2
  go_ret
  exact ⟨rfl, rfl⟩
set_option maxHeartbeats 400000 in
theorem within_f (n lo hi : Int) (w : World) (h : ¬ (lo ≤ n ∧ n ≤ hi)) :
    Calls Try.prog 72 #[.int .i64 n, .int .i64 lo, .int .i64 hi] w fun e w' => e = .returned (.bool false) ∧ w = w' := by
  by_cases h1 : lo ≤ n
  · have h2 : ¬ n ≤ hi := by omega
    clear h
    go_enter Try.func72, Try.ntmps72
    go_wp2
    go_ret
    exact ⟨rfl, rfl⟩
  · clear h
    go_enter Try.func72, Try.ntmps72
    go_wp2
    go_ret
    exact ⟨rfl, rfl⟩
theorem within_any (n lo hi : Int) (w : World) (B : Bool) (hB : B = true ↔ (lo ≤ n ∧ n ≤ hi)) :
    Calls Try.prog 72 #[.int .i64 n, .int .i64 lo, .int .i64 hi] w fun e w' => e = .returned (.bool B) ∧ w = w' := by
  cases B
  · exact within_f n lo hi w (fun h => by simp [h] at hB)
  · exact within_t n lo hi w (hB.1 rfl)

def rowOk (n : Nat) (r : List Int) (m : Nat) : Prop := ∀ j, j < m → 0 ≤ r.getD j 0 ∧ r.getD j 0 ≤ (n : Int) - 1 ∧ ∀ i, i < j → r.getD i 0 ≠ r.getD j 0
def GValid (xss : List (List Int)) : Prop := (∀ k, k < xss.length → rowOk xss.length (xss.getD k []) (xss.getD k []).length) ∧ xss.length ≤ 64

theorem rowOk_step {n : Nat} {xs : List Int} {j : Nat} {x : Int} (h : rowOk n xs j) (hx : xs.getD j 0 = x) (h1 : 0 ≤ x) (h2 : x ≤ (n : Int) - 1) (hn : ∀ i, i < j → xs.getD i 0 ≠ x) : rowOk n xs (j + 1) := by
  intro j' hj'
  by_cases e : j' = j
  · subst e; rw [hx]; exact ⟨h1, h2, hn⟩
  · exact h j' (by omega)

set_option maxHeartbeats 1000000 in
set_option maxRecDepth 100000 in
theorem gv_any (v : Value) (xss : List (List Int)) (w : World) (h : IntRows w v xss) (B : Bool) (hB : B = true ↔ GValid xss) :
    Calls Try.prog 26 #[v] w fun e w' => e = .returned (.bool B) ∧ ∃ n, w' = w.drewN n := by
  obtain ⟨A, c, rfl, hnc, hcm, hread⟩ := h
  have HB := Lib.hid hB; clear hB
  go_enter Try.func26, Try.ntmps26
  go_wp2
  go_loopw [3] (fun a wr => ∃ k : Nat, k ≤ xss.length ∧ a = .int .i64 k ∧ (∀ k', k' < k → rowOk xss.length (xss.getD k' []) (xss.getD k' []).length) ∧ ∃ n, wr = w.drewN n) (fun a _ => xss.length - (intOf a).toNat)
  case atStart => exact ⟨0, Nat.zero_le _, rfl, (fun _ h => absurd h (by omega)), 0, rfl⟩
  case round =>
    obtain ⟨k, hk, rfl, hok, n0, rfl⟩ := hrel
    by_cases hlt : k < xss.length
    · obtain ⟨b, o, rfl, hb, hc⟩ := hread (by omega)
      obtain ⟨r, hr, A', c', rfl, hnc', hcm', hread'⟩ := hc k hlt
      have Hok := Lib.hid hok; clear hok hread hc
      obtain ⟨xs, Hxs⟩ : ∃ xs, Hid (xss.getD k [] = xs) := ⟨_, rfl⟩
      rw [Hxs.out] at hr hnc' hread'
      go_wp2
      go_loopw [4] (fun a wr => ∃ j : Nat, j ≤ xs.length ∧ a = .int .i64 j ∧ rowOk xss.length xs j ∧ ∃ n, wr = w.drewN n) (fun a _ => xs.length - (intOf a).toNat)
      case atStart => exact ⟨0, Nat.zero_le _, rfl, (fun _ h => absurd h (by omega)), _, rfl⟩
      case round =>
        obtain ⟨j, hj, rfl, hrow, n1, rfl⟩ := hrel
        by_cases hltj : j < xs.length
        · obtain ⟨b', o', rfl, hb', hc'⟩ := hread' (by omega)
          have Hrow := Lib.hid hrow; clear hrow hread'
          have hx := hc' j (by omega)
          have Hc' := Lib.hid hc'; clear hc'
          obtain ⟨x, Hx⟩ : ∃ x, Hid (xs.getD j 0 = x) := ⟨_, rfl⟩
          rw [Hx.out] at hx
          by_cases hin : 0 ≤ x ∧ x ≤ (xss.length : Int) - 1
          · go_wp2_with (go_at_call 48; refine (l1In_t _ _ _ _ hin).mono ?_; rintro e w' ⟨rfl, rfl⟩)
            obtain ⟨hin1, hin2⟩ := hin
            go_loopw [5] (fun a wr => ∃ i : Nat, i ≤ j ∧ a = .int .i64 i ∧ (∀ i', i' < i → xs.getD i' 0 ≠ x) ∧ ∃ n, wr = w.drewN n) (fun a _ => j - (intOf a).toNat)
            case atStart => exact ⟨0, Nat.zero_le _, rfl, (fun _ h => absurd h (by omega)), _, rfl⟩
            case round =>
              obtain ⟨i, hi, rfl, hne, n2, rfl⟩ := hrel
              have Hne := Lib.hid hne; clear hne
              by_cases hlti : i < j
              · have hy := Hc'.out i (by omega)
                obtain ⟨y, Hy⟩ : ∃ y, Hid (xs.getD i 0 = y) := ⟨_, rfl⟩
                rw [Hy.out] at hy
                by_cases hxy : y = x
                · have hd : (y == x) = true := by simp [hxy]
                  have Hxy := Lib.hid hxy; clear hxy
                  go_wp2
                  go_quiet (fail)
                  go_wp2
                  go_ret
                  refine ⟨ret_bool ?_, (by first | exact ⟨_, rfl⟩ | exact ⟨_, World.drewN_drewN _ _ _⟩ | exact ⟨0, rfl⟩)⟩
                  cases hb : B
                  · rfl
                  · have hg := (HB.out.1 hb).1 k hlt
                    rw [Hxs.out] at hg
                    exact absurd (Hy.out.trans (Hxy.out.trans Hx.out.symm)) ((hg j hltj).2.2 i hlti)
                · have hd : (y == x) = false := by simp [hxy]
                  have Hxy := Lib.hid hxy; clear hxy
                  go_wp2
                  go_quiet (fail)
                  go_wp2
                  go_roundw
                  case rel =>
                    refine ⟨i + 1, by omega, by go_num, fun i' hi' => ?_, (by first | exact ⟨_, rfl⟩ | exact ⟨_, World.drewN_drewN _ _ _⟩ | exact ⟨0, rfl⟩)⟩
                    by_cases e : i' = i
                    · subst e; rw [Hy.out]; exact Hxy.out
                    · exact Hne.out i' (by omega)
                  case measure => simp [intOf]; omega
              · go_wp2
                go_roundw
                case rel => exact ⟨j + 1, by omega, by go_num, rowOk_step Hrow.out Hx.out hin1 hin2 (fun i' hi' => Hne.out i' (by omega)), (by first | exact ⟨_, rfl⟩ | exact ⟨_, World.drewN_drewN _ _ _⟩ | exact ⟨0, rfl⟩)⟩
                case measure => simp [intOf]; omega
          · go_wp2_with (go_at_call 48; refine (l1In_f _ _ _ _ hin).mono ?_; rintro e w' ⟨rfl, rfl⟩)
            go_ret
            refine ⟨ret_bool ?_, (by first | exact ⟨_, rfl⟩ | exact ⟨_, World.drewN_drewN _ _ _⟩ | exact ⟨0, rfl⟩)⟩
            cases hb : B
            · rfl
            · have hg := (HB.out.1 hb).1 k hlt
              rw [Hxs.out] at hg
              have := hg j hltj
              rw [Hx.out] at this
              exact absurd ⟨this.1, this.2.1⟩ hin
        · have hj' : j = xs.length := by omega
          subst hj'
          have Hrow := Lib.hid hrow; clear hrow hread'
          go_wp2
          go_roundw
          case rel =>
            refine ⟨k + 1, by omega, by go_num, fun k' hk' => ?_, (by first | exact ⟨_, rfl⟩ | exact ⟨_, World.drewN_drewN _ _ _⟩ | exact ⟨0, rfl⟩)⟩
            by_cases e : k' = k
            · subst e; rw [Hxs.out]; exact Hrow.out
            · exact Hok.out k' (by omega)
          case measure => simp [intOf]; omega
    · have Hok := Lib.hid hok; clear hok
      go_wp2
      go_ret
      refine ⟨ret_bool ?_, (by first | exact ⟨_, rfl⟩ | exact ⟨_, World.drewN_drewN _ _ _⟩ | exact ⟨0, rfl⟩)⟩
      rw [Bool.eq_iff_iff, HB.out, decide_eq_true_iff]
      exact ⟨fun h => ⟨fun k' hk' => Hok.out k' (by omega), by omega⟩, fun h => by have := h.2; omega⟩

end Go.Proofs.Ytmhaaihgepldhaa
