/- The laws' helpers that write marks into slices of their own, and look for them. No condition. -/
import Derived.Test.YtokdfgodmhekmaaCodes
import Derived.Test.YtokdfgodmhekmaaIntS
namespace Go.Proofs.Ytokdfgodmhekmaa
open Go.RowKit

theorem grown_trans {a b c : World} {row : Option Nat} (h : a.grownBy b row) (k : b.grownBy c row) : a.grownBy c row :=
  ⟨k.os.trans h.os, k.tape.trans h.tape, k.output.trans h.output, Nat.le_trans h.size k.size, fun i hi hne => (k.block i (Nat.lt_of_lt_of_le hi h.size) hne).trans (h.block i hi hne)⟩
theorem grown_refl (w : World) (row : Option Nat) : w.grownBy w row := ⟨rfl, rfl, rfl, Nat.le_refl _, fun _ _ _ => rfl⟩

theorem grown_set {a w : World} {g i : Nat} {u : Value} (h : a.grownBy w (some g)) : a.grownBy (w.setCell ⟨g, i, none⟩ u) (some g) := grown_trans h (grown_setCell w ⟨g, i, none⟩ u)

def marked (k : Int) (n : Nat) : List Int := (List.range n).map fun (j : Nat) => k + (j : Int)
theorem marked_length (k : Int) (n : Nat) : (marked k n).length = n := by simp [marked]
theorem marked_getD (k : Int) (n j : Nat) (h : j < n) : (marked k n).getD j 0 = k + j := by simp [marked, List.getD_eq_getElem?_getD, h]

def MarkPost (B : Nat) (v : Value) (n : Nat) (k : Int) (w : World) (e : Ending) (w' : World) : Prop :=
  e = .returned (.int .i64 (k + n)) ∧ OwnO w' B 3 1 v n ((marked k n).map (.int .i64)) ∧ w.grownBy w' v.ownBlock

set_option maxHeartbeats 400000 in
theorem markIntS_any (v : Value) (n B : Nat) (ys : List Value) (k : Int) (w : World) (h : OwnO w B 3 1 v n ys) (hn : n ≤ 1099511627776) (hk0 : 0 ≤ k) (hk1 : k ≤ 1099511627776) :
    Calls Try.prog 23 #[v, .int .i64 k] w (MarkPost B v n k w) := by
  have H := Lib.hid h
  obtain ⟨A, c, rfl⟩ := h.form
  clear h
  go_enter Try.func23, Try.ntmps23
  go_wp2
  go_loopg [1, 5] n (fun gk m i wr => ∃ (j : Nat) (zs : List Value), gk + j = n ∧ i = .int .i64 j ∧ m = .int .i64 (k + j) ∧ OwnO wr B 3 1 (.slice A n c) n zs ∧ (∀ i, i < j → zs[i]? = some (.int .i64 (k + i))) ∧ w.grownBy wr (Value.slice A n c).ownBlock)
  case atStart => exact ⟨0, ys, rfl, rfl, by go_num, H.out, fun j hj => absurd hj (by omega), grown_refl _ _⟩
  case round =>
    obtain ⟨j, zs, hgk, rfl, rfl, hown, hzs, hg⟩ := hrel
    have Hgk := Lib.hid hgk
    have Hzs := Lib.hid hzs
    have Hown := Lib.hid hown
    have Hg := Lib.hid hg
    have hjn : j ≤ n := by omega
    clear hgk hzs hown hg
    by_cases hlt : j < n
    · obtain ⟨g, off, c', hv, h1, h2, h3, h4⟩ := Hown.out.formSome (by omega)
      injection hv with e1 e2 e3
      subst e1
      subst e3
      obtain ⟨u, q0⟩ := Hown.out.cellSome j (by omega)
      have f0 := Hown.out.frozen (off + j)
      have hst := Hown.out.stored j (.int .i64 (k + j))
      have HS := Lib.hid hst
      have HL : Hid (zs.length = n * 1) := Lib.hid Hown.out.1
      clear hst
      go_wp2
      go_roundg (n - (j + 1))
      case measure => have := Hgk.out; omega
      case rel =>
        refine ⟨j + 1, _, by have := Hgk.out; omega, by go_num, by go_num, HS.out, fun i hi => ?_, ?_⟩
        · by_cases e : i = j
          · subst e; rw [List.getElem?_set_self (by have := HL.out; omega)]
          · rw [List.getElem?_set_ne (by omega)]; exact Hzs.out i (by omega)
        · exact grown_trans Hg.out (grown_setCell _ _ _)
    · have hjl : j = n := by omega
      subst hjl
      go_wp2
      go_ret
      refine ⟨rfl, ?_, Hg.out⟩
      have : (marked k j).map (Value.int .i64) = zs := by
        apply List.ext_getElem?
        intro i
        by_cases hi : i < j
        · rw [Hzs.out i hi]; simp [marked, hi]
        · rw [List.getElem?_eq_none (by simp [marked]; omega), List.getElem?_eq_none (by have := Hown.out.1; omega)]
      rw [this]; exact Hown.out

set_option maxHeartbeats 400000 in
theorem heldIntS_any (v : Value) (n : Nat) (k : Int) (w : World) (h : Ints w v (marked k n)) (hn : n ≤ 1099511627776) (hk0 : 0 ≤ k) (hk1 : k ≤ 1099511627776) :
    Calls Try.prog 24 #[v, .int .i64 k] w fun e w' => e = .returned (.int .i64 (k + n)) ∧ Pure w w' := by
  have H := Lib.hid h
  obtain ⟨A, c, rfl⟩ := h.form
  rw [marked_length]
  clear h
  go_enter Try.func24, Try.ntmps24
  go_wp2
  go_loopg [1, 5] n (fun gk m i wr => ∃ (j : Nat), gk + j = n ∧ i = .int .i64 j ∧ m = .int .i64 (k + j) ∧ Pure w wr)
  case atStart => exact ⟨0, rfl, rfl, by go_num, Pure.refl _⟩
  case round =>
    obtain ⟨j, hgk, rfl, rfl, hp⟩ := hrel
    have Hgk := Lib.hid hgk
    have hjn : j ≤ n := by omega
    clear hgk
    by_cases hlt : j < n
    · obtain ⟨A', c', hv, h1, h2, h3⟩ := H.out
      injection hv with e1 e2 e3
      subst e1
      subst e3
      obtain ⟨b, o, rfl, hb, hc⟩ := h3 (by rw [marked_length]; omega)
      have q0 := (hp.cell b _ hb).trans (hc j (by rw [marked_length]; omega))
      simp only [marked_getD k n j hlt] at q0
      clear hc h3
      have hd : ((k + (j : Int)) != (k + (j : Int))) = false := by simp
      rw [marked_length] at h1
      go_wp2
      go_roundg (n - (j + 1))
      case measure => have := Hgk.out; omega
      case rel => exact ⟨j + 1, by have := Hgk.out; omega, by go_num, by go_num, hp⟩
    · have hjl : j = n := by omega
      subst hjl
      go_wp2
      go_ret
      exact ⟨rfl, hp⟩

set_option maxHeartbeats 1000000 in
theorem markCodeS_any (v : Value) (n B : Nat) (ys : List Value) (k : Int) (w : World) (h : OwnO w B 61 4 v n ys) (hn : n ≤ 1099511627776) (hk0 : 0 ≤ k) (hk1 : k ≤ 1099511627776) :
    Calls Try.prog 22 #[v, .int .i64 k] w fun e w' => e = .returned (.int .i64 (k + 4 * n)) ∧ w.grownBy w' v.ownBlock := by
  have H := Lib.hid h
  obtain ⟨A, c, rfl⟩ := h.form
  clear h
  go_enter Try.func22, Try.ntmps22
  go_wp2
  go_loopg [1, 5] n (fun gk m i wr => ∃ (j : Nat) (zs : List Value), gk + j = n ∧ i = .int .i64 j ∧ m = .int .i64 (k + 4 * j) ∧ OwnO wr B 61 4 (.slice A n c) n zs ∧ w.grownBy wr (Value.slice A n c).ownBlock)
  case atStart => exact ⟨0, ys, rfl, rfl, by go_num, H.out, grown_refl _ _⟩
  case round =>
    obtain ⟨j, zs, hgk, rfl, rfl, hown, hg⟩ := hrel
    have Hgk := Lib.hid hgk
    have Hown := Lib.hid hown
    have Hg := Lib.hid hg
    have hjn : j ≤ n := by omega
    clear hgk hown hg
    by_cases hlt : j < n
    · obtain ⟨g, off, c', hv, h1, h2, h3, h4⟩ := Hown.out.formSome (by omega)
      injection hv with e1 e2 e3
      subst e1
      subst e3
      obtain ⟨u0, q0⟩ := Hown.out.cellSome (j * 4) (by omega)
      obtain ⟨u1, q1⟩ := Hown.out.cellSome (j * 4 + 1) (by omega)
      obtain ⟨u2, q2⟩ := Hown.out.cellSome (j * 4 + 2) (by omega)
      obtain ⟨u3, q3⟩ := Hown.out.cellSome (j * 4 + 3) (by omega)
      rw [← Nat.add_assoc] at q1 q2 q3
      have f0 := Hown.out.frozen (off + j * 4)
      have f1 := Hown.out.frozen (off + j * 4 + 1)
      have f2 := Hown.out.frozen (off + j * 4 + 2)
      have f3 := Hown.out.frozen (off + j * 4 + 3)
      have s1 := Hown.out.stored (j * 4) (.int .i64 (k + 4 * j))
      have s2 := s1.stored (j * 4 + 1) (.int .i64 (k + 4 * j + 1))
      have s3 := s2.stored (j * 4 + 2) (.int .i64 (k + 4 * j + 1 + 1))
      have s4 := s3.stored (j * 4 + 3) (.int .i64 (k + 4 * j + 1 + 1 + 1))
      simp only [← Nat.add_assoc] at s4
      have HS := Lib.hid s4
      clear s1 s2 s3 s4
      go_wp2
      go_roundg (n - (j + 1))
      case measure => have := Hgk.out; omega
      case rel =>
        refine ⟨j + 1, _, by have := Hgk.out; omega, by go_num, by go_num, HS.out, ?_⟩
        exact grown_set (grown_set (grown_set (grown_set Hg.out)))
    · have hjl : j = n := by omega
      subst hjl
      go_wp2
      go_ret
      exact ⟨rfl, Hg.out⟩

end Go.Proofs.Ytokdfgodmhekmaa
