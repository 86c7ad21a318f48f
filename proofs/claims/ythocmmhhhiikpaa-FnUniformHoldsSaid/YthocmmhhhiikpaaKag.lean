/- The laws' helpers on []int and [][]int: sizes, copies, comparisons. The laws' helpers that write marks into slices of their own, and look for them. What the functions under comparison give: numbers and lists that a rule fixes, in memory of their own. Lanes in lockstep, plainly: what an instruction does to one lane, to the lanes of a mask, and what a tree of blocks does. No program in sight. Worlds that differ in some blocks alone; the registers and the memory of a run, in blocks of the run's own. Sums, products and comparisons of words, the reference's and the program's. No condition. -/
import Derived.Test.YthocmmhhhiikpaaKaa
import Derived.Test.YthocmmhhhiikpaaKab
import Derived.Test.YthocmmhhhiikpaaKac
import Derived.Test.YthocmmhhhiikpaaKae

namespace Go.Proofs.Ythocmmhhhiikpaa
open Go.RowKit


theorem getD_ext {xs ys : List Int} (hl : xs.length = ys.length) (h : ∀ j, j < xs.length → xs.getD j 0 = ys.getD j 0) : xs = ys := by
  apply List.ext_getElem hl
  intro j h1 h2
  have := h j h1
  simpa [List.getD_eq_getElem?_getD, h1, h2] using this

set_option maxHeartbeats 400000 in
theorem eqIntS_any (v v' : Value) (xs ys : List Int) (w : World) (h : Ints w v xs) (h' : Ints w v' ys) (B : Bool) (hB : decide (xs = ys) = B) :
    Calls Try.prog 14 #[v, v'] w fun e w' => e = .returned (.bool B) ∧ ∃ n, w' = w.drewN n := by
  obtain ⟨A, c, rfl, hnc, hcm, hread⟩ := h
  obtain ⟨A', c', rfl, hnc', hcm', hread'⟩ := h'
  have HB := Lib.hid hB; clear hB
  by_cases hl : xs.length = ys.length
  · have hl' : (!((xs.length : Int) == ys.length)) = false := by simp [hl]
    have hl2 : ((xs.length : Int) != ys.length) = false := by simp [hl]
    have hle : xs.length ≤ ys.length := by omega
    have hle' : ys.length ≤ xs.length := by omega
    have HL := Lib.hid hl; clear hl
    go_enter Try.func14, Try.ntmps14
    go_wp2
    go_loopw [5] (fun i wr => ∃ k : Nat, k ≤ xs.length ∧ i = .int .i64 k ∧ (∃ n, wr = w.drewN n) ∧ ∀ j, j < k → xs.getD j 0 = ys.getD j 0) (fun i _ => xs.length - (intOf i).toNat)
    case atStart => exact ⟨0, Nat.zero_le _, rfl, ⟨0, rfl⟩, fun j hj => absurd hj (by omega)⟩
    case round =>
      obtain ⟨k, hk, rfl, ⟨n0, rfl⟩, heq⟩ := hrel
      have Heq := Lib.hid heq; clear heq
      by_cases hlt : k < xs.length
      · obtain ⟨b, o, rfl, hb, hc⟩ := hread (by omega)
        obtain ⟨b', o', rfl, hb', hc'⟩ := hread' (by omega)
        have hx := hc k (by omega)
        have hy := hc' k (by omega)
        clear hread hread' hc hc'
        have hlt' : k < ys.length := by omega
        obtain ⟨x, Hx⟩ : ∃ x, Hid (xs.getD k 0 = x) := ⟨_, rfl⟩
        obtain ⟨y, Hy⟩ : ∃ y, Hid (ys.getD k 0 = y) := ⟨_, rfl⟩
        rw [Hx.out] at hx
        rw [Hy.out] at hy
        by_cases hxy : x = y
        · have hd : (x != y) = false := by simp [hxy]
          have Hxy := Lib.hid hxy; clear hxy
          go_wp2
          go_quiet (fail)
          go_wp2
          go_roundw
          case rel =>
            refine ⟨k + 1, by omega, by go_num, (by first | exact ⟨_, rfl⟩ | exact ⟨_, World.drewN_drewN _ _ _⟩ | exact ⟨0, rfl⟩), fun j hj => ?_⟩
            by_cases hjk : j = k
            · subst hjk; rw [Hx.out, Hy.out]; exact Hxy.out
            · exact Heq.out j (by omega)
          case measure => simp [intOf]; omega
        · have hd : (x != y) = true := by simp [hxy]
          have Hxy := Lib.hid hxy; clear hxy
          go_wp2
          go_quiet (fail)
          go_wp2
          go_ret
          refine ⟨ret_bool ?_, (by first | exact ⟨_, rfl⟩ | exact ⟨_, World.drewN_drewN _ _ _⟩ | exact ⟨0, rfl⟩)⟩
          rw [← HB.out]
          refine (decide_eq_false ?_).symm
          rintro rfl
          exact Hxy.out (Hx.out.symm.trans Hy.out)
      · go_wp2
        go_ret
        refine ⟨ret_bool ?_, _, rfl⟩
        rw [← HB.out]
        exact (decide_eq_true (getD_ext HL.out fun j hj => Heq.out j (by omega))).symm
  · have hl' : ((xs.length : Int) != ys.length) = true := by rw [bne_iff_ne]; omega
    have HL := Lib.hid hl; clear hl
    go_enter Try.func14, Try.ntmps14
    go_wp2
    go_ret
    refine ⟨ret_bool ?_, 0, rfl⟩
    rw [← HB.out]
    refine (decide_eq_false ?_).symm
    rintro rfl
    exact HL.out rfl

def SzSS (xss : List (List Int)) (left : Int) (w : World) (e : Ending) (w' : World) : Prop :=
  (∃ r : Int, e = .returned (.int .i64 r) ∧ (0 ≤ r → xss.length ≤ left ∧ ∀ k, k < xss.length → (xss.getD k []).length ≤ left)) ∧ w = w'

theorem IntRows.of_own {w : World} {B e n : Nat} {v : Value} {xs : List Value} {xss : List (List Int)} (h : w.ownsRow B e 1 v n xs) (hn : n = xss.length) (hf : ∀ j, j < xss.length → ∃ r, xs[j]? = some r ∧ Ints w r (xss.getD j [])) : IntRows w v xss := by
  subst hn
  rcases h.2 with ⟨rfl, h0⟩ | ⟨g, cap, cur, rfl, _, hg, hnc, hcm, _⟩
  · exact ⟨none, 0, by rw [h0], by omega, by omega, fun h => absurd h (by omega)⟩
  · refine ⟨_, cap, rfl, hnc, by unfold maxLen at hcm; omega, fun hn => ⟨g, 0, rfl, (Array.getElem?_eq_some_iff.1 hg).1, fun j hj => ?_⟩⟩
    obtain ⟨r, h1, h2⟩ := hf j hj
    exact ⟨r, by rw [Nat.zero_add, h.cellAt j (by omega)]; exact h1, h2⟩

end Go.Proofs.Ythocmmhhhiikpaa

namespace Go.Proofs.Ythocmmhhhiikpaa
open Go.RowKit

theorem grown_trans {a b c : World} {row : Option Nat} (h : a.grownBy b row) (k : b.grownBy c row) : a.grownBy c row :=
  ⟨k.os.trans h.os, k.tape.trans h.tape, k.output.trans h.output, Nat.le_trans h.size k.size, fun i hi hne => (k.block i (Nat.lt_of_lt_of_le hi h.size) hne).trans (h.block i hi hne)⟩
theorem grown_refl (w : World) (row : Option Nat) : w.grownBy w row := ⟨rfl, rfl, rfl, Nat.le_refl _, fun _ _ _ => rfl⟩

theorem grown_set {a w : World} {g i : Nat} {u : Value} (h : a.grownBy w (some g)) : a.grownBy (w.setCell ⟨g, i, none⟩ u) (some g) := grown_trans h (grown_setCell w ⟨g, i, none⟩ u)

def marked (k : Int) (n : Nat) : List Int := (List.range n).map fun (j : Nat) => k + (j : Int)
theorem marked_length (k : Int) (n : Nat) : (marked k n).length = n := by simp [marked]
theorem marked_getD (k : Int) (n j : Nat) (h : j < n) : (marked k n).getD j 0 = k + j := by simp [marked, List.getD_eq_getElem?_getD, h]

def MarkPost (B : Nat) (v : Value) (n : Nat) (k : Int) (w : World) (e : Ending) (w' : World) : Prop :=
  e = .returned (.int .i64 (k + n)) ∧ OwnO w' B 3 1 v n ((marked k n).map (.int .i64)) ∧ w.grownBy w' v.ownBlock

set_option maxHeartbeats 400000 in
theorem markIntS_any (v : Value) (n B : Nat) (ys : List Value) (k : Int) (w : World) (h : OwnO w B 3 1 v n ys) (hn : n ≤ 1099511627776) (hk0 : 0 ≤ k) (hk1 : k ≤ 1099511627776) :
    Calls Try.prog 17 #[v, .int .i64 k] w (MarkPost B v n k w) := by
  have H := Lib.hid h
  obtain ⟨A, c, rfl⟩ := h.form
  clear h
  go_enter Try.func17, Try.ntmps17
  go_wp2
  go_loopg [1, 5] n (fun gk m i wr => ∃ (j : Nat) (zs : List Value), gk + j = n ∧ i = .int .i64 j ∧ m = .int .i64 (k + j) ∧ OwnO wr B 3 1 (.slice A n c) n zs ∧ (∀ i, i < j → zs[i]? = some (.int .i64 (k + i))) ∧ w.grownBy wr (Value.slice A n c).ownBlock)
  case atStart => exact ⟨0, ys, rfl, rfl, by go_num, H.out, fun j hj => absurd hj (by omega), grown_refl _ _⟩
  case round =>
    obtain ⟨j, zs, hgk, rfl, rfl, hown, hzs, hg⟩ := hrel
    have Hgk := Lib.hid hgk
    have Hzs := Lib.hid hzs
    have Hown := Lib.hid hown
    have Hg := Lib.hid hg
    have hjn : j ≤ n := by omega
    clear hgk hzs hown hg
    by_cases hlt : j < n
    · obtain ⟨g, off, c', hv, h1, h2, h3, h4⟩ := Hown.out.formSome (by omega)
      injection hv with e1 e2 e3
      subst e1
      subst e3
      obtain ⟨u, q0⟩ := Hown.out.cellSome j (by omega)
      have f0 := Hown.out.frozen (off + j)
      have hst := Hown.out.stored j (.int .i64 (k + j))
      have HS := Lib.hid hst
      have HL : Hid (zs.length = n * 1) := Lib.hid Hown.out.1
      clear hst
      go_wp2
      go_roundg (n - (j + 1))
      case measure => have := Hgk.out; omega
      case rel =>
        refine ⟨j + 1, _, by have := Hgk.out; omega, by go_num, by go_num, HS.out, fun i hi => ?_, ?_⟩
        · by_cases e : i = j
          · subst e; rw [List.getElem?_set_self (by have := HL.out; omega)]
          · rw [List.getElem?_set_ne (by omega)]; exact Hzs.out i (by omega)
        · exact grown_trans Hg.out (grown_setCell _ _ _)
    · have hjl : j = n := by omega
      subst hjl
      go_wp2
      go_ret
      refine ⟨rfl, ?_, Hg.out⟩
      have : (marked k j).map (Value.int .i64) = zs := by
        apply List.ext_getElem?
        intro i
        by_cases hi : i < j
        · rw [Hzs.out i hi]; simp [marked, hi]
        · rw [List.getElem?_eq_none (by simp [marked]; omega), List.getElem?_eq_none (by have := Hown.out.1; omega)]
      rw [this]; exact Hown.out

set_option maxHeartbeats 400000 in
theorem heldIntS_any (v : Value) (n : Nat) (k : Int) (w : World) (h : Ints w v (marked k n)) (hn : n ≤ 1099511627776) (hk0 : 0 ≤ k) (hk1 : k ≤ 1099511627776) :
    Calls Try.prog 18 #[v, .int .i64 k] w fun e w' => e = .returned (.int .i64 (k + n)) ∧ Pure w w' := by
  have H := Lib.hid h
  obtain ⟨A, c, rfl⟩ := h.form
  rw [marked_length]
  clear h
  go_enter Try.func18, Try.ntmps18
  go_wp2
  go_loopg [1, 5] n (fun gk m i wr => ∃ (j : Nat), gk + j = n ∧ i = .int .i64 j ∧ m = .int .i64 (k + j) ∧ Pure w wr)
  case atStart => exact ⟨0, rfl, rfl, by go_num, Pure.refl _⟩
  case round =>
    obtain ⟨j, hgk, rfl, rfl, hp⟩ := hrel
    have Hgk := Lib.hid hgk
    have hjn : j ≤ n := by omega
    clear hgk
    by_cases hlt : j < n
    · obtain ⟨A', c', hv, h1, h2, h3⟩ := H.out
      injection hv with e1 e2 e3
      subst e1
      subst e3
      obtain ⟨b, o, rfl, hb, hc⟩ := h3 (by rw [marked_length]; omega)
      have q0 := (hp.cell b _ hb).trans (hc j (by rw [marked_length]; omega))
      simp only [marked_getD k n j hlt] at q0
      clear hc h3
      have hd : ((k + (j : Int)) != (k + (j : Int))) = false := by simp
      rw [marked_length] at h1
      go_wp2
      go_roundg (n - (j + 1))
      case measure => have := Hgk.out; omega
      case rel => exact ⟨j + 1, by have := Hgk.out; omega, by go_num, by go_num, hp⟩
    · have hjl : j = n := by omega
      subst hjl
      go_wp2
      go_ret
      exact ⟨rfl, hp⟩

set_option maxHeartbeats 1000000 in
theorem markCodeS_any (v : Value) (n B : Nat) (ys : List Value) (k : Int) (w : World) (h : OwnO w B 38 4 v n ys) (hn : n ≤ 1099511627776) (hk0 : 0 ≤ k) (hk1 : k ≤ 1099511627776) :
    Calls Try.prog 16 #[v, .int .i64 k] w fun e w' => e = .returned (.int .i64 (k + 4 * n)) ∧ w.grownBy w' v.ownBlock := by
  have H := Lib.hid h
  obtain ⟨A, c, rfl⟩ := h.form
  clear h
  go_enter Try.func16, Try.ntmps16
  go_wp2
  go_loopg [1, 5] n (fun gk m i wr => ∃ (j : Nat) (zs : List Value), gk + j = n ∧ i = .int .i64 j ∧ m = .int .i64 (k + 4 * j) ∧ OwnO wr B 38 4 (.slice A n c) n zs ∧ w.grownBy wr (Value.slice A n c).ownBlock)
  case atStart => exact ⟨0, ys, rfl, rfl, by go_num, H.out, grown_refl _ _⟩
  case round =>
    obtain ⟨j, zs, hgk, rfl, rfl, hown, hg⟩ := hrel
    have Hgk := Lib.hid hgk
    have Hown := Lib.hid hown
    have Hg := Lib.hid hg
    have hjn : j ≤ n := by omega
    clear hgk hown hg
    by_cases hlt : j < n
    · obtain ⟨g, off, c', hv, h1, h2, h3, h4⟩ := Hown.out.formSome (by omega)
      injection hv with e1 e2 e3
      subst e1
      subst e3
      obtain ⟨u0, q0⟩ := Hown.out.cellSome (j * 4) (by omega)
      obtain ⟨u1, q1⟩ := Hown.out.cellSome (j * 4 + 1) (by omega)
      obtain ⟨u2, q2⟩ := Hown.out.cellSome (j * 4 + 2) (by omega)
      obtain ⟨u3, q3⟩ := Hown.out.cellSome (j * 4 + 3) (by omega)
      rw [← Nat.add_assoc] at q1 q2 q3
      have f0 := Hown.out.frozen (off + j * 4)
      have f1 := Hown.out.frozen (off + j * 4 + 1)
      have f2 := Hown.out.frozen (off + j * 4 + 2)
      have f3 := Hown.out.frozen (off + j * 4 + 3)
      have s1 := Hown.out.stored (j * 4) (.int .i64 (k + 4 * j))
      have s2 := s1.stored (j * 4 + 1) (.int .i64 (k + 4 * j + 1))
      have s3 := s2.stored (j * 4 + 2) (.int .i64 (k + 4 * j + 1 + 1))
      have s4 := s3.stored (j * 4 + 3) (.int .i64 (k + 4 * j + 1 + 1 + 1))
      simp only [← Nat.add_assoc] at s4
      have HS := Lib.hid s4
      clear s1 s2 s3 s4
      go_wp2
      go_roundg (n - (j + 1))
      case measure => have := Hgk.out; omega
      case rel =>
        refine ⟨j + 1, _, by have := Hgk.out; omega, by go_num, by go_num, HS.out, ?_⟩
        exact grown_set (grown_set (grown_set (grown_set Hg.out)))
    · have hjl : j = n := by omega
      subst hjl
      go_wp2
      go_ret
      exact ⟨rfl, Hg.out⟩

end Go.Proofs.Ythocmmhhhiikpaa

namespace Go.Proofs.Ythocmmhhhiikpaa
open Go.RowKit

def ResInts (P : List Int → Prop) (w : World) (e : Ending) (w' : World) : Prop :=
  ∃ v xs, e = .returned v ∧ P xs ∧ xs.length ≤ 1048576 ∧ OwnO w' w.heap.size 3 1 v xs.length (xs.map (.int .i64)) ∧ Pure w w'
def ResInt (P : Int → Prop) (w : World) (e : Ending) (w' : World) : Prop :=
  ∃ x, e = .returned (.int .i64 x) ∧ P x ∧ Pure w w'

theorem codes_of_own {w : World} {B : Nat} {v : Value} {cs : List Cd} (h : OwnO w B 38 4 v cs.length ((List.range (cs.length * 4)).map (cdf cs))) : Codes w v cs :=
  Codes.of_ownO h rfl fun j hj => by simp [hj]
theorem Ints.of_ownO' {w : World} {B e : Nat} {v : Value} {ys : List Int} (h : OwnO w B e 1 v ys.length (ys.map (.int .i64))) : Ints w v ys := by
  unfold Ints
  refine Cells.of_ownO h fun j hj => ?_
  have : j < ys.length := by omega
  simp [List.getD_eq_getElem?_getD, this]
theorem ints_marked {w : World} {B n : Nat} {v : Value} {k : Int} (h : OwnO w B 3 1 v n ((marked k n).map (.int .i64))) : Ints w v (marked k n) := by
  refine Ints.of_ownO' (B := B) (e := 3) ?_
  rw [marked_length]; exact h
/-- What was there before a row of the call's own is not that row. -/
theorem own_apart {w1 w2 : World} {B e s n B' e' s' n' : Nat} {v v' : Value} {xs xs' : List Value} (h : OwnO w1 B e s v n xs) (h' : OwnO w2 B' e' s' v' n' xs') (hB : w1.heap.size ≤ B') : ∀ g, v.ownBlock = some g → some g ≠ v'.ownBlock := by
  intro g hg he
  have a := (h.lt g hg).2
  have b := (h'.lt g he.symm).1
  omega
theorem own_apart' {w1 w2 : World} {B e s n B' e' s' n' : Nat} {v v' : Value} {xs xs' : List Value} (h : OwnO w1 B e s v n xs) (h' : OwnO w2 B' e' s' v' n' xs') (hB : w1.heap.size ≤ B') : ∀ g, v'.ownBlock = some g → some g ≠ v.ownBlock := by
  intro g hg he
  have a := (h'.lt g hg).1
  have b := (h.lt g he.symm).2
  omega

end Go.Proofs.Ythocmmhhhiikpaa

namespace Go.Proofs.Ythocmmhhhiikpaa

/-- An access to the memory. -/
structure Ac where
  who : Nat
  cell : Nat
  wr : Bool
  ph : Nat
deriving DecidableEq, Inhabited

/-- A run under way: registers, memory, the steps so far (place, mask, the registers then), the accesses so far, the phase. -/
structure LS where
  R : Nat → Nat → Int
  M : Nat → Int
  H : List (Nat × Nat × (Nat → Nat → Int))
  A : List Ac
  P : Nat

def setF (f : Nat → Int) (r : Nat) (v : Int) : Nat → Int := fun j => if j = r then v else f j
theorem setF_same (f : Nat → Int) (r : Nat) (v : Int) : setF f r v r = v := if_pos rfl
theorem setF_ne (f : Nat → Int) {r j : Nat} (v : Int) (h : j ≠ r) : setF f r v j = f j := if_neg h
def cellOf (c : Cd) (m : Nat) (f : Nat → Int) : Nat := (f c.b.toNat).toNat % m
/-- A lane's registers behind an instruction. -/
def simR (c : Cd) (id m : Nat) (f M : Nat → Int) : Nat → Int :=
  if c.op = 1 then setF f c.a.toNat c.b
  else if c.op = 2 then setF f c.a.toNat id
  else if c.op = 3 then setF f c.a.toNat ((f c.a.toNat + f c.b.toNat) % 256)
  else if c.op = 4 then setF f c.a.toNat (f c.a.toNat * f c.b.toNat % 256)
  else if c.op = 5 then setF f c.a.toNat (f c.b.toNat)
  else if c.op = 6 then setF f c.a.toNat (if f c.b.toNat < f c.c.toNat then 1 else 0)
  else if c.op = 7 then (if f c.c.toNat = 0 then f else setF f c.a.toNat (f c.b.toNat))
  else if c.op = 8 then setF f c.a.toNat (M (cellOf c m f))
  else f
/-- The memory behind an instruction of a lane. -/
def simM (c : Cd) (m : Nat) (f M : Nat → Int) : Nat → Int := if c.op = 9 then setF M (cellOf c m f) (f c.a.toNat) else M
def lane1 (c : Cd) (m k : Nat) (s : LS) : LS :=
  { s with
    R := fun l => if l = k then simR c k m (s.R k) s.M else s.R l
    M := simM c m (s.R k) s.M
    A := if c.op = 8 ∨ c.op = 9 then s.A ++ [⟨k, cellOf c m (s.R k), decide (c.op = 9), s.P⟩] else s.A }
/-- The lanes below j that are in a mask execute an instruction. -/
def lanesTo (c : Cd) (m mask : Nat) : Nat → LS → LS
  | 0, s => s
  | j + 1, s => if mask.testBit j then lane1 c m j (lanesTo c m mask j s) else lanesTo c m mask j s
def beat (i mask : Nat) (s : LS) : LS := { s with H := s.H ++ [(i, mask, s.R)] }
def exec (c : Cd) (n m i mask : Nat) (s : LS) : LS :=
  let s1 := lanesTo c m mask n (beat i mask s)
  if c.op = 10 then { s1 with P := s1.P + 1 } else s1
/-- The lanes below j of a mask whose register is not 0. -/
def onesTo (R : Nat → Nat → Int) (mask a : Nat) : Nat → Nat
  | 0 => 0
  | j + 1 => if mask.testBit j && !decide (R j a = 0) then onesTo R mask a j ||| 2 ^ j else onesTo R mask a j
def turns (F : Nat → LS → LS) (n a : Nat) : Nat → Nat → LS → LS
  | 0, _, s => s
  | b + 1, y, s => turns F n a b (onesTo s.R y a n) (F (onesTo s.R y a n) s)
/-- A tree of blocks, from place i on, by the lanes of a mask. -/
def run (n m : Nat) : Tr → Nat → Nat → LS → LS
  | .nil, _, _, s => s
  | .op c k, i, mask, s => if mask = 0 then s else run n m k (i + 1) mask (exec c n m i mask s)
  | .ite a t k, i, mask, s => if mask = 0 then s else run n m k (i + 1 + t.len + 1) mask (run n m t (i + 1) (onesTo s.R mask a.toNat n) (beat i mask s))
  | .itee a t e k, i, mask, s => if mask = 0 then s else run n m k (i + 1 + t.len + 1 + e.len + 1) mask
      (run n m e (i + 1 + t.len + 1) (del mask (onesTo s.R mask a.toNat n)) (run n m t (i + 1) (onesTo s.R mask a.toNat n) (beat i mask s)))
  | .loop a b t k, i, mask, s => if mask = 0 then s else run n m k (i + 1 + t.len + 1) mask (turns (run n m t (i + 1)) n a.toNat b.toNat mask (beat i mask s))

theorem run_zero (n m : Nat) : ∀ (t : Tr) (i : Nat) (s : LS), run n m t i 0 s = s
  | .nil, _, _ => rfl
  | .op _ _, _, _ => rfl
  | .ite _ _ _, _, _ => rfl
  | .itee _ _ _ _, _, _ => rfl
  | .loop _ _ _ _, _, _ => rfl

theorem onesTo_bit (R : Nat → Nat → Int) (mask a : Nat) : ∀ j l, (onesTo R mask a j).testBit l = (decide (l < j) && (mask.testBit l && !decide (R l a = 0)))
  | 0, l => by simp [onesTo]
  | j + 1, l => by
    unfold onesTo
    by_cases h : (mask.testBit j && !decide (R j a = 0)) = true
    · rw [if_pos h, Nat.testBit_or, onesTo_bit R mask a j l, Nat.testBit_two_pow]
      by_cases e : j = l
      · subst e; rw [h]; simp
      · have e1 : decide (l < j + 1) = decide (l < j) := by rw [decide_eq_decide]; omega
        have e2 : decide (j = l) = false := by simp [e]
        rw [e1, e2, Bool.or_false]
    · rw [if_neg h, onesTo_bit R mask a j l]
      by_cases e : j = l
      · subst e
        have h' : (mask.testBit j && !decide (R j a = 0)) = false := by simpa using h
        rw [h']; simp
      · have e1 : decide (l < j + 1) = decide (l < j) := by rw [decide_eq_decide]; omega
        rw [e1]
theorem onesTo_lt (R : Nat → Nat → Int) (mask a : Nat) : ∀ n, onesTo R mask a n < 2 ^ n
  | 0 => by simp [onesTo]
  | n + 1 => by
    have ih := onesTo_lt R mask a n
    have h2 : 2 ^ n < 2 ^ (n + 1) := Nat.pow_lt_pow_right (by decide) (by omega)
    unfold onesTo
    split
    · exact Nat.or_lt_two_pow (Nat.lt_trans ih h2) h2
    · exact Nat.lt_trans ih h2
theorem testBit_hi {mask n j : Nat} (h : mask < 2 ^ n) (hj : n ≤ j) : mask.testBit j = false :=
  Nat.testBit_lt_two_pow (Nat.lt_of_lt_of_le h (Nat.pow_le_pow_right (by decide) hj))
/-- Beyond the lanes nothing is counted. -/
theorem onesTo_stop (R : Nat → Nat → Int) {mask a n : Nat} (h : mask < 2 ^ n) : ∀ j, n ≤ j → onesTo R mask a j = onesTo R mask a n
  | 0, hj => by have : n = 0 := by omega
                subst this; rfl
  | j + 1, hj => by
    by_cases e : n = j + 1
    · rw [e]
    · rw [← onesTo_stop R h j (by omega)]
      show (if mask.testBit j && _ then _ else _) = _
      rw [testBit_hi h (by omega)]; rfl
theorem onesTo_sub (R : Nat → Nat → Int) (mask a n l : Nat) (h : (onesTo R mask a n).testBit l = true) : mask.testBit l = true := by
  rw [onesTo_bit] at h
  simp at h
  exact h.2.1
theorem onesTo_none (R : Nat → Nat → Int) (a n : Nat) : onesTo R 0 a n = 0 := by
  apply Nat.eq_of_testBit_eq
  intro i
  rw [onesTo_bit]; simp
theorem turns_zero {n m a : Nat} {t : Tr} {i : Nat} : ∀ (b : Nat) (s : LS), turns (run n m t i) n a b 0 s = s
  | 0, _ => rfl
  | b + 1, s => by
    show turns _ _ _ b (onesTo s.R 0 a n) (run n m t i (onesTo s.R 0 a n) s) = s
    rw [onesTo_none, run_zero, turns_zero b s]
theorem lanesTo_stop (c : Cd) (m : Nat) {mask n : Nat} (h : mask < 2 ^ n) (s : LS) : ∀ j, n ≤ j → lanesTo c m mask j s = lanesTo c m mask n s
  | 0, hj => by have : n = 0 := by omega
                subst this; rfl
  | j + 1, hj => by
    by_cases e : n = j + 1
    · rw [e]
    · rw [← lanesTo_stop c m h s j (by omega)]
      show (if mask.testBit j then _ else _) = _
      rw [testBit_hi h (by omega)]; rfl
theorem del_lt2 {a n : Nat} (b : Nat) (h : a < 2 ^ n) : del a b < 2 ^ n := Nat.xor_lt_two_pow h (Nat.lt_of_le_of_lt Nat.and_le_left h)

/-- Registers and cells hold words. -/
def Good (s : LS) : Prop := (∀ l r, Word (s.R l r)) ∧ ∀ j, Word (s.M j)
theorem setF_word {f : Nat → Int} {r : Nat} {v : Int} (h : ∀ j, Word (f j)) (hv : Word v) (j : Nat) : Word (setF f r v j) := by
  unfold setF; split
  · exact hv
  · exact h j
theorem simR_word {c : Cd} {id m : Nat} {f M : Nat → Int} (hc : CdOk c) (hid : id ≤ 255) (hf : ∀ j, Word (f j)) (hM : ∀ j, Word (M j)) (j : Nat) : Word (simR c id m f M j) := by
  unfold simR
  split
  · rename_i h
    refine setF_word hf ?_ j
    unfold CdOk at hc
    rcases hc with hc | hc | hc | hc | hc | hc
    · exact hc.2.2.1
    · omega
    · omega
    · omega
    · omega
    · omega
  split
  · exact setF_word hf ⟨by omega, by omega⟩ j
  split
  · exact setF_word hf ⟨by omega, by omega⟩ j
  split
  · exact setF_word hf ⟨Int.emod_nonneg _ (by decide), by have := Int.emod_lt_of_pos (f c.a.toNat * f c.b.toNat) (by decide : (0 : Int) < 256); omega⟩ j
  split
  · exact setF_word hf (hf _) j
  split
  · refine setF_word hf ?_ j
    split
    · exact ⟨by decide, by decide⟩
    · exact ⟨by decide, by decide⟩
  split
  · split
    · exact hf j
    · exact setF_word hf (hf _) j
  split
  · exact setF_word hf (hM _) j
  · exact hf j
theorem simM_word {c : Cd} {m : Nat} {f M : Nat → Int} (hf : ∀ j, Word (f j)) (hM : ∀ j, Word (M j)) (j : Nat) : Word (simM c m f M j) := by
  unfold simM
  split
  · exact setF_word hM (hf _) j
  · exact hM j
theorem Good.lane1 {s : LS} {c : Cd} {m k : Nat} (h : Good s) (hc : CdOk c) (hk : k ≤ 255) : Good (lane1 c m k s) := by
  refine ⟨fun l r => ?_, fun j => simM_word (h.1 k) h.2 j⟩
  show Word ((if l = k then simR c k m (s.R k) s.M else s.R l) r)
  split
  · exact simR_word hc hk (h.1 k) h.2 r
  · exact h.1 l r
theorem Good.lanesTo {c : Cd} {m mask : Nat} (hc : CdOk c) : ∀ (j : Nat) {s : LS}, Good s → j ≤ 256 → Good (lanesTo c m mask j s)
  | 0, _, h, _ => h
  | j + 1, _, h, hj => by
    show Good (if _ then _ else _)
    split
    · exact (Good.lanesTo hc j h (by omega)).lane1 hc (by omega)
    · exact Good.lanesTo hc j h (by omega)
theorem Good.beat {s : LS} (h : Good s) (i mask : Nat) : Good (beat i mask s) := h
theorem Good.exec {s : LS} {c : Cd} {n m i mask : Nat} (h : Good s) (hc : CdOk c) (hn : n ≤ 256) : Good (exec c n m i mask s) := by
  have h1 := Good.lanesTo (m := m) (mask := mask) hc n (h.beat i mask) hn
  unfold Proofs.Ythocmmhhhiikpaa.exec
  simp only
  split
  · exact h1
  · exact h1
theorem Good.turns {F : Nat → LS → LS} {n a : Nat} (hF : ∀ y s, Good s → Good (F y s)) : ∀ (b y : Nat) {s : LS}, Good s → Good (turns F n a b y s)
  | 0, _, _, h => h
  | b + 1, _, _, h => Good.turns hF b _ (hF _ _ h)
theorem Good.run {n m : Nat} (hn : n ≤ 256) : ∀ (t : Tr) (i mask : Nat) {s : LS}, t.Ok → Good s → Good (run n m t i mask s)
  | .nil, _, _, _, _, h => h
  | .op c k, i, mask, s, ho, h => by
    show Good (if _ then _ else _)
    split
    · exact h
    · exact Good.run hn k _ _ ho.2 (h.exec ho.1.1 hn)
  | .ite a t k, i, mask, s, ho, h => by
    show Good (if _ then _ else _)
    split
    · exact h
    · exact Good.run hn k _ _ ho.2.2 (Good.run hn t _ _ ho.2.1 (h.beat i mask))
  | .itee a t e k, i, mask, s, ho, h => by
    show Good (if _ then _ else _)
    split
    · exact h
    · exact Good.run hn k _ _ ho.2.2.2 (Good.run hn e _ _ ho.2.2.1 (Good.run hn t _ _ ho.2.1 (h.beat i mask)))
  | .loop a b t k, i, mask, s, ho, h => by
    show Good (if _ then _ else _)
    split
    · exact h
    · exact Good.run hn k _ _ ho.2.2.2 (Good.turns (fun y s hs => Good.run hn t _ _ ho.2.2.1 hs) _ _ (h.beat i mask))

end Go.Proofs.Ythocmmhhhiikpaa

namespace Go.Proofs.Ythocmmhhhiikpaa
open Go.RowKit

/-- w' is w, but for new blocks, draws, and the blocks of S. -/
structure Chg (S : Nat → Prop) (w w' : World) : Prop where
  os : w'.os = w.os
  tape : w'.tape = w.tape
  output : w'.output = w.output
  size : w.heap.size ≤ w'.heap.size
  block : ∀ k, k < w.heap.size → ¬ S k → w'.heap[k]? = w.heap[k]?
theorem Chg.refl (S : Nat → Prop) (w : World) : Chg S w w := ⟨rfl, rfl, rfl, Nat.le_refl _, fun _ _ _ => rfl⟩
theorem Chg.trans {S : Nat → Prop} {a b c : World} (h : Chg S a b) (k : Chg S b c) : Chg S a c :=
  ⟨k.os.trans h.os, k.tape.trans h.tape, k.output.trans h.output, Nat.le_trans h.size k.size, fun i hi hn => (k.block i (Nat.lt_of_lt_of_le hi h.size) hn).trans (h.block i hi hn)⟩
/-- The second change may also be to blocks that the first one made. -/
theorem Chg.trans' {S S' : Nat → Prop} {a b c : World} (h : Chg S a b) (k : Chg S' b c) (hS : ∀ i, i < a.heap.size → S' i → S i) : Chg S a c :=
  ⟨k.os.trans h.os, k.tape.trans h.tape, k.output.trans h.output, Nat.le_trans h.size k.size, fun i hi hn => (k.block i (Nat.lt_of_lt_of_le hi h.size) (fun hs => hn (hS i hi hs))).trans (h.block i hi hn)⟩
theorem Chg.mono {S S' : Nat → Prop} {a b : World} (h : Chg S a b) (hS : ∀ i, S i → S' i) : Chg S' a b :=
  ⟨h.os, h.tape, h.output, h.size, fun i hi hn => h.block i hi (fun hs => hn (hS i hs))⟩
theorem Chg.of_pure {S : Nat → Prop} {a b : World} (h : Pure a b) : Chg S a b := ⟨h.os, h.tape, h.output, h.size, fun i hi _ => h.below.block i hi⟩
theorem Chg.of_grown {S : Nat → Prop} {a b : World} {row : Option Nat} (h : a.grownBy b row) (hS : ∀ k, row = some k → S k) : Chg S a b :=
  ⟨h.os, h.tape, h.output, h.size, fun i hi hn => h.block i hi (fun e => hn (hS i e.symm))⟩
theorem Chg.of_set {S : Nat → Prop} (w : World) (g i : Nat) (v : Value) (hS : S g) : Chg S w (w.setCell ⟨g, i, none⟩ v) :=
  Chg.of_grown (grown_setCell w ⟨g, i, none⟩ v) (fun k hk => by injection hk with hk; subst hk; exact hS)
theorem Chg.pure {S : Nat → Prop} {w0 a b : World} (hp : Pure w0 a) (h : Chg S a b) (hS : ∀ k, S k → w0.heap.size ≤ k) : Pure w0 b :=
  ⟨h.os.trans hp.os, h.tape.trans hp.tape, h.output.trans hp.output, Nat.le_trans hp.size h.size, fun k hk => (h.block k (Nat.lt_of_lt_of_le hk hp.size) (fun hs => absurd (hS k hs) (by omega))).trans (hp.below.block k hk)⟩
theorem Chg.heap {S : Nat → Prop} {a b : World} (h : Chg S a b) {k : Nat} {o : Obj} (ho : a.heap[k]? = some o) (hn : ¬ S k) : b.heap[k]? = some o :=
  (h.block k (Array.getElem?_eq_some_iff.1 ho).1 hn).trans ho
theorem Chg.cell {S : Nat → Prop} {a b : World} (h : Chg S a b) {k i : Nat} (hk : k < a.heap.size) (hn : ¬ S k) : b.cell? ⟨k, i, none⟩ = a.cell? ⟨k, i, none⟩ :=
  World.cell?_of_block (h.block k hk hn)
theorem OwnO.chg {S : Nat → Prop} {w w' : World} {B e s n : Nat} {v : Value} {xs : List Value} (h : OwnO w B e s v n xs) (hc : Chg S w w') (hn : ∀ g, v.ownBlock = some g → ¬ S g) : OwnO w' B e s v n xs := by
  refine ⟨h.1, ?_⟩
  rcases h.2 with h | ⟨g, off, cap, cur, rfl, h1, h2, h3⟩
  · exact .inl h
  · exact .inr ⟨g, off, cap, cur, rfl, h1, hc.heap h2 (hn g rfl), h3⟩
/-- A block of one kind is none of another kind. -/
theorem ne_of_heap {w : World} {g g' e e' : Nat} {cur cur' : Array Value} (h : w.heap[g]? = some (.cells cur e (0, 0))) (h' : w.heap[g']? = some (.cells cur' e' (0, 0))) (hne : e ≠ e') : g ≠ g' := by
  rintro rfl
  rw [h] at h'
  simp only [Option.some.injEq, Obj.cells.injEq] at h'
  exact hne h'.2.1
theorem OwnO.ne_heap {w : World} {B e s n g e' : Nat} {v : Value} {xs : List Value} {cur : Array Value} (h : OwnO w B e s v n xs) (h' : w.heap[g]? = some (.cells cur e' (0, 0))) (hne : e ≠ e') : ∀ k, v.ownBlock = some k → k ≠ g := by
  intro k hk
  rcases h.2 with ⟨rfl, _⟩ | ⟨g', off, cap, cur', rfl, _, h2, _⟩
  · simp [Value.ownBlock] at hk
  · simp [Value.ownBlock] at hk
    subst hk
    exact ne_of_heap h2 h' hne

/-- Where the registers and the memory of a run lie. -/
structure RMo where
  B : Nat
  n : Nat
  m : Nat
  gr : Nat
  cr : Nat
  gm : Nat
  cm : Nat
  rows : Nat → Nat

def RMo.row (o : RMo) (k : Nat) : Value := .slice (some ⟨o.rows k, 0, none⟩) 4 4
def RMo.vr (o : RMo) : Value := .slice (some ⟨o.gr, 0, none⟩) o.n o.cr
def RMo.vm (o : RMo) : Value := .slice (some ⟨o.gm, 0, none⟩) o.m o.cm
def row4 (f : Nat → Int) : Array Value := #[.int .i64 (f 0), .int .i64 (f 1), .int .i64 (f 2), .int .i64 (f 3)]
def memL (m : Nat) (M : Nat → Int) : List Value := (List.range m).map fun j => .int .i64 (M j)
structure RM (o : RMo) (w : World) (R : Nat → Nat → Int) (M : Nat → Int) : Prop where
  n8 : o.n ≤ 8
  m1 : 1 ≤ o.m
  m32 : o.m ≤ 32
  cr1 : o.n ≤ o.cr
  cr2 : o.cr ≤ 9223372036854775807
  lo : o.B ≤ o.gr
  outer : ∃ cur : Array Value, w.heap[o.gr]? = some (.cells cur 24 (0, 0)) ∧ ∀ k, k < o.n → cur[k]? = some (o.row k)
  rlo : ∀ k, k < o.n → o.B ≤ o.rows k
  row : ∀ k, k < o.n → w.heap[o.rows k]? = some (.cells (row4 (R k)) 3 (0, 0))
  inj : ∀ k l, k < o.n → l < o.n → o.rows k = o.rows l → k = l
  mem : OwnO w o.B 3 1 o.vm o.m (memL o.m M)
  ne : ∀ k, k < o.n → o.rows k ≠ o.gm

/-- The blocks that a lane's instruction may write. -/
def RMo.lane (o : RMo) (k : Nat) : Nat → Prop := fun b => b = o.rows k ∨ b = o.gm
def RMo.own (o : RMo) : Nat → Prop := fun b => (∃ k, k < o.n ∧ b = o.rows k) ∨ b = o.gm

section
variable {o : RMo} {w w' : World} {R : Nat → Nat → Int} {M : Nat → Int}
theorem RM.chg {S : Nat → Prop} (h : RM o w R M) (hc : Chg S w w') (h1 : ¬ S o.gr) (h2 : ∀ k, k < o.n → ¬ S (o.rows k)) (h3 : ¬ S o.gm) : RM o w' R M := by
  obtain ⟨a1, a2, a3, a4, a5, a6, ⟨cur, b1, b2⟩, a8, a9, a10, a11, a12⟩ := h
  refine ⟨a1, a2, a3, a4, a5, a6, ⟨cur, hc.heap b1 h1, b2⟩, a8, fun k hk => hc.heap (a9 k hk) (h2 k hk), a10, a11.chg hc fun g hg => ?_, a12⟩
  simp [RMo.vm, Value.ownBlock] at hg
  subst hg; exact h3
theorem RM.pure (h : RM o w R M) (hp : Pure w w') : RM o w' R M := h.chg (S := fun _ => False) (Chg.of_pure hp) id (fun _ _ => id) id
theorem RM.gmlo (h : RM o w R M) : o.B ≤ o.gm ∧ o.gm < w.heap.size := h.mem.lt o.gm rfl
theorem RM.lane_lo (h : RM o w R M) {k : Nat} (hk : k < o.n) : ∀ b, o.lane k b → o.B ≤ b := by
  rintro b (rfl | rfl)
  · exact h.rlo k hk
  · exact h.gmlo.1
theorem RM.own_lo (h : RM o w R M) : ∀ b, o.own b → o.B ≤ b := by
  rintro b (⟨k, hk, rfl⟩ | rfl)
  · exact h.rlo k hk
  · exact h.gmlo.1
theorem RM.gr_ne (h : RM o w R M) {k : Nat} (hk : k < o.n) : o.rows k ≠ o.gr := by
  obtain ⟨cur, b1, _⟩ := h.outer
  exact ne_of_heap (h.row k hk) b1 (by decide)
theorem RM.gr_ne2 (h : RM o w R M) : o.gm ≠ o.gr := by
  obtain ⟨cur, b1, _⟩ := h.outer
  exact h.mem.ne_heap b1 (by decide) o.gm rfl
theorem RM.outerCell (h : RM o w R M) {k : Nat} (hk : k < o.n) : w.cell? ⟨o.gr, k, none⟩ = some (o.row k) := by
  obtain ⟨cur, b1, b2⟩ := h.outer
  rw [cell_of_row w o.gr k cur _ _ b1]; exact b2 k hk
theorem RM.regCell (h : RM o w R M) {k : Nat} (hk : k < o.n) {r : Nat} (hr : r < 4) : w.cell? ⟨o.rows k, r, none⟩ = some (.int .i64 (R k r)) := by
  rw [cell_of_row w (o.rows k) r _ _ _ (h.row k hk)]
  have : r = 0 ∨ r = 1 ∨ r = 2 ∨ r = 3 := by omega
  rcases this with rfl | rfl | rfl | rfl <;> rfl
theorem RM.regFrozen (h : RM o w R M) {k : Nat} (hk : k < o.n) (r : Nat) : w.frozen? ⟨o.rows k, r, none⟩ = false := frozen_of_row w (o.rows k) r _ _ (h.row k hk)
theorem RM.memCell (h : RM o w R M) {j : Nat} (hj : j < o.m) : w.cell? ⟨o.gm, j, none⟩ = some (.int .i64 (M j)) := by
  have := h.mem.cell j (by omega)
  rw [Nat.zero_add] at this
  rw [this]; simp [memL, hj]
theorem RM.memFrozen (h : RM o w R M) (j : Nat) : w.frozen? ⟨o.gm, j, none⟩ = false := h.mem.frozen j
/-- One lane's registers, written anew. -/
def upR (R : Nat → Nat → Int) (k : Nat) (f : Nat → Int) : Nat → Nat → Int := fun l => if l = k then f else R l
theorem upR_same (R : Nat → Nat → Int) (k : Nat) : upR R k (R k) = R := funext fun l => by
  unfold upR; split
  · rename_i h; rw [h]
  · rfl
theorem row4_set (f : Nat → Int) {r : Nat} (hr : r < 4) (v : Int) : (row4 f).setIfInBounds r (.int .i64 v) = row4 (setF f r v) := by
  have : r = 0 ∨ r = 1 ∨ r = 2 ∨ r = 3 := by omega
  rcases this with rfl | rfl | rfl | rfl <;> rfl
theorem RM.setReg (h : RM o w R M) {k : Nat} (hk : k < o.n) {r : Nat} (hr : r < 4) (v : Int) : RM o (w.setCell ⟨o.rows k, r, none⟩ (.int .i64 v)) (upR R k (setF (R k) r v)) M := by
  have hc : Chg (fun b => b = o.rows k) w (w.setCell ⟨o.rows k, r, none⟩ (.int .i64 v)) := Chg.of_set w _ _ _ rfl
  have hgm : o.gm ≠ o.rows k := fun e => h.ne k hk e.symm
  have hgr : o.gr ≠ o.rows k := fun e => h.gr_ne hk e.symm
  obtain ⟨a1, a2, a3, a4, a5, a6, ⟨cur, b1, b2⟩, a8, a9, a10, a11, a12⟩ := h
  refine ⟨a1, a2, a3, a4, a5, a6, ⟨cur, hc.heap b1 hgr, b2⟩, a8, fun l hl => ?_, a10, a11.chg hc fun g hg => ?_, a12⟩
  · unfold upR
    split
    · rename_i e
      subst e
      rw [heap_setCell_same w (o.rows l) r _ _ (.int .i64 v) (a9 l hk)]
      rw [row4_set _ hr]
    · rename_i e
      exact hc.heap (a9 l hl) (fun e2 => e (a10 l k hl hk e2))
  · simp [RMo.vm, Value.ownBlock] at hg
    subst hg; exact hgm
theorem memL_set (m : Nat) (M : Nat → Int) {j : Nat} (v : Int) : (memL m M).set j (.int .i64 v) = memL m (setF M j v) := by
  apply List.ext_getElem?
  intro i
  by_cases hi : i < m
  · by_cases e : i = j
    · subst e
      rw [List.getElem?_set_self (by simpa [memL] using hi)]
      simp [memL, hi, setF]
    · rw [List.getElem?_set_ne (by omega)]
      simp [memL, hi, setF, e]
  · rw [List.getElem?_eq_none (by simpa [memL] using hi), List.getElem?_eq_none (by simpa [memL] using hi)]
theorem RM.setMem (h : RM o w R M) (j : Nat) (v : Int) : RM o (w.setCell ⟨o.gm, j, none⟩ (.int .i64 v)) R (setF M j v) := by
  have hc : Chg (fun b => b = o.gm) w (w.setCell ⟨o.gm, j, none⟩ (.int .i64 v)) := Chg.of_set w _ _ _ rfl
  have hgr : o.gr ≠ o.gm := fun e => h.gr_ne2 e.symm
  obtain ⟨a1, a2, a3, a4, a5, a6, ⟨cur, b1, b2⟩, a8, a9, a10, a11, a12⟩ := h
  refine ⟨a1, a2, a3, a4, a5, a6, ⟨cur, hc.heap b1 hgr, b2⟩, a8, fun l hl => hc.heap (a9 l hl) (a12 l hl), a10, ?_, a12⟩
  have := a11.stored j (.int .i64 v)
  rw [Nat.zero_add, memL_set] at this
  exact this
end

end Go.Proofs.Ythocmmhhhiikpaa

namespace Go.Proofs.Ythocmmhhhiikpaa
open Go.RowKit

theorem sWordAdd_any (x y : Int) (w : World) (hx : Word x) (hy : Word y) :
    Calls Try.prog 90 #[.int .i64 x, .int .i64 y] w fun e w' => e = .returned (.int .i64 ((x + y) % 256)) ∧ w = w' := by
  have HX := Lib.hid hx
  have HY := Lib.hid hy
  obtain ⟨hx0, hx1⟩ := hx
  obtain ⟨hy0, hy1⟩ := hy
  go_enter Try.func90, Try.ntmps90
  go_wp2_with fail
  refine (l2Word_any x _ true (by simp [HX.out])).mono ?_
  rintro e w' ⟨rfl, rfl⟩
  go_wp2_with fail
  refine (l2Word_any y _ true (by simp [HY.out])).mono ?_
  rintro e w' ⟨rfl, rfl⟩
  go_wp2
  go_ret
  exact ⟨rfl, rfl⟩

theorem sWordMul_any (x y : Int) (w : World) (hx : Word x) (hy : Word y) :
    Calls Try.prog 91 #[.int .i64 x, .int .i64 y] w fun e w' => e = .returned (.int .i64 (x * y % 256)) ∧ w = w' := by
  have HX := Lib.hid hx
  have HY := Lib.hid hy
  obtain ⟨hx0, hx1⟩ := hx
  obtain ⟨hy0, hy1⟩ := hy
  have hm0 : 0 ≤ x * y := Int.mul_nonneg hx0 hy0
  have hm1 : x * y ≤ 65025 := by have := Int.mul_le_mul hx1 hy1 hy0 (by decide : (0 : Int) ≤ 255); omega
  go_enter Try.func91, Try.ntmps91
  go_wp2_with fail
  refine (l2Word_any x _ true (by simp [HX.out])).mono ?_
  rintro e w' ⟨rfl, rfl⟩
  go_wp2_with fail
  refine (l2Word_any y _ true (by simp [HY.out])).mono ?_
  rintro e w' ⟨rfl, rfl⟩
  go_wp2
  go_ret
  exact ⟨rfl, rfl⟩

theorem sWordLess_any (x y : Int) (w : World) (hx : Word x) (hy : Word y) :
    Calls Try.prog 92 #[.int .i64 x, .int .i64 y] w fun e w' => e = .returned (.int .i64 (if x < y then 1 else 0)) ∧ w = w' := by
  have HX := Lib.hid hx
  have HY := Lib.hid hy
  obtain ⟨hx0, hx1⟩ := hx
  obtain ⟨hy0, hy1⟩ := hy
  by_cases hlt : x < y
  · rw [if_pos hlt]
    go_enter Try.func92, Try.ntmps92
    go_wp2_with fail
    refine (l2Word_any x _ true (by simp [HX.out])).mono ?_
    rintro e w' ⟨rfl, rfl⟩
    go_wp2_with fail
    refine (l2Word_any y _ true (by simp [HY.out])).mono ?_
    rintro e w' ⟨rfl, rfl⟩
    go_wp2
    go_ret
    exact ⟨rfl, rfl⟩
  · rw [if_neg hlt]
    go_enter Try.func92, Try.ntmps92
    go_wp2_with fail
    refine (l2Word_any x _ true (by simp [HX.out])).mono ?_
    rintro e w' ⟨rfl, rfl⟩
    go_wp2_with fail
    refine (l2Word_any y _ true (by simp [HY.out])).mono ?_
    rintro e w' ⟨rfl, rfl⟩
    go_wp2
    go_ret
    exact ⟨rfl, rfl⟩

theorem iWordAdd_any (x y : Int) (w : World) (hx : Word x) (hy : Word y) :
    Calls Try.prog 97 #[.int .i64 x, .int .i64 y] w fun e w' => e = .returned (.int .i64 ((x + y) % 256)) ∧ w = w' := by
  have HX := Lib.hid hx
  have HY := Lib.hid hy
  obtain ⟨hx0, hx1⟩ := hx
  obtain ⟨hy0, hy1⟩ := hy
  go_enter Try.func97, Try.ntmps97
  go_wp2_with fail
  refine (isWord_any x _ true (by simp [HX.out])).mono ?_
  rintro e w' ⟨rfl, rfl⟩
  go_wp2_with fail
  refine (isWord_any y _ true (by simp [HY.out])).mono ?_
  rintro e w' ⟨rfl, rfl⟩
  go_wp2
  go_ret
  exact ⟨rfl, rfl⟩

theorem iWordMul_any (x y : Int) (w : World) (hx : Word x) (hy : Word y) :
    Calls Try.prog 98 #[.int .i64 x, .int .i64 y] w fun e w' => e = .returned (.int .i64 (x * y % 256)) ∧ w = w' := by
  have HX := Lib.hid hx
  have HY := Lib.hid hy
  obtain ⟨hx0, hx1⟩ := hx
  obtain ⟨hy0, hy1⟩ := hy
  have hm0 : 0 ≤ x * y := Int.mul_nonneg hx0 hy0
  have hm1 : x * y ≤ 65025 := by have := Int.mul_le_mul hx1 hy1 hy0 (by decide : (0 : Int) ≤ 255); omega
  go_enter Try.func98, Try.ntmps98
  go_wp2_with fail
  refine (isWord_any x _ true (by simp [HX.out])).mono ?_
  rintro e w' ⟨rfl, rfl⟩
  go_wp2_with fail
  refine (isWord_any y _ true (by simp [HY.out])).mono ?_
  rintro e w' ⟨rfl, rfl⟩
  go_wp2
  go_ret
  exact ⟨rfl, rfl⟩

theorem iWordLess_any (x y : Int) (w : World) (hx : Word x) (hy : Word y) :
    Calls Try.prog 99 #[.int .i64 x, .int .i64 y] w fun e w' => e = .returned (.int .i64 (if x < y then 1 else 0)) ∧ w = w' := by
  have HX := Lib.hid hx
  have HY := Lib.hid hy
  obtain ⟨hx0, hx1⟩ := hx
  obtain ⟨hy0, hy1⟩ := hy
  by_cases hlt : x < y
  · rw [if_pos hlt]
    go_enter Try.func99, Try.ntmps99
    go_wp2_with fail
    refine (isWord_any x _ true (by simp [HX.out])).mono ?_
    rintro e w' ⟨rfl, rfl⟩
    go_wp2_with fail
    refine (isWord_any y _ true (by simp [HY.out])).mono ?_
    rintro e w' ⟨rfl, rfl⟩
    go_wp2
    go_ret
    exact ⟨rfl, rfl⟩
  · rw [if_neg hlt]
    go_enter Try.func99, Try.ntmps99
    go_wp2_with fail
    refine (isWord_any x _ true (by simp [HX.out])).mono ?_
    rintro e w' ⟨rfl, rfl⟩
    go_wp2_with fail
    refine (isWord_any y _ true (by simp [HY.out])).mono ?_
    rintro e w' ⟨rfl, rfl⟩
    go_wp2
    go_ret
    exact ⟨rfl, rfl⟩

end Go.Proofs.Ythocmmhhhiikpaa
