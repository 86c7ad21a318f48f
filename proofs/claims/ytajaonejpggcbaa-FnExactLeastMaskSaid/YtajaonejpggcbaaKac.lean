/- The laws' helpers that write marks into slices of their own, and look for them. What the functions under comparison give: numbers and lists that a rule fixes, in memory of their own. Worlds that differ in some blocks alone; the registers and the memory of a run, in blocks of the run's own. Graphs: which are valid, as the reference and the program find it. Which instructions are valid, as the reference finds it. No condition. -/
import Derived.Test.YtajaonejpggcbaaKab

namespace Go.Proofs.Ytajaonejpggcbaa
open Go.RowKit

theorem grown_trans {a b c : World} {row : Option Nat} (h : a.grownBy b row) (k : b.grownBy c row) : a.grownBy c row :=
  ⟨k.os.trans h.os, k.tape.trans h.tape, k.output.trans h.output, Nat.le_trans h.size k.size, fun i hi hne => (k.block i (Nat.lt_of_lt_of_le hi h.size) hne).trans (h.block i hi hne)⟩
theorem grown_refl (w : World) (row : Option Nat) : w.grownBy w row := ⟨rfl, rfl, rfl, Nat.le_refl _, fun _ _ _ => rfl⟩

theorem grown_set {a w : World} {g i : Nat} {u : Value} (h : a.grownBy w (some g)) : a.grownBy (w.setCell ⟨g, i, none⟩ u) (some g) := grown_trans h (grown_setCell w ⟨g, i, none⟩ u)

def marked (k : Int) (n : Nat) : List Int := (List.range n).map fun (j : Nat) => k + (j : Int)
theorem marked_length (k : Int) (n : Nat) : (marked k n).length = n := by simp [marked]
theorem marked_getD (k : Int) (n j : Nat) (h : j < n) : (marked k n).getD j 0 = k + j := by simp [marked, List.getD_eq_getElem?_getD, h]

def MarkPost (B : Nat) (v : Value) (n : Nat) (k : Int) (w : World) (e : Ending) (w' : World) : Prop :=
  e = .returned (.int .i64 (k + n)) ∧ OwnO w' B 3 1 v n ((marked k n).map (.int .i64)) ∧ w.grownBy w' v.ownBlock

set_option maxHeartbeats 400000 in
theorem markIntS_any (v : Value) (n B : Nat) (ys : List Value) (k : Int) (w : World) (h : OwnO w B 3 1 v n ys) (hn : n ≤ 1099511627776) (hk0 : 0 ≤ k) (hk1 : k ≤ 1099511627776) :
    Calls Try.prog 26 #[v, .int .i64 k] w (MarkPost B v n k w) := by
  have H := Lib.hid h
  obtain ⟨A, c, rfl⟩ := h.form
  clear h
  go_enter Try.func26, Try.ntmps26
  go_wp2
  go_loopg [1, 5] n (fun gk m i wr => ∃ (j : Nat) (zs : List Value), gk + j = n ∧ i = .int .i64 j ∧ m = .int .i64 (k + j) ∧ OwnO wr B 3 1 (.slice A n c) n zs ∧ (∀ i, i < j → zs[i]? = some (.int .i64 (k + i))) ∧ w.grownBy wr (Value.slice A n c).ownBlock)
  case atStart => exact ⟨0, ys, rfl, rfl, by go_num, H.out, fun j hj => absurd hj (by omega), grown_refl _ _⟩
  case round =>
    obtain ⟨j, zs, hgk, rfl, rfl, hown, hzs, hg⟩ := hrel
    have Hgk := Lib.hid hgk
    have Hzs := Lib.hid hzs
    have Hown := Lib.hid hown
    have Hg := Lib.hid hg
    have hjn : j ≤ n := by omega
    clear hgk hzs hown hg
    by_cases hlt : j < n
    · obtain ⟨g, off, c', hv, h1, h2, h3, h4⟩ := Hown.out.formSome (by omega)
      injection hv with e1 e2 e3
      subst e1
      subst e3
      obtain ⟨u, q0⟩ := Hown.out.cellSome j (by omega)
      have f0 := Hown.out.frozen (off + j)
      have hst := Hown.out.stored j (.int .i64 (k + j))
      have HS := Lib.hid hst
      have HL : Hid (zs.length = n * 1) := Lib.hid Hown.out.1
      clear hst
      go_wp2
      go_roundg (n - (j + 1))
      case measure => have := Hgk.out; omega
      case rel =>
        refine ⟨j + 1, _, by have := Hgk.out; omega, by go_num, by go_num, HS.out, fun i hi => ?_, ?_⟩
        · by_cases e : i = j
          · subst e; rw [List.getElem?_set_self (by have := HL.out; omega)]
          · rw [List.getElem?_set_ne (by omega)]; exact Hzs.out i (by omega)
        · exact grown_trans Hg.out (grown_setCell _ _ _)
    · have hjl : j = n := by omega
      subst hjl
      go_wp2
      go_ret
      refine ⟨rfl, ?_, Hg.out⟩
      have : (marked k j).map (Value.int .i64) = zs := by
        apply List.ext_getElem?
        intro i
        by_cases hi : i < j
        · rw [Hzs.out i hi]; simp [marked, hi]
        · rw [List.getElem?_eq_none (by simp [marked]; omega), List.getElem?_eq_none (by have := Hown.out.1; omega)]
      rw [this]; exact Hown.out

set_option maxHeartbeats 400000 in
theorem heldIntS_any (v : Value) (n : Nat) (k : Int) (w : World) (h : Ints w v (marked k n)) (hn : n ≤ 1099511627776) (hk0 : 0 ≤ k) (hk1 : k ≤ 1099511627776) :
    Calls Try.prog 27 #[v, .int .i64 k] w fun e w' => e = .returned (.int .i64 (k + n)) ∧ Pure w w' := by
  have H := Lib.hid h
  obtain ⟨A, c, rfl⟩ := h.form
  rw [marked_length]
  clear h
  go_enter Try.func27, Try.ntmps27
  go_wp2
  go_loopg [1, 5] n (fun gk m i wr => ∃ (j : Nat), gk + j = n ∧ i = .int .i64 j ∧ m = .int .i64 (k + j) ∧ Pure w wr)
  case atStart => exact ⟨0, rfl, rfl, by go_num, Pure.refl _⟩
  case round =>
    obtain ⟨j, hgk, rfl, rfl, hp⟩ := hrel
    have Hgk := Lib.hid hgk
    have hjn : j ≤ n := by omega
    clear hgk
    by_cases hlt : j < n
    · obtain ⟨A', c', hv, h1, h2, h3⟩ := H.out
      injection hv with e1 e2 e3
      subst e1
      subst e3
      obtain ⟨b, o, rfl, hb, hc⟩ := h3 (by rw [marked_length]; omega)
      have q0 := (hp.cell b _ hb).trans (hc j (by rw [marked_length]; omega))
      simp only [marked_getD k n j hlt] at q0
      clear hc h3
      have hd : ((k + (j : Int)) != (k + (j : Int))) = false := by simp
      rw [marked_length] at h1
      go_wp2
      go_roundg (n - (j + 1))
      case measure => have := Hgk.out; omega
      case rel => exact ⟨j + 1, by have := Hgk.out; omega, by go_num, by go_num, hp⟩
    · have hjl : j = n := by omega
      subst hjl
      go_wp2
      go_ret
      exact ⟨rfl, hp⟩

set_option maxHeartbeats 1000000 in
theorem markCodeS_any (v : Value) (n B : Nat) (ys : List Value) (k : Int) (w : World) (h : OwnO w B 68 4 v n ys) (hn : n ≤ 1099511627776) (hk0 : 0 ≤ k) (hk1 : k ≤ 1099511627776) :
    Calls Try.prog 25 #[v, .int .i64 k] w fun e w' => e = .returned (.int .i64 (k + 4 * n)) ∧ w.grownBy w' v.ownBlock := by
  have H := Lib.hid h
  obtain ⟨A, c, rfl⟩ := h.form
  clear h
  go_enter Try.func25, Try.ntmps25
  go_wp2
  go_loopg [1, 5] n (fun gk m i wr => ∃ (j : Nat) (zs : List Value), gk + j = n ∧ i = .int .i64 j ∧ m = .int .i64 (k + 4 * j) ∧ OwnO wr B 68 4 (.slice A n c) n zs ∧ w.grownBy wr (Value.slice A n c).ownBlock)
  case atStart => exact ⟨0, ys, rfl, rfl, by go_num, H.out, grown_refl _ _⟩
  case round =>
    obtain ⟨j, zs, hgk, rfl, rfl, hown, hg⟩ := hrel
    have Hgk := Lib.hid hgk
    have Hown := Lib.hid hown
    have Hg := Lib.hid hg
    have hjn : j ≤ n := by omega
    clear hgk hown hg
    by_cases hlt : j < n
    · obtain ⟨g, off, c', hv, h1, h2, h3, h4⟩ := Hown.out.formSome (by omega)
      injection hv with e1 e2 e3
      subst e1
      subst e3
      obtain ⟨u0, q0⟩ := Hown.out.cellSome (j * 4) (by omega)
      obtain ⟨u1, q1⟩ := Hown.out.cellSome (j * 4 + 1) (by omega)
      obtain ⟨u2, q2⟩ := Hown.out.cellSome (j * 4 + 2) (by omega)
      obtain ⟨u3, q3⟩ := Hown.out.cellSome (j * 4 + 3) (by omega)
      rw [← Nat.add_assoc] at q1 q2 q3
      have f0 := Hown.out.frozen (off + j * 4)
      have f1 := Hown.out.frozen (off + j * 4 + 1)
      have f2 := Hown.out.frozen (off + j * 4 + 2)
      have f3 := Hown.out.frozen (off + j * 4 + 3)
      have s1 := Hown.out.stored (j * 4) (.int .i64 (k + 4 * j))
      have s2 := s1.stored (j * 4 + 1) (.int .i64 (k + 4 * j + 1))
      have s3 := s2.stored (j * 4 + 2) (.int .i64 (k + 4 * j + 1 + 1))
      have s4 := s3.stored (j * 4 + 3) (.int .i64 (k + 4 * j + 1 + 1 + 1))
      simp only [← Nat.add_assoc] at s4
      have HS := Lib.hid s4
      clear s1 s2 s3 s4
      go_wp2
      go_roundg (n - (j + 1))
      case measure => have := Hgk.out; omega
      case rel =>
        refine ⟨j + 1, _, by have := Hgk.out; omega, by go_num, by go_num, HS.out, ?_⟩
        exact grown_set (grown_set (grown_set (grown_set Hg.out)))
    · have hjl : j = n := by omega
      subst hjl
      go_wp2
      go_ret
      exact ⟨rfl, Hg.out⟩

end Go.Proofs.Ytajaonejpggcbaa

namespace Go.Proofs.Ytajaonejpggcbaa
open Go.RowKit

def ResInts (P : List Int → Prop) (w : World) (e : Ending) (w' : World) : Prop :=
  ∃ v xs, e = .returned v ∧ P xs ∧ xs.length ≤ 1048576 ∧ OwnO w' w.heap.size 3 1 v xs.length (xs.map (.int .i64)) ∧ Pure w w'
def ResInt (P : Int → Prop) (w : World) (e : Ending) (w' : World) : Prop :=
  ∃ x, e = .returned (.int .i64 x) ∧ P x ∧ Pure w w'

theorem codes_of_own {w : World} {B : Nat} {v : Value} {cs : List Cd} (h : OwnO w B 68 4 v cs.length ((List.range (cs.length * 4)).map (cdf cs))) : Codes w v cs :=
  Codes.of_ownO h rfl fun j hj => by simp [hj]
theorem Ints.of_ownO' {w : World} {B e : Nat} {v : Value} {ys : List Int} (h : OwnO w B e 1 v ys.length (ys.map (.int .i64))) : Ints w v ys := by
  unfold Ints
  refine Cells.of_ownO h fun j hj => ?_
  have : j < ys.length := by omega
  simp [List.getD_eq_getElem?_getD, this]
theorem ints_marked {w : World} {B n : Nat} {v : Value} {k : Int} (h : OwnO w B 3 1 v n ((marked k n).map (.int .i64))) : Ints w v (marked k n) := by
  refine Ints.of_ownO' (B := B) (e := 3) ?_
  rw [marked_length]; exact h
/-- What was there before a row of the call's own is not that row. -/
theorem own_apart {w1 w2 : World} {B e s n B' e' s' n' : Nat} {v v' : Value} {xs xs' : List Value} (h : OwnO w1 B e s v n xs) (h' : OwnO w2 B' e' s' v' n' xs') (hB : w1.heap.size ≤ B') : ∀ g, v.ownBlock = some g → some g ≠ v'.ownBlock := by
  intro g hg he
  have a := (h.lt g hg).2
  have b := (h'.lt g he.symm).1
  omega
theorem own_apart' {w1 w2 : World} {B e s n B' e' s' n' : Nat} {v v' : Value} {xs xs' : List Value} (h : OwnO w1 B e s v n xs) (h' : OwnO w2 B' e' s' v' n' xs') (hB : w1.heap.size ≤ B') : ∀ g, v'.ownBlock = some g → some g ≠ v.ownBlock := by
  intro g hg he
  have a := (h'.lt g hg).1
  have b := (h.lt g he.symm).2
  omega

end Go.Proofs.Ytajaonejpggcbaa

namespace Go.Proofs.Ytajaonejpggcbaa
open Go.RowKit

/-- w' is w, but for new blocks, draws, and the blocks of S. -/
structure Chg (S : Nat → Prop) (w w' : World) : Prop where
  os : w'.os = w.os
  tape : w'.tape = w.tape
  output : w'.output = w.output
  size : w.heap.size ≤ w'.heap.size
  block : ∀ k, k < w.heap.size → ¬ S k → w'.heap[k]? = w.heap[k]?
theorem Chg.refl (S : Nat → Prop) (w : World) : Chg S w w := ⟨rfl, rfl, rfl, Nat.le_refl _, fun _ _ _ => rfl⟩
theorem Chg.trans {S : Nat → Prop} {a b c : World} (h : Chg S a b) (k : Chg S b c) : Chg S a c :=
  ⟨k.os.trans h.os, k.tape.trans h.tape, k.output.trans h.output, Nat.le_trans h.size k.size, fun i hi hn => (k.block i (Nat.lt_of_lt_of_le hi h.size) hn).trans (h.block i hi hn)⟩
/-- The second change may also be to blocks that the first one made. -/
theorem Chg.trans' {S S' : Nat → Prop} {a b c : World} (h : Chg S a b) (k : Chg S' b c) (hS : ∀ i, i < a.heap.size → S' i → S i) : Chg S a c :=
  ⟨k.os.trans h.os, k.tape.trans h.tape, k.output.trans h.output, Nat.le_trans h.size k.size, fun i hi hn => (k.block i (Nat.lt_of_lt_of_le hi h.size) (fun hs => hn (hS i hi hs))).trans (h.block i hi hn)⟩
theorem Chg.mono {S S' : Nat → Prop} {a b : World} (h : Chg S a b) (hS : ∀ i, S i → S' i) : Chg S' a b :=
  ⟨h.os, h.tape, h.output, h.size, fun i hi hn => h.block i hi (fun hs => hn (hS i hs))⟩
theorem Chg.of_pure {S : Nat → Prop} {a b : World} (h : Pure a b) : Chg S a b := ⟨h.os, h.tape, h.output, h.size, fun i hi _ => h.below.block i hi⟩
theorem Chg.of_grown {S : Nat → Prop} {a b : World} {row : Option Nat} (h : a.grownBy b row) (hS : ∀ k, row = some k → S k) : Chg S a b :=
  ⟨h.os, h.tape, h.output, h.size, fun i hi hn => h.block i hi (fun e => hn (hS i e.symm))⟩
theorem Chg.of_set {S : Nat → Prop} (w : World) (g i : Nat) (v : Value) (hS : S g) : Chg S w (w.setCell ⟨g, i, none⟩ v) :=
  Chg.of_grown (grown_setCell w ⟨g, i, none⟩ v) (fun k hk => by injection hk with hk; subst hk; exact hS)
theorem Chg.pure {S : Nat → Prop} {w0 a b : World} (hp : Pure w0 a) (h : Chg S a b) (hS : ∀ k, S k → w0.heap.size ≤ k) : Pure w0 b :=
  ⟨h.os.trans hp.os, h.tape.trans hp.tape, h.output.trans hp.output, Nat.le_trans hp.size h.size, fun k hk => (h.block k (Nat.lt_of_lt_of_le hk hp.size) (fun hs => absurd (hS k hs) (by omega))).trans (hp.below.block k hk)⟩
theorem Chg.heap {S : Nat → Prop} {a b : World} (h : Chg S a b) {k : Nat} {o : Obj} (ho : a.heap[k]? = some o) (hn : ¬ S k) : b.heap[k]? = some o :=
  (h.block k (Array.getElem?_eq_some_iff.1 ho).1 hn).trans ho
theorem Chg.cell {S : Nat → Prop} {a b : World} (h : Chg S a b) {k i : Nat} (hk : k < a.heap.size) (hn : ¬ S k) : b.cell? ⟨k, i, none⟩ = a.cell? ⟨k, i, none⟩ :=
  World.cell?_of_block (h.block k hk hn)
theorem OwnO.chg {S : Nat → Prop} {w w' : World} {B e s n : Nat} {v : Value} {xs : List Value} (h : OwnO w B e s v n xs) (hc : Chg S w w') (hn : ∀ g, v.ownBlock = some g → ¬ S g) : OwnO w' B e s v n xs := by
  refine ⟨h.1, ?_⟩
  rcases h.2 with h | ⟨g, off, cap, cur, rfl, h1, h2, h3⟩
  · exact .inl h
  · exact .inr ⟨g, off, cap, cur, rfl, h1, hc.heap h2 (hn g rfl), h3⟩
/-- A block of one kind is none of another kind. -/
theorem ne_of_heap {w : World} {g g' e e' : Nat} {cur cur' : Array Value} (h : w.heap[g]? = some (.cells cur e (0, 0))) (h' : w.heap[g']? = some (.cells cur' e' (0, 0))) (hne : e ≠ e') : g ≠ g' := by
  rintro rfl
  rw [h] at h'
  simp only [Option.some.injEq, Obj.cells.injEq] at h'
  exact hne h'.2.1
theorem OwnO.ne_heap {w : World} {B e s n g e' : Nat} {v : Value} {xs : List Value} {cur : Array Value} (h : OwnO w B e s v n xs) (h' : w.heap[g]? = some (.cells cur e' (0, 0))) (hne : e ≠ e') : ∀ k, v.ownBlock = some k → k ≠ g := by
  intro k hk
  rcases h.2 with ⟨rfl, _⟩ | ⟨g', off, cap, cur', rfl, _, h2, _⟩
  · simp [Value.ownBlock] at hk
  · simp [Value.ownBlock] at hk
    subst hk
    exact ne_of_heap h2 h' hne

/-- Where the registers and the memory of a run lie. -/
structure RMo where
  B : Nat
  n : Nat
  m : Nat
  gr : Nat
  cr : Nat
  gm : Nat
  cm : Nat
  rows : Nat → Nat

def RMo.row (o : RMo) (k : Nat) : Value := .slice (some ⟨o.rows k, 0, none⟩) 4 4
def RMo.vr (o : RMo) : Value := .slice (some ⟨o.gr, 0, none⟩) o.n o.cr
def RMo.vm (o : RMo) : Value := .slice (some ⟨o.gm, 0, none⟩) o.m o.cm
def row4 (f : Nat → Int) : Array Value := #[.int .i64 (f 0), .int .i64 (f 1), .int .i64 (f 2), .int .i64 (f 3)]
def memL (m : Nat) (M : Nat → Int) : List Value := (List.range m).map fun j => .int .i64 (M j)
structure RM (o : RMo) (w : World) (R : Nat → Nat → Int) (M : Nat → Int) : Prop where
  n8 : o.n ≤ 8
  m1 : 1 ≤ o.m
  m32 : o.m ≤ 32
  cr1 : o.n ≤ o.cr
  cr2 : o.cr ≤ 9223372036854775807
  lo : o.B ≤ o.gr
  outer : ∃ cur : Array Value, w.heap[o.gr]? = some (.cells cur 23 (0, 0)) ∧ ∀ k, k < o.n → cur[k]? = some (o.row k)
  rlo : ∀ k, k < o.n → o.B ≤ o.rows k
  row : ∀ k, k < o.n → w.heap[o.rows k]? = some (.cells (row4 (R k)) 3 (0, 0))
  inj : ∀ k l, k < o.n → l < o.n → o.rows k = o.rows l → k = l
  mem : OwnO w o.B 3 1 o.vm o.m (memL o.m M)
  ne : ∀ k, k < o.n → o.rows k ≠ o.gm

/-- The blocks that a lane's instruction may write. -/
def RMo.lane (o : RMo) (k : Nat) : Nat → Prop := fun b => b = o.rows k ∨ b = o.gm
def RMo.own (o : RMo) : Nat → Prop := fun b => (∃ k, k < o.n ∧ b = o.rows k) ∨ b = o.gm

section
variable {o : RMo} {w w' : World} {R : Nat → Nat → Int} {M : Nat → Int}
theorem RM.chg {S : Nat → Prop} (h : RM o w R M) (hc : Chg S w w') (h1 : ¬ S o.gr) (h2 : ∀ k, k < o.n → ¬ S (o.rows k)) (h3 : ¬ S o.gm) : RM o w' R M := by
  obtain ⟨a1, a2, a3, a4, a5, a6, ⟨cur, b1, b2⟩, a8, a9, a10, a11, a12⟩ := h
  refine ⟨a1, a2, a3, a4, a5, a6, ⟨cur, hc.heap b1 h1, b2⟩, a8, fun k hk => hc.heap (a9 k hk) (h2 k hk), a10, a11.chg hc fun g hg => ?_, a12⟩
  simp [RMo.vm, Value.ownBlock] at hg
  subst hg; exact h3
theorem RM.pure (h : RM o w R M) (hp : Pure w w') : RM o w' R M := h.chg (S := fun _ => False) (Chg.of_pure hp) id (fun _ _ => id) id
theorem RM.gmlo (h : RM o w R M) : o.B ≤ o.gm ∧ o.gm < w.heap.size := h.mem.lt o.gm rfl
theorem RM.lane_lo (h : RM o w R M) {k : Nat} (hk : k < o.n) : ∀ b, o.lane k b → o.B ≤ b := by
  rintro b (rfl | rfl)
  · exact h.rlo k hk
  · exact h.gmlo.1
theorem RM.own_lo (h : RM o w R M) : ∀ b, o.own b → o.B ≤ b := by
  rintro b (⟨k, hk, rfl⟩ | rfl)
  · exact h.rlo k hk
  · exact h.gmlo.1
theorem RM.gr_ne (h : RM o w R M) {k : Nat} (hk : k < o.n) : o.rows k ≠ o.gr := by
  obtain ⟨cur, b1, _⟩ := h.outer
  exact ne_of_heap (h.row k hk) b1 (by decide)
theorem RM.gr_ne2 (h : RM o w R M) : o.gm ≠ o.gr := by
  obtain ⟨cur, b1, _⟩ := h.outer
  exact h.mem.ne_heap b1 (by decide) o.gm rfl
theorem RM.outerCell (h : RM o w R M) {k : Nat} (hk : k < o.n) : w.cell? ⟨o.gr, k, none⟩ = some (o.row k) := by
  obtain ⟨cur, b1, b2⟩ := h.outer
  rw [cell_of_row w o.gr k cur _ _ b1]; exact b2 k hk
theorem RM.regCell (h : RM o w R M) {k : Nat} (hk : k < o.n) {r : Nat} (hr : r < 4) : w.cell? ⟨o.rows k, r, none⟩ = some (.int .i64 (R k r)) := by
  rw [cell_of_row w (o.rows k) r _ _ _ (h.row k hk)]
  have : r = 0 ∨ r = 1 ∨ r = 2 ∨ r = 3 := by omega
  rcases this with rfl | rfl | rfl | rfl <;> rfl
theorem RM.regFrozen (h : RM o w R M) {k : Nat} (hk : k < o.n) (r : Nat) : w.frozen? ⟨o.rows k, r, none⟩ = false := frozen_of_row w (o.rows k) r _ _ (h.row k hk)
theorem RM.memCell (h : RM o w R M) {j : Nat} (hj : j < o.m) : w.cell? ⟨o.gm, j, none⟩ = some (.int .i64 (M j)) := by
  have := h.mem.cell j (by omega)
  rw [Nat.zero_add] at this
  rw [this]; simp [memL, hj]
theorem RM.memFrozen (h : RM o w R M) (j : Nat) : w.frozen? ⟨o.gm, j, none⟩ = false := h.mem.frozen j
/-- One lane's registers, written anew. -/
def upR (R : Nat → Nat → Int) (k : Nat) (f : Nat → Int) : Nat → Nat → Int := fun l => if l = k then f else R l
theorem upR_same (R : Nat → Nat → Int) (k : Nat) : upR R k (R k) = R := funext fun l => by
  unfold upR; split
  · rename_i h; rw [h]
  · rfl
theorem row4_set (f : Nat → Int) {r : Nat} (hr : r < 4) (v : Int) : (row4 f).setIfInBounds r (.int .i64 v) = row4 (setF f r v) := by
  have : r = 0 ∨ r = 1 ∨ r = 2 ∨ r = 3 := by omega
  rcases this with rfl | rfl | rfl | rfl <;> rfl
theorem RM.setReg (h : RM o w R M) {k : Nat} (hk : k < o.n) {r : Nat} (hr : r < 4) (v : Int) : RM o (w.setCell ⟨o.rows k, r, none⟩ (.int .i64 v)) (upR R k (setF (R k) r v)) M := by
  have hc : Chg (fun b => b = o.rows k) w (w.setCell ⟨o.rows k, r, none⟩ (.int .i64 v)) := Chg.of_set w _ _ _ rfl
  have hgm : o.gm ≠ o.rows k := fun e => h.ne k hk e.symm
  have hgr : o.gr ≠ o.rows k := fun e => h.gr_ne hk e.symm
  obtain ⟨a1, a2, a3, a4, a5, a6, ⟨cur, b1, b2⟩, a8, a9, a10, a11, a12⟩ := h
  refine ⟨a1, a2, a3, a4, a5, a6, ⟨cur, hc.heap b1 hgr, b2⟩, a8, fun l hl => ?_, a10, a11.chg hc fun g hg => ?_, a12⟩
  · unfold upR
    split
    · rename_i e
      subst e
      rw [heap_setCell_same w (o.rows l) r _ _ (.int .i64 v) (a9 l hk)]
      rw [row4_set _ hr]
    · rename_i e
      exact hc.heap (a9 l hl) (fun e2 => e (a10 l k hl hk e2))
  · simp [RMo.vm, Value.ownBlock] at hg
    subst hg; exact hgm
theorem memL_set (m : Nat) (M : Nat → Int) {j : Nat} (v : Int) : (memL m M).set j (.int .i64 v) = memL m (setF M j v) := by
  apply List.ext_getElem?
  intro i
  by_cases hi : i < m
  · by_cases e : i = j
    · subst e
      rw [List.getElem?_set_self (by simpa [memL] using hi)]
      simp [memL, hi, setF]
    · rw [List.getElem?_set_ne (by omega)]
      simp [memL, hi, setF, e]
  · rw [List.getElem?_eq_none (by simpa [memL] using hi), List.getElem?_eq_none (by simpa [memL] using hi)]
theorem RM.setMem (h : RM o w R M) (j : Nat) (v : Int) : RM o (w.setCell ⟨o.gm, j, none⟩ (.int .i64 v)) R (setF M j v) := by
  have hc : Chg (fun b => b = o.gm) w (w.setCell ⟨o.gm, j, none⟩ (.int .i64 v)) := Chg.of_set w _ _ _ rfl
  have hgr : o.gr ≠ o.gm := fun e => h.gr_ne2 e.symm
  obtain ⟨a1, a2, a3, a4, a5, a6, ⟨cur, b1, b2⟩, a8, a9, a10, a11, a12⟩ := h
  refine ⟨a1, a2, a3, a4, a5, a6, ⟨cur, hc.heap b1 hgr, b2⟩, a8, fun l hl => hc.heap (a9 l hl) (a12 l hl), a10, ?_, a12⟩
  have := a11.stored j (.int .i64 v)
  rw [Nat.zero_add, memL_set] at this
  exact this
end

end Go.Proofs.Ytajaonejpggcbaa

namespace Go.Proofs.Ytajaonejpggcbaa
open Go.RowKit

set_option maxHeartbeats 400000 in
theorem l1In_t (n lo hi : Int) (w : World) (h : lo ≤ n ∧ n ≤ hi) :
    Calls Try.prog 79 #[.int .i64 n, .int .i64 lo, .int .i64 hi] w fun e w' => e = .returned (.bool true) ∧ w = w' := by
  obtain ⟨h1, h2⟩ := h
  go_enter Try.func79, Try.ntmps79
  go_wp2
  go_ret
  exact ⟨rfl, rfl⟩
set_option maxHeartbeats 400000 in
theorem l1In_f (n lo hi : Int) (w : World) (h : ¬ (lo ≤ n ∧ n ≤ hi)) :
    Calls Try.prog 79 #[.int .i64 n, .int .i64 lo, .int .i64 hi] w fun e w' => e = .returned (.bool false) ∧ w = w' := by
  by_cases h1 : lo ≤ n
  · have h2 : ¬ n ≤ hi := by omega
    clear h
    go_enter Try.func79, Try.ntmps79
    go_wp2
    go_ret
    exact ⟨rfl, rfl⟩
  · clear h
    go_enter Try.func79, Try.ntmps79
    go_wp2
    go_ret
    exact ⟨rfl, rfl⟩
theorem l1In_any (n lo hi : Int) (w : World) (B : Bool) (hB : B = true ↔ (lo ≤ n ∧ n ≤ hi)) :
    Calls Try.prog 79 #[.int .i64 n, .int .i64 lo, .int .i64 hi] w fun e w' => e = .returned (.bool B) ∧ w = w' := by
  cases B
  · exact l1In_f n lo hi w (fun h => by simp [h] at hB)
  · exact l1In_t n lo hi w (hB.1 rfl)

set_option maxHeartbeats 400000 in
theorem within_t (n lo hi : Int) (w : World) (h : lo ≤ n ∧ n ≤ hi) :
    Calls Try.prog 114 #[.int .i64 n, .int .i64 lo, .int .i64 hi] w fun e w' => e = .returned (.bool true) ∧ w = w' := by
  obtain ⟨h1, h2⟩ := h
  go_enter Try.func114, Try.ntmps114
  go_wp2
  go_ret
  exact ⟨rfl, rfl⟩
set_option maxHeartbeats 400000 in
theorem within_f (n lo hi : Int) (w : World) (h : ¬ (lo ≤ n ∧ n ≤ hi)) :
    Calls Try.prog 114 #[.int .i64 n, .int .i64 lo, .int .i64 hi] w fun e w' => e = .returned (.bool false) ∧ w = w' := by
  by_cases h1 : lo ≤ n
  · have h2 : ¬ n ≤ hi := by omega
    clear h
    go_enter Try.func114, Try.ntmps114
    go_wp2
    go_ret
    exact ⟨rfl, rfl⟩
  · clear h
    go_enter Try.func114, Try.ntmps114
    go_wp2
    go_ret
    exact ⟨rfl, rfl⟩
theorem within_any (n lo hi : Int) (w : World) (B : Bool) (hB : B = true ↔ (lo ≤ n ∧ n ≤ hi)) :
    Calls Try.prog 114 #[.int .i64 n, .int .i64 lo, .int .i64 hi] w fun e w' => e = .returned (.bool B) ∧ w = w' := by
  cases B
  · exact within_f n lo hi w (fun h => by simp [h] at hB)
  · exact within_t n lo hi w (hB.1 rfl)

def rowOk (n : Nat) (r : List Int) (m : Nat) : Prop := ∀ j, j < m → 0 ≤ r.getD j 0 ∧ r.getD j 0 ≤ (n : Int) - 1 ∧ ∀ i, i < j → r.getD i 0 ≠ r.getD j 0
def GValid (xss : List (List Int)) : Prop := (∀ k, k < xss.length → rowOk xss.length (xss.getD k []) (xss.getD k []).length) ∧ xss.length ≤ 64

theorem rowOk_step {n : Nat} {xs : List Int} {j : Nat} {x : Int} (h : rowOk n xs j) (hx : xs.getD j 0 = x) (h1 : 0 ≤ x) (h2 : x ≤ (n : Int) - 1) (hn : ∀ i, i < j → xs.getD i 0 ≠ x) : rowOk n xs (j + 1) := by
  intro j' hj'
  by_cases e : j' = j
  · subst e; rw [hx]; exact ⟨h1, h2, hn⟩
  · exact h j' (by omega)

end Go.Proofs.Ytajaonejpggcbaa

namespace Go.Proofs.Ytajaonejpggcbaa
open Go.RowKit

set_option maxHeartbeats 400000 in
theorem l2Word_any (n : Int) (w : World) (B : Bool) (hB : B = true ↔ Word n) :
    Calls Try.prog 104 #[.int .i64 n] w fun e w' => e = .returned (.bool B) ∧ w = w' := by
  have HB := Lib.hid hB; clear hB
  go_enter Try.func104, Try.ntmps104
  go_wp2_with fail
  refine (l1In_any _ _ _ _ B HB.out).mono ?_
  rintro e w' ⟨rfl, rfl⟩
  go_wp2
  go_ret
  exact ⟨rfl, rfl⟩
theorem regB (x : Int) : ∃ B : Bool, B = true ↔ (0 ≤ x ∧ x ≤ 3) := ⟨decide (0 ≤ x ∧ x ≤ 3), by simp⟩
theorem wordB (x : Int) : ∃ B : Bool, B = true ↔ Word x := by unfold Word; exact ⟨decide (0 ≤ x ∧ x ≤ 255), by simp⟩
theorem turnB (x : Int) : ∃ B : Bool, B = true ↔ (1 ≤ x ∧ x ≤ 4) := ⟨decide (1 ≤ x ∧ x ≤ 4), by simp⟩

set_option maxHeartbeats 1000000 in
theorem scv_1 (a b c : Int) (w : World) (B : Bool) (hB : B = true ↔ CdOk ⟨1, a, b, c⟩) :
    Calls Try.prog 103 #[.agg #[.int .i64 1, .int .i64 a, .int .i64 b, .int .i64 c]] w fun e w' => e = .returned (.bool B) ∧ Pure w w' := by
  have HB := Lib.hid hB; clear hB
  obtain ⟨ra, hra⟩ := regB a
  obtain ⟨rb, hrb⟩ := regB b
  obtain ⟨wb, hwb⟩ := wordB b
  have HW := Lib.hid hwb; clear hwb
  have HA := Lib.hid hra; clear hra
  have HR := Lib.hid hrb; clear hrb
  cases ra
  · go_enter Try.func103, Try.ntmps103
    go_wp2_with fail
    refine (l1In_any _ _ _ _ false (by have := HA.out; simpa using this)).mono ?_
    rintro e w1 ⟨rfl, rfl⟩
    go_wp2_with fail
    refine (l1In_any _ _ _ _ rb (by have := HR.out; simpa using this)).mono ?_
    rintro e w1 ⟨rfl, rfl⟩
    go_wp2
    go_ret
    refine ⟨ret_bool ?_, (by repeat (first | assumption | exact Pure.refl _ | refine Pure.drewN ?_ _ | refine Pure.drew ?_ | refine Pure.alloc ?_ _ | refine Pure.setCell ?_ (by simp <;> omega) _))⟩
    rw [Bool.eq_iff_iff, HB.out]
    have t1 := HA.out; have t2 := HR.out; have t4 := HW.out
    simp only [Bool.false_eq_true, false_iff, CdOk, Reg, Word, true_and] at *
    first | omega | (constructor <;> intro h <;> omega)
  · cases wb
    · go_enter Try.func103, Try.ntmps103
      go_wp2_with fail
      refine (l1In_any _ _ _ _ true (by have := HA.out; simpa using this)).mono ?_
      rintro e w1 ⟨rfl, rfl⟩
      go_wp2_with fail
      refine (l1In_any _ _ _ _ rb (by have := HR.out; simpa using this)).mono ?_
      rintro e w1 ⟨rfl, rfl⟩
      go_wp2_with fail
      refine (l2Word_any _ _ false (by have := HW.out; simpa using this)).mono ?_
      rintro e w1 ⟨rfl, rfl⟩
      go_wp2
      go_ret
      refine ⟨ret_bool ?_, (by repeat (first | assumption | exact Pure.refl _ | refine Pure.drewN ?_ _ | refine Pure.drew ?_ | refine Pure.alloc ?_ _ | refine Pure.setCell ?_ (by simp <;> omega) _))⟩
      rw [Bool.eq_iff_iff, HB.out]
      have t1 := HA.out; have t2 := HR.out; have t4 := HW.out
      simp only [Bool.false_eq_true, false_iff, true_iff, CdOk, Reg, Word, true_and] at *
      first | omega | (constructor <;> intro h <;> omega)
    · go_enter Try.func103, Try.ntmps103
      go_wp2_with fail
      refine (l1In_any _ _ _ _ true (by have := HA.out; simpa using this)).mono ?_
      rintro e w1 ⟨rfl, rfl⟩
      go_wp2_with fail
      refine (l1In_any _ _ _ _ rb (by have := HR.out; simpa using this)).mono ?_
      rintro e w1 ⟨rfl, rfl⟩
      go_wp2_with fail
      refine (l2Word_any _ _ true (by have := HW.out; simpa using this)).mono ?_
      rintro e w1 ⟨rfl, rfl⟩
      go_wp2
      go_ret
      refine ⟨ret_bool ?_, (by repeat (first | assumption | exact Pure.refl _ | refine Pure.drewN ?_ _ | refine Pure.drew ?_ | refine Pure.alloc ?_ _ | refine Pure.setCell ?_ (by simp <;> omega) _))⟩
      rw [Bool.eq_iff_iff, HB.out]
      have t1 := HA.out; have t2 := HR.out; have t4 := HW.out
      simp only [true_iff, beq_iff_eq, CdOk, Reg, Word, true_and] at *
      first | omega | (constructor <;> intro h <;> omega)

set_option maxHeartbeats 1000000 in
theorem scv_2 (a b c : Int) (w : World) (B : Bool) (hB : B = true ↔ CdOk ⟨2, a, b, c⟩) :
    Calls Try.prog 103 #[.agg #[.int .i64 2, .int .i64 a, .int .i64 b, .int .i64 c]] w fun e w' => e = .returned (.bool B) ∧ Pure w w' := by
  have HB := Lib.hid hB; clear hB
  obtain ⟨ra, hra⟩ := regB a
  obtain ⟨rb, hrb⟩ := regB b
  have HA := Lib.hid hra; clear hra
  have HR := Lib.hid hrb; clear hrb
  cases ra
  · go_enter Try.func103, Try.ntmps103
    go_wp2_with fail
    refine (l1In_any _ _ _ _ false (by have := HA.out; simpa using this)).mono ?_
    rintro e w1 ⟨rfl, rfl⟩
    go_wp2_with fail
    refine (l1In_any _ _ _ _ rb (by have := HR.out; simpa using this)).mono ?_
    rintro e w1 ⟨rfl, rfl⟩
    go_wp2
    go_ret
    refine ⟨ret_bool ?_, (by repeat (first | assumption | exact Pure.refl _ | refine Pure.drewN ?_ _ | refine Pure.drew ?_ | refine Pure.alloc ?_ _ | refine Pure.setCell ?_ (by simp <;> omega) _))⟩
    rw [Bool.eq_iff_iff, HB.out]
    have t1 := HA.out; have t2 := HR.out
    simp only [Bool.false_eq_true, false_iff, CdOk, Reg, Word, true_and, true_or] at *
    first | omega | (constructor <;> intro h <;> omega)
  · by_cases hb0 : b = 0
    · have d0 : (b == 0) = true := by simp [hb0]
      have Hb0 := Lib.hid hb0; clear hb0
      go_enter Try.func103, Try.ntmps103
      go_wp2_with fail
      refine (l1In_any _ _ _ _ true (by have := HA.out; simpa using this)).mono ?_
      rintro e w1 ⟨rfl, rfl⟩
      go_wp2_with fail
      refine (l1In_any _ _ _ _ rb (by have := HR.out; simpa using this)).mono ?_
      rintro e w1 ⟨rfl, rfl⟩
      go_wp2
      go_ret
      refine ⟨ret_bool ?_, (by repeat (first | assumption | exact Pure.refl _ | refine Pure.drewN ?_ _ | refine Pure.drew ?_ | refine Pure.alloc ?_ _ | refine Pure.setCell ?_ (by simp <;> omega) _))⟩
      rw [Bool.eq_iff_iff, HB.out]
      have t1 := HA.out; have t2 := HR.out
      simp only [true_iff, beq_iff_eq, CdOk, Reg, Word, true_and, true_or] at *
      have := Hb0.out; first | omega | (constructor <;> intro h <;> omega)
    · have d0 : (b == 0) = false := by simp [hb0]
      have Hb0 := Lib.hid hb0; clear hb0
      go_enter Try.func103, Try.ntmps103
      go_wp2_with fail
      refine (l1In_any _ _ _ _ true (by have := HA.out; simpa using this)).mono ?_
      rintro e w1 ⟨rfl, rfl⟩
      go_wp2_with fail
      refine (l1In_any _ _ _ _ rb (by have := HR.out; simpa using this)).mono ?_
      rintro e w1 ⟨rfl, rfl⟩
      go_wp2
      go_ret
      refine ⟨ret_bool ?_, (by repeat (first | assumption | exact Pure.refl _ | refine Pure.drewN ?_ _ | refine Pure.drew ?_ | refine Pure.alloc ?_ _ | refine Pure.setCell ?_ (by simp <;> omega) _))⟩
      rw [Bool.eq_iff_iff, HB.out]
      have t1 := HA.out; have t2 := HR.out
      simp only [Bool.false_eq_true, false_iff, true_iff, CdOk, Reg, Word, true_and, true_or] at *
      have := Hb0.out; first | omega | (constructor <;> intro h <;> omega)

set_option maxHeartbeats 1000000 in
theorem scv_3 (a b c : Int) (w : World) (B : Bool) (hB : B = true ↔ CdOk ⟨3, a, b, c⟩) :
    Calls Try.prog 103 #[.agg #[.int .i64 3, .int .i64 a, .int .i64 b, .int .i64 c]] w fun e w' => e = .returned (.bool B) ∧ Pure w w' := by
  have HB := Lib.hid hB; clear hB
  obtain ⟨ra, hra⟩ := regB a
  obtain ⟨rb, hrb⟩ := regB b
  have HA := Lib.hid hra; clear hra
  have HR := Lib.hid hrb; clear hrb
  cases ra
  · go_enter Try.func103, Try.ntmps103
    go_wp2_with fail
    refine (l1In_any _ _ _ _ false (by have := HA.out; simpa using this)).mono ?_
    rintro e w1 ⟨rfl, rfl⟩
    go_wp2_with fail
    refine (l1In_any _ _ _ _ rb (by have := HR.out; simpa using this)).mono ?_
    rintro e w1 ⟨rfl, rfl⟩
    go_wp2
    go_ret
    refine ⟨ret_bool ?_, (by repeat (first | assumption | exact Pure.refl _ | refine Pure.drewN ?_ _ | refine Pure.drew ?_ | refine Pure.alloc ?_ _ | refine Pure.setCell ?_ (by simp <;> omega) _))⟩
    rw [Bool.eq_iff_iff, HB.out]
    have t1 := HA.out; have t2 := HR.out
    simp only [Bool.false_eq_true, false_iff, CdOk, Reg, Word, true_and, true_or] at *
    first | omega | (constructor <;> intro h <;> omega)
  · cases rb
    · go_enter Try.func103, Try.ntmps103
      go_wp2_with fail
      refine (l1In_any _ _ _ _ true (by have := HA.out; simpa using this)).mono ?_
      rintro e w1 ⟨rfl, rfl⟩
      go_wp2_with fail
      refine (l1In_any _ _ _ _ false (by have := HR.out; simpa using this)).mono ?_
      rintro e w1 ⟨rfl, rfl⟩
      go_wp2
      go_ret
      refine ⟨ret_bool ?_, (by repeat (first | assumption | exact Pure.refl _ | refine Pure.drewN ?_ _ | refine Pure.drew ?_ | refine Pure.alloc ?_ _ | refine Pure.setCell ?_ (by simp <;> omega) _))⟩
      rw [Bool.eq_iff_iff, HB.out]
      have t1 := HA.out; have t2 := HR.out
      simp only [Bool.false_eq_true, false_iff, true_iff, CdOk, Reg, Word, true_and, true_or] at *
      first | omega | (constructor <;> intro h <;> omega)
    · go_enter Try.func103, Try.ntmps103
      go_wp2_with fail
      refine (l1In_any _ _ _ _ true (by have := HA.out; simpa using this)).mono ?_
      rintro e w1 ⟨rfl, rfl⟩
      go_wp2_with fail
      refine (l1In_any _ _ _ _ true (by have := HR.out; simpa using this)).mono ?_
      rintro e w1 ⟨rfl, rfl⟩
      go_wp2
      go_ret
      refine ⟨ret_bool ?_, (by repeat (first | assumption | exact Pure.refl _ | refine Pure.drewN ?_ _ | refine Pure.drew ?_ | refine Pure.alloc ?_ _ | refine Pure.setCell ?_ (by simp <;> omega) _))⟩
      rw [Bool.eq_iff_iff, HB.out]
      have t1 := HA.out; have t2 := HR.out
      simp only [true_iff, beq_iff_eq, CdOk, Reg, Word, true_and, true_or] at *
      first | omega | (constructor <;> intro h <;> omega)

set_option maxHeartbeats 1000000 in
theorem scv_4 (a b c : Int) (w : World) (B : Bool) (hB : B = true ↔ CdOk ⟨4, a, b, c⟩) :
    Calls Try.prog 103 #[.agg #[.int .i64 4, .int .i64 a, .int .i64 b, .int .i64 c]] w fun e w' => e = .returned (.bool B) ∧ Pure w w' := by
  have HB := Lib.hid hB; clear hB
  obtain ⟨ra, hra⟩ := regB a
  obtain ⟨rb, hrb⟩ := regB b
  have HA := Lib.hid hra; clear hra
  have HR := Lib.hid hrb; clear hrb
  cases ra
  · go_enter Try.func103, Try.ntmps103
    go_wp2_with fail
    refine (l1In_any _ _ _ _ false (by have := HA.out; simpa using this)).mono ?_
    rintro e w1 ⟨rfl, rfl⟩
    go_wp2_with fail
    refine (l1In_any _ _ _ _ rb (by have := HR.out; simpa using this)).mono ?_
    rintro e w1 ⟨rfl, rfl⟩
    go_wp2
    go_ret
    refine ⟨ret_bool ?_, (by repeat (first | assumption | exact Pure.refl _ | refine Pure.drewN ?_ _ | refine Pure.drew ?_ | refine Pure.alloc ?_ _ | refine Pure.setCell ?_ (by simp <;> omega) _))⟩
    rw [Bool.eq_iff_iff, HB.out]
    have t1 := HA.out; have t2 := HR.out
    simp only [Bool.false_eq_true, false_iff, CdOk, Reg, Word, true_and, true_or, or_true] at *
    first | omega | (constructor <;> intro h <;> omega)
  · cases rb
    · go_enter Try.func103, Try.ntmps103
      go_wp2_with fail
      refine (l1In_any _ _ _ _ true (by have := HA.out; simpa using this)).mono ?_
      rintro e w1 ⟨rfl, rfl⟩
      go_wp2_with fail
      refine (l1In_any _ _ _ _ false (by have := HR.out; simpa using this)).mono ?_
      rintro e w1 ⟨rfl, rfl⟩
      go_wp2
      go_ret
      refine ⟨ret_bool ?_, (by repeat (first | assumption | exact Pure.refl _ | refine Pure.drewN ?_ _ | refine Pure.drew ?_ | refine Pure.alloc ?_ _ | refine Pure.setCell ?_ (by simp <;> omega) _))⟩
      rw [Bool.eq_iff_iff, HB.out]
      have t1 := HA.out; have t2 := HR.out
      simp only [Bool.false_eq_true, false_iff, true_iff, CdOk, Reg, Word, true_and, true_or, or_true] at *
      first | omega | (constructor <;> intro h <;> omega)
    · go_enter Try.func103, Try.ntmps103
      go_wp2_with fail
      refine (l1In_any _ _ _ _ true (by have := HA.out; simpa using this)).mono ?_
      rintro e w1 ⟨rfl, rfl⟩
      go_wp2_with fail
      refine (l1In_any _ _ _ _ true (by have := HR.out; simpa using this)).mono ?_
      rintro e w1 ⟨rfl, rfl⟩
      go_wp2
      go_ret
      refine ⟨ret_bool ?_, (by repeat (first | assumption | exact Pure.refl _ | refine Pure.drewN ?_ _ | refine Pure.drew ?_ | refine Pure.alloc ?_ _ | refine Pure.setCell ?_ (by simp <;> omega) _))⟩
      rw [Bool.eq_iff_iff, HB.out]
      have t1 := HA.out; have t2 := HR.out
      simp only [true_iff, beq_iff_eq, CdOk, Reg, Word, true_and, true_or, or_true] at *
      first | omega | (constructor <;> intro h <;> omega)

set_option maxHeartbeats 1000000 in
theorem scv_5 (a b c : Int) (w : World) (B : Bool) (hB : B = true ↔ CdOk ⟨5, a, b, c⟩) :
    Calls Try.prog 103 #[.agg #[.int .i64 5, .int .i64 a, .int .i64 b, .int .i64 c]] w fun e w' => e = .returned (.bool B) ∧ Pure w w' := by
  have HB := Lib.hid hB; clear hB
  obtain ⟨ra, hra⟩ := regB a
  obtain ⟨rb, hrb⟩ := regB b
  have HA := Lib.hid hra; clear hra
  have HR := Lib.hid hrb; clear hrb
  cases ra
  · go_enter Try.func103, Try.ntmps103
    go_wp2_with fail
    refine (l1In_any _ _ _ _ false (by have := HA.out; simpa using this)).mono ?_
    rintro e w1 ⟨rfl, rfl⟩
    go_wp2_with fail
    refine (l1In_any _ _ _ _ rb (by have := HR.out; simpa using this)).mono ?_
    rintro e w1 ⟨rfl, rfl⟩
    go_wp2
    go_ret
    refine ⟨ret_bool ?_, (by repeat (first | assumption | exact Pure.refl _ | refine Pure.drewN ?_ _ | refine Pure.drew ?_ | refine Pure.alloc ?_ _ | refine Pure.setCell ?_ (by simp <;> omega) _))⟩
    rw [Bool.eq_iff_iff, HB.out]
    have t1 := HA.out; have t2 := HR.out
    simp only [Bool.false_eq_true, false_iff, CdOk, Reg, Word, true_and, true_or, or_true] at *
    first | omega | (constructor <;> intro h <;> omega)
  · cases rb
    · go_enter Try.func103, Try.ntmps103
      go_wp2_with fail
      refine (l1In_any _ _ _ _ true (by have := HA.out; simpa using this)).mono ?_
      rintro e w1 ⟨rfl, rfl⟩
      go_wp2_with fail
      refine (l1In_any _ _ _ _ false (by have := HR.out; simpa using this)).mono ?_
      rintro e w1 ⟨rfl, rfl⟩
      go_wp2
      go_ret
      refine ⟨ret_bool ?_, (by repeat (first | assumption | exact Pure.refl _ | refine Pure.drewN ?_ _ | refine Pure.drew ?_ | refine Pure.alloc ?_ _ | refine Pure.setCell ?_ (by simp <;> omega) _))⟩
      rw [Bool.eq_iff_iff, HB.out]
      have t1 := HA.out; have t2 := HR.out
      simp only [Bool.false_eq_true, false_iff, true_iff, CdOk, Reg, Word, true_and, true_or, or_true] at *
      first | omega | (constructor <;> intro h <;> omega)
    · go_enter Try.func103, Try.ntmps103
      go_wp2_with fail
      refine (l1In_any _ _ _ _ true (by have := HA.out; simpa using this)).mono ?_
      rintro e w1 ⟨rfl, rfl⟩
      go_wp2_with fail
      refine (l1In_any _ _ _ _ true (by have := HR.out; simpa using this)).mono ?_
      rintro e w1 ⟨rfl, rfl⟩
      go_wp2
      go_ret
      refine ⟨ret_bool ?_, (by repeat (first | assumption | exact Pure.refl _ | refine Pure.drewN ?_ _ | refine Pure.drew ?_ | refine Pure.alloc ?_ _ | refine Pure.setCell ?_ (by simp <;> omega) _))⟩
      rw [Bool.eq_iff_iff, HB.out]
      have t1 := HA.out; have t2 := HR.out
      simp only [true_iff, beq_iff_eq, CdOk, Reg, Word, true_and, true_or, or_true] at *
      first | omega | (constructor <;> intro h <;> omega)

set_option maxHeartbeats 1000000 in
theorem scv_6 (a b c : Int) (w : World) (B : Bool) (hB : B = true ↔ CdOk ⟨6, a, b, c⟩) :
    Calls Try.prog 103 #[.agg #[.int .i64 6, .int .i64 a, .int .i64 b, .int .i64 c]] w fun e w' => e = .returned (.bool B) ∧ Pure w w' := by
  have HB := Lib.hid hB; clear hB
  obtain ⟨ra, hra⟩ := regB a
  obtain ⟨rb, hrb⟩ := regB b
  obtain ⟨rc, hrc⟩ := regB c
  have HC := Lib.hid hrc; clear hrc
  have HA := Lib.hid hra; clear hra
  have HR := Lib.hid hrb; clear hrb
  cases ra
  · go_enter Try.func103, Try.ntmps103
    go_wp2_with fail
    refine (l1In_any _ _ _ _ false (by have := HA.out; simpa using this)).mono ?_
    rintro e w1 ⟨rfl, rfl⟩
    go_wp2_with fail
    refine (l1In_any _ _ _ _ rb (by have := HR.out; simpa using this)).mono ?_
    rintro e w1 ⟨rfl, rfl⟩
    go_wp2
    go_ret
    refine ⟨ret_bool ?_, (by repeat (first | assumption | exact Pure.refl _ | refine Pure.drewN ?_ _ | refine Pure.drew ?_ | refine Pure.alloc ?_ _ | refine Pure.setCell ?_ (by simp <;> omega) _))⟩
    rw [Bool.eq_iff_iff, HB.out]
    have t1 := HA.out; have t2 := HR.out; have t3 := HC.out
    simp only [Bool.false_eq_true, false_iff, CdOk, Reg, Word, true_and, true_or] at *
    first | omega | (constructor <;> intro h <;> omega)
  · cases rb
    · go_enter Try.func103, Try.ntmps103
      go_wp2_with fail
      refine (l1In_any _ _ _ _ true (by have := HA.out; simpa using this)).mono ?_
      rintro e w1 ⟨rfl, rfl⟩
      go_wp2_with fail
      refine (l1In_any _ _ _ _ false (by have := HR.out; simpa using this)).mono ?_
      rintro e w1 ⟨rfl, rfl⟩
      go_wp2
      go_ret
      refine ⟨ret_bool ?_, (by repeat (first | assumption | exact Pure.refl _ | refine Pure.drewN ?_ _ | refine Pure.drew ?_ | refine Pure.alloc ?_ _ | refine Pure.setCell ?_ (by simp <;> omega) _))⟩
      rw [Bool.eq_iff_iff, HB.out]
      have t1 := HA.out; have t2 := HR.out; have t3 := HC.out
      simp only [Bool.false_eq_true, false_iff, true_iff, CdOk, Reg, Word, true_and, true_or] at *
      first | omega | (constructor <;> intro h <;> omega)
    · cases rc
      · go_enter Try.func103, Try.ntmps103
        go_wp2_with fail
        refine (l1In_any _ _ _ _ true (by have := HA.out; simpa using this)).mono ?_
        rintro e w1 ⟨rfl, rfl⟩
        go_wp2_with fail
        refine (l1In_any _ _ _ _ true (by have := HR.out; simpa using this)).mono ?_
        rintro e w1 ⟨rfl, rfl⟩
        go_wp2_with fail
        refine (l1In_any _ _ _ _ false (by have := HC.out; simpa using this)).mono ?_
        rintro e w1 ⟨rfl, rfl⟩
        go_wp2
        go_ret
        refine ⟨ret_bool ?_, (by repeat (first | assumption | exact Pure.refl _ | refine Pure.drewN ?_ _ | refine Pure.drew ?_ | refine Pure.alloc ?_ _ | refine Pure.setCell ?_ (by simp <;> omega) _))⟩
        rw [Bool.eq_iff_iff, HB.out]
        have t1 := HA.out; have t2 := HR.out; have t3 := HC.out
        simp only [Bool.false_eq_true, false_iff, true_iff, CdOk, Reg, Word, true_and, true_or] at *
        first | omega | (constructor <;> intro h <;> omega)
      · go_enter Try.func103, Try.ntmps103
        go_wp2_with fail
        refine (l1In_any _ _ _ _ true (by have := HA.out; simpa using this)).mono ?_
        rintro e w1 ⟨rfl, rfl⟩
        go_wp2_with fail
        refine (l1In_any _ _ _ _ true (by have := HR.out; simpa using this)).mono ?_
        rintro e w1 ⟨rfl, rfl⟩
        go_wp2_with fail
        refine (l1In_any _ _ _ _ true (by have := HC.out; simpa using this)).mono ?_
        rintro e w1 ⟨rfl, rfl⟩
        go_wp2
        go_ret
        refine ⟨ret_bool ?_, (by repeat (first | assumption | exact Pure.refl _ | refine Pure.drewN ?_ _ | refine Pure.drew ?_ | refine Pure.alloc ?_ _ | refine Pure.setCell ?_ (by simp <;> omega) _))⟩
        rw [Bool.eq_iff_iff, HB.out]
        have t1 := HA.out; have t2 := HR.out; have t3 := HC.out
        simp only [true_iff, CdOk, Reg, Word, true_and, true_or] at *
        first | omega | (constructor <;> intro h <;> omega)

set_option maxHeartbeats 1000000 in
theorem scv_7 (a b c : Int) (w : World) (B : Bool) (hB : B = true ↔ CdOk ⟨7, a, b, c⟩) :
    Calls Try.prog 103 #[.agg #[.int .i64 7, .int .i64 a, .int .i64 b, .int .i64 c]] w fun e w' => e = .returned (.bool B) ∧ Pure w w' := by
  have HB := Lib.hid hB; clear hB
  obtain ⟨ra, hra⟩ := regB a
  obtain ⟨rb, hrb⟩ := regB b
  obtain ⟨rc, hrc⟩ := regB c
  have HC := Lib.hid hrc; clear hrc
  have HA := Lib.hid hra; clear hra
  have HR := Lib.hid hrb; clear hrb
  cases ra
  · go_enter Try.func103, Try.ntmps103
    go_wp2_with fail
    refine (l1In_any _ _ _ _ false (by have := HA.out; simpa using this)).mono ?_
    rintro e w1 ⟨rfl, rfl⟩
    go_wp2_with fail
    refine (l1In_any _ _ _ _ rb (by have := HR.out; simpa using this)).mono ?_
    rintro e w1 ⟨rfl, rfl⟩
    go_wp2
    go_ret
    refine ⟨ret_bool ?_, (by repeat (first | assumption | exact Pure.refl _ | refine Pure.drewN ?_ _ | refine Pure.drew ?_ | refine Pure.alloc ?_ _ | refine Pure.setCell ?_ (by simp <;> omega) _))⟩
    rw [Bool.eq_iff_iff, HB.out]
    have t1 := HA.out; have t2 := HR.out; have t3 := HC.out
    simp only [Bool.false_eq_true, false_iff, CdOk, Reg, Word, true_and, or_true] at *
    first | omega | (constructor <;> intro h <;> omega)
  · cases rb
    · go_enter Try.func103, Try.ntmps103
      go_wp2_with fail
      refine (l1In_any _ _ _ _ true (by have := HA.out; simpa using this)).mono ?_
      rintro e w1 ⟨rfl, rfl⟩
      go_wp2_with fail
      refine (l1In_any _ _ _ _ false (by have := HR.out; simpa using this)).mono ?_
      rintro e w1 ⟨rfl, rfl⟩
      go_wp2
      go_ret
      refine ⟨ret_bool ?_, (by repeat (first | assumption | exact Pure.refl _ | refine Pure.drewN ?_ _ | refine Pure.drew ?_ | refine Pure.alloc ?_ _ | refine Pure.setCell ?_ (by simp <;> omega) _))⟩
      rw [Bool.eq_iff_iff, HB.out]
      have t1 := HA.out; have t2 := HR.out; have t3 := HC.out
      simp only [Bool.false_eq_true, false_iff, true_iff, CdOk, Reg, Word, true_and, or_true] at *
      first | omega | (constructor <;> intro h <;> omega)
    · cases rc
      · go_enter Try.func103, Try.ntmps103
        go_wp2_with fail
        refine (l1In_any _ _ _ _ true (by have := HA.out; simpa using this)).mono ?_
        rintro e w1 ⟨rfl, rfl⟩
        go_wp2_with fail
        refine (l1In_any _ _ _ _ true (by have := HR.out; simpa using this)).mono ?_
        rintro e w1 ⟨rfl, rfl⟩
        go_wp2_with fail
        refine (l1In_any _ _ _ _ false (by have := HC.out; simpa using this)).mono ?_
        rintro e w1 ⟨rfl, rfl⟩
        go_wp2
        go_ret
        refine ⟨ret_bool ?_, (by repeat (first | assumption | exact Pure.refl _ | refine Pure.drewN ?_ _ | refine Pure.drew ?_ | refine Pure.alloc ?_ _ | refine Pure.setCell ?_ (by simp <;> omega) _))⟩
        rw [Bool.eq_iff_iff, HB.out]
        have t1 := HA.out; have t2 := HR.out; have t3 := HC.out
        simp only [Bool.false_eq_true, false_iff, true_iff, CdOk, Reg, Word, true_and, or_true] at *
        first | omega | (constructor <;> intro h <;> omega)
      · go_enter Try.func103, Try.ntmps103
        go_wp2_with fail
        refine (l1In_any _ _ _ _ true (by have := HA.out; simpa using this)).mono ?_
        rintro e w1 ⟨rfl, rfl⟩
        go_wp2_with fail
        refine (l1In_any _ _ _ _ true (by have := HR.out; simpa using this)).mono ?_
        rintro e w1 ⟨rfl, rfl⟩
        go_wp2_with fail
        refine (l1In_any _ _ _ _ true (by have := HC.out; simpa using this)).mono ?_
        rintro e w1 ⟨rfl, rfl⟩
        go_wp2
        go_ret
        refine ⟨ret_bool ?_, (by repeat (first | assumption | exact Pure.refl _ | refine Pure.drewN ?_ _ | refine Pure.drew ?_ | refine Pure.alloc ?_ _ | refine Pure.setCell ?_ (by simp <;> omega) _))⟩
        rw [Bool.eq_iff_iff, HB.out]
        have t1 := HA.out; have t2 := HR.out; have t3 := HC.out
        simp only [true_iff, CdOk, Reg, Word, true_and, or_true] at *
        first | omega | (constructor <;> intro h <;> omega)

end Go.Proofs.Ytajaonejpggcbaa
