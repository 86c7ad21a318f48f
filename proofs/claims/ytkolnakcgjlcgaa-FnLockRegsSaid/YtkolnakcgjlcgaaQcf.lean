/- Instructions, programs and memories that are drawn: any whatever, of bounded length. No condition. -/
import Derived.Test.YtkolnakcgjlcgaaQab
import Derived.Test.YtkolnakcgjlcgaaQcd
import Derived.Test.YtkolnakcgjlcgaaQce

namespace Go.Proofs.Ytkolnakcgjlcgaa
open Go.RowKit

/-- A literal that was laid before a draw is there behind it. -/
theorem lit_get {W w1 : World} {p b x t : Nat} (zs : List Int) (hg : OnlyAt p W w1) (hW : W.heap[b]? = some (.cells (zs.map (Value.int .i64)).toArray t (0, 0))) (hb : b ≠ p) (hx : x < zs.length) :
    ∃ y : Int, w1.cell? ⟨b, x, none⟩ = some (.int .i64 y) ∧ y ∈ zs := by
  refine ⟨zs[x], ?_, List.getElem_mem hx⟩
  rw [cell_of_row w1 b x _ _ _ (hg.heap hW hb)]
  simp [hx]

def PlainP (w0 w : World) (p : Nat) (vb : Value) (bs : List Int) (C : Nat) (e : Ending) (w' : World) : Prop :=
  ∃ c : Cd, e = .returned (cdv c) ∧ Rb w0 w' p vb bs C ∧ OnlyAt p w w'

theorem codeFacts {w : World} {b : Nat} {x0 x1 x2 x3 : Value} (h : w.heap[b]? = some (.cells #[x0, x1, x2, x3] 36 (0, 0))) :
    w.cell? ⟨b, 0, none⟩ = some x0 ∧ w.cell? ⟨b, 1, none⟩ = some x1 ∧ w.cell? ⟨b, 2, none⟩ = some x2 ∧ w.cell? ⟨b, 3, none⟩ = some x3 ∧ w.frozen? ⟨b, 0, none⟩ = false ∧ w.frozen? ⟨b, 1, none⟩ = false ∧ w.frozen? ⟨b, 2, none⟩ = false ∧ w.frozen? ⟨b, 3, none⟩ = false :=
  ⟨(cell_of_row w b 0 _ _ _ h).trans rfl, (cell_of_row w b 1 _ _ _ h).trans rfl, (cell_of_row w b 2 _ _ _ h).trans rfl, (cell_of_row w b 3 _ _ _ h).trans rfl, frozen_of_row w b 0 _ _ h, frozen_of_row w b 1 _ _ h, frozen_of_row w b 2 _ _ h, frozen_of_row w b 3 _ _ h⟩
theorem codeSet {w : World} {b : Nat} {x0 x1 x2 x3 : Value} (h : w.heap[b]? = some (.cells #[x0, x1, x2, x3] 36 (0, 0))) (y0 y1 y2 y3 : Value) :
    ((((w.setCell ⟨b, 0, none⟩ y0).setCell ⟨b, 1, none⟩ y1).setCell ⟨b, 2, none⟩ y2).setCell ⟨b, 3, none⟩ y3).heap[b]? = some (.cells #[y0, y1, y2, y3] 36 (0, 0)) := by
  have h1 := heap_setCell_same w b 0 _ _ y0 h
  have h2 := heap_setCell_same _ b 1 _ _ y1 h1
  have h3 := heap_setCell_same _ b 2 _ _ y2 h2
  exact heap_setCell_same _ b 3 _ _ y3 h3
theorem codeSetChg {W w : World} {p b : Nat} (h : OnlyAt p W w) (hb : W.heap.size ≤ b) (y0 y1 y2 y3 : Value) : OnlyAt p W ((((w.setCell ⟨b, 0, none⟩ y0).setCell ⟨b, 1, none⟩ y1).setCell ⟨b, 2, none⟩ y2).setCell ⟨b, 3, none⟩ y3) := by
  have c : ∀ (w : World) (i : Nat) (v : Value), Chg (fun k => k = b) w (w.setCell ⟨b, i, none⟩ v) := fun w i v => Chg.of_set w b i v rfl
  exact Chg.trans' h (((c w 0 y0).trans (c _ 1 y1)).trans ((c _ 2 y2).trans (c _ 3 y3))) (fun i hi e => by omega)
theorem Rb.codeSet {w0 w : World} {p C b : Nat} {vb : Value} {bs : List Int} (h : Rb w0 w p vb bs C) (hb : b ≠ p) (hb0 : w0.heap.size ≤ b) (y0 y1 y2 y3 : Value) : Rb w0 ((((w.setCell ⟨b, 0, none⟩ y0).setCell ⟨b, 1, none⟩ y1).setCell ⟨b, 2, none⟩ y2).setCell ⟨b, 3, none⟩ y3) p vb bs C := by
  have c : ∀ (w : World) (i : Nat) (v : Value), Chg (fun k => k = b) w (w.setCell ⟨b, i, none⟩ v) := fun w i v => Chg.of_set w b i v rfl
  exact h.chg (((c w 0 y0).trans (c _ 1 y1)).trans ((c _ 2 y2).trans (c _ 3 y3))) (fun k e => by omega) (fun e => hb e.symm)

def plainLit : List Int := [1, 1, 2, 3, 4, 5, 6, 7, 8, 9, 9, 3]
def plainT (p q : Nat) (t3 t4 t5 t6 t7 t8 t9 t10 t11 : Value) : Act := { tmps := #[.pointer (some ⟨p, 0, none⟩), undef, .pointer (some ⟨q, 0, none⟩), t3, t4, t5, t6, t7, t8, t9, t10, t11, undef, undef, undef, undef, undef, undef, undef, undef, undef, undef, undef, undef, undef, undef, undef, undef, undef, undef, undef, undef, undef, undef, undef, undef, undef, undef, undef, undef, undef, undef, undef, undef, undef], defers := [] }
structure PlainI (w0 W : World) (p C : Nat) (vb : Value) (bs : List Int) (l : Array Bool) (t3 t4 t5 t6 t7 t8 t9 t10 t11 : Value) (w : World) : Prop where
  rb : ∃ k, Rb w0 w p vb bs (C + k) ∧ k ≤ 2 ∧ (l.getD 6 false = false → k ≤ 1) ∧ (l.getD 2 false = false → k = 0)
  at_ : OnlyAt p W w
  s0 : l.getD 0 false = true → ∃ b, t4 = .slice (some ⟨b, 0, none⟩) 12 12 ∧ b ≠ p ∧ w.heap[b]? = some (.cells (plainLit.map (Value.int .i64)).toArray 3 (0, 0))
  s1 : l.getD 1 false = true → t5 = .pointer (some ⟨p, 0, none⟩)
  s2 : l.getD 2 false = true → ∃ x : Nat, x < 12 ∧ t6 = .int .i64 x
  s3 : l.getD 3 false = true → ∃ b x, x < 12 ∧ t7 = .pointer (some ⟨b, x, none⟩) ∧ b ≠ p ∧ w.heap[b]? = some (.cells (plainLit.map (Value.int .i64)).toArray 3 (0, 0))
  s4 : l.getD 4 false = true → ∃ y : Int, t8 = .int .i64 y ∧ y ∈ plainLit
  s5 : l.getD 5 false = true → t9 = .pointer (some ⟨p, 0, none⟩)
  s6 : l.getD 6 false = true → ∃ z : Nat, t10 = .int .i64 z
  s7 : l.getD 7 false = true → ∃ (y : Int) (z : Nat), t11 = .agg #[.int .i64 y, .int .i64 z, .int .i64 0, .int .i64 0] ∧ y ∈ plainLit
  s8 : l.getD 8 false = true → ∃ b, t3 = .pointer (some ⟨b, 0, none⟩) ∧ b ≠ p ∧ W.heap.size ≤ b ∧ w.heap[b]? = some (.cells #[.int .i64 0, .int .i64 0, .int .i64 0, .int .i64 0] 36 (0, 0))
def PlainF (w0 W : World) (p q C : Nat) (vb : Value) (bs : List Int) (a : Act) (w : World) : Prop :=
  ∃ (b : Nat) (t4 t5 t6 t7 t8 t9 t10 t11 : Value) (y : Int) (z : Nat), a = plainT p q (.pointer (some ⟨b, 0, none⟩)) t4 t5 t6 t7 t8 t9 t10 t11 ∧ Rb w0 w p vb bs (C + 2) ∧ OnlyAt p W w ∧ b ≠ p ∧ W.heap.size ≤ b ∧
    w.heap[b]? = some (.cells #[.int .i64 y, .int .i64 z, .int .i64 0, .int .i64 0] 36 (0, 0)) ∧ y ∈ plainLit
def PlainInv (w0 W : World) (p q C : Nat) (vb : Value) (bs : List Int) (l : Array Bool) (a : Act) (w : World) : Prop :=
  l.size = 10 ∧ ((l.getD 9 false = false ∧ ∃ t3 t4 t5 t6 t7 t8 t9 t10 t11, a = plainT p q t3 t4 t5 t6 t7 t8 t9 t10 t11 ∧ PlainI w0 W p C vb bs l t3 t4 t5 t6 t7 t8 t9 t10 t11 w) ∨ ((∀ j, j < 10 → l.getD j false = true) ∧ PlainF w0 W p q C vb bs a w))
theorem getD_setS (l : Array Bool) (i j : Nat) (h : (l.setIfInBounds i true).getD j false = true) (hij : i ≠ j) : l.getD j false = true := (getD_setB l i j h).resolve_right hij
theorem getD_setF (l : Array Bool) (i j : Nat) (hij : i ≠ j) : (l.setIfInBounds i true).getD j false = l.getD j false := by
  rw [Array.getD_eq_getD_getElem?, Array.getElem?_setIfInBounds_ne hij, ← Array.getD_eq_getD_getElem?]
theorem getD_setT (l : Array Bool) (i : Nat) (h : i < l.size) : (l.setIfInBounds i true).getD i false = true := by
  rw [Array.getD_eq_getD_getElem?, Array.getElem?_setIfInBounds_self_of_lt h]; rfl

section
variable {w0 W w w' : World} {p C : Nat} {vb : Value} {bs : List Int} {l : Array Bool} {t3 t4 t5 t6 t7 t8 t9 t10 t11 : Value}
theorem PlainI.world (h : PlainI w0 W p C vb bs l t3 t4 t5 t6 t7 t8 t9 t10 t11 w) (hg : OnlyAt p w w') (hrb : ∃ k, Rb w0 w' p vb bs (C + k) ∧ k ≤ 2 ∧ (l.getD 6 false = false → k ≤ 1) ∧ (l.getD 2 false = false → k = 0)) : PlainI w0 W p C vb bs l t3 t4 t5 t6 t7 t8 t9 t10 t11 w' :=
  ⟨hrb, h.at_.trans hg, fun e => (h.s0 e).imp fun b x => ⟨x.1, x.2.1, hg.heap x.2.2 x.2.1⟩, h.s1, h.s2, fun e => by obtain ⟨b, x, h1, h2, h3, h4⟩ := h.s3 e; exact ⟨b, x, h1, h2, h3, hg.heap h4 h3⟩, h.s4, h.s5, h.s6, h.s7, fun e => by obtain ⟨b, h1, h2, h3, h4⟩ := h.s8 e; exact ⟨b, h1, h2, h3, hg.heap h4 h2⟩⟩
theorem PlainI.keep (h : PlainI w0 W p C vb bs l t3 t4 t5 t6 t7 t8 t9 t10 t11 w) (hp : Pure w w') : PlainI w0 W p C vb bs l t3 t4 t5 t6 t7 t8 t9 t10 t11 w' :=
  h.world (Chg.of_pure hp) (h.rb.imp fun _k x => ⟨x.1.keep hp, x.2⟩)
theorem PlainI.set0 {v : Value} (h : PlainI w0 W p C vb bs l t3 t4 t5 t6 t7 t8 t9 t10 t11 w) (hv : ∃ b, v = .slice (some ⟨b, 0, none⟩) 12 12 ∧ b ≠ p ∧ w.heap[b]? = some (.cells (plainLit.map (Value.int .i64)).toArray 3 (0, 0))) : PlainI w0 W p C vb bs (l.setIfInBounds 0 true) t3 v t5 t6 t7 t8 t9 t10 t11 w := by
  refine ⟨h.rb.imp fun k x => ⟨x.1, x.2.1, fun e => x.2.2.1 ((getD_setF l 0 6 (by decide)).symm.trans e), fun e => x.2.2.2 ((getD_setF l 0 2 (by decide)).symm.trans e)⟩, h.at_, fun _ => hv, fun e => h.s1 (getD_setS l 0 1 e (by decide)), fun e => h.s2 (getD_setS l 0 2 e (by decide)), fun e => h.s3 (getD_setS l 0 3 e (by decide)), fun e => h.s4 (getD_setS l 0 4 e (by decide)), fun e => h.s5 (getD_setS l 0 5 e (by decide)), fun e => h.s6 (getD_setS l 0 6 e (by decide)), fun e => h.s7 (getD_setS l 0 7 e (by decide)), fun e => h.s8 (getD_setS l 0 8 e (by decide))⟩
theorem PlainI.set1 {v : Value} (h : PlainI w0 W p C vb bs l t3 t4 t5 t6 t7 t8 t9 t10 t11 w) (hv : v = .pointer (some ⟨p, 0, none⟩)) : PlainI w0 W p C vb bs (l.setIfInBounds 1 true) t3 t4 v t6 t7 t8 t9 t10 t11 w := by
  refine ⟨h.rb.imp fun k x => ⟨x.1, x.2.1, fun e => x.2.2.1 ((getD_setF l 1 6 (by decide)).symm.trans e), fun e => x.2.2.2 ((getD_setF l 1 2 (by decide)).symm.trans e)⟩, h.at_, fun e => h.s0 (getD_setS l 1 0 e (by decide)), fun _ => hv, fun e => h.s2 (getD_setS l 1 2 e (by decide)), fun e => h.s3 (getD_setS l 1 3 e (by decide)), fun e => h.s4 (getD_setS l 1 4 e (by decide)), fun e => h.s5 (getD_setS l 1 5 e (by decide)), fun e => h.s6 (getD_setS l 1 6 e (by decide)), fun e => h.s7 (getD_setS l 1 7 e (by decide)), fun e => h.s8 (getD_setS l 1 8 e (by decide))⟩
theorem PlainI.set2 {v : Value} (h : PlainI w0 W p C vb bs l t3 t4 t5 t6 t7 t8 t9 t10 t11 w) (hsz : l.size = 10) (hg : OnlyAt p w w') (hrb : Rb w0 w' p vb bs (C + 1)) (hv : ∃ x : Nat, x < 12 ∧ v = .int .i64 x) : PlainI w0 W p C vb bs (l.setIfInBounds 2 true) t3 t4 t5 v t7 t8 t9 t10 t11 w' :=
  ⟨⟨1, hrb, by omega, fun _ => by omega, fun e => by rw [getD_setT l 2 (by omega)] at e; cases e⟩, h.at_.trans hg, fun e => by obtain ⟨b, h1, h2, h3⟩ := h.s0 (getD_setS l 2 0 e (by decide)); exact ⟨b, h1, h2, hg.heap h3 h2⟩, fun e => h.s1 (getD_setS l 2 1 e (by decide)), fun _ => hv, fun e => by obtain ⟨b, x, h1, h2, h3, h4⟩ := h.s3 (getD_setS l 2 3 e (by decide)); exact ⟨b, x, h1, h2, h3, hg.heap h4 h3⟩, fun e => h.s4 (getD_setS l 2 4 e (by decide)), fun e => h.s5 (getD_setS l 2 5 e (by decide)), fun e => h.s6 (getD_setS l 2 6 e (by decide)), fun e => h.s7 (getD_setS l 2 7 e (by decide)), fun e => by obtain ⟨b, h1, h2, h3, h4⟩ := h.s8 (getD_setS l 2 8 e (by decide)); exact ⟨b, h1, h2, h3, hg.heap h4 h2⟩⟩
theorem PlainI.set3 {v : Value} (h : PlainI w0 W p C vb bs l t3 t4 t5 t6 t7 t8 t9 t10 t11 w) (hv : ∃ b x, x < 12 ∧ v = .pointer (some ⟨b, x, none⟩) ∧ b ≠ p ∧ w.heap[b]? = some (.cells (plainLit.map (Value.int .i64)).toArray 3 (0, 0))) : PlainI w0 W p C vb bs (l.setIfInBounds 3 true) t3 t4 t5 t6 v t8 t9 t10 t11 w := by
  refine ⟨h.rb.imp fun k x => ⟨x.1, x.2.1, fun e => x.2.2.1 ((getD_setF l 3 6 (by decide)).symm.trans e), fun e => x.2.2.2 ((getD_setF l 3 2 (by decide)).symm.trans e)⟩, h.at_, fun e => h.s0 (getD_setS l 3 0 e (by decide)), fun e => h.s1 (getD_setS l 3 1 e (by decide)), fun e => h.s2 (getD_setS l 3 2 e (by decide)), fun _ => hv, fun e => h.s4 (getD_setS l 3 4 e (by decide)), fun e => h.s5 (getD_setS l 3 5 e (by decide)), fun e => h.s6 (getD_setS l 3 6 e (by decide)), fun e => h.s7 (getD_setS l 3 7 e (by decide)), fun e => h.s8 (getD_setS l 3 8 e (by decide))⟩
theorem PlainI.set4 {v : Value} (h : PlainI w0 W p C vb bs l t3 t4 t5 t6 t7 t8 t9 t10 t11 w) (hv : ∃ y : Int, v = .int .i64 y ∧ y ∈ plainLit) : PlainI w0 W p C vb bs (l.setIfInBounds 4 true) t3 t4 t5 t6 t7 v t9 t10 t11 w := by
  refine ⟨h.rb.imp fun k x => ⟨x.1, x.2.1, fun e => x.2.2.1 ((getD_setF l 4 6 (by decide)).symm.trans e), fun e => x.2.2.2 ((getD_setF l 4 2 (by decide)).symm.trans e)⟩, h.at_, fun e => h.s0 (getD_setS l 4 0 e (by decide)), fun e => h.s1 (getD_setS l 4 1 e (by decide)), fun e => h.s2 (getD_setS l 4 2 e (by decide)), fun e => h.s3 (getD_setS l 4 3 e (by decide)), fun _ => hv, fun e => h.s5 (getD_setS l 4 5 e (by decide)), fun e => h.s6 (getD_setS l 4 6 e (by decide)), fun e => h.s7 (getD_setS l 4 7 e (by decide)), fun e => h.s8 (getD_setS l 4 8 e (by decide))⟩
theorem PlainI.set5 {v : Value} (h : PlainI w0 W p C vb bs l t3 t4 t5 t6 t7 t8 t9 t10 t11 w) (hv : v = .pointer (some ⟨p, 0, none⟩)) : PlainI w0 W p C vb bs (l.setIfInBounds 5 true) t3 t4 t5 t6 t7 t8 v t10 t11 w := by
  refine ⟨h.rb.imp fun k x => ⟨x.1, x.2.1, fun e => x.2.2.1 ((getD_setF l 5 6 (by decide)).symm.trans e), fun e => x.2.2.2 ((getD_setF l 5 2 (by decide)).symm.trans e)⟩, h.at_, fun e => h.s0 (getD_setS l 5 0 e (by decide)), fun e => h.s1 (getD_setS l 5 1 e (by decide)), fun e => h.s2 (getD_setS l 5 2 e (by decide)), fun e => h.s3 (getD_setS l 5 3 e (by decide)), fun e => h.s4 (getD_setS l 5 4 e (by decide)), fun _ => hv, fun e => h.s6 (getD_setS l 5 6 e (by decide)), fun e => h.s7 (getD_setS l 5 7 e (by decide)), fun e => h.s8 (getD_setS l 5 8 e (by decide))⟩
theorem PlainI.set6 {v : Value} (h : PlainI w0 W p C vb bs l t3 t4 t5 t6 t7 t8 t9 t10 t11 w) (hsz : l.size = 10) (h2 : l.getD 2 false = true) (hg : OnlyAt p w w') (hrb : Rb w0 w' p vb bs (C + 2)) (hv : ∃ z : Nat, v = .int .i64 z) : PlainI w0 W p C vb bs (l.setIfInBounds 6 true) t3 t4 t5 t6 t7 t8 t9 v t11 w' :=
  ⟨⟨2, hrb, by omega, fun e => absurd e (by rw [getD_setT l 6 (by omega)]; simp), fun e => absurd e (by rw [getD_setF l 6 2 (by decide), h2]; simp)⟩, h.at_.trans hg, fun e => by obtain ⟨b, h1, h2, h3⟩ := h.s0 (getD_setS l 6 0 e (by decide)); exact ⟨b, h1, h2, hg.heap h3 h2⟩, fun e => h.s1 (getD_setS l 6 1 e (by decide)), fun e => h.s2 (getD_setS l 6 2 e (by decide)), fun e => by obtain ⟨b, x, h1, h2, h3, h4⟩ := h.s3 (getD_setS l 6 3 e (by decide)); exact ⟨b, x, h1, h2, h3, hg.heap h4 h3⟩, fun e => h.s4 (getD_setS l 6 4 e (by decide)), fun e => h.s5 (getD_setS l 6 5 e (by decide)), fun _ => hv, fun e => h.s7 (getD_setS l 6 7 e (by decide)), fun e => by obtain ⟨b, h1, h2, h3, h4⟩ := h.s8 (getD_setS l 6 8 e (by decide)); exact ⟨b, h1, h2, h3, hg.heap h4 h2⟩⟩
theorem PlainI.set7 {v : Value} (h : PlainI w0 W p C vb bs l t3 t4 t5 t6 t7 t8 t9 t10 t11 w) (hv : ∃ (y : Int) (z : Nat), v = .agg #[.int .i64 y, .int .i64 z, .int .i64 0, .int .i64 0] ∧ y ∈ plainLit) : PlainI w0 W p C vb bs (l.setIfInBounds 7 true) t3 t4 t5 t6 t7 t8 t9 t10 v w := by
  refine ⟨h.rb.imp fun k x => ⟨x.1, x.2.1, fun e => x.2.2.1 ((getD_setF l 7 6 (by decide)).symm.trans e), fun e => x.2.2.2 ((getD_setF l 7 2 (by decide)).symm.trans e)⟩, h.at_, fun e => h.s0 (getD_setS l 7 0 e (by decide)), fun e => h.s1 (getD_setS l 7 1 e (by decide)), fun e => h.s2 (getD_setS l 7 2 e (by decide)), fun e => h.s3 (getD_setS l 7 3 e (by decide)), fun e => h.s4 (getD_setS l 7 4 e (by decide)), fun e => h.s5 (getD_setS l 7 5 e (by decide)), fun e => h.s6 (getD_setS l 7 6 e (by decide)), fun _ => hv, fun e => h.s8 (getD_setS l 7 8 e (by decide))⟩
theorem PlainI.set8 {v : Value} (h : PlainI w0 W p C vb bs l t3 t4 t5 t6 t7 t8 t9 t10 t11 w) (hv : ∃ b, v = .pointer (some ⟨b, 0, none⟩) ∧ b ≠ p ∧ W.heap.size ≤ b ∧ w.heap[b]? = some (.cells #[.int .i64 0, .int .i64 0, .int .i64 0, .int .i64 0] 36 (0, 0))) : PlainI w0 W p C vb bs (l.setIfInBounds 8 true) v t4 t5 t6 t7 t8 t9 t10 t11 w := by
  refine ⟨h.rb.imp fun k x => ⟨x.1, x.2.1, fun e => x.2.2.1 ((getD_setF l 8 6 (by decide)).symm.trans e), fun e => x.2.2.2 ((getD_setF l 8 2 (by decide)).symm.trans e)⟩, h.at_, fun e => h.s0 (getD_setS l 8 0 e (by decide)), fun e => h.s1 (getD_setS l 8 1 e (by decide)), fun e => h.s2 (getD_setS l 8 2 e (by decide)), fun e => h.s3 (getD_setS l 8 3 e (by decide)), fun e => h.s4 (getD_setS l 8 4 e (by decide)), fun e => h.s5 (getD_setS l 8 5 e (by decide)), fun e => h.s6 (getD_setS l 8 6 e (by decide)), fun e => h.s7 (getD_setS l 8 7 e (by decide)), fun _ => hv⟩
end

set_option maxHeartbeats 4000000 in
set_option maxRecDepth 100000 in
theorem plain_any (w0 w : World) (p C : Nat) (vb : Value) (bs : List Int) (h : Rb w0 w p vb bs C) (hc : C ≤ 1099511627000) :
    Calls Try.prog 101 #[.pointer (some ⟨p, 0, none⟩)] w (PlainP w0 w p vb bs (C + 10)) := by
  have H := Lib.hid h
  have hpl := h.lt
  clear h
  go_enter Try.func101, Try.ntmps101
  go_wp2
  refine region_inv (by kernel_rfl) (PlainInv w0 (w.alloc (.cells #[.int .i64 0, .int .i64 0, .int .i64 0, .int .i64 0] 36)) p w.heap.size C vb bs) ?_ ?_ ?_
  · refine ⟨rfl, .inl ⟨rfl, undef, undef, undef, undef, undef, undef, undef, undef, undef, rfl, ?_⟩⟩
    exact ⟨⟨0, H.out.keep (by exact (by repeat (first | assumption | exact Pure.refl _ | refine Pure.drewN ?_ _ | refine Pure.drew ?_ | refine Pure.alloc ?_ _ | refine Pure.setCell ?_ (by simp <;> omega) _))), by omega, fun _ => by omega, fun _ => rfl⟩, Chg.of_pure (by exact (by repeat (first | assumption | exact Pure.refl _ | refine Pure.drewN ?_ _ | refine Pure.drew ?_ | refine Pure.alloc ?_ _ | refine Pure.setCell ?_ (by simp <;> omega) _))), fun h => (by cases h), fun h => (by cases h), fun h => (by cases h), fun h => (by cases h), fun h => (by cases h), fun h => (by cases h), fun h => (by cases h), fun h => (by cases h), fun h => (by cases h)⟩
  · intro l a w1 hinv hr
    obtain ⟨hsz, hinv⟩ := hinv
    have hall := ready_nil (by kernel_rfl) hsz hr
    have hF : PlainF w0 (w.alloc (.cells #[.int .i64 0, .int .i64 0, .int .i64 0, .int .i64 0] 36)) p w.heap.size C vb bs a w1 := by
      rcases hinv with hinv | hinv
      · exfalso
        have := hall 9 (by decide)
        rw [hinv.1] at this; cases this
      · exact hinv.2
    obtain ⟨b, t4, t5, t6, t7, t8, t9, t10, t11, y, z, rfl, hrb, hat, hb, hW, hh, hym⟩ := hF
    clear hinv hall hsz hr
    unfold plainT
    have HRB := Lib.hid hrb
    have HAT := Lib.hid hat
    have HH := Lib.hid hh
    have hz : w1.heap[w.heap.size]? = some (.cells #[.int .i64 0, .int .i64 0, .int .i64 0, .int .i64 0] 36 (0, 0)) := hat.heap (heap_alloc_new w _) (by omega)
    have HZ := Lib.hid hz
    simp at hW
    clear hrb hat
    simp only [plainLit, List.mem_cons, List.not_mem_nil, or_false] at hym
    obtain ⟨c0, c1, c2, c3, f0, f1, f2, f3⟩ := codeFacts hh
    clear hh hz
    have hy9 : y = 1 ∨ y = 2 ∨ y = 3 ∨ y = 4 ∨ y = 5 ∨ y = 6 ∨ y = 7 ∨ y = 8 ∨ y = 9 := by omega
    clear hym
    rcases hy9 with rfl | rfl | rfl | rfl | rfl | rfl | rfl | rfl | rfl
    · go_wp2_with fail
      refine (pick_t w0 _ p (C + 2) vb bs 5 5 rfl (HRB.out.keep (by exact (by repeat (first | assumption | exact Pure.refl _ | refine Pure.drewN ?_ _ | refine Pure.drew ?_ | refine Pure.alloc ?_ _ | refine Pure.setCell ?_ (by simp <;> omega) _)))) (by omega) (by decide) (by decide)).mono ?_
      rintro e wa ⟨xwa, rfl, hxwa, hrwa, hgwa⟩
      have HRwa := Lib.hid hrwa
      have HGwa := Lib.hid hgwa
      clear hrwa hgwa
      go_wp2_with fail
      refine (pick_t w0 _ p (C + 3) vb bs 256 256 rfl (HRwa.out.keep (by exact (by repeat (first | assumption | exact Pure.refl _ | refine Pure.drewN ?_ _ | refine Pure.drew ?_ | refine Pure.alloc ?_ _ | refine Pure.setCell ?_ (by simp <;> omega) _)))) (by omega) (by decide) (by decide)).mono ?_
      rintro e wb ⟨xwb, rfl, hxwb, hrwb, hgwb⟩
      have HRwb := Lib.hid hrwb
      have HGwb := Lib.hid hgwb
      clear hrwb hgwb
      have hlit := heap_alloc_new wb (.cells #[.int .i64 (xwa : Int), .int .i64 (xwb : Int)] 3)
      have hpl2 : p < wb.heap.size := HRwb.out.lt
      have hba := (Chg.of_pure (S := fun _ => False) (show Pure wb (wb.alloc (.cells #[.int .i64 (xwa : Int), .int .i64 (xwb : Int)] 3)) from (by repeat (first | assumption | exact Pure.refl _ | refine Pure.drewN ?_ _ | refine Pure.drew ?_ | refine Pure.alloc ?_ _ | refine Pure.setCell ?_ (by simp <;> omega) _)))).heap (HGwb.out.heap (HGwa.out.heap HH.out hb) hb) id
      have hqa := (Chg.of_pure (S := fun _ => False) (show Pure wb (wb.alloc (.cells #[.int .i64 (xwa : Int), .int .i64 (xwb : Int)] 3)) from (by repeat (first | assumption | exact Pure.refl _ | refine Pure.drewN ?_ _ | refine Pure.drew ?_ | refine Pure.alloc ?_ _ | refine Pure.setCell ?_ (by simp <;> omega) _)))).heap (HGwb.out.heap (HGwa.out.heap HZ.out (by omega)) (by omega)) id
      have HBA := Lib.hid hba
      have HQA := Lib.hid hqa
      have HLIT := Lib.hid hlit
      clear hba hqa hlit
      go_wp2_with fail
      refine (pick_t w0 _ p (C + 4) vb bs 2 2 rfl (HRwb.out.keep (by exact (by repeat (first | assumption | exact Pure.refl _ | refine Pure.drewN ?_ _ | refine Pure.drew ?_ | refine Pure.alloc ?_ _ | refine Pure.setCell ?_ (by simp <;> omega) _)))) (by omega) (by decide) (by decide)).mono ?_
      rintro e wc ⟨xwc, rfl, hxwc, hrwc, hgwc⟩
      obtain ⟨y, hy, _⟩ := lit_get [(xwa : Int), (xwb : Int)] hgwc HLIT.out (by omega) hxwc
      have HRwc := Lib.hid hrwc
      have HGwc := Lib.hid hgwc
      clear hrwc hgwc
      have hbc := HGwc.out.heap HBA.out hb
      obtain ⟨u0, u1, u2, u3, v0, v1, v2, v3⟩ := codeFacts hbc
      have hqc := HGwc.out.heap HQA.out (by omega)
      have hb3 := heap_setCell_same wc b 2 _ _ (.int .i64 y) hbc
      have hq3 := (Chg.of_set (S := fun k => k = b) wc b 2 (.int .i64 y) rfl).heap hqc (by omega)
      obtain ⟨d0, d1, d2, d3, _, _, _, _⟩ := codeFacts hb3
      obtain ⟨e0, e1, e2, e3, g0, g1, g2, g3⟩ := codeFacts hq3
      have hq4 := codeSet hq3 (.int .i64 1) (.int .i64 z) (.int .i64 y) (.int .i64 0)
      obtain ⟨k0, k1, k2, k3, _, _, _, _⟩ := codeFacts hq4
      have HRBF := Lib.hid ((HRwc.out.chg (Chg.of_set (S := fun k => k = b) wc b 2 (.int .i64 y) rfl) (fun k e => by have := H.out.pure.size; omega) (fun e => hb e.symm)).codeSet (b := w.heap.size) (by omega) H.out.pure.size (.int .i64 1) (.int .i64 z) (.int .i64 y) (.int .i64 0))
      have HATF := Lib.hid (codeSetChg (b := w.heap.size) (Chg.trans' (((((Chg.of_pure (S := fun k => k = p) (show Pure w (w.alloc (.cells #[.int .i64 0, .int .i64 0, .int .i64 0, .int .i64 0] 36)) from (by repeat (first | assumption | exact Pure.refl _ | refine Pure.drewN ?_ _ | refine Pure.drew ?_ | refine Pure.alloc ?_ _ | refine Pure.setCell ?_ (by simp <;> omega) _)))).trans HAT.out).trans HGwa.out).trans HGwb.out).trans ((Chg.of_pure (show Pure wb (wb.alloc (.cells #[.int .i64 (xwa : Int), .int .i64 (xwb : Int)] 3)) from (by repeat (first | assumption | exact Pure.refl _ | refine Pure.drewN ?_ _ | refine Pure.drew ?_ | refine Pure.alloc ?_ _ | refine Pure.setCell ?_ (by simp <;> omega) _)))).trans HGwc.out)) (Chg.of_set (S := fun k => k = b) wc b 2 (.int .i64 y) rfl) (fun i hi e => by omega)) (Nat.le_refl _) (.int .i64 1) (.int .i64 z) (.int .i64 y) (.int .i64 0))
      clear hb3 hq3 hq4
      go_wp2
      refine bodyPost_ret (v := .agg #[.int .i64 1, .int .i64 z, .int .i64 y, .int .i64 0]) (by simp [results, Try.results101, go_sem, k0, k1, k2, k3]) rfl ?_
      exact ⟨⟨1, z, y, 0⟩, rfl, HRBF.out.more (by omega), HATF.out⟩
    · have hb3 := HH.out
      have hq3 := HZ.out
      obtain ⟨d0, d1, d2, d3, _, _, _, _⟩ := codeFacts hb3
      obtain ⟨e0, e1, e2, e3, g0, g1, g2, g3⟩ := codeFacts hq3
      have hq4 := codeSet hq3 (.int .i64 2) (.int .i64 z) (.int .i64 0) (.int .i64 0)
      obtain ⟨k0, k1, k2, k3, _, _, _, _⟩ := codeFacts hq4
      have HRBF := Lib.hid ((HRB.out).codeSet (b := w.heap.size) (by omega) H.out.pure.size (.int .i64 2) (.int .i64 z) (.int .i64 0) (.int .i64 0))
      have HATF := Lib.hid (codeSetChg (b := w.heap.size) ((Chg.of_pure (S := fun k => k = p) (show Pure w (w.alloc (.cells #[.int .i64 0, .int .i64 0, .int .i64 0, .int .i64 0] 36)) from (by repeat (first | assumption | exact Pure.refl _ | refine Pure.drewN ?_ _ | refine Pure.drew ?_ | refine Pure.alloc ?_ _ | refine Pure.setCell ?_ (by simp <;> omega) _)))).trans HAT.out) (Nat.le_refl _) (.int .i64 2) (.int .i64 z) (.int .i64 0) (.int .i64 0))
      clear hb3 hq3 hq4
      go_wp2
      refine bodyPost_ret (v := .agg #[.int .i64 2, .int .i64 z, .int .i64 0, .int .i64 0]) (by simp [results, Try.results101, go_sem, k0, k1, k2, k3]) rfl ?_
      exact ⟨⟨2, z, 0, 0⟩, rfl, HRBF.out.more (by omega), HATF.out⟩
    · go_wp2_with fail
      refine (pick_t w0 _ p (C + 2) vb bs 4 4 rfl (HRB.out.keep (by exact (by repeat (first | assumption | exact Pure.refl _ | refine Pure.drewN ?_ _ | refine Pure.drew ?_ | refine Pure.alloc ?_ _ | refine Pure.setCell ?_ (by simp <;> omega) _)))) (by omega) (by decide) (by decide)).mono ?_
      rintro e wa ⟨xwa, rfl, hxwa, hrwa, hgwa⟩
      have HRwa := Lib.hid hrwa
      have HGwa := Lib.hid hgwa
      clear hrwa hgwa
      have hba := HGwa.out.heap HH.out hb
      obtain ⟨u0, u1, u2, u3, v0, v1, v2, v3⟩ := codeFacts hba
      have hqa := HGwa.out.heap HZ.out (by omega)
      have hb3 := heap_setCell_same wa b 2 _ _ (.int .i64 xwa) hba
      have hq3 := (Chg.of_set (S := fun k => k = b) wa b 2 (.int .i64 xwa) rfl).heap hqa (by omega)
      obtain ⟨d0, d1, d2, d3, _, _, _, _⟩ := codeFacts hb3
      obtain ⟨e0, e1, e2, e3, g0, g1, g2, g3⟩ := codeFacts hq3
      have hq4 := codeSet hq3 (.int .i64 3) (.int .i64 z) (.int .i64 xwa) (.int .i64 0)
      obtain ⟨k0, k1, k2, k3, _, _, _, _⟩ := codeFacts hq4
      have HRBF := Lib.hid ((HRwa.out.chg (Chg.of_set (S := fun k => k = b) wa b 2 (.int .i64 xwa) rfl) (fun k e => by have := H.out.pure.size; omega) (fun e => hb e.symm)).codeSet (b := w.heap.size) (by omega) H.out.pure.size (.int .i64 3) (.int .i64 z) (.int .i64 xwa) (.int .i64 0))
      have HATF := Lib.hid (codeSetChg (b := w.heap.size) (Chg.trans' (((Chg.of_pure (S := fun k => k = p) (show Pure w (w.alloc (.cells #[.int .i64 0, .int .i64 0, .int .i64 0, .int .i64 0] 36)) from (by repeat (first | assumption | exact Pure.refl _ | refine Pure.drewN ?_ _ | refine Pure.drew ?_ | refine Pure.alloc ?_ _ | refine Pure.setCell ?_ (by simp <;> omega) _)))).trans HAT.out).trans HGwa.out) (Chg.of_set (S := fun k => k = b) wa b 2 (.int .i64 xwa) rfl) (fun i hi e => by omega)) (Nat.le_refl _) (.int .i64 3) (.int .i64 z) (.int .i64 xwa) (.int .i64 0))
      clear hb3 hq3 hq4
      go_wp2
      refine bodyPost_ret (v := .agg #[.int .i64 3, .int .i64 z, .int .i64 xwa, .int .i64 0]) (by simp [results, Try.results101, go_sem, k0, k1, k2, k3]) rfl ?_
      exact ⟨⟨3, z, xwa, 0⟩, rfl, HRBF.out.more (by omega), HATF.out⟩
    · go_wp2_with fail
      refine (pick_t w0 _ p (C + 2) vb bs 4 4 rfl (HRB.out.keep (by exact (by repeat (first | assumption | exact Pure.refl _ | refine Pure.drewN ?_ _ | refine Pure.drew ?_ | refine Pure.alloc ?_ _ | refine Pure.setCell ?_ (by simp <;> omega) _)))) (by omega) (by decide) (by decide)).mono ?_
      rintro e wa ⟨xwa, rfl, hxwa, hrwa, hgwa⟩
      have HRwa := Lib.hid hrwa
      have HGwa := Lib.hid hgwa
      clear hrwa hgwa
      have hba := HGwa.out.heap HH.out hb
      obtain ⟨u0, u1, u2, u3, v0, v1, v2, v3⟩ := codeFacts hba
      have hqa := HGwa.out.heap HZ.out (by omega)
      have hb3 := heap_setCell_same wa b 2 _ _ (.int .i64 xwa) hba
      have hq3 := (Chg.of_set (S := fun k => k = b) wa b 2 (.int .i64 xwa) rfl).heap hqa (by omega)
      obtain ⟨d0, d1, d2, d3, _, _, _, _⟩ := codeFacts hb3
      obtain ⟨e0, e1, e2, e3, g0, g1, g2, g3⟩ := codeFacts hq3
      have hq4 := codeSet hq3 (.int .i64 4) (.int .i64 z) (.int .i64 xwa) (.int .i64 0)
      obtain ⟨k0, k1, k2, k3, _, _, _, _⟩ := codeFacts hq4
      have HRBF := Lib.hid ((HRwa.out.chg (Chg.of_set (S := fun k => k = b) wa b 2 (.int .i64 xwa) rfl) (fun k e => by have := H.out.pure.size; omega) (fun e => hb e.symm)).codeSet (b := w.heap.size) (by omega) H.out.pure.size (.int .i64 4) (.int .i64 z) (.int .i64 xwa) (.int .i64 0))
      have HATF := Lib.hid (codeSetChg (b := w.heap.size) (Chg.trans' (((Chg.of_pure (S := fun k => k = p) (show Pure w (w.alloc (.cells #[.int .i64 0, .int .i64 0, .int .i64 0, .int .i64 0] 36)) from (by repeat (first | assumption | exact Pure.refl _ | refine Pure.drewN ?_ _ | refine Pure.drew ?_ | refine Pure.alloc ?_ _ | refine Pure.setCell ?_ (by simp <;> omega) _)))).trans HAT.out).trans HGwa.out) (Chg.of_set (S := fun k => k = b) wa b 2 (.int .i64 xwa) rfl) (fun i hi e => by omega)) (Nat.le_refl _) (.int .i64 4) (.int .i64 z) (.int .i64 xwa) (.int .i64 0))
      clear hb3 hq3 hq4
      go_wp2
      refine bodyPost_ret (v := .agg #[.int .i64 4, .int .i64 z, .int .i64 xwa, .int .i64 0]) (by simp [results, Try.results101, go_sem, k0, k1, k2, k3]) rfl ?_
      exact ⟨⟨4, z, xwa, 0⟩, rfl, HRBF.out.more (by omega), HATF.out⟩
    · go_wp2_with fail
      refine (pick_t w0 _ p (C + 2) vb bs 4 4 rfl (HRB.out.keep (by exact (by repeat (first | assumption | exact Pure.refl _ | refine Pure.drewN ?_ _ | refine Pure.drew ?_ | refine Pure.alloc ?_ _ | refine Pure.setCell ?_ (by simp <;> omega) _)))) (by omega) (by decide) (by decide)).mono ?_
      rintro e wa ⟨xwa, rfl, hxwa, hrwa, hgwa⟩
      have HRwa := Lib.hid hrwa
      have HGwa := Lib.hid hgwa
      clear hrwa hgwa
      have hba := HGwa.out.heap HH.out hb
      obtain ⟨u0, u1, u2, u3, v0, v1, v2, v3⟩ := codeFacts hba
      have hqa := HGwa.out.heap HZ.out (by omega)
      have hb3 := heap_setCell_same wa b 2 _ _ (.int .i64 xwa) hba
      have hq3 := (Chg.of_set (S := fun k => k = b) wa b 2 (.int .i64 xwa) rfl).heap hqa (by omega)
      obtain ⟨d0, d1, d2, d3, _, _, _, _⟩ := codeFacts hb3
      obtain ⟨e0, e1, e2, e3, g0, g1, g2, g3⟩ := codeFacts hq3
      have hq4 := codeSet hq3 (.int .i64 5) (.int .i64 z) (.int .i64 xwa) (.int .i64 0)
      obtain ⟨k0, k1, k2, k3, _, _, _, _⟩ := codeFacts hq4
      have HRBF := Lib.hid ((HRwa.out.chg (Chg.of_set (S := fun k => k = b) wa b 2 (.int .i64 xwa) rfl) (fun k e => by have := H.out.pure.size; omega) (fun e => hb e.symm)).codeSet (b := w.heap.size) (by omega) H.out.pure.size (.int .i64 5) (.int .i64 z) (.int .i64 xwa) (.int .i64 0))
      have HATF := Lib.hid (codeSetChg (b := w.heap.size) (Chg.trans' (((Chg.of_pure (S := fun k => k = p) (show Pure w (w.alloc (.cells #[.int .i64 0, .int .i64 0, .int .i64 0, .int .i64 0] 36)) from (by repeat (first | assumption | exact Pure.refl _ | refine Pure.drewN ?_ _ | refine Pure.drew ?_ | refine Pure.alloc ?_ _ | refine Pure.setCell ?_ (by simp <;> omega) _)))).trans HAT.out).trans HGwa.out) (Chg.of_set (S := fun k => k = b) wa b 2 (.int .i64 xwa) rfl) (fun i hi e => by omega)) (Nat.le_refl _) (.int .i64 5) (.int .i64 z) (.int .i64 xwa) (.int .i64 0))
      clear hb3 hq3 hq4
      go_wp2
      refine bodyPost_ret (v := .agg #[.int .i64 5, .int .i64 z, .int .i64 xwa, .int .i64 0]) (by simp [results, Try.results101, go_sem, k0, k1, k2, k3]) rfl ?_
      exact ⟨⟨5, z, xwa, 0⟩, rfl, HRBF.out.more (by omega), HATF.out⟩
    · go_wp2_with fail
      refine (pick_t w0 _ p (C + 2) vb bs 4 4 rfl (HRB.out.keep (by exact (by repeat (first | assumption | exact Pure.refl _ | refine Pure.drewN ?_ _ | refine Pure.drew ?_ | refine Pure.alloc ?_ _ | refine Pure.setCell ?_ (by simp <;> omega) _)))) (by omega) (by decide) (by decide)).mono ?_
      rintro e wa ⟨xwa, rfl, hxwa, hrwa, hgwa⟩
      have HRwa := Lib.hid hrwa
      have HGwa := Lib.hid hgwa
      clear hrwa hgwa
      have hba := HGwa.out.heap HH.out hb
      obtain ⟨u0, u1, u2, u3, v0, v1, v2, v3⟩ := codeFacts hba
      have hbb := heap_setCell_same wa b 2 _ _ (.int .i64 xwa) hba
      have HBB := Lib.hid hbb
      clear hba hbb
      go_wp2_with fail
      refine (pick_t w0 _ p (C + 3) vb bs 4 4 rfl (HRwa.out.chg (Chg.of_set (S := fun k => k = b) wa b 2 _ rfl) (fun k e => by have := H.out.pure.size; omega) (fun e => hb e.symm)) (by omega) (by decide) (by decide)).mono ?_
      rintro e wb ⟨xwb, rfl, hxwb, hrwb, hgwb⟩
      have HRwb := Lib.hid hrwb
      have HGwb := Lib.hid hgwb
      clear hrwb hgwb
      have hbc := HGwb.out.heap HBB.out hb
      obtain ⟨m0, m1, m2, m3, n0, n1, n2, n3⟩ := codeFacts hbc
      have hqa := HGwa.out.heap HZ.out (by omega)
      have hqb : (wa.setCell ⟨b, 2, none⟩ (.int .i64 (xwa : Int))).heap[w.heap.size]? = _ := (Chg.of_set (S := fun k => k = b) wa b 2 _ rfl).heap hqa (by omega)
      have hqc := HGwb.out.heap hqb (by omega)
      have hb3 := heap_setCell_same wb b 3 _ _ (.int .i64 xwb) hbc
      have hq3 := (Chg.of_set (S := fun k => k = b) wb b 3 (.int .i64 xwb) rfl).heap hqc (by omega)
      obtain ⟨d0, d1, d2, d3, _, _, _, _⟩ := codeFacts hb3
      obtain ⟨e0, e1, e2, e3, g0, g1, g2, g3⟩ := codeFacts hq3
      have hq4 := codeSet hq3 (.int .i64 6) (.int .i64 z) (.int .i64 xwa) (.int .i64 xwb)
      obtain ⟨k0, k1, k2, k3, _, _, _, _⟩ := codeFacts hq4
      have HRBF := Lib.hid ((HRwb.out.chg (Chg.of_set (S := fun k => k = b) wb b 3 (.int .i64 xwb) rfl) (fun k e => by have := H.out.pure.size; omega) (fun e => hb e.symm)).codeSet (b := w.heap.size) (by omega) H.out.pure.size (.int .i64 6) (.int .i64 z) (.int .i64 xwa) (.int .i64 xwb))
      have HATF := Lib.hid (codeSetChg (b := w.heap.size) (Chg.trans' ((Chg.trans' (((Chg.of_pure (S := fun k => k = p) (show Pure w (w.alloc (.cells #[.int .i64 0, .int .i64 0, .int .i64 0, .int .i64 0] 36)) from (by repeat (first | assumption | exact Pure.refl _ | refine Pure.drewN ?_ _ | refine Pure.drew ?_ | refine Pure.alloc ?_ _ | refine Pure.setCell ?_ (by simp <;> omega) _)))).trans HAT.out).trans HGwa.out) (Chg.of_set (S := fun k => k = b) wa b 2 (.int .i64 xwa) rfl) (fun i hi e => by omega)).trans HGwb.out) (Chg.of_set (S := fun k => k = b) wb b 3 (.int .i64 xwb) rfl) (fun i hi e => by omega)) (Nat.le_refl _) (.int .i64 6) (.int .i64 z) (.int .i64 xwa) (.int .i64 xwb))
      clear hb3 hq3 hq4
      go_wp2
      refine bodyPost_ret (v := .agg #[.int .i64 6, .int .i64 z, .int .i64 xwa, .int .i64 xwb]) (by simp [results, Try.results101, go_sem, k0, k1, k2, k3]) rfl ?_
      exact ⟨⟨6, z, xwa, xwb⟩, rfl, HRBF.out.more (by omega), HATF.out⟩
    · go_wp2_with fail
      refine (pick_t w0 _ p (C + 2) vb bs 4 4 rfl (HRB.out.keep (by exact (by repeat (first | assumption | exact Pure.refl _ | refine Pure.drewN ?_ _ | refine Pure.drew ?_ | refine Pure.alloc ?_ _ | refine Pure.setCell ?_ (by simp <;> omega) _)))) (by omega) (by decide) (by decide)).mono ?_
      rintro e wa ⟨xwa, rfl, hxwa, hrwa, hgwa⟩
      have HRwa := Lib.hid hrwa
      have HGwa := Lib.hid hgwa
      clear hrwa hgwa
      have hba := HGwa.out.heap HH.out hb
      obtain ⟨u0, u1, u2, u3, v0, v1, v2, v3⟩ := codeFacts hba
      have hbb := heap_setCell_same wa b 2 _ _ (.int .i64 xwa) hba
      have HBB := Lib.hid hbb
      clear hba hbb
      go_wp2_with fail
      refine (pick_t w0 _ p (C + 3) vb bs 4 4 rfl (HRwa.out.chg (Chg.of_set (S := fun k => k = b) wa b 2 _ rfl) (fun k e => by have := H.out.pure.size; omega) (fun e => hb e.symm)) (by omega) (by decide) (by decide)).mono ?_
      rintro e wb ⟨xwb, rfl, hxwb, hrwb, hgwb⟩
      have HRwb := Lib.hid hrwb
      have HGwb := Lib.hid hgwb
      clear hrwb hgwb
      have hbc := HGwb.out.heap HBB.out hb
      obtain ⟨m0, m1, m2, m3, n0, n1, n2, n3⟩ := codeFacts hbc
      have hqa := HGwa.out.heap HZ.out (by omega)
      have hqb : (wa.setCell ⟨b, 2, none⟩ (.int .i64 (xwa : Int))).heap[w.heap.size]? = _ := (Chg.of_set (S := fun k => k = b) wa b 2 _ rfl).heap hqa (by omega)
      have hqc := HGwb.out.heap hqb (by omega)
      have hb3 := heap_setCell_same wb b 3 _ _ (.int .i64 xwb) hbc
      have hq3 := (Chg.of_set (S := fun k => k = b) wb b 3 (.int .i64 xwb) rfl).heap hqc (by omega)
      obtain ⟨d0, d1, d2, d3, _, _, _, _⟩ := codeFacts hb3
      obtain ⟨e0, e1, e2, e3, g0, g1, g2, g3⟩ := codeFacts hq3
      have hq4 := codeSet hq3 (.int .i64 7) (.int .i64 z) (.int .i64 xwa) (.int .i64 xwb)
      obtain ⟨k0, k1, k2, k3, _, _, _, _⟩ := codeFacts hq4
      have HRBF := Lib.hid ((HRwb.out.chg (Chg.of_set (S := fun k => k = b) wb b 3 (.int .i64 xwb) rfl) (fun k e => by have := H.out.pure.size; omega) (fun e => hb e.symm)).codeSet (b := w.heap.size) (by omega) H.out.pure.size (.int .i64 7) (.int .i64 z) (.int .i64 xwa) (.int .i64 xwb))
      have HATF := Lib.hid (codeSetChg (b := w.heap.size) (Chg.trans' ((Chg.trans' (((Chg.of_pure (S := fun k => k = p) (show Pure w (w.alloc (.cells #[.int .i64 0, .int .i64 0, .int .i64 0, .int .i64 0] 36)) from (by repeat (first | assumption | exact Pure.refl _ | refine Pure.drewN ?_ _ | refine Pure.drew ?_ | refine Pure.alloc ?_ _ | refine Pure.setCell ?_ (by simp <;> omega) _)))).trans HAT.out).trans HGwa.out) (Chg.of_set (S := fun k => k = b) wa b 2 (.int .i64 xwa) rfl) (fun i hi e => by omega)).trans HGwb.out) (Chg.of_set (S := fun k => k = b) wb b 3 (.int .i64 xwb) rfl) (fun i hi e => by omega)) (Nat.le_refl _) (.int .i64 7) (.int .i64 z) (.int .i64 xwa) (.int .i64 xwb))
      clear hb3 hq3 hq4
      go_wp2
      refine bodyPost_ret (v := .agg #[.int .i64 7, .int .i64 z, .int .i64 xwa, .int .i64 xwb]) (by simp [results, Try.results101, go_sem, k0, k1, k2, k3]) rfl ?_
      exact ⟨⟨7, z, xwa, xwb⟩, rfl, HRBF.out.more (by omega), HATF.out⟩
    · go_wp2_with fail
      refine (pick_t w0 _ p (C + 2) vb bs 4 4 rfl (HRB.out.keep (by exact (by repeat (first | assumption | exact Pure.refl _ | refine Pure.drewN ?_ _ | refine Pure.drew ?_ | refine Pure.alloc ?_ _ | refine Pure.setCell ?_ (by simp <;> omega) _)))) (by omega) (by decide) (by decide)).mono ?_
      rintro e wa ⟨xwa, rfl, hxwa, hrwa, hgwa⟩
      have HRwa := Lib.hid hrwa
      have HGwa := Lib.hid hgwa
      clear hrwa hgwa
      have hba := HGwa.out.heap HH.out hb
      obtain ⟨u0, u1, u2, u3, v0, v1, v2, v3⟩ := codeFacts hba
      have hqa := HGwa.out.heap HZ.out (by omega)
      have hb3 := heap_setCell_same wa b 2 _ _ (.int .i64 xwa) hba
      have hq3 := (Chg.of_set (S := fun k => k = b) wa b 2 (.int .i64 xwa) rfl).heap hqa (by omega)
      obtain ⟨d0, d1, d2, d3, _, _, _, _⟩ := codeFacts hb3
      obtain ⟨e0, e1, e2, e3, g0, g1, g2, g3⟩ := codeFacts hq3
      have hq4 := codeSet hq3 (.int .i64 8) (.int .i64 z) (.int .i64 xwa) (.int .i64 0)
      obtain ⟨k0, k1, k2, k3, _, _, _, _⟩ := codeFacts hq4
      have HRBF := Lib.hid ((HRwa.out.chg (Chg.of_set (S := fun k => k = b) wa b 2 (.int .i64 xwa) rfl) (fun k e => by have := H.out.pure.size; omega) (fun e => hb e.symm)).codeSet (b := w.heap.size) (by omega) H.out.pure.size (.int .i64 8) (.int .i64 z) (.int .i64 xwa) (.int .i64 0))
      have HATF := Lib.hid (codeSetChg (b := w.heap.size) (Chg.trans' (((Chg.of_pure (S := fun k => k = p) (show Pure w (w.alloc (.cells #[.int .i64 0, .int .i64 0, .int .i64 0, .int .i64 0] 36)) from (by repeat (first | assumption | exact Pure.refl _ | refine Pure.drewN ?_ _ | refine Pure.drew ?_ | refine Pure.alloc ?_ _ | refine Pure.setCell ?_ (by simp <;> omega) _)))).trans HAT.out).trans HGwa.out) (Chg.of_set (S := fun k => k = b) wa b 2 (.int .i64 xwa) rfl) (fun i hi e => by omega)) (Nat.le_refl _) (.int .i64 8) (.int .i64 z) (.int .i64 xwa) (.int .i64 0))
      clear hb3 hq3 hq4
      go_wp2
      refine bodyPost_ret (v := .agg #[.int .i64 8, .int .i64 z, .int .i64 xwa, .int .i64 0]) (by simp [results, Try.results101, go_sem, k0, k1, k2, k3]) rfl ?_
      exact ⟨⟨8, z, xwa, 0⟩, rfl, HRBF.out.more (by omega), HATF.out⟩
    · go_wp2_with fail
      refine (pick_t w0 _ p (C + 2) vb bs 4 4 rfl (HRB.out.keep (by exact (by repeat (first | assumption | exact Pure.refl _ | refine Pure.drewN ?_ _ | refine Pure.drew ?_ | refine Pure.alloc ?_ _ | refine Pure.setCell ?_ (by simp <;> omega) _)))) (by omega) (by decide) (by decide)).mono ?_
      rintro e wa ⟨xwa, rfl, hxwa, hrwa, hgwa⟩
      have HRwa := Lib.hid hrwa
      have HGwa := Lib.hid hgwa
      clear hrwa hgwa
      have hba := HGwa.out.heap HH.out hb
      obtain ⟨u0, u1, u2, u3, v0, v1, v2, v3⟩ := codeFacts hba
      have hqa := HGwa.out.heap HZ.out (by omega)
      have hb3 := heap_setCell_same wa b 2 _ _ (.int .i64 xwa) hba
      have hq3 := (Chg.of_set (S := fun k => k = b) wa b 2 (.int .i64 xwa) rfl).heap hqa (by omega)
      obtain ⟨d0, d1, d2, d3, _, _, _, _⟩ := codeFacts hb3
      obtain ⟨e0, e1, e2, e3, g0, g1, g2, g3⟩ := codeFacts hq3
      have hq4 := codeSet hq3 (.int .i64 9) (.int .i64 z) (.int .i64 xwa) (.int .i64 0)
      obtain ⟨k0, k1, k2, k3, _, _, _, _⟩ := codeFacts hq4
      have HRBF := Lib.hid ((HRwa.out.chg (Chg.of_set (S := fun k => k = b) wa b 2 (.int .i64 xwa) rfl) (fun k e => by have := H.out.pure.size; omega) (fun e => hb e.symm)).codeSet (b := w.heap.size) (by omega) H.out.pure.size (.int .i64 9) (.int .i64 z) (.int .i64 xwa) (.int .i64 0))
      have HATF := Lib.hid (codeSetChg (b := w.heap.size) (Chg.trans' (((Chg.of_pure (S := fun k => k = p) (show Pure w (w.alloc (.cells #[.int .i64 0, .int .i64 0, .int .i64 0, .int .i64 0] 36)) from (by repeat (first | assumption | exact Pure.refl _ | refine Pure.drewN ?_ _ | refine Pure.drew ?_ | refine Pure.alloc ?_ _ | refine Pure.setCell ?_ (by simp <;> omega) _)))).trans HAT.out).trans HGwa.out) (Chg.of_set (S := fun k => k = b) wa b 2 (.int .i64 xwa) rfl) (fun i hi e => by omega)) (Nat.le_refl _) (.int .i64 9) (.int .i64 z) (.int .i64 xwa) (.int .i64 0))
      clear hb3 hq3 hq4
      go_wp2
      refine bodyPost_ret (v := .agg #[.int .i64 9, .int .i64 z, .int .i64 xwa, .int .i64 0]) (by simp [results, Try.results101, go_sem, k0, k1, k2, k3]) rfl ?_
      exact ⟨⟨9, z, xwa, 0⟩, rfl, HRBF.out.more (by omega), HATF.out⟩
  · intro l a w1 i o hinv ho hl hdep
    have hi : i < 10 := (Array.getElem?_eq_some_iff.1 ho).1
    obtain ⟨hsz, hinv⟩ := hinv
    have hinv : l.getD 9 false = false ∧ ∃ t3 t4 t5 t6 t7 t8 t9 t10 t11, a = plainT p w.heap.size t3 t4 t5 t6 t7 t8 t9 t10 t11 ∧ PlainI w0 (w.alloc (.cells #[.int .i64 0, .int .i64 0, .int .i64 0, .int .i64 0] 36)) p C vb bs l t3 t4 t5 t6 t7 t8 t9 t10 t11 w1 := by
      rcases hinv with hinv | hinv
      · exact hinv
      · exfalso
        have := hinv.1 i hi
        rw [Array.getD_eq_getD_getElem?] at hl this
        have h10 : i < l.size := by omega
        simp [h10] at hl this
        rw [hl] at this; cases this
    obtain ⟨h9, t3, t4, t5, t6, t7, t8, t9, t10, t11, rfl, I⟩ := hinv
    have HI := Lib.hid I
    have HD := Lib.hid hdep
    have HL := Lib.hid hl
    have H9 := Lib.hid h9
    have HSZ := Lib.hid hsz
    clear I hdep hl h9 hsz
    unfold plainT
    match i, hi with
    | 0, _ =>
      simp at ho
      subst ho
      go_wp2
      refine ⟨by simp [HSZ.out], .inl ⟨by rw [getD_setF l 0 9 (by decide)]; exact H9.out, _, _, _, _, _, _, _, _, _, rfl, (HI.out.keep (by exact (by repeat (first | assumption | exact Pure.refl _ | refine Pure.drewN ?_ _ | refine Pure.drew ?_ | refine Pure.alloc ?_ _ | refine Pure.setCell ?_ (by simp <;> omega) _)))).set0 ⟨w1.heap.size, rfl, ?_, heap_alloc_new w1 _⟩⟩⟩
      have := HI.out.at_.size
      simp at this
      omega
    | 1, _ =>
      simp at ho
      subst ho
      go_wp2
      exact ⟨by simp [HSZ.out], .inl ⟨by rw [getD_setF l 1 9 (by decide)]; exact H9.out, _, _, _, _, _, _, _, _, _, rfl, HI.out.set1 rfl⟩⟩
    | 2, _ =>
      simp at ho
      subst ho
      have e5 : t5 = .pointer (some ⟨p, 0, none⟩) := HI.out.s1 (HD.out ⟨1, .data⟩ (by simp) rfl)
      subst e5
      obtain ⟨k, hk1, hk2, hk3, hk4⟩ := HI.out.rb
      have hk0 : k = 0 := hk4 (by have := HL.out; rw [Array.getD_eq_getD_getElem?] at this ⊢; have h10 : 2 < l.size := by rw [HSZ.out]; omega
                                  simp [h10] at this ⊢; exact this)
      subst hk0
      have HRB := Lib.hid hk1
      clear hk1 hk2 hk3 hk4
      go_wp2_with fail
      refine (pick_t w0 _ p C vb bs 12 12 rfl HRB.out (by omega) (by decide) (by decide)).mono ?_
      rintro e w2 ⟨x, rfl, hx, hr, hg⟩
      have HR2 := Lib.hid hr
      have HG2 := Lib.hid hg
      clear hr hg
      go_wp2
      exact ⟨by simp [HSZ.out], .inl ⟨by rw [getD_setF l 2 9 (by decide)]; exact H9.out, _, _, _, _, _, _, _, _, _, rfl, HI.out.set2 HSZ.out HG2.out HR2.out ⟨x, hx, rfl⟩⟩⟩
    | 3, _ =>
      simp at ho
      subst ho
      obtain ⟨b, rfl, hb, hh⟩ := HI.out.s0 (HD.out ⟨0, .data⟩ (by simp) rfl)
      obtain ⟨x, hx, rfl⟩ := HI.out.s2 (HD.out ⟨2, .data⟩ (by simp) rfl)
      have HH := Lib.hid hh
      clear hh
      go_wp2
      exact ⟨by simp [HSZ.out], .inl ⟨by rw [getD_setF l 3 9 (by decide)]; exact H9.out, _, _, _, _, _, _, _, _, _, rfl, HI.out.set3 ⟨b, x, hx, rfl, hb, HH.out⟩⟩⟩
    | 4, _ =>
      simp at ho
      subst ho
      obtain ⟨b, x, hx, rfl, hb, hh⟩ := HI.out.s3 (HD.out ⟨3, .data⟩ (by simp) rfl)
      obtain ⟨y, hy, hym⟩ := lit_get (p := p) plainLit (Chg.refl _ w1) hh hb hx
      clear hh
      go_wp2
      exact ⟨by simp [HSZ.out], .inl ⟨by rw [getD_setF l 4 9 (by decide)]; exact H9.out, _, _, _, _, _, _, _, _, _, rfl, HI.out.set4 ⟨y, rfl, hym⟩⟩⟩
    | 5, _ =>
      simp at ho
      subst ho
      go_wp2
      exact ⟨by simp [HSZ.out], .inl ⟨by rw [getD_setF l 5 9 (by decide)]; exact H9.out, _, _, _, _, _, _, _, _, _, rfl, HI.out.set5 rfl⟩⟩
    | 6, _ =>
      simp at ho
      subst ho
      have e9 : t9 = .pointer (some ⟨p, 0, none⟩) := HI.out.s5 (HD.out ⟨5, .data⟩ (by simp) rfl)
      subst e9
      have H2 : Hid (l.getD 2 false = true) := Lib.hid (HD.out ⟨2, .chain⟩ (by simp) rfl)
      obtain ⟨k, hk1, hk2, hk3, hk4⟩ := HI.out.rb
      have hk0 : k ≤ 1 := hk3 (by have := HL.out; rw [Array.getD_eq_getD_getElem?] at this ⊢; have h10 : 6 < l.size := by rw [HSZ.out]; omega
                                  simp [h10] at this ⊢; exact this)
      have HRB := Lib.hid (hk1.more (show C + k ≤ C + 1 by omega))
      clear hk1 hk2 hk3 hk4
      go_wp2_with fail
      refine (pick_t w0 _ p (C + 1) vb bs 4 4 rfl HRB.out (by omega) (by decide) (by decide)).mono ?_
      rintro e w2 ⟨x, rfl, hx, hr, hg⟩
      have HR2 := Lib.hid hr
      have HG2 := Lib.hid hg
      clear hr hg
      go_wp2
      exact ⟨by simp [HSZ.out], .inl ⟨by rw [getD_setF l 6 9 (by decide)]; exact H9.out, _, _, _, _, _, _, _, _, _, rfl, HI.out.set6 HSZ.out H2.out HG2.out HR2.out ⟨x, rfl⟩⟩⟩
    | 7, _ =>
      simp at ho
      subst ho
      obtain ⟨y, rfl, hym⟩ := HI.out.s4 (HD.out ⟨4, .data⟩ (by simp) rfl)
      obtain ⟨z, rfl⟩ := HI.out.s6 (HD.out ⟨6, .data⟩ (by simp) rfl)
      go_wp2
      exact ⟨by simp [HSZ.out], .inl ⟨by rw [getD_setF l 7 9 (by decide)]; exact H9.out, _, _, _, _, _, _, _, _, _, rfl, HI.out.set7 ⟨y, z, rfl, hym⟩⟩⟩
    | 8, _ =>
      simp at ho
      subst ho
      go_wp2
      refine ⟨by simp [HSZ.out], .inl ⟨by rw [getD_setF l 8 9 (by decide)]; exact H9.out, _, _, _, _, _, _, _, _, _, rfl, (HI.out.keep (by exact (by repeat (first | assumption | exact Pure.refl _ | refine Pure.drewN ?_ _ | refine Pure.drew ?_ | refine Pure.alloc ?_ _ | refine Pure.setCell ?_ (by simp <;> omega) _)))).set8 ⟨w1.heap.size, rfl, ?_, HI.out.at_.size, heap_alloc_new w1 _⟩⟩⟩
      have := HI.out.at_.size
      simp at this
      omega
    | 9, _ =>
      simp at ho
      subst ho
      obtain ⟨b, rfl, hb, hW, hh⟩ := HI.out.s8 (HD.out ⟨8, .data⟩ (by simp) rfl)
      obtain ⟨y, z, rfl, hym⟩ := HI.out.s7 (HD.out ⟨7, .data⟩ (by simp) rfl)
      obtain ⟨k, hk1, hk2, hk3, hk4⟩ := HI.out.rb
      have HRB := Lib.hid (hk1.more (show C + k ≤ C + 2 by omega))
      clear hk1 hk2 hk3 hk4
      have HH := Lib.hid hh
      obtain ⟨c0, c1, c2, c3, f0, f1, f2, f3⟩ := codeFacts hh
      have Hall : Hid (∀ j, j < 10 → (l.setIfInBounds 9 true).getD j false = true) := Lib.hid fun j hj => by
        by_cases e : j = 9
        · subst e; exact getD_setT l 9 (by rw [HSZ.out]; omega)
        · rw [getD_setF l 9 j (by omega)]
          have : j = 0 ∨ j = 1 ∨ j = 2 ∨ j = 3 ∨ j = 4 ∨ j = 5 ∨ j = 6 ∨ j = 7 ∨ j = 8 := by omega
          rcases this with rfl | rfl | rfl | rfl | rfl | rfl | rfl | rfl | rfl
          all_goals exact HD.out ⟨_, .phase⟩ (by simp) rfl
      have HC := Lib.hid (codeSet hh (.int .i64 y) (.int .i64 z) (.int .i64 0) (.int .i64 0))
      have HRB2 := Lib.hid (HRB.out.codeSet hb (Nat.le_trans H.out.pure.size (by simp at hW; omega)) (.int .i64 y) (.int .i64 z) (.int .i64 0) (.int .i64 0))
      have HCH := Lib.hid (codeSetChg HI.out.at_ hW (.int .i64 y) (.int .i64 z) (.int .i64 0) (.int .i64 0))
      clear hh
      go_wp2
      exact ⟨by simp [HSZ.out], .inr ⟨Hall.out, b, _, _, _, _, _, _, _, _, y, z, rfl, HRB2.out, HCH.out, hb, hW, HC.out, hym⟩⟩

end Go.Proofs.Ytkolnakcgjlcgaa
