/- Worlds that differ in some blocks alone; the registers and the memory of a run, in blocks of the run's own. No condition. -/
import Derived.Test.YtokdfgodmhekmaaLock
import Derived.Test.YtokdfgodmhekmaaRes
namespace Go.Proofs.Ytokdfgodmhekmaa
open Go.RowKit

/-- w' is w, but for new blocks, draws, and the blocks of S. -/
structure Chg (S : Nat → Prop) (w w' : World) : Prop where
  os : w'.os = w.os
  tape : w'.tape = w.tape
  output : w'.output = w.output
  size : w.heap.size ≤ w'.heap.size
  block : ∀ k, k < w.heap.size → ¬ S k → w'.heap[k]? = w.heap[k]?
theorem Chg.refl (S : Nat → Prop) (w : World) : Chg S w w := ⟨rfl, rfl, rfl, Nat.le_refl _, fun _ _ _ => rfl⟩
theorem Chg.trans {S : Nat → Prop} {a b c : World} (h : Chg S a b) (k : Chg S b c) : Chg S a c :=
  ⟨k.os.trans h.os, k.tape.trans h.tape, k.output.trans h.output, Nat.le_trans h.size k.size, fun i hi hn => (k.block i (Nat.lt_of_lt_of_le hi h.size) hn).trans (h.block i hi hn)⟩
/-- The second change may also be to blocks that the first one made. -/
theorem Chg.trans' {S S' : Nat → Prop} {a b c : World} (h : Chg S a b) (k : Chg S' b c) (hS : ∀ i, i < a.heap.size → S' i → S i) : Chg S a c :=
  ⟨k.os.trans h.os, k.tape.trans h.tape, k.output.trans h.output, Nat.le_trans h.size k.size, fun i hi hn => (k.block i (Nat.lt_of_lt_of_le hi h.size) (fun hs => hn (hS i hi hs))).trans (h.block i hi hn)⟩
theorem Chg.mono {S S' : Nat → Prop} {a b : World} (h : Chg S a b) (hS : ∀ i, S i → S' i) : Chg S' a b :=
  ⟨h.os, h.tape, h.output, h.size, fun i hi hn => h.block i hi (fun hs => hn (hS i hs))⟩
theorem Chg.of_pure {S : Nat → Prop} {a b : World} (h : Pure a b) : Chg S a b := ⟨h.os, h.tape, h.output, h.size, fun i hi _ => h.below.block i hi⟩
theorem Chg.of_grown {S : Nat → Prop} {a b : World} {row : Option Nat} (h : a.grownBy b row) (hS : ∀ k, row = some k → S k) : Chg S a b :=
  ⟨h.os, h.tape, h.output, h.size, fun i hi hn => h.block i hi (fun e => hn (hS i e.symm))⟩
theorem Chg.of_set {S : Nat → Prop} (w : World) (g i : Nat) (v : Value) (hS : S g) : Chg S w (w.setCell ⟨g, i, none⟩ v) :=
  Chg.of_grown (grown_setCell w ⟨g, i, none⟩ v) (fun k hk => by injection hk with hk; subst hk; exact hS)
theorem Chg.pure {S : Nat → Prop} {w0 a b : World} (hp : Pure w0 a) (h : Chg S a b) (hS : ∀ k, S k → w0.heap.size ≤ k) : Pure w0 b :=
  ⟨h.os.trans hp.os, h.tape.trans hp.tape, h.output.trans hp.output, Nat.le_trans hp.size h.size, fun k hk => (h.block k (Nat.lt_of_lt_of_le hk hp.size) (fun hs => absurd (hS k hs) (by omega))).trans (hp.below.block k hk)⟩
theorem Chg.heap {S : Nat → Prop} {a b : World} (h : Chg S a b) {k : Nat} {o : Obj} (ho : a.heap[k]? = some o) (hn : ¬ S k) : b.heap[k]? = some o :=
  (h.block k (Array.getElem?_eq_some_iff.1 ho).1 hn).trans ho
theorem Chg.cell {S : Nat → Prop} {a b : World} (h : Chg S a b) {k i : Nat} (hk : k < a.heap.size) (hn : ¬ S k) : b.cell? ⟨k, i, none⟩ = a.cell? ⟨k, i, none⟩ :=
  World.cell?_of_block (h.block k hk hn)
theorem OwnO.chg {S : Nat → Prop} {w w' : World} {B e s n : Nat} {v : Value} {xs : List Value} (h : OwnO w B e s v n xs) (hc : Chg S w w') (hn : ∀ g, v.ownBlock = some g → ¬ S g) : OwnO w' B e s v n xs := by
  refine ⟨h.1, ?_⟩
  rcases h.2 with h | ⟨g, off, cap, cur, rfl, h1, h2, h3⟩
  · exact .inl h
  · exact .inr ⟨g, off, cap, cur, rfl, h1, hc.heap h2 (hn g rfl), h3⟩
/-- A block of one kind is none of another kind. -/
theorem ne_of_heap {w : World} {g g' e e' : Nat} {cur cur' : Array Value} (h : w.heap[g]? = some (.cells cur e (0, 0))) (h' : w.heap[g']? = some (.cells cur' e' (0, 0))) (hne : e ≠ e') : g ≠ g' := by
  rintro rfl
  rw [h] at h'
  simp only [Option.some.injEq, Obj.cells.injEq] at h'
  exact hne h'.2.1
theorem OwnO.ne_heap {w : World} {B e s n g e' : Nat} {v : Value} {xs : List Value} {cur : Array Value} (h : OwnO w B e s v n xs) (h' : w.heap[g]? = some (.cells cur e' (0, 0))) (hne : e ≠ e') : ∀ k, v.ownBlock = some k → k ≠ g := by
  intro k hk
  rcases h.2 with ⟨rfl, _⟩ | ⟨g', off, cap, cur', rfl, _, h2, _⟩
  · simp [Value.ownBlock] at hk
  · simp [Value.ownBlock] at hk
    subst hk
    exact ne_of_heap h2 h' hne

/-- Where the registers and the memory of a run lie. -/
structure RMo where
  B : Nat
  n : Nat
  m : Nat
  gr : Nat
  cr : Nat
  gm : Nat
  cm : Nat
  rows : Nat → Nat

def RMo.row (o : RMo) (k : Nat) : Value := .slice (some ⟨o.rows k, 0, none⟩) 4 4
def RMo.vr (o : RMo) : Value := .slice (some ⟨o.gr, 0, none⟩) o.n o.cr
def RMo.vm (o : RMo) : Value := .slice (some ⟨o.gm, 0, none⟩) o.m o.cm
def row4 (f : Nat → Int) : Array Value := #[.int .i64 (f 0), .int .i64 (f 1), .int .i64 (f 2), .int .i64 (f 3)]
def memL (m : Nat) (M : Nat → Int) : List Value := (List.range m).map fun j => .int .i64 (M j)
structure RM (o : RMo) (w : World) (R : Nat → Nat → Int) (M : Nat → Int) : Prop where
  n8 : o.n ≤ 8
  m1 : 1 ≤ o.m
  m32 : o.m ≤ 32
  cr1 : o.n ≤ o.cr
  cr2 : o.cr ≤ 9223372036854775807
  lo : o.B ≤ o.gr
  outer : ∃ cur : Array Value, w.heap[o.gr]? = some (.cells cur 23 (0, 0)) ∧ ∀ k, k < o.n → cur[k]? = some (o.row k)
  rlo : ∀ k, k < o.n → o.B ≤ o.rows k
  row : ∀ k, k < o.n → w.heap[o.rows k]? = some (.cells (row4 (R k)) 3 (0, 0))
  inj : ∀ k l, k < o.n → l < o.n → o.rows k = o.rows l → k = l
  mem : OwnO w o.B 3 1 o.vm o.m (memL o.m M)
  ne : ∀ k, k < o.n → o.rows k ≠ o.gm

/-- The blocks that a lane's instruction may write. -/
def RMo.lane (o : RMo) (k : Nat) : Nat → Prop := fun b => b = o.rows k ∨ b = o.gm
def RMo.own (o : RMo) : Nat → Prop := fun b => (∃ k, k < o.n ∧ b = o.rows k) ∨ b = o.gm

section
variable {o : RMo} {w w' : World} {R : Nat → Nat → Int} {M : Nat → Int}
theorem RM.chg {S : Nat → Prop} (h : RM o w R M) (hc : Chg S w w') (h1 : ¬ S o.gr) (h2 : ∀ k, k < o.n → ¬ S (o.rows k)) (h3 : ¬ S o.gm) : RM o w' R M := by
  obtain ⟨a1, a2, a3, a4, a5, a6, ⟨cur, b1, b2⟩, a8, a9, a10, a11, a12⟩ := h
  refine ⟨a1, a2, a3, a4, a5, a6, ⟨cur, hc.heap b1 h1, b2⟩, a8, fun k hk => hc.heap (a9 k hk) (h2 k hk), a10, a11.chg hc fun g hg => ?_, a12⟩
  simp [RMo.vm, Value.ownBlock] at hg
  subst hg; exact h3
theorem RM.pure (h : RM o w R M) (hp : Pure w w') : RM o w' R M := h.chg (S := fun _ => False) (Chg.of_pure hp) id (fun _ _ => id) id
theorem RM.gmlo (h : RM o w R M) : o.B ≤ o.gm ∧ o.gm < w.heap.size := h.mem.lt o.gm rfl
theorem RM.lane_lo (h : RM o w R M) {k : Nat} (hk : k < o.n) : ∀ b, o.lane k b → o.B ≤ b := by
  rintro b (rfl | rfl)
  · exact h.rlo k hk
  · exact h.gmlo.1
theorem RM.own_lo (h : RM o w R M) : ∀ b, o.own b → o.B ≤ b := by
  rintro b (⟨k, hk, rfl⟩ | rfl)
  · exact h.rlo k hk
  · exact h.gmlo.1
theorem RM.gr_ne (h : RM o w R M) {k : Nat} (hk : k < o.n) : o.rows k ≠ o.gr := by
  obtain ⟨cur, b1, _⟩ := h.outer
  exact ne_of_heap (h.row k hk) b1 (by decide)
theorem RM.gr_ne2 (h : RM o w R M) : o.gm ≠ o.gr := by
  obtain ⟨cur, b1, _⟩ := h.outer
  exact h.mem.ne_heap b1 (by decide) o.gm rfl
theorem RM.outerCell (h : RM o w R M) {k : Nat} (hk : k < o.n) : w.cell? ⟨o.gr, k, none⟩ = some (o.row k) := by
  obtain ⟨cur, b1, b2⟩ := h.outer
  rw [cell_of_row w o.gr k cur _ _ b1]; exact b2 k hk
theorem RM.regCell (h : RM o w R M) {k : Nat} (hk : k < o.n) {r : Nat} (hr : r < 4) : w.cell? ⟨o.rows k, r, none⟩ = some (.int .i64 (R k r)) := by
  rw [cell_of_row w (o.rows k) r _ _ _ (h.row k hk)]
  have : r = 0 ∨ r = 1 ∨ r = 2 ∨ r = 3 := by omega
  rcases this with rfl | rfl | rfl | rfl <;> rfl
theorem RM.regFrozen (h : RM o w R M) {k : Nat} (hk : k < o.n) (r : Nat) : w.frozen? ⟨o.rows k, r, none⟩ = false := frozen_of_row w (o.rows k) r _ _ (h.row k hk)
theorem RM.memCell (h : RM o w R M) {j : Nat} (hj : j < o.m) : w.cell? ⟨o.gm, j, none⟩ = some (.int .i64 (M j)) := by
  have := h.mem.cell j (by omega)
  rw [Nat.zero_add] at this
  rw [this]; simp [memL, hj]
theorem RM.memFrozen (h : RM o w R M) (j : Nat) : w.frozen? ⟨o.gm, j, none⟩ = false := h.mem.frozen j
/-- One lane's registers, written anew. -/
def upR (R : Nat → Nat → Int) (k : Nat) (f : Nat → Int) : Nat → Nat → Int := fun l => if l = k then f else R l
theorem upR_same (R : Nat → Nat → Int) (k : Nat) : upR R k (R k) = R := funext fun l => by
  unfold upR; split
  · rename_i h; rw [h]
  · rfl
theorem row4_set (f : Nat → Int) {r : Nat} (hr : r < 4) (v : Int) : (row4 f).setIfInBounds r (.int .i64 v) = row4 (setF f r v) := by
  have : r = 0 ∨ r = 1 ∨ r = 2 ∨ r = 3 := by omega
  rcases this with rfl | rfl | rfl | rfl <;> rfl
theorem RM.setReg (h : RM o w R M) {k : Nat} (hk : k < o.n) {r : Nat} (hr : r < 4) (v : Int) : RM o (w.setCell ⟨o.rows k, r, none⟩ (.int .i64 v)) (upR R k (setF (R k) r v)) M := by
  have hc : Chg (fun b => b = o.rows k) w (w.setCell ⟨o.rows k, r, none⟩ (.int .i64 v)) := Chg.of_set w _ _ _ rfl
  have hgm : o.gm ≠ o.rows k := fun e => h.ne k hk e.symm
  have hgr : o.gr ≠ o.rows k := fun e => h.gr_ne hk e.symm
  obtain ⟨a1, a2, a3, a4, a5, a6, ⟨cur, b1, b2⟩, a8, a9, a10, a11, a12⟩ := h
  refine ⟨a1, a2, a3, a4, a5, a6, ⟨cur, hc.heap b1 hgr, b2⟩, a8, fun l hl => ?_, a10, a11.chg hc fun g hg => ?_, a12⟩
  · unfold upR
    split
    · rename_i e
      subst e
      rw [heap_setCell_same w (o.rows l) r _ _ (.int .i64 v) (a9 l hk)]
      rw [row4_set _ hr]
    · rename_i e
      exact hc.heap (a9 l hl) (fun e2 => e (a10 l k hl hk e2))
  · simp [RMo.vm, Value.ownBlock] at hg
    subst hg; exact hgm
theorem memL_set (m : Nat) (M : Nat → Int) {j : Nat} (v : Int) : (memL m M).set j (.int .i64 v) = memL m (setF M j v) := by
  apply List.ext_getElem?
  intro i
  by_cases hi : i < m
  · by_cases e : i = j
    · subst e
      rw [List.getElem?_set_self (by simpa [memL] using hi)]
      simp [memL, hi, setF]
    · rw [List.getElem?_set_ne (by omega)]
      simp [memL, hi, setF, e]
  · rw [List.getElem?_eq_none (by simpa [memL] using hi), List.getElem?_eq_none (by simpa [memL] using hi)]
theorem RM.setMem (h : RM o w R M) (j : Nat) (v : Int) : RM o (w.setCell ⟨o.gm, j, none⟩ (.int .i64 v)) R (setF M j v) := by
  have hc : Chg (fun b => b = o.gm) w (w.setCell ⟨o.gm, j, none⟩ (.int .i64 v)) := Chg.of_set w _ _ _ rfl
  have hgr : o.gr ≠ o.gm := fun e => h.gr_ne2 e.symm
  obtain ⟨a1, a2, a3, a4, a5, a6, ⟨cur, b1, b2⟩, a8, a9, a10, a11, a12⟩ := h
  refine ⟨a1, a2, a3, a4, a5, a6, ⟨cur, hc.heap b1 hgr, b2⟩, a8, fun l hl => hc.heap (a9 l hl) (a12 l hl), a10, ?_, a12⟩
  have := a11.stored j (.int .i64 v)
  rw [Nat.zero_add, memL_set] at this
  exact this
end

end Go.Proofs.Ytokdfgodmhekmaa
