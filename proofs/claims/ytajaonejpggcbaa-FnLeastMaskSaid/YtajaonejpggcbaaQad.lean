/- Lanes in lockstep, plainly: what an instruction does to one lane, to the lanes of a mask, and what a tree of blocks does. No program in sight. What the functions under comparison give: numbers and lists that a rule fixes, in memory of their own. Worlds that differ in some blocks alone; the registers and the memory of a run, in blocks of the run's own. Graphs: which are valid, as the reference and the program find it. Which instructions are valid, as the reference finds it. No condition. -/
import Derived.Test.YtajaonejpggcbaaQaa
import Derived.Test.YtajaonejpggcbaaQac

namespace Go.Proofs.Ytajaonejpggcbaa

/-- An access to the memory. -/
structure Ac where
  who : Nat
  cell : Nat
  wr : Bool
  ph : Nat
deriving DecidableEq, Inhabited

/-- A run under way: registers, memory, the steps so far (place, mask, the registers then), the accesses so far, the phase. -/
structure LS where
  R : Nat → Nat → Int
  M : Nat → Int
  H : List (Nat × Nat × (Nat → Nat → Int))
  A : List Ac
  P : Nat

def setF (f : Nat → Int) (r : Nat) (v : Int) : Nat → Int := fun j => if j = r then v else f j
def cellOf (c : Cd) (m : Nat) (f : Nat → Int) : Nat := (f c.b.toNat).toNat % m
/-- A lane's registers behind an instruction. -/
def simR (c : Cd) (id m : Nat) (f M : Nat → Int) : Nat → Int :=
  if c.op = 1 then setF f c.a.toNat c.b
  else if c.op = 2 then setF f c.a.toNat id
  else if c.op = 3 then setF f c.a.toNat ((f c.a.toNat + f c.b.toNat) % 256)
  else if c.op = 4 then setF f c.a.toNat (f c.a.toNat * f c.b.toNat % 256)
  else if c.op = 5 then setF f c.a.toNat (f c.b.toNat)
  else if c.op = 6 then setF f c.a.toNat (if f c.b.toNat < f c.c.toNat then 1 else 0)
  else if c.op = 7 then (if f c.c.toNat = 0 then f else setF f c.a.toNat (f c.b.toNat))
  else if c.op = 8 then setF f c.a.toNat (M (cellOf c m f))
  else f
/-- The memory behind an instruction of a lane. -/
def simM (c : Cd) (m : Nat) (f M : Nat → Int) : Nat → Int := if c.op = 9 then setF M (cellOf c m f) (f c.a.toNat) else M
def lane1 (c : Cd) (m k : Nat) (s : LS) : LS :=
  { s with
    R := fun l => if l = k then simR c k m (s.R k) s.M else s.R l
    M := simM c m (s.R k) s.M
    A := if c.op = 8 ∨ c.op = 9 then s.A ++ [⟨k, cellOf c m (s.R k), decide (c.op = 9), s.P⟩] else s.A }
/-- The lanes below j that are in a mask execute an instruction. -/
def lanesTo (c : Cd) (m mask : Nat) : Nat → LS → LS
  | 0, s => s
  | j + 1, s => if mask.testBit j then lane1 c m j (lanesTo c m mask j s) else lanesTo c m mask j s
def beat (i mask : Nat) (s : LS) : LS := { s with H := s.H ++ [(i, mask, s.R)] }
def exec (c : Cd) (n m i mask : Nat) (s : LS) : LS :=
  let s1 := lanesTo c m mask n (beat i mask s)
  if c.op = 10 then { s1 with P := s1.P + 1 } else s1
/-- The lanes below j of a mask whose register is not 0. -/
def onesTo (R : Nat → Nat → Int) (mask a : Nat) : Nat → Nat
  | 0 => 0
  | j + 1 => if mask.testBit j && !decide (R j a = 0) then onesTo R mask a j ||| 2 ^ j else onesTo R mask a j
def turns (F : Nat → LS → LS) (n a : Nat) : Nat → Nat → LS → LS
  | 0, _, s => s
  | b + 1, y, s => turns F n a b (onesTo s.R y a n) (F (onesTo s.R y a n) s)
/-- A tree of blocks, from place i on, by the lanes of a mask. -/
def run (n m : Nat) : Tr → Nat → Nat → LS → LS
  | .nil, _, _, s => s
  | .op c k, i, mask, s => if mask = 0 then s else run n m k (i + 1) mask (exec c n m i mask s)
  | .ite a t k, i, mask, s => if mask = 0 then s else run n m k (i + 1 + t.len + 1) mask (run n m t (i + 1) (onesTo s.R mask a.toNat n) (beat i mask s))
  | .itee a t e k, i, mask, s => if mask = 0 then s else run n m k (i + 1 + t.len + 1 + e.len + 1) mask
      (run n m e (i + 1 + t.len + 1) (del mask (onesTo s.R mask a.toNat n)) (run n m t (i + 1) (onesTo s.R mask a.toNat n) (beat i mask s)))
  | .loop a b t k, i, mask, s => if mask = 0 then s else run n m k (i + 1 + t.len + 1) mask (turns (run n m t (i + 1)) n a.toNat b.toNat mask (beat i mask s))

theorem run_zero (n m : Nat) : ∀ (t : Tr) (i : Nat) (s : LS), run n m t i 0 s = s
  | .nil, _, _ => rfl
  | .op _ _, _, _ => rfl
  | .ite _ _ _, _, _ => rfl
  | .itee _ _ _ _, _, _ => rfl
  | .loop _ _ _ _, _, _ => rfl

/-- Registers and cells hold words. -/
def Good (s : LS) : Prop := (∀ l r, Word (s.R l r)) ∧ ∀ j, Word (s.M j)
theorem setF_word {f : Nat → Int} {r : Nat} {v : Int} (h : ∀ j, Word (f j)) (hv : Word v) (j : Nat) : Word (setF f r v j) := by
  unfold setF; split
  · exact hv
  · exact h j
theorem simR_word {c : Cd} {id m : Nat} {f M : Nat → Int} (hc : CdOk c) (hid : id ≤ 255) (hf : ∀ j, Word (f j)) (hM : ∀ j, Word (M j)) (j : Nat) : Word (simR c id m f M j) := by
  unfold simR
  split
  · rename_i h
    refine setF_word hf ?_ j
    unfold CdOk at hc
    rcases hc with hc | hc | hc | hc | hc | hc
    · exact hc.2.2.1
    · omega
    · omega
    · omega
    · omega
    · omega
  split
  · exact setF_word hf ⟨by omega, by omega⟩ j
  split
  · exact setF_word hf ⟨by omega, by omega⟩ j
  split
  · exact setF_word hf ⟨Int.emod_nonneg _ (by decide), by have := Int.emod_lt_of_pos (f c.a.toNat * f c.b.toNat) (by decide : (0 : Int) < 256); omega⟩ j
  split
  · exact setF_word hf (hf _) j
  split
  · refine setF_word hf ?_ j
    split
    · exact ⟨by decide, by decide⟩
    · exact ⟨by decide, by decide⟩
  split
  · split
    · exact hf j
    · exact setF_word hf (hf _) j
  split
  · exact setF_word hf (hM _) j
  · exact hf j
theorem simM_word {c : Cd} {m : Nat} {f M : Nat → Int} (hf : ∀ j, Word (f j)) (hM : ∀ j, Word (M j)) (j : Nat) : Word (simM c m f M j) := by
  unfold simM
  split
  · exact setF_word hM (hf _) j
  · exact hM j
theorem Good.lane1 {s : LS} {c : Cd} {m k : Nat} (h : Good s) (hc : CdOk c) (hk : k ≤ 255) : Good (lane1 c m k s) := by
  refine ⟨fun l r => ?_, fun j => simM_word (h.1 k) h.2 j⟩
  show Word ((if l = k then simR c k m (s.R k) s.M else s.R l) r)
  split
  · exact simR_word hc hk (h.1 k) h.2 r
  · exact h.1 l r
theorem Good.lanesTo {c : Cd} {m mask : Nat} (hc : CdOk c) : ∀ (j : Nat) {s : LS}, Good s → j ≤ 256 → Good (lanesTo c m mask j s)
  | 0, _, h, _ => h
  | j + 1, _, h, hj => by
    show Good (if _ then _ else _)
    split
    · exact (Good.lanesTo hc j h (by omega)).lane1 hc (by omega)
    · exact Good.lanesTo hc j h (by omega)
theorem Good.beat {s : LS} (h : Good s) (i mask : Nat) : Good (beat i mask s) := h
theorem Good.exec {s : LS} {c : Cd} {n m i mask : Nat} (h : Good s) (hc : CdOk c) (hn : n ≤ 256) : Good (exec c n m i mask s) := by
  have h1 := Good.lanesTo (m := m) (mask := mask) hc n (h.beat i mask) hn
  unfold Proofs.Ytajaonejpggcbaa.exec
  simp only
  split
  · exact h1
  · exact h1
theorem Good.turns {F : Nat → LS → LS} {n a : Nat} (hF : ∀ y s, Good s → Good (F y s)) : ∀ (b y : Nat) {s : LS}, Good s → Good (turns F n a b y s)
  | 0, _, _, h => h
  | b + 1, _, _, h => Good.turns hF b _ (hF _ _ h)
theorem Good.run {n m : Nat} (hn : n ≤ 256) : ∀ (t : Tr) (i mask : Nat) {s : LS}, t.Ok → Good s → Good (run n m t i mask s)
  | .nil, _, _, _, _, h => h
  | .op c k, i, mask, s, ho, h => by
    show Good (if _ then _ else _)
    split
    · exact h
    · exact Good.run hn k _ _ ho.2 (h.exec ho.1.1 hn)
  | .ite a t k, i, mask, s, ho, h => by
    show Good (if _ then _ else _)
    split
    · exact h
    · exact Good.run hn k _ _ ho.2.2 (Good.run hn t _ _ ho.2.1 (h.beat i mask))
  | .itee a t e k, i, mask, s, ho, h => by
    show Good (if _ then _ else _)
    split
    · exact h
    · exact Good.run hn k _ _ ho.2.2.2 (Good.run hn e _ _ ho.2.2.1 (Good.run hn t _ _ ho.2.1 (h.beat i mask)))
  | .loop a b t k, i, mask, s, ho, h => by
    show Good (if _ then _ else _)
    split
    · exact h
    · exact Good.run hn k _ _ ho.2.2.2 (Good.turns (fun y s hs => Good.run hn t _ _ ho.2.2.1 hs) _ _ (h.beat i mask))

end Go.Proofs.Ytajaonejpggcbaa

namespace Go.Proofs.Ytajaonejpggcbaa
open Go.RowKit

theorem Ints.of_ownO' {w : World} {B e : Nat} {v : Value} {ys : List Int} (h : OwnO w B e 1 v ys.length (ys.map (.int .i64))) : Ints w v ys := by
  unfold Ints
  refine Cells.of_ownO h fun j hj => ?_
  have : j < ys.length := by omega
  simp [List.getD_eq_getElem?_getD, this]
end Go.Proofs.Ytajaonejpggcbaa

namespace Go.Proofs.Ytajaonejpggcbaa
open Go.RowKit

/-- w' is w, but for new blocks, draws, and the blocks of S. -/
structure Chg (S : Nat → Prop) (w w' : World) : Prop where
  os : w'.os = w.os
  tape : w'.tape = w.tape
  output : w'.output = w.output
  size : w.heap.size ≤ w'.heap.size
  block : ∀ k, k < w.heap.size → ¬ S k → w'.heap[k]? = w.heap[k]?
theorem Chg.refl (S : Nat → Prop) (w : World) : Chg S w w := ⟨rfl, rfl, rfl, Nat.le_refl _, fun _ _ _ => rfl⟩
theorem Chg.trans {S : Nat → Prop} {a b c : World} (h : Chg S a b) (k : Chg S b c) : Chg S a c :=
  ⟨k.os.trans h.os, k.tape.trans h.tape, k.output.trans h.output, Nat.le_trans h.size k.size, fun i hi hn => (k.block i (Nat.lt_of_lt_of_le hi h.size) hn).trans (h.block i hi hn)⟩
/-- The second change may also be to blocks that the first one made. -/
theorem Chg.trans' {S S' : Nat → Prop} {a b c : World} (h : Chg S a b) (k : Chg S' b c) (hS : ∀ i, i < a.heap.size → S' i → S i) : Chg S a c :=
  ⟨k.os.trans h.os, k.tape.trans h.tape, k.output.trans h.output, Nat.le_trans h.size k.size, fun i hi hn => (k.block i (Nat.lt_of_lt_of_le hi h.size) (fun hs => hn (hS i hi hs))).trans (h.block i hi hn)⟩
theorem Chg.mono {S S' : Nat → Prop} {a b : World} (h : Chg S a b) (hS : ∀ i, S i → S' i) : Chg S' a b :=
  ⟨h.os, h.tape, h.output, h.size, fun i hi hn => h.block i hi (fun hs => hn (hS i hs))⟩
theorem Chg.of_pure {S : Nat → Prop} {a b : World} (h : Pure a b) : Chg S a b := ⟨h.os, h.tape, h.output, h.size, fun i hi _ => h.below.block i hi⟩
theorem Chg.of_grown {S : Nat → Prop} {a b : World} {row : Option Nat} (h : a.grownBy b row) (hS : ∀ k, row = some k → S k) : Chg S a b :=
  ⟨h.os, h.tape, h.output, h.size, fun i hi hn => h.block i hi (fun e => hn (hS i e.symm))⟩
theorem Chg.of_set {S : Nat → Prop} (w : World) (g i : Nat) (v : Value) (hS : S g) : Chg S w (w.setCell ⟨g, i, none⟩ v) :=
  Chg.of_grown (grown_setCell w ⟨g, i, none⟩ v) (fun k hk => by injection hk with hk; subst hk; exact hS)
theorem Chg.pure {S : Nat → Prop} {w0 a b : World} (hp : Pure w0 a) (h : Chg S a b) (hS : ∀ k, S k → w0.heap.size ≤ k) : Pure w0 b :=
  ⟨h.os.trans hp.os, h.tape.trans hp.tape, h.output.trans hp.output, Nat.le_trans hp.size h.size, fun k hk => (h.block k (Nat.lt_of_lt_of_le hk hp.size) (fun hs => absurd (hS k hs) (by omega))).trans (hp.below.block k hk)⟩
theorem Chg.heap {S : Nat → Prop} {a b : World} (h : Chg S a b) {k : Nat} {o : Obj} (ho : a.heap[k]? = some o) (hn : ¬ S k) : b.heap[k]? = some o :=
  (h.block k (Array.getElem?_eq_some_iff.1 ho).1 hn).trans ho
theorem Chg.cell {S : Nat → Prop} {a b : World} (h : Chg S a b) {k i : Nat} (hk : k < a.heap.size) (hn : ¬ S k) : b.cell? ⟨k, i, none⟩ = a.cell? ⟨k, i, none⟩ :=
  World.cell?_of_block (h.block k hk hn)
theorem OwnO.chg {S : Nat → Prop} {w w' : World} {B e s n : Nat} {v : Value} {xs : List Value} (h : OwnO w B e s v n xs) (hc : Chg S w w') (hn : ∀ g, v.ownBlock = some g → ¬ S g) : OwnO w' B e s v n xs := by
  refine ⟨h.1, ?_⟩
  rcases h.2 with h | ⟨g, off, cap, cur, rfl, h1, h2, h3⟩
  · exact .inl h
  · exact .inr ⟨g, off, cap, cur, rfl, h1, hc.heap h2 (hn g rfl), h3⟩
/-- A block of one kind is none of another kind. -/
theorem ne_of_heap {w : World} {g g' e e' : Nat} {cur cur' : Array Value} (h : w.heap[g]? = some (.cells cur e (0, 0))) (h' : w.heap[g']? = some (.cells cur' e' (0, 0))) (hne : e ≠ e') : g ≠ g' := by
  rintro rfl
  rw [h] at h'
  simp only [Option.some.injEq, Obj.cells.injEq] at h'
  exact hne h'.2.1
theorem OwnO.ne_heap {w : World} {B e s n g e' : Nat} {v : Value} {xs : List Value} {cur : Array Value} (h : OwnO w B e s v n xs) (h' : w.heap[g]? = some (.cells cur e' (0, 0))) (hne : e ≠ e') : ∀ k, v.ownBlock = some k → k ≠ g := by
  intro k hk
  rcases h.2 with ⟨rfl, _⟩ | ⟨g', off, cap, cur', rfl, _, h2, _⟩
  · simp [Value.ownBlock] at hk
  · simp [Value.ownBlock] at hk
    subst hk
    exact ne_of_heap h2 h' hne

/-- Where the registers and the memory of a run lie. -/
structure RMo where
  B : Nat
  n : Nat
  m : Nat
  gr : Nat
  cr : Nat
  gm : Nat
  cm : Nat
  rows : Nat → Nat

def RMo.row (o : RMo) (k : Nat) : Value := .slice (some ⟨o.rows k, 0, none⟩) 4 4
def RMo.vr (o : RMo) : Value := .slice (some ⟨o.gr, 0, none⟩) o.n o.cr
def RMo.vm (o : RMo) : Value := .slice (some ⟨o.gm, 0, none⟩) o.m o.cm
def row4 (f : Nat → Int) : Array Value := #[.int .i64 (f 0), .int .i64 (f 1), .int .i64 (f 2), .int .i64 (f 3)]
def memL (m : Nat) (M : Nat → Int) : List Value := (List.range m).map fun j => .int .i64 (M j)
structure RM (o : RMo) (w : World) (R : Nat → Nat → Int) (M : Nat → Int) : Prop where
  n8 : o.n ≤ 8
  m1 : 1 ≤ o.m
  m32 : o.m ≤ 32
  cr1 : o.n ≤ o.cr
  cr2 : o.cr ≤ 9223372036854775807
  lo : o.B ≤ o.gr
  outer : ∃ cur : Array Value, w.heap[o.gr]? = some (.cells cur 23 (0, 0)) ∧ ∀ k, k < o.n → cur[k]? = some (o.row k)
  rlo : ∀ k, k < o.n → o.B ≤ o.rows k
  row : ∀ k, k < o.n → w.heap[o.rows k]? = some (.cells (row4 (R k)) 3 (0, 0))
  inj : ∀ k l, k < o.n → l < o.n → o.rows k = o.rows l → k = l
  mem : OwnO w o.B 3 1 o.vm o.m (memL o.m M)
  ne : ∀ k, k < o.n → o.rows k ≠ o.gm

/-- The blocks that a lane's instruction may write. -/
def RMo.lane (o : RMo) (k : Nat) : Nat → Prop := fun b => b = o.rows k ∨ b = o.gm
def RMo.own (o : RMo) : Nat → Prop := fun b => (∃ k, k < o.n ∧ b = o.rows k) ∨ b = o.gm

section
variable {o : RMo} {w w' : World} {R : Nat → Nat → Int} {M : Nat → Int}
theorem RM.chg {S : Nat → Prop} (h : RM o w R M) (hc : Chg S w w') (h1 : ¬ S o.gr) (h2 : ∀ k, k < o.n → ¬ S (o.rows k)) (h3 : ¬ S o.gm) : RM o w' R M := by
  obtain ⟨a1, a2, a3, a4, a5, a6, ⟨cur, b1, b2⟩, a8, a9, a10, a11, a12⟩ := h
  refine ⟨a1, a2, a3, a4, a5, a6, ⟨cur, hc.heap b1 h1, b2⟩, a8, fun k hk => hc.heap (a9 k hk) (h2 k hk), a10, a11.chg hc fun g hg => ?_, a12⟩
  simp [RMo.vm, Value.ownBlock] at hg
  subst hg; exact h3
theorem RM.pure (h : RM o w R M) (hp : Pure w w') : RM o w' R M := h.chg (S := fun _ => False) (Chg.of_pure hp) id (fun _ _ => id) id
theorem RM.gmlo (h : RM o w R M) : o.B ≤ o.gm ∧ o.gm < w.heap.size := h.mem.lt o.gm rfl
theorem RM.lane_lo (h : RM o w R M) {k : Nat} (hk : k < o.n) : ∀ b, o.lane k b → o.B ≤ b := by
  rintro b (rfl | rfl)
  · exact h.rlo k hk
  · exact h.gmlo.1
theorem RM.own_lo (h : RM o w R M) : ∀ b, o.own b → o.B ≤ b := by
  rintro b (⟨k, hk, rfl⟩ | rfl)
  · exact h.rlo k hk
  · exact h.gmlo.1
theorem RM.gr_ne (h : RM o w R M) {k : Nat} (hk : k < o.n) : o.rows k ≠ o.gr := by
  obtain ⟨cur, b1, _⟩ := h.outer
  exact ne_of_heap (h.row k hk) b1 (by decide)
theorem RM.gr_ne2 (h : RM o w R M) : o.gm ≠ o.gr := by
  obtain ⟨cur, b1, _⟩ := h.outer
  exact h.mem.ne_heap b1 (by decide) o.gm rfl
theorem RM.regCell (h : RM o w R M) {k : Nat} (hk : k < o.n) {r : Nat} (hr : r < 4) : w.cell? ⟨o.rows k, r, none⟩ = some (.int .i64 (R k r)) := by
  rw [cell_of_row w (o.rows k) r _ _ _ (h.row k hk)]
  have : r = 0 ∨ r = 1 ∨ r = 2 ∨ r = 3 := by omega
  rcases this with rfl | rfl | rfl | rfl <;> rfl
theorem RM.regFrozen (h : RM o w R M) {k : Nat} (hk : k < o.n) (r : Nat) : w.frozen? ⟨o.rows k, r, none⟩ = false := frozen_of_row w (o.rows k) r _ _ (h.row k hk)
theorem RM.memCell (h : RM o w R M) {j : Nat} (hj : j < o.m) : w.cell? ⟨o.gm, j, none⟩ = some (.int .i64 (M j)) := by
  have := h.mem.cell j (by omega)
  rw [Nat.zero_add] at this
  rw [this]; simp [memL, hj]
theorem RM.memFrozen (h : RM o w R M) (j : Nat) : w.frozen? ⟨o.gm, j, none⟩ = false := h.mem.frozen j
/-- One lane's registers, written anew. -/
def upR (R : Nat → Nat → Int) (k : Nat) (f : Nat → Int) : Nat → Nat → Int := fun l => if l = k then f else R l
theorem upR_same (R : Nat → Nat → Int) (k : Nat) : upR R k (R k) = R := funext fun l => by
  unfold upR; split
  · rename_i h; rw [h]
  · rfl
theorem row4_set (f : Nat → Int) {r : Nat} (hr : r < 4) (v : Int) : (row4 f).setIfInBounds r (.int .i64 v) = row4 (setF f r v) := by
  have : r = 0 ∨ r = 1 ∨ r = 2 ∨ r = 3 := by omega
  rcases this with rfl | rfl | rfl | rfl <;> rfl
theorem RM.setReg (h : RM o w R M) {k : Nat} (hk : k < o.n) {r : Nat} (hr : r < 4) (v : Int) : RM o (w.setCell ⟨o.rows k, r, none⟩ (.int .i64 v)) (upR R k (setF (R k) r v)) M := by
  have hc : Chg (fun b => b = o.rows k) w (w.setCell ⟨o.rows k, r, none⟩ (.int .i64 v)) := Chg.of_set w _ _ _ rfl
  have hgm : o.gm ≠ o.rows k := fun e => h.ne k hk e.symm
  have hgr : o.gr ≠ o.rows k := fun e => h.gr_ne hk e.symm
  obtain ⟨a1, a2, a3, a4, a5, a6, ⟨cur, b1, b2⟩, a8, a9, a10, a11, a12⟩ := h
  refine ⟨a1, a2, a3, a4, a5, a6, ⟨cur, hc.heap b1 hgr, b2⟩, a8, fun l hl => ?_, a10, a11.chg hc fun g hg => ?_, a12⟩
  · unfold upR
    split
    · rename_i e
      subst e
      rw [heap_setCell_same w (o.rows l) r _ _ (.int .i64 v) (a9 l hk)]
      rw [row4_set _ hr]
    · rename_i e
      exact hc.heap (a9 l hl) (fun e2 => e (a10 l k hl hk e2))
  · simp [RMo.vm, Value.ownBlock] at hg
    subst hg; exact hgm
theorem memL_set (m : Nat) (M : Nat → Int) {j : Nat} (v : Int) : (memL m M).set j (.int .i64 v) = memL m (setF M j v) := by
  apply List.ext_getElem?
  intro i
  by_cases hi : i < m
  · by_cases e : i = j
    · subst e
      rw [List.getElem?_set_self (by simpa [memL] using hi)]
      simp [memL, hi, setF]
    · rw [List.getElem?_set_ne (by omega)]
      simp [memL, hi, setF, e]
  · rw [List.getElem?_eq_none (by simpa [memL] using hi), List.getElem?_eq_none (by simpa [memL] using hi)]
theorem RM.setMem (h : RM o w R M) (j : Nat) (v : Int) : RM o (w.setCell ⟨o.gm, j, none⟩ (.int .i64 v)) R (setF M j v) := by
  have hc : Chg (fun b => b = o.gm) w (w.setCell ⟨o.gm, j, none⟩ (.int .i64 v)) := Chg.of_set w _ _ _ rfl
  have hgr : o.gr ≠ o.gm := fun e => h.gr_ne2 e.symm
  obtain ⟨a1, a2, a3, a4, a5, a6, ⟨cur, b1, b2⟩, a8, a9, a10, a11, a12⟩ := h
  refine ⟨a1, a2, a3, a4, a5, a6, ⟨cur, hc.heap b1 hgr, b2⟩, a8, fun l hl => hc.heap (a9 l hl) (a12 l hl), a10, ?_, a12⟩
  have := a11.stored j (.int .i64 v)
  rw [Nat.zero_add, memL_set] at this
  exact this
end

end Go.Proofs.Ytajaonejpggcbaa

namespace Go.Proofs.Ytajaonejpggcbaa
open Go.RowKit

set_option maxHeartbeats 400000 in
theorem l1In_t (n lo hi : Int) (w : World) (h : lo ≤ n ∧ n ≤ hi) :
    Calls Try.prog 79 #[.int .i64 n, .int .i64 lo, .int .i64 hi] w fun e w' => e = .returned (.bool true) ∧ w = w' := by
  obtain ⟨h1, h2⟩ := h
  go_enter Try.func79, Try.ntmps79
  go_wp2
  go_ret
  exact ⟨rfl, rfl⟩
set_option maxHeartbeats 400000 in
theorem l1In_f (n lo hi : Int) (w : World) (h : ¬ (lo ≤ n ∧ n ≤ hi)) :
    Calls Try.prog 79 #[.int .i64 n, .int .i64 lo, .int .i64 hi] w fun e w' => e = .returned (.bool false) ∧ w = w' := by
  by_cases h1 : lo ≤ n
  · have h2 : ¬ n ≤ hi := by omega
    clear h
    go_enter Try.func79, Try.ntmps79
    go_wp2
    go_ret
    exact ⟨rfl, rfl⟩
  · clear h
    go_enter Try.func79, Try.ntmps79
    go_wp2
    go_ret
    exact ⟨rfl, rfl⟩
theorem l1In_any (n lo hi : Int) (w : World) (B : Bool) (hB : B = true ↔ (lo ≤ n ∧ n ≤ hi)) :
    Calls Try.prog 79 #[.int .i64 n, .int .i64 lo, .int .i64 hi] w fun e w' => e = .returned (.bool B) ∧ w = w' := by
  cases B
  · exact l1In_f n lo hi w (fun h => by simp [h] at hB)
  · exact l1In_t n lo hi w (hB.1 rfl)

set_option maxHeartbeats 400000 in
theorem within_t (n lo hi : Int) (w : World) (h : lo ≤ n ∧ n ≤ hi) :
    Calls Try.prog 114 #[.int .i64 n, .int .i64 lo, .int .i64 hi] w fun e w' => e = .returned (.bool true) ∧ w = w' := by
  obtain ⟨h1, h2⟩ := h
  go_enter Try.func114, Try.ntmps114
  go_wp2
  go_ret
  exact ⟨rfl, rfl⟩
set_option maxHeartbeats 400000 in
theorem within_f (n lo hi : Int) (w : World) (h : ¬ (lo ≤ n ∧ n ≤ hi)) :
    Calls Try.prog 114 #[.int .i64 n, .int .i64 lo, .int .i64 hi] w fun e w' => e = .returned (.bool false) ∧ w = w' := by
  by_cases h1 : lo ≤ n
  · have h2 : ¬ n ≤ hi := by omega
    clear h
    go_enter Try.func114, Try.ntmps114
    go_wp2
    go_ret
    exact ⟨rfl, rfl⟩
  · clear h
    go_enter Try.func114, Try.ntmps114
    go_wp2
    go_ret
    exact ⟨rfl, rfl⟩
theorem within_any (n lo hi : Int) (w : World) (B : Bool) (hB : B = true ↔ (lo ≤ n ∧ n ≤ hi)) :
    Calls Try.prog 114 #[.int .i64 n, .int .i64 lo, .int .i64 hi] w fun e w' => e = .returned (.bool B) ∧ w = w' := by
  cases B
  · exact within_f n lo hi w (fun h => by simp [h] at hB)
  · exact within_t n lo hi w (hB.1 rfl)

def rowOk (n : Nat) (r : List Int) (m : Nat) : Prop := ∀ j, j < m → 0 ≤ r.getD j 0 ∧ r.getD j 0 ≤ (n : Int) - 1 ∧ ∀ i, i < j → r.getD i 0 ≠ r.getD j 0
def GValid (xss : List (List Int)) : Prop := (∀ k, k < xss.length → rowOk xss.length (xss.getD k []) (xss.getD k []).length) ∧ xss.length ≤ 64

end Go.Proofs.Ytajaonejpggcbaa

namespace Go.Proofs.Ytajaonejpggcbaa
open Go.RowKit

set_option maxHeartbeats 400000 in
theorem l2Word_any (n : Int) (w : World) (B : Bool) (hB : B = true ↔ Word n) :
    Calls Try.prog 104 #[.int .i64 n] w fun e w' => e = .returned (.bool B) ∧ w = w' := by
  have HB := Lib.hid hB; clear hB
  go_enter Try.func104, Try.ntmps104
  go_wp2_with fail
  refine (l1In_any _ _ _ _ B HB.out).mono ?_
  rintro e w' ⟨rfl, rfl⟩
  go_wp2
  go_ret
  exact ⟨rfl, rfl⟩
theorem regB (x : Int) : ∃ B : Bool, B = true ↔ (0 ≤ x ∧ x ≤ 3) := ⟨decide (0 ≤ x ∧ x ≤ 3), by simp⟩
theorem wordB (x : Int) : ∃ B : Bool, B = true ↔ Word x := by unfold Word; exact ⟨decide (0 ≤ x ∧ x ≤ 255), by simp⟩
theorem turnB (x : Int) : ∃ B : Bool, B = true ↔ (1 ≤ x ∧ x ≤ 4) := ⟨decide (1 ≤ x ∧ x ≤ 4), by simp⟩

set_option maxHeartbeats 1000000 in
theorem scv_1 (a b c : Int) (w : World) (B : Bool) (hB : B = true ↔ CdOk ⟨1, a, b, c⟩) :
    Calls Try.prog 103 #[.agg #[.int .i64 1, .int .i64 a, .int .i64 b, .int .i64 c]] w fun e w' => e = .returned (.bool B) ∧ Pure w w' := by
  have HB := Lib.hid hB; clear hB
  obtain ⟨ra, hra⟩ := regB a
  obtain ⟨rb, hrb⟩ := regB b
  obtain ⟨wb, hwb⟩ := wordB b
  have HW := Lib.hid hwb; clear hwb
  have HA := Lib.hid hra; clear hra
  have HR := Lib.hid hrb; clear hrb
  cases ra
  · go_enter Try.func103, Try.ntmps103
    go_wp2_with fail
    refine (l1In_any _ _ _ _ false (by have := HA.out; simpa using this)).mono ?_
    rintro e w1 ⟨rfl, rfl⟩
    go_wp2_with fail
    refine (l1In_any _ _ _ _ rb (by have := HR.out; simpa using this)).mono ?_
    rintro e w1 ⟨rfl, rfl⟩
    go_wp2
    go_ret
    refine ⟨ret_bool ?_, (by repeat (first | assumption | exact Pure.refl _ | refine Pure.drewN ?_ _ | refine Pure.drew ?_ | refine Pure.alloc ?_ _ | refine Pure.setCell ?_ (by simp <;> omega) _))⟩
    rw [Bool.eq_iff_iff, HB.out]
    have t1 := HA.out; have t2 := HR.out; have t4 := HW.out
    simp only [Bool.false_eq_true, false_iff, CdOk, Reg, Word, true_and] at *
    first | omega | (constructor <;> intro h <;> omega)
  · cases wb
    · go_enter Try.func103, Try.ntmps103
      go_wp2_with fail
      refine (l1In_any _ _ _ _ true (by have := HA.out; simpa using this)).mono ?_
      rintro e w1 ⟨rfl, rfl⟩
      go_wp2_with fail
      refine (l1In_any _ _ _ _ rb (by have := HR.out; simpa using this)).mono ?_
      rintro e w1 ⟨rfl, rfl⟩
      go_wp2_with fail
      refine (l2Word_any _ _ false (by have := HW.out; simpa using this)).mono ?_
      rintro e w1 ⟨rfl, rfl⟩
      go_wp2
      go_ret
      refine ⟨ret_bool ?_, (by repeat (first | assumption | exact Pure.refl _ | refine Pure.drewN ?_ _ | refine Pure.drew ?_ | refine Pure.alloc ?_ _ | refine Pure.setCell ?_ (by simp <;> omega) _))⟩
      rw [Bool.eq_iff_iff, HB.out]
      have t1 := HA.out; have t2 := HR.out; have t4 := HW.out
      simp only [Bool.false_eq_true, false_iff, true_iff, CdOk, Reg, Word, true_and] at *
      first | omega | (constructor <;> intro h <;> omega)
    · go_enter Try.func103, Try.ntmps103
      go_wp2_with fail
      refine (l1In_any _ _ _ _ true (by have := HA.out; simpa using this)).mono ?_
      rintro e w1 ⟨rfl, rfl⟩
      go_wp2_with fail
      refine (l1In_any _ _ _ _ rb (by have := HR.out; simpa using this)).mono ?_
      rintro e w1 ⟨rfl, rfl⟩
      go_wp2_with fail
      refine (l2Word_any _ _ true (by have := HW.out; simpa using this)).mono ?_
      rintro e w1 ⟨rfl, rfl⟩
      go_wp2
      go_ret
      refine ⟨ret_bool ?_, (by repeat (first | assumption | exact Pure.refl _ | refine Pure.drewN ?_ _ | refine Pure.drew ?_ | refine Pure.alloc ?_ _ | refine Pure.setCell ?_ (by simp <;> omega) _))⟩
      rw [Bool.eq_iff_iff, HB.out]
      have t1 := HA.out; have t2 := HR.out; have t4 := HW.out
      simp only [true_iff, beq_iff_eq, CdOk, Reg, Word, true_and] at *
      first | omega | (constructor <;> intro h <;> omega)

set_option maxHeartbeats 1000000 in
theorem scv_2 (a b c : Int) (w : World) (B : Bool) (hB : B = true ↔ CdOk ⟨2, a, b, c⟩) :
    Calls Try.prog 103 #[.agg #[.int .i64 2, .int .i64 a, .int .i64 b, .int .i64 c]] w fun e w' => e = .returned (.bool B) ∧ Pure w w' := by
  have HB := Lib.hid hB; clear hB
  obtain ⟨ra, hra⟩ := regB a
  obtain ⟨rb, hrb⟩ := regB b
  have HA := Lib.hid hra; clear hra
  have HR := Lib.hid hrb; clear hrb
  cases ra
  · go_enter Try.func103, Try.ntmps103
    go_wp2_with fail
    refine (l1In_any _ _ _ _ false (by have := HA.out; simpa using this)).mono ?_
    rintro e w1 ⟨rfl, rfl⟩
    go_wp2_with fail
    refine (l1In_any _ _ _ _ rb (by have := HR.out; simpa using this)).mono ?_
    rintro e w1 ⟨rfl, rfl⟩
    go_wp2
    go_ret
    refine ⟨ret_bool ?_, (by repeat (first | assumption | exact Pure.refl _ | refine Pure.drewN ?_ _ | refine Pure.drew ?_ | refine Pure.alloc ?_ _ | refine Pure.setCell ?_ (by simp <;> omega) _))⟩
    rw [Bool.eq_iff_iff, HB.out]
    have t1 := HA.out; have t2 := HR.out
    simp only [Bool.false_eq_true, false_iff, CdOk, Reg, Word, true_and, true_or] at *
    first | omega | (constructor <;> intro h <;> omega)
  · by_cases hb0 : b = 0
    · have d0 : (b == 0) = true := by simp [hb0]
      have Hb0 := Lib.hid hb0; clear hb0
      go_enter Try.func103, Try.ntmps103
      go_wp2_with fail
      refine (l1In_any _ _ _ _ true (by have := HA.out; simpa using this)).mono ?_
      rintro e w1 ⟨rfl, rfl⟩
      go_wp2_with fail
      refine (l1In_any _ _ _ _ rb (by have := HR.out; simpa using this)).mono ?_
      rintro e w1 ⟨rfl, rfl⟩
      go_wp2
      go_ret
      refine ⟨ret_bool ?_, (by repeat (first | assumption | exact Pure.refl _ | refine Pure.drewN ?_ _ | refine Pure.drew ?_ | refine Pure.alloc ?_ _ | refine Pure.setCell ?_ (by simp <;> omega) _))⟩
      rw [Bool.eq_iff_iff, HB.out]
      have t1 := HA.out; have t2 := HR.out
      simp only [true_iff, beq_iff_eq, CdOk, Reg, Word, true_and, true_or] at *
      have := Hb0.out; first | omega | (constructor <;> intro h <;> omega)
    · have d0 : (b == 0) = false := by simp [hb0]
      have Hb0 := Lib.hid hb0; clear hb0
      go_enter Try.func103, Try.ntmps103
      go_wp2_with fail
      refine (l1In_any _ _ _ _ true (by have := HA.out; simpa using this)).mono ?_
      rintro e w1 ⟨rfl, rfl⟩
      go_wp2_with fail
      refine (l1In_any _ _ _ _ rb (by have := HR.out; simpa using this)).mono ?_
      rintro e w1 ⟨rfl, rfl⟩
      go_wp2
      go_ret
      refine ⟨ret_bool ?_, (by repeat (first | assumption | exact Pure.refl _ | refine Pure.drewN ?_ _ | refine Pure.drew ?_ | refine Pure.alloc ?_ _ | refine Pure.setCell ?_ (by simp <;> omega) _))⟩
      rw [Bool.eq_iff_iff, HB.out]
      have t1 := HA.out; have t2 := HR.out
      simp only [Bool.false_eq_true, false_iff, true_iff, CdOk, Reg, Word, true_and, true_or] at *
      have := Hb0.out; first | omega | (constructor <;> intro h <;> omega)

set_option maxHeartbeats 1000000 in
theorem scv_3 (a b c : Int) (w : World) (B : Bool) (hB : B = true ↔ CdOk ⟨3, a, b, c⟩) :
    Calls Try.prog 103 #[.agg #[.int .i64 3, .int .i64 a, .int .i64 b, .int .i64 c]] w fun e w' => e = .returned (.bool B) ∧ Pure w w' := by
  have HB := Lib.hid hB; clear hB
  obtain ⟨ra, hra⟩ := regB a
  obtain ⟨rb, hrb⟩ := regB b
  have HA := Lib.hid hra; clear hra
  have HR := Lib.hid hrb; clear hrb
  cases ra
  · go_enter Try.func103, Try.ntmps103
    go_wp2_with fail
    refine (l1In_any _ _ _ _ false (by have := HA.out; simpa using this)).mono ?_
    rintro e w1 ⟨rfl, rfl⟩
    go_wp2_with fail
    refine (l1In_any _ _ _ _ rb (by have := HR.out; simpa using this)).mono ?_
    rintro e w1 ⟨rfl, rfl⟩
    go_wp2
    go_ret
    refine ⟨ret_bool ?_, (by repeat (first | assumption | exact Pure.refl _ | refine Pure.drewN ?_ _ | refine Pure.drew ?_ | refine Pure.alloc ?_ _ | refine Pure.setCell ?_ (by simp <;> omega) _))⟩
    rw [Bool.eq_iff_iff, HB.out]
    have t1 := HA.out; have t2 := HR.out
    simp only [Bool.false_eq_true, false_iff, CdOk, Reg, Word, true_and, true_or] at *
    first | omega | (constructor <;> intro h <;> omega)
  · cases rb
    · go_enter Try.func103, Try.ntmps103
      go_wp2_with fail
      refine (l1In_any _ _ _ _ true (by have := HA.out; simpa using this)).mono ?_
      rintro e w1 ⟨rfl, rfl⟩
      go_wp2_with fail
      refine (l1In_any _ _ _ _ false (by have := HR.out; simpa using this)).mono ?_
      rintro e w1 ⟨rfl, rfl⟩
      go_wp2
      go_ret
      refine ⟨ret_bool ?_, (by repeat (first | assumption | exact Pure.refl _ | refine Pure.drewN ?_ _ | refine Pure.drew ?_ | refine Pure.alloc ?_ _ | refine Pure.setCell ?_ (by simp <;> omega) _))⟩
      rw [Bool.eq_iff_iff, HB.out]
      have t1 := HA.out; have t2 := HR.out
      simp only [Bool.false_eq_true, false_iff, true_iff, CdOk, Reg, Word, true_and, true_or] at *
      first | omega | (constructor <;> intro h <;> omega)
    · go_enter Try.func103, Try.ntmps103
      go_wp2_with fail
      refine (l1In_any _ _ _ _ true (by have := HA.out; simpa using this)).mono ?_
      rintro e w1 ⟨rfl, rfl⟩
      go_wp2_with fail
      refine (l1In_any _ _ _ _ true (by have := HR.out; simpa using this)).mono ?_
      rintro e w1 ⟨rfl, rfl⟩
      go_wp2
      go_ret
      refine ⟨ret_bool ?_, (by repeat (first | assumption | exact Pure.refl _ | refine Pure.drewN ?_ _ | refine Pure.drew ?_ | refine Pure.alloc ?_ _ | refine Pure.setCell ?_ (by simp <;> omega) _))⟩
      rw [Bool.eq_iff_iff, HB.out]
      have t1 := HA.out; have t2 := HR.out
      simp only [true_iff, beq_iff_eq, CdOk, Reg, Word, true_and, true_or] at *
      first | omega | (constructor <;> intro h <;> omega)

set_option maxHeartbeats 1000000 in
theorem scv_4 (a b c : Int) (w : World) (B : Bool) (hB : B = true ↔ CdOk ⟨4, a, b, c⟩) :
    Calls Try.prog 103 #[.agg #[.int .i64 4, .int .i64 a, .int .i64 b, .int .i64 c]] w fun e w' => e = .returned (.bool B) ∧ Pure w w' := by
  have HB := Lib.hid hB; clear hB
  obtain ⟨ra, hra⟩ := regB a
  obtain ⟨rb, hrb⟩ := regB b
  have HA := Lib.hid hra; clear hra
  have HR := Lib.hid hrb; clear hrb
  cases ra
  · go_enter Try.func103, Try.ntmps103
    go_wp2_with fail
    refine (l1In_any _ _ _ _ false (by have := HA.out; simpa using this)).mono ?_
    rintro e w1 ⟨rfl, rfl⟩
    go_wp2_with fail
    refine (l1In_any _ _ _ _ rb (by have := HR.out; simpa using this)).mono ?_
    rintro e w1 ⟨rfl, rfl⟩
    go_wp2
    go_ret
    refine ⟨ret_bool ?_, (by repeat (first | assumption | exact Pure.refl _ | refine Pure.drewN ?_ _ | refine Pure.drew ?_ | refine Pure.alloc ?_ _ | refine Pure.setCell ?_ (by simp <;> omega) _))⟩
    rw [Bool.eq_iff_iff, HB.out]
    have t1 := HA.out; have t2 := HR.out
    simp only [Bool.false_eq_true, false_iff, CdOk, Reg, Word, true_and, true_or, or_true] at *
    first | omega | (constructor <;> intro h <;> omega)
  · cases rb
    · go_enter Try.func103, Try.ntmps103
      go_wp2_with fail
      refine (l1In_any _ _ _ _ true (by have := HA.out; simpa using this)).mono ?_
      rintro e w1 ⟨rfl, rfl⟩
      go_wp2_with fail
      refine (l1In_any _ _ _ _ false (by have := HR.out; simpa using this)).mono ?_
      rintro e w1 ⟨rfl, rfl⟩
      go_wp2
      go_ret
      refine ⟨ret_bool ?_, (by repeat (first | assumption | exact Pure.refl _ | refine Pure.drewN ?_ _ | refine Pure.drew ?_ | refine Pure.alloc ?_ _ | refine Pure.setCell ?_ (by simp <;> omega) _))⟩
      rw [Bool.eq_iff_iff, HB.out]
      have t1 := HA.out; have t2 := HR.out
      simp only [Bool.false_eq_true, false_iff, true_iff, CdOk, Reg, Word, true_and, true_or, or_true] at *
      first | omega | (constructor <;> intro h <;> omega)
    · go_enter Try.func103, Try.ntmps103
      go_wp2_with fail
      refine (l1In_any _ _ _ _ true (by have := HA.out; simpa using this)).mono ?_
      rintro e w1 ⟨rfl, rfl⟩
      go_wp2_with fail
      refine (l1In_any _ _ _ _ true (by have := HR.out; simpa using this)).mono ?_
      rintro e w1 ⟨rfl, rfl⟩
      go_wp2
      go_ret
      refine ⟨ret_bool ?_, (by repeat (first | assumption | exact Pure.refl _ | refine Pure.drewN ?_ _ | refine Pure.drew ?_ | refine Pure.alloc ?_ _ | refine Pure.setCell ?_ (by simp <;> omega) _))⟩
      rw [Bool.eq_iff_iff, HB.out]
      have t1 := HA.out; have t2 := HR.out
      simp only [true_iff, beq_iff_eq, CdOk, Reg, Word, true_and, true_or, or_true] at *
      first | omega | (constructor <;> intro h <;> omega)

set_option maxHeartbeats 1000000 in
theorem scv_5 (a b c : Int) (w : World) (B : Bool) (hB : B = true ↔ CdOk ⟨5, a, b, c⟩) :
    Calls Try.prog 103 #[.agg #[.int .i64 5, .int .i64 a, .int .i64 b, .int .i64 c]] w fun e w' => e = .returned (.bool B) ∧ Pure w w' := by
  have HB := Lib.hid hB; clear hB
  obtain ⟨ra, hra⟩ := regB a
  obtain ⟨rb, hrb⟩ := regB b
  have HA := Lib.hid hra; clear hra
  have HR := Lib.hid hrb; clear hrb
  cases ra
  · go_enter Try.func103, Try.ntmps103
    go_wp2_with fail
    refine (l1In_any _ _ _ _ false (by have := HA.out; simpa using this)).mono ?_
    rintro e w1 ⟨rfl, rfl⟩
    go_wp2_with fail
    refine (l1In_any _ _ _ _ rb (by have := HR.out; simpa using this)).mono ?_
    rintro e w1 ⟨rfl, rfl⟩
    go_wp2
    go_ret
    refine ⟨ret_bool ?_, (by repeat (first | assumption | exact Pure.refl _ | refine Pure.drewN ?_ _ | refine Pure.drew ?_ | refine Pure.alloc ?_ _ | refine Pure.setCell ?_ (by simp <;> omega) _))⟩
    rw [Bool.eq_iff_iff, HB.out]
    have t1 := HA.out; have t2 := HR.out
    simp only [Bool.false_eq_true, false_iff, CdOk, Reg, Word, true_and, true_or, or_true] at *
    first | omega | (constructor <;> intro h <;> omega)
  · cases rb
    · go_enter Try.func103, Try.ntmps103
      go_wp2_with fail
      refine (l1In_any _ _ _ _ true (by have := HA.out; simpa using this)).mono ?_
      rintro e w1 ⟨rfl, rfl⟩
      go_wp2_with fail
      refine (l1In_any _ _ _ _ false (by have := HR.out; simpa using this)).mono ?_
      rintro e w1 ⟨rfl, rfl⟩
      go_wp2
      go_ret
      refine ⟨ret_bool ?_, (by repeat (first | assumption | exact Pure.refl _ | refine Pure.drewN ?_ _ | refine Pure.drew ?_ | refine Pure.alloc ?_ _ | refine Pure.setCell ?_ (by simp <;> omega) _))⟩
      rw [Bool.eq_iff_iff, HB.out]
      have t1 := HA.out; have t2 := HR.out
      simp only [Bool.false_eq_true, false_iff, true_iff, CdOk, Reg, Word, true_and, true_or, or_true] at *
      first | omega | (constructor <;> intro h <;> omega)
    · go_enter Try.func103, Try.ntmps103
      go_wp2_with fail
      refine (l1In_any _ _ _ _ true (by have := HA.out; simpa using this)).mono ?_
      rintro e w1 ⟨rfl, rfl⟩
      go_wp2_with fail
      refine (l1In_any _ _ _ _ true (by have := HR.out; simpa using this)).mono ?_
      rintro e w1 ⟨rfl, rfl⟩
      go_wp2
      go_ret
      refine ⟨ret_bool ?_, (by repeat (first | assumption | exact Pure.refl _ | refine Pure.drewN ?_ _ | refine Pure.drew ?_ | refine Pure.alloc ?_ _ | refine Pure.setCell ?_ (by simp <;> omega) _))⟩
      rw [Bool.eq_iff_iff, HB.out]
      have t1 := HA.out; have t2 := HR.out
      simp only [true_iff, beq_iff_eq, CdOk, Reg, Word, true_and, true_or, or_true] at *
      first | omega | (constructor <;> intro h <;> omega)

set_option maxHeartbeats 1000000 in
theorem scv_6 (a b c : Int) (w : World) (B : Bool) (hB : B = true ↔ CdOk ⟨6, a, b, c⟩) :
    Calls Try.prog 103 #[.agg #[.int .i64 6, .int .i64 a, .int .i64 b, .int .i64 c]] w fun e w' => e = .returned (.bool B) ∧ Pure w w' := by
  have HB := Lib.hid hB; clear hB
  obtain ⟨ra, hra⟩ := regB a
  obtain ⟨rb, hrb⟩ := regB b
  obtain ⟨rc, hrc⟩ := regB c
  have HC := Lib.hid hrc; clear hrc
  have HA := Lib.hid hra; clear hra
  have HR := Lib.hid hrb; clear hrb
  cases ra
  · go_enter Try.func103, Try.ntmps103
    go_wp2_with fail
    refine (l1In_any _ _ _ _ false (by have := HA.out; simpa using this)).mono ?_
    rintro e w1 ⟨rfl, rfl⟩
    go_wp2_with fail
    refine (l1In_any _ _ _ _ rb (by have := HR.out; simpa using this)).mono ?_
    rintro e w1 ⟨rfl, rfl⟩
    go_wp2
    go_ret
    refine ⟨ret_bool ?_, (by repeat (first | assumption | exact Pure.refl _ | refine Pure.drewN ?_ _ | refine Pure.drew ?_ | refine Pure.alloc ?_ _ | refine Pure.setCell ?_ (by simp <;> omega) _))⟩
    rw [Bool.eq_iff_iff, HB.out]
    have t1 := HA.out; have t2 := HR.out; have t3 := HC.out
    simp only [Bool.false_eq_true, false_iff, CdOk, Reg, Word, true_and, true_or] at *
    first | omega | (constructor <;> intro h <;> omega)
  · cases rb
    · go_enter Try.func103, Try.ntmps103
      go_wp2_with fail
      refine (l1In_any _ _ _ _ true (by have := HA.out; simpa using this)).mono ?_
      rintro e w1 ⟨rfl, rfl⟩
      go_wp2_with fail
      refine (l1In_any _ _ _ _ false (by have := HR.out; simpa using this)).mono ?_
      rintro e w1 ⟨rfl, rfl⟩
      go_wp2
      go_ret
      refine ⟨ret_bool ?_, (by repeat (first | assumption | exact Pure.refl _ | refine Pure.drewN ?_ _ | refine Pure.drew ?_ | refine Pure.alloc ?_ _ | refine Pure.setCell ?_ (by simp <;> omega) _))⟩
      rw [Bool.eq_iff_iff, HB.out]
      have t1 := HA.out; have t2 := HR.out; have t3 := HC.out
      simp only [Bool.false_eq_true, false_iff, true_iff, CdOk, Reg, Word, true_and, true_or] at *
      first | omega | (constructor <;> intro h <;> omega)
    · cases rc
      · go_enter Try.func103, Try.ntmps103
        go_wp2_with fail
        refine (l1In_any _ _ _ _ true (by have := HA.out; simpa using this)).mono ?_
        rintro e w1 ⟨rfl, rfl⟩
        go_wp2_with fail
        refine (l1In_any _ _ _ _ true (by have := HR.out; simpa using this)).mono ?_
        rintro e w1 ⟨rfl, rfl⟩
        go_wp2_with fail
        refine (l1In_any _ _ _ _ false (by have := HC.out; simpa using this)).mono ?_
        rintro e w1 ⟨rfl, rfl⟩
        go_wp2
        go_ret
        refine ⟨ret_bool ?_, (by repeat (first | assumption | exact Pure.refl _ | refine Pure.drewN ?_ _ | refine Pure.drew ?_ | refine Pure.alloc ?_ _ | refine Pure.setCell ?_ (by simp <;> omega) _))⟩
        rw [Bool.eq_iff_iff, HB.out]
        have t1 := HA.out; have t2 := HR.out; have t3 := HC.out
        simp only [Bool.false_eq_true, false_iff, true_iff, CdOk, Reg, Word, true_and, true_or] at *
        first | omega | (constructor <;> intro h <;> omega)
      · go_enter Try.func103, Try.ntmps103
        go_wp2_with fail
        refine (l1In_any _ _ _ _ true (by have := HA.out; simpa using this)).mono ?_
        rintro e w1 ⟨rfl, rfl⟩
        go_wp2_with fail
        refine (l1In_any _ _ _ _ true (by have := HR.out; simpa using this)).mono ?_
        rintro e w1 ⟨rfl, rfl⟩
        go_wp2_with fail
        refine (l1In_any _ _ _ _ true (by have := HC.out; simpa using this)).mono ?_
        rintro e w1 ⟨rfl, rfl⟩
        go_wp2
        go_ret
        refine ⟨ret_bool ?_, (by repeat (first | assumption | exact Pure.refl _ | refine Pure.drewN ?_ _ | refine Pure.drew ?_ | refine Pure.alloc ?_ _ | refine Pure.setCell ?_ (by simp <;> omega) _))⟩
        rw [Bool.eq_iff_iff, HB.out]
        have t1 := HA.out; have t2 := HR.out; have t3 := HC.out
        simp only [true_iff, CdOk, Reg, Word, true_and, true_or] at *
        first | omega | (constructor <;> intro h <;> omega)

set_option maxHeartbeats 1000000 in
theorem scv_7 (a b c : Int) (w : World) (B : Bool) (hB : B = true ↔ CdOk ⟨7, a, b, c⟩) :
    Calls Try.prog 103 #[.agg #[.int .i64 7, .int .i64 a, .int .i64 b, .int .i64 c]] w fun e w' => e = .returned (.bool B) ∧ Pure w w' := by
  have HB := Lib.hid hB; clear hB
  obtain ⟨ra, hra⟩ := regB a
  obtain ⟨rb, hrb⟩ := regB b
  obtain ⟨rc, hrc⟩ := regB c
  have HC := Lib.hid hrc; clear hrc
  have HA := Lib.hid hra; clear hra
  have HR := Lib.hid hrb; clear hrb
  cases ra
  · go_enter Try.func103, Try.ntmps103
    go_wp2_with fail
    refine (l1In_any _ _ _ _ false (by have := HA.out; simpa using this)).mono ?_
    rintro e w1 ⟨rfl, rfl⟩
    go_wp2_with fail
    refine (l1In_any _ _ _ _ rb (by have := HR.out; simpa using this)).mono ?_
    rintro e w1 ⟨rfl, rfl⟩
    go_wp2
    go_ret
    refine ⟨ret_bool ?_, (by repeat (first | assumption | exact Pure.refl _ | refine Pure.drewN ?_ _ | refine Pure.drew ?_ | refine Pure.alloc ?_ _ | refine Pure.setCell ?_ (by simp <;> omega) _))⟩
    rw [Bool.eq_iff_iff, HB.out]
    have t1 := HA.out; have t2 := HR.out; have t3 := HC.out
    simp only [Bool.false_eq_true, false_iff, CdOk, Reg, Word, true_and, or_true] at *
    first | omega | (constructor <;> intro h <;> omega)
  · cases rb
    · go_enter Try.func103, Try.ntmps103
      go_wp2_with fail
      refine (l1In_any _ _ _ _ true (by have := HA.out; simpa using this)).mono ?_
      rintro e w1 ⟨rfl, rfl⟩
      go_wp2_with fail
      refine (l1In_any _ _ _ _ false (by have := HR.out; simpa using this)).mono ?_
      rintro e w1 ⟨rfl, rfl⟩
      go_wp2
      go_ret
      refine ⟨ret_bool ?_, (by repeat (first | assumption | exact Pure.refl _ | refine Pure.drewN ?_ _ | refine Pure.drew ?_ | refine Pure.alloc ?_ _ | refine Pure.setCell ?_ (by simp <;> omega) _))⟩
      rw [Bool.eq_iff_iff, HB.out]
      have t1 := HA.out; have t2 := HR.out; have t3 := HC.out
      simp only [Bool.false_eq_true, false_iff, true_iff, CdOk, Reg, Word, true_and, or_true] at *
      first | omega | (constructor <;> intro h <;> omega)
    · cases rc
      · go_enter Try.func103, Try.ntmps103
        go_wp2_with fail
        refine (l1In_any _ _ _ _ true (by have := HA.out; simpa using this)).mono ?_
        rintro e w1 ⟨rfl, rfl⟩
        go_wp2_with fail
        refine (l1In_any _ _ _ _ true (by have := HR.out; simpa using this)).mono ?_
        rintro e w1 ⟨rfl, rfl⟩
        go_wp2_with fail
        refine (l1In_any _ _ _ _ false (by have := HC.out; simpa using this)).mono ?_
        rintro e w1 ⟨rfl, rfl⟩
        go_wp2
        go_ret
        refine ⟨ret_bool ?_, (by repeat (first | assumption | exact Pure.refl _ | refine Pure.drewN ?_ _ | refine Pure.drew ?_ | refine Pure.alloc ?_ _ | refine Pure.setCell ?_ (by simp <;> omega) _))⟩
        rw [Bool.eq_iff_iff, HB.out]
        have t1 := HA.out; have t2 := HR.out; have t3 := HC.out
        simp only [Bool.false_eq_true, false_iff, true_iff, CdOk, Reg, Word, true_and, or_true] at *
        first | omega | (constructor <;> intro h <;> omega)
      · go_enter Try.func103, Try.ntmps103
        go_wp2_with fail
        refine (l1In_any _ _ _ _ true (by have := HA.out; simpa using this)).mono ?_
        rintro e w1 ⟨rfl, rfl⟩
        go_wp2_with fail
        refine (l1In_any _ _ _ _ true (by have := HR.out; simpa using this)).mono ?_
        rintro e w1 ⟨rfl, rfl⟩
        go_wp2_with fail
        refine (l1In_any _ _ _ _ true (by have := HC.out; simpa using this)).mono ?_
        rintro e w1 ⟨rfl, rfl⟩
        go_wp2
        go_ret
        refine ⟨ret_bool ?_, (by repeat (first | assumption | exact Pure.refl _ | refine Pure.drewN ?_ _ | refine Pure.drew ?_ | refine Pure.alloc ?_ _ | refine Pure.setCell ?_ (by simp <;> omega) _))⟩
        rw [Bool.eq_iff_iff, HB.out]
        have t1 := HA.out; have t2 := HR.out; have t3 := HC.out
        simp only [true_iff, CdOk, Reg, Word, true_and, or_true] at *
        first | omega | (constructor <;> intro h <;> omega)

end Go.Proofs.Ytajaonejpggcbaa
