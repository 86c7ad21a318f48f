/- Lanes that run by themselves, without a crowd around them: what lies in memory meanwhile, and what a step changes. The program's lanes: whether one is at the end, and whether it can go on; what a machine's block tells. The program's lane at the opening of a block. No condition. -/
import Derived.Test.YtkolnakcgjlcgaaQae
import Derived.Test.YtkolnakcgjlcgaaQag
import Derived.Test.YtkolnakcgjlcgaaQai
import Derived.Test.YtkolnakcgjlcgaaQbb
import Derived.Test.YtkolnakcgjlcgaaQbc

namespace Go.Proofs.Ytkolnakcgjlcgaa
open Go.RowKit

structure MO where
  w0 : World
  B : Nat
  C : Nat
  cs : List Cd
  vl : Value
  pm : Nat
  n : Nat
  m : Nat
  gl : Nat
  cl : Nat
  gm : Nat
  cm : Nat
  rc : Nat
  rows : Nat → Nat
def MO.vm (o : MO) : Value := .slice (some ⟨o.gm, 0, none⟩) o.m o.cm
def MO.row (o : MO) (k : Nat) : Value := .slice (some ⟨o.rows k, 0, none⟩) 4 o.rc
def MO.vL (o : MO) : Value := .slice (some ⟨o.gl, 0, none⟩) o.n o.cl
def MO.lw (o : MO) (k : Nat) : Lw.RMo := ⟨o.w0.heap.size, k, o.m, o.gm, o.cm, o.rc, o.rows⟩

/-- The machine of a program, in blocks of the heap from B to C. -/
def Mach (B C : Nat) (w : World) (p : Nat) (vl : Value) (cs : List Cd) : Prop :=
  ∃ (g c : Nat) (pb : Nat → Nat), (B ≤ p ∧ p < C) ∧ (B ≤ g ∧ g < C) ∧ w.cell? ⟨p, 0, none⟩ = some vl ∧ w.cell? ⟨p, 1, none⟩ = some (.slice (some ⟨g, 0, none⟩) cs.length c) ∧ cs.length ≤ c ∧ c ≤ 9223372036854775807 ∧
    (∀ j, j < cs.length → w.cell? ⟨g, j, none⟩ = some (ownV pb (ownOf cs j))) ∧
    ∀ q, q < cs.length → Opens (cs.getD q default) → (B ≤ pb q ∧ pb q < C) ∧ w.cell? ⟨pb q, 0, none⟩ = some (.int .i64 q) ∧ w.cell? ⟨pb q, 1, none⟩ = some (.int .i64 (endAt cs q).2) ∧ w.cell? ⟨pb q, 2, none⟩ = some (.int .i64 (endAt cs q).1)
theorem Mach.chg {S : Nat → Prop} {B C p : Nat} {w w' : World} {vl : Value} {cs : List Cd} (h : Mach B C w p vl cs) (hC : C ≤ w.heap.size) (hc : Chg S w w') (hS : ∀ b, S b → b < B ∨ C ≤ b) : Mach B C w' p vl cs := by
  obtain ⟨g, c, pb, hp, hg, h1, h2, h3, h4, h5, h6⟩ := h
  have hk : ∀ b i, B ≤ b → b < C → w'.cell? ⟨b, i, none⟩ = w.cell? ⟨b, i, none⟩ := fun b i q1 q2 => hc.cell (by omega) (fun hs => by rcases hS b hs with h | h <;> omega)
  refine ⟨g, c, pb, hp, hg, (hk _ _ hp.1 hp.2).trans h1, (hk _ _ hp.1 hp.2).trans h2, h3, h4, fun j hj => (hk _ _ hg.1 hg.2).trans (h5 j hj), fun q hq ho => ?_⟩
  obtain ⟨a0, a1, a2, a3⟩ := h6 q hq ho
  exact ⟨a0, (hk _ _ a0.1 a0.2).trans a1, (hk _ _ a0.1 a0.2).trans a2, (hk _ _ a0.1 a0.2).trans a3⟩

def LaneC (o : MO) (cur : Array Value) (vt : Nat → Value) (L : Nat → Ln) (k : Nat) : Prop :=
  cur[k * 4]? = some (o.row k) ∧ cur[k * 4 + 1]? = some (.int .i64 ((L k).at_ : Nat)) ∧ cur[k * 4 + 2]? = some (vt k) ∧ cur[k * 4 + 3]? = some (.bool (L k).W)
structure MRun (o : MO) (w : World) (vt : Nat → Value) (L : Nat → Ln) (M : Nat → Int) : Prop where
  pure : Pure o.w0 w
  codes : Codes o.w0 o.vl o.cs
  lo : o.w0.heap.size ≤ o.B
  bc : o.B ≤ o.C
  hC : o.C ≤ w.heap.size
  mach : Mach o.B o.C w o.pm o.vl o.cs
  n1 : 1 ≤ o.n
  n8 : o.n ≤ 8
  m1 : 1 ≤ o.m
  m32 : o.m ≤ 32
  cl1 : o.n ≤ o.cl
  cl2 : o.cl ≤ 9223372036854775807
  lanes : ∃ cur, w.heap[o.gl]? = some (.cells cur 43 (0, 0)) ∧ ∀ k, k < o.n → LaneC o cur vt L k
  glB : o.w0.heap.size ≤ o.gl ∧ o.gl < o.B
  row : ∀ k, k < o.n → OwnO w o.w0.heap.size 3 1 (o.row k) 4 (row4 (L k).R).toList
  rowB : ∀ k, k < o.n → o.rows k < o.B
  inj : ∀ k l, k < o.n → l < o.n → o.rows k = o.rows l → k = l
  mem : OwnO w o.w0.heap.size 3 1 o.vm o.m (memL o.m M)
  gmB : o.gm < o.B
  ne : ∀ k, k < o.n → o.rows k ≠ o.gm
  trn : ∀ k, k < o.n → OwnO w o.w0.heap.size 3 1 (vt k) (L k).T.length ((L k).T.map (.int .i64))
  trx : ∀ k g, k < o.n → (vt k).ownBlock = some g → (g < o.B ∨ o.C ≤ g) ∧ g ≠ o.gm ∧ ∀ l, l < o.n → g ≠ o.rows l
  tinj : ∀ k l, k < o.n → l < o.n → k ≠ l → ∀ g, (vt k).ownBlock = some g → (vt l).ownBlock ≠ some g
  good : ∀ k, k < o.n → ∀ r, Word ((L k).R r)
  mgood : ∀ j, Word (M j)
def MOwn (o : MO) (vt : Nat → Value) (b : Nat) : Prop := b = o.gl ∨ b = o.gm ∨ (∃ k, k < o.n ∧ b = o.rows k) ∨ ∃ k, k < o.n ∧ (vt k).ownBlock = some b
def MStep (o : MO) (w : World) (vt : Nat → Value) (w' : World) (vt' : Nat → Value) : Prop := Chg (MOwn o vt) w w' ∧ ∀ k, k < o.n → Lies w (vt k) (vt' k)
def upL (L : Nat → Ln) (k : Nat) (l : Ln) : Nat → Ln := fun j => if j = k then l else L j
def upV (vt : Nat → Value) (k : Nat) (v : Value) : Nat → Value := fun j => if j = k then v else vt j
theorem upL_same (L : Nat → Ln) (k : Nat) (l : Ln) : upL L k l k = l := if_pos rfl
theorem upL_up (L : Nat → Ln) (k : Nat) (l l' : Ln) : upL (upL L k l) k l' = upL L k l' := funext fun j => by
  unfold upL; split <;> simp_all
section
variable {o : MO} {w w' : World} {vt : Nat → Value} {L : Nat → Ln} {M : Nat → Int}
theorem MRun.glLt (h : MRun o w vt L M) : o.gl < w.heap.size := Nat.lt_of_lt_of_le h.glB.2 (Nat.le_trans h.bc h.hC)
theorem MRun.rowLo (h : MRun o w vt L M) {k : Nat} (hk : k < o.n) : o.w0.heap.size ≤ o.rows k ∧ o.rows k < w.heap.size := (h.row k hk).lt (o.rows k) rfl
theorem MRun.gmLo (h : MRun o w vt L M) : o.w0.heap.size ≤ o.gm ∧ o.gm < w.heap.size := h.mem.lt o.gm rfl
theorem MRun.trnLo (h : MRun o w vt L M) {k g : Nat} (hk : k < o.n) (hg : (vt k).ownBlock = some g) : o.w0.heap.size ≤ g ∧ g < w.heap.size := (h.trn k hk).lt g hg
theorem MRun.own_lo (h : MRun o w vt L M) : ∀ b, MOwn o vt b → o.w0.heap.size ≤ b := by
  rintro b (rfl | rfl | ⟨k, hk, rfl⟩ | ⟨k, hk, hg⟩)
  · exact h.glB.1
  · exact h.gmLo.1
  · exact (h.rowLo hk).1
  · exact (h.trnLo hk hg).1
theorem MRun.own_hi (h : MRun o w vt L M) : ∀ b, MOwn o vt b → b < w.heap.size := by
  rintro b (rfl | rfl | ⟨k, hk, rfl⟩ | ⟨k, hk, hg⟩)
  · exact h.glLt
  · exact h.gmLo.2
  · exact (h.rowLo hk).2
  · exact (h.trnLo hk hg).2
theorem MRun.own_mach (h : MRun o w vt L M) : ∀ b, MOwn o vt b → b < o.B ∨ o.C ≤ b := by
  rintro b (rfl | rfl | ⟨k, hk, rfl⟩ | ⟨k, hk, hg⟩)
  · exact .inl h.glB.2
  · exact .inl h.gmB
  · exact .inl (h.rowB k hk)
  · exact (h.trx k b hk hg).1
theorem MRun.gm_heap (h : MRun o w vt L M) : ∃ cur, w.heap[o.gm]? = some (.cells cur 3 (0, 0)) := h.mem.heap rfl
theorem MRun.row_heap (h : MRun o w vt L M) {k : Nat} (hk : k < o.n) : ∃ cur, w.heap[o.rows k]? = some (.cells cur 3 (0, 0)) := (h.row k hk).heap rfl
theorem MRun.trn_heap (h : MRun o w vt L M) {k g : Nat} (hk : k < o.n) (hg : (vt k).ownBlock = some g) : ∃ cur, w.heap[g]? = some (.cells cur 3 (0, 0)) := (h.trn k hk).heap hg
theorem MRun.gl_ne (h : MRun o w vt L M) : o.gl ≠ o.gm ∧ (∀ k, k < o.n → o.gl ≠ o.rows k) ∧ (∀ k, k < o.n → (vt k).ownBlock ≠ some o.gl) ∧ True := by
  obtain ⟨cur, b1, _⟩ := h.lanes
  obtain ⟨c2, b2⟩ := h.gm_heap
  refine ⟨ne_of_heap b1 b2 (by decide), fun k hk => ?_, fun k hk hg => ?_, trivial⟩
  · obtain ⟨c3, b3⟩ := h.row_heap hk
    exact ne_of_heap b1 b3 (by decide)
  · obtain ⟨c3, b3⟩ := h.trn_heap hk hg
    exact ne_of_heap b1 b3 (by decide) rfl
theorem MRun.row_trn (h : MRun o w vt L M) {k l g : Nat} (hk : k < o.n) (hl : l < o.n) (hg : (vt l).ownBlock = some g) : g ≠ o.rows k ∧ g ≠ o.gm :=
  ⟨(h.trx l g hl hg).2.2 k hk, (h.trx l g hl hg).2.1⟩
theorem MRun.keep (h : MRun o w vt L M) (hp : Pure w w') : MRun o w' vt L M := by
  obtain ⟨cur, b1, b2⟩ := h.lanes
  have hc : Chg (fun _ => False) w w' := Chg.of_pure hp
  exact ⟨h.pure.trans hp, h.codes, h.lo, h.bc, Nat.le_trans h.hC hp.size, h.mach.chg h.hC hc (fun b hb => hb.elim), h.n1, h.n8, h.m1, h.m32, h.cl1, h.cl2, ⟨cur, hc.heap b1 id, b2⟩, h.glB,
    fun k hk => (h.row k hk).pure hp, h.rowB, h.inj, h.mem.pure hp, h.gmB, h.ne, fun k hk => (h.trn k hk).pure hp, h.trx, h.tinj, h.good, h.mgood⟩
theorem MStep.refl (o : MO) (w : World) (vt : Nat → Value) : MStep o w vt w vt := ⟨Chg.refl _ _, fun _ _ _ h => .inl h⟩
theorem MStep.of_pure {a b : World} {vt : Nat → Value} (h : Pure a b) : MStep o a vt b vt := ⟨Chg.of_pure h, fun _ _ _ hg => .inl hg⟩
theorem MStep.trans {a b c : World} {u v x : Nat → Value} (h : MStep o a u b v) (k : MStep o b v c x) : MStep o a u c x := by
  refine ⟨h.1.trans' k.1 fun i hi hs => ?_, fun l hl g hg => ?_⟩
  · rcases hs with hs | hs | hs | ⟨l, hl, hs⟩
    · exact .inl hs
    · exact .inr (.inl hs)
    · exact .inr (.inr (.inl hs))
    · rcases h.2 l hl i hs with h2 | h2
      · exact .inr (.inr (.inr ⟨l, hl, h2⟩))
      · omega
  · rcases k.2 l hl g hg with h2 | h2
    · exact h.2 l hl g h2
    · exact .inr (Nat.le_trans h.1.size h2)
theorem MOwn.lies {u q : Nat → Value} {W : World} {g : Nat} (h : ¬ MOwn o u g) (hl : ∀ k, k < o.n → Lies W (u k) (q k)) (hg : g < W.heap.size) : ¬ MOwn o q g := by
  rintro (e | e | e | ⟨k, hk, e⟩)
  · exact h (.inl e)
  · exact h (.inr (.inl e))
  · exact h (.inr (.inr (.inl e)))
  · rcases hl k hk g e with h2 | h2
    · exact h (.inr (.inr (.inr ⟨k, hk, h2⟩)))
    · omega

/-- What the walk reads of a lane. -/
theorem MRun.laneCells (h : MRun o w vt L M) {k : Nat} (hk : k < o.n) : w.cell? ⟨o.gl, k * 4, none⟩ = some (o.row k) ∧ w.cell? ⟨o.gl, k * 4 + 1, none⟩ = some (.int .i64 ((L k).at_ : Nat)) ∧ w.cell? ⟨o.gl, k * 4 + 2, none⟩ = some (vt k) ∧ w.cell? ⟨o.gl, k * 4 + 3, none⟩ = some (.bool (L k).W) ∧
    ∀ i, w.frozen? ⟨o.gl, i, none⟩ = false := by
  obtain ⟨cur, b1, b2⟩ := h.lanes
  obtain ⟨c0, c1, c2, c3⟩ := b2 k hk
  refine ⟨?_, ?_, ?_, ?_, fun i => frozen_of_row w o.gl i _ _ b1⟩ <;> (rw [cell_of_row w o.gl _ cur _ _ b1]; assumption)
theorem MRun.regs (h : MRun o w vt L M) {k : Nat} (hk : k < o.n) : Lw.RM (o.lw k) w (fun l => (L l).R) M :=
  ⟨h.m1, h.m32, h.row k hk, h.mem, h.ne k hk⟩
theorem MRun.regCell (h : MRun o w vt L M) {k : Nat} (hk : k < o.n) {r : Nat} (hr : r < 4) : w.cell? ⟨o.rows k, r, none⟩ = some (.int .i64 ((L k).R r)) :=
  (h.regs hk).regCell (k := k) ⟨rfl, Nat.lt_of_lt_of_le hk h.n8⟩ hr
/-- The frame of a change to some blocks of a run's own. -/
theorem MRun.frame {S : Nat → Prop} {vt' : Nat → Value} {L' : Nat → Ln} {M' : Nat → Int} (h : MRun o w vt L M) (hc : Chg S w w') (hS : ∀ b, S b → MOwn o vt b)
    (hl : ∃ cur, w'.heap[o.gl]? = some (.cells cur 43 (0, 0)) ∧ ∀ k, k < o.n → LaneC o cur vt' L' k)
    (hr : ∀ k, k < o.n → OwnO w' o.w0.heap.size 3 1 (o.row k) 4 (row4 (L' k).R).toList) (hm : OwnO w' o.w0.heap.size 3 1 o.vm o.m (memL o.m M'))
    (ht : ∀ k, k < o.n → OwnO w' o.w0.heap.size 3 1 (vt' k) (L' k).T.length ((L' k).T.map (.int .i64))) (hx : ∀ k g, k < o.n → (vt' k).ownBlock = some g → (g < o.B ∨ o.C ≤ g) ∧ g ≠ o.gm ∧ ∀ l, l < o.n → g ≠ o.rows l) (hi : ∀ k l, k < o.n → l < o.n → k ≠ l → ∀ g, (vt' k).ownBlock = some g → (vt' l).ownBlock ≠ some g)
    (hg : ∀ k, k < o.n → ∀ r, Word ((L' k).R r)) (hmg : ∀ j, Word (M' j)) : MRun o w' vt' L' M' :=
  ⟨Chg.pure h.pure hc (fun b hb => h.own_lo b (hS b hb)), h.codes, h.lo, h.bc, Nat.le_trans h.hC hc.size, h.mach.chg h.hC hc (fun b hb => h.own_mach b (hS b hb)), h.n1, h.n8, h.m1, h.m32, h.cl1, h.cl2,
    hl, h.glB, hr, h.rowB, h.inj, hm, h.gmB, h.ne, ht, hx, hi, hg, hmg⟩
/-- A cell of a lane is written: its place, or whether it waits. -/
theorem MRun.setCell (h : MRun o w vt L M) {k i : Nat} (hk : k < o.n) {v : Value} {l : Ln} (hR : l.R = (L k).R) (hT : l.T = (L k).T) (hv : (i = 1 ∧ v = .int .i64 (l.at_ : Nat) ∧ l.W = (L k).W) ∨ (i = 3 ∧ v = .bool l.W ∧ l.at_ = (L k).at_)) :
    MRun o (w.setCell ⟨o.gl, k * 4 + i, none⟩ v) vt (upL L k l) M ∧ MStep o w vt (w.setCell ⟨o.gl, k * 4 + i, none⟩ v) vt := by
  obtain ⟨cur, b1, b2⟩ := h.lanes
  have hc : Chg (fun b => b = o.gl) w (w.setCell ⟨o.gl, k * 4 + i, none⟩ v) := Chg.of_set w _ _ _ rfl
  have hne := h.gl_ne
  refine ⟨h.frame hc (fun b hb => .inl hb) ⟨_, heap_setCell_same w o.gl (k * 4 + i) _ _ v b1, fun j hj => ?_⟩ (fun j hj => ?_) (h.mem.chg hc fun g hg e => ?_) (fun j hj => ?_) h.trx h.tinj (fun j hj r => ?_) h.mgood, hc.mono fun b hb => .inl hb, fun _ _ _ hg => .inl hg⟩
  · obtain ⟨c0, c1, c2, c3⟩ := b2 j hj
    have hsz : k * 4 + i < cur.size := by
      obtain ⟨d0, d1, d2, d3⟩ := b2 k hk
      have := (Array.getElem?_eq_some_iff.1 d3).1
      omega
    unfold LaneC upL
    by_cases e : j = k
    · subst e
      rcases hv with ⟨rfl, rfl, hw⟩ | ⟨rfl, rfl, ha⟩
      · refine ⟨?_, ?_, ?_, ?_⟩
        · rw [Array.getElem?_setIfInBounds_ne (by omega)]; exact c0
        · rw [Array.getElem?_setIfInBounds_self_of_lt hsz]; simp
        · rw [Array.getElem?_setIfInBounds_ne (by omega)]; exact c2
        · rw [Array.getElem?_setIfInBounds_ne (by omega), c3]; simp [hw]
      · refine ⟨?_, ?_, ?_, ?_⟩
        · rw [Array.getElem?_setIfInBounds_ne (by omega)]; exact c0
        · rw [Array.getElem?_setIfInBounds_ne (by omega), c1]; simp [ha]
        · rw [Array.getElem?_setIfInBounds_ne (by omega)]; exact c2
        · rw [Array.getElem?_setIfInBounds_self_of_lt hsz]; simp
    · have hi : i = 1 ∨ i = 3 := by omega
      rw [if_neg e]
      refine ⟨?_, ?_, ?_, ?_⟩
      · rw [Array.getElem?_setIfInBounds_ne (by omega)]; exact c0
      · rw [Array.getElem?_setIfInBounds_ne (by omega)]; exact c1
      · rw [Array.getElem?_setIfInBounds_ne (by omega)]; exact c2
      · rw [Array.getElem?_setIfInBounds_ne (by omega)]; exact c3
  · have hr := (h.row j hj).chg hc fun g hg e => by
      simp [MO.row, Value.ownBlock] at hg
      exact hne.2.1 j hj (by rw [← e, hg])
    unfold upL
    split
    · rename_i e; subst e; rw [hR]; exact hr
    · exact hr
  · simp [MO.vm, Value.ownBlock] at hg
    exact hne.1 (by rw [← e, hg])
  · have ht := (h.trn j hj).chg hc fun g hg e => hne.2.2.1 j hj (by rw [hg, e])
    unfold upL
    split
    · rename_i e; subst e; rw [hT]; exact ht
    · exact ht
  · unfold upL
    split
    · rename_i e; subst e; rw [hR]; exact h.good j hj r
    · exact h.good j hj r
theorem MRun.setAt (h : MRun o w vt L M) {k : Nat} (hk : k < o.n) (a : Nat) : MRun o (w.setCell ⟨o.gl, k * 4 + 1, none⟩ (.int .i64 (a : Nat))) vt (upL L k { L k with at_ := a }) M ∧ MStep o w vt (w.setCell ⟨o.gl, k * 4 + 1, none⟩ (.int .i64 (a : Nat))) vt :=
  h.setCell hk rfl rfl (.inl ⟨rfl, rfl, rfl⟩)
theorem MRun.setW (h : MRun o w vt L M) {k : Nat} (hk : k < o.n) (b : Bool) : MRun o (w.setCell ⟨o.gl, k * 4 + 3, none⟩ (.bool b)) vt (upL L k { L k with W := b }) M ∧ MStep o w vt (w.setCell ⟨o.gl, k * 4 + 3, none⟩ (.bool b)) vt :=
  h.setCell hk rfl rfl (.inr ⟨rfl, rfl, rfl⟩)
/-- The turns of a lane are written anew. -/
theorem MRun.setT (h : MRun o w vt L M) {k : Nat} (hk : k < o.n) {wq : World} {v' : Value} {T' : List Int} (hg : w.grownBy wq (vt k).ownBlock) (ho : OwnO wq o.w0.heap.size 3 1 v' T'.length (T'.map (.int .i64))) (hl : Lies w (vt k) v') :
    MRun o (wq.setCell ⟨o.gl, k * 4 + 2, none⟩ v') (upV vt k v') (upL L k { L k with T := T' }) M ∧ MStep o w vt (wq.setCell ⟨o.gl, k * 4 + 2, none⟩ v') (upV vt k v') := by
  obtain ⟨cur, b1, b2⟩ := h.lanes
  have hne := h.gl_ne
  have hc1 : Chg (fun b => (vt k).ownBlock = some b) w wq := Chg.of_grown hg fun b hb => hb
  have hc2 : Chg (fun b => b = o.gl) wq (wq.setCell ⟨o.gl, k * 4 + 2, none⟩ v') := Chg.of_set wq _ _ _ rfl
  have b1' : wq.heap[o.gl]? = some (.cells cur 43 (0, 0)) := hc1.heap b1 (hne.2.2.1 k hk)
  have hc : Chg (fun b => (vt k).ownBlock = some b ∨ b = o.gl) w (wq.setCell ⟨o.gl, k * 4 + 2, none⟩ v') := (hc1.mono fun b hb => .inl hb).trans (hc2.mono fun b hb => .inr hb)
  have hS : ∀ b, ((vt k).ownBlock = some b ∨ b = o.gl) → MOwn o vt b := by
    rintro b (hb | hb)
    · exact .inr (.inr (.inr ⟨k, hk, hb⟩))
    · exact .inl hb
  refine ⟨h.frame hc hS ⟨_, heap_setCell_same wq o.gl (k * 4 + 2) _ _ v' b1', fun j hj => ?_⟩ (fun j hj => ?_) (h.mem.chg hc fun g hg2 => ?_) (fun j hj => ?_) (fun j g hj hg2 => ?_) (fun i j hi hj hij g hg2 => ?_) (fun j hj r => ?_) h.mgood, hc.mono hS, fun j hj g hg2 => ?_⟩
  · obtain ⟨c0, c1, c2, c3⟩ := b2 j hj
    have hsz : k * 4 + 2 < cur.size := by
      obtain ⟨d0, d1, d2, d3⟩ := b2 k hk
      have := (Array.getElem?_eq_some_iff.1 d3).1
      omega
    unfold LaneC upL upV
    by_cases e : j = k
    · subst e
      refine ⟨?_, ?_, ?_, ?_⟩
      · rw [Array.getElem?_setIfInBounds_ne (by omega)]; exact c0
      · rw [Array.getElem?_setIfInBounds_ne (by omega), c1]; simp
      · rw [Array.getElem?_setIfInBounds_self_of_lt hsz]; simp
      · rw [Array.getElem?_setIfInBounds_ne (by omega), c3]; simp
    · rw [if_neg e, if_neg e]
      refine ⟨?_, ?_, ?_, ?_⟩
      · rw [Array.getElem?_setIfInBounds_ne (by omega)]; exact c0
      · rw [Array.getElem?_setIfInBounds_ne (by omega)]; exact c1
      · rw [Array.getElem?_setIfInBounds_ne (by omega)]; exact c2
      · rw [Array.getElem?_setIfInBounds_ne (by omega)]; exact c3
  · have hr := (h.row j hj).chg hc fun g hg2 => by
      simp [MO.row, Value.ownBlock] at hg2
      subst hg2
      rintro (e | e)
      · exact (h.row_trn hj hk e).1 rfl
      · exact hne.2.1 j hj e.symm
    unfold upL
    split
    · rename_i e; subst e; exact hr
    · exact hr
  · simp [MO.vm, Value.ownBlock] at hg2
    subst hg2
    rintro (e | e)
    · exact (h.row_trn hk hk e).2 rfl
    · exact hne.1 e.symm
  · unfold upL upV
    by_cases e : j = k
    · rw [if_pos e, if_pos e]
      refine ho.chg hc2 fun g hg2 e2 => ?_
      obtain ⟨c3, b3⟩ := ho.heap hg2
      rw [e2] at b3
      exact ne_of_heap b1' b3 (by decide) rfl
    · rw [if_neg e, if_neg e]
      refine (h.trn j hj).chg hc fun g hg2 => ?_
      rintro (e2 | e2)
      · exact h.tinj j k hj hk e g hg2 e2
      · exact hne.2.2.1 j hj (by rw [hg2, e2])
  · unfold upV at hg2
    by_cases e1 : j = k
    · rw [if_pos e1] at hg2
      rcases hl g hg2 with h2 | h2
      · exact h.trx k g hk h2
      · have h3 := h.hC
        have h4 := h.gmLo.2
        exact ⟨.inr (by omega), by omega, fun l hl => by have := (h.rowLo hl).2; omega⟩
    · rw [if_neg e1] at hg2
      exact h.trx j g hj hg2
  · unfold upV at hg2 ⊢
    by_cases e1 : i = k
    · rw [if_pos e1] at hg2
      rw [if_neg (fun e2 => hij (e1.trans e2.symm))]
      intro hq
      rcases hl g hg2 with h2 | h2
      · exact h.tinj k j hk hj (by omega) g h2 hq
      · have := (h.trnLo hj hq).2; omega
    · rw [if_neg e1] at hg2
      by_cases e2 : j = k
      · rw [if_pos e2]
        intro hq
        rcases hl g hq with h2 | h2
        · exact h.tinj i k hi hk e1 g hg2 h2
        · have := (h.trnLo hi hg2).2; omega
      · rw [if_neg e2]
        exact h.tinj i j hi hj hij g hg2
  · unfold upL
    split
    · rename_i e; subst e; exact h.good j hj r
    · exact h.good j hj r
  · unfold upV at hg2
    split at hg2
    · rename_i e; subst e; exact hl g hg2
    · exact .inl hg2
/-- A lane has executed an instruction. -/
theorem MRun.lane (h : MRun o w vt L M) {k : Nat} (hk : k < o.n) {c : Cd} (hc : CdOk c) (hs : Lw.SimPost (o.lw k) c k (fun l => (L l).R) M w (.returned (.tuple #[])) w') :
    MRun o w' vt (upL L k { L k with R := simR c k o.m (L k).R M }) (simM c o.m (L k).R M) ∧ MStep o w vt w' vt := by
  obtain ⟨_, hr, hch⟩ := hs
  have hne := h.gl_ne
  obtain ⟨cur, b1, b2⟩ := h.lanes
  have hS : ∀ b, (o.lw k).lane k b → MOwn o vt b := by
    rintro b (hb | hb)
    · exact .inr (.inr (.inl ⟨k, hk, hb⟩))
    · exact .inr (.inl hb)
  have hk8 : k ≤ 255 := by have := h.n8; omega
  refine ⟨h.frame hch hS ⟨cur, hch.heap b1 ?_, fun j hj => ?_⟩ (fun j hj => ?_) hr.mem (fun j hj => ?_) h.trx h.tinj (fun j hj r => ?_) (simM_word (h.good k hk) h.mgood), hch.mono hS, fun _ _ _ hg => .inl hg⟩
  · rintro (e | e)
    · exact hne.2.1 k hk e
    · exact hne.1 e
  · obtain ⟨c0, c1, c2, c3⟩ := b2 j hj
    unfold LaneC upL
    split
    · rename_i e; subst e; exact ⟨c0, c1, c2, c3⟩
    · exact ⟨c0, c1, c2, c3⟩
  · unfold upL
    by_cases e : j = k
    · subst e
      have := hr.row
      rw [if_pos rfl]
      have e2 : upR (fun l => (L l).R) j (simR c j (o.lw j).m (L j).R M) j = simR c j o.m (L j).R M := if_pos rfl
      rw [show (o.lw j).k = j from rfl, e2] at this
      exact this
    · rw [if_neg e]
      refine (h.row j hj).chg hch fun g hg => ?_
      simp [MO.row, Value.ownBlock] at hg
      subst hg
      rintro (e2 | e2)
      · exact e (h.inj j k hj hk e2)
      · exact h.ne j hj e2
  · have ht := (h.trn j hj).chg hch fun g hg => by
      rintro (e | e)
      · exact (h.row_trn hk hj hg).1 e
      · exact (h.row_trn hk hj hg).2 e
    unfold upL
    split
    · rename_i e; subst e; exact ht
    · exact ht
  · unfold upL
    split
    · rename_i e; subst e; exact simR_word hc hk8 (h.good j hj) h.mgood r
    · exact h.good j hj r
end
def MPost (o : MO) (w : World) (vt : Nat → Value) (L : Nat → Ln) (M : Nat → Int) (e : Ending) (w' : World) : Prop := e = .returned (.tuple #[]) ∧ ∃ vt', MRun o w' vt' L M ∧ MStep o w vt w' vt'

end Go.Proofs.Ytkolnakcgjlcgaa

namespace Go.Proofs.Ytkolnakcgjlcgaa
open Go.RowKit

set_option maxHeartbeats 1000000 in
theorem idone_raw (w : World) (pm b off n c : Nat) (A : Option Addr) (a : Int) (q0 : w.cell? ⟨pm, 0, none⟩ = some (.slice A n c)) (q1 : w.cell? ⟨b, off + 1, none⟩ = some (.int .i64 a)) :
    Calls Try.prog 69 #[.pointer (some ⟨pm, 0, none⟩), .pointer (some ⟨b, off, none⟩)] w fun e w' => e = .returned (.bool (a == (n : Int))) ∧ Pure w w' := by
  go_enter Try.func69, Try.ntmps69
  go_wp2_with fail
  go_quiet (fail)
  go_wp2
  go_ret
  exact ⟨rfl, by exact (by repeat (first | assumption | exact Pure.refl _ | refine Pure.drewN ?_ _ | refine Pure.drew ?_ | refine Pure.alloc ?_ _ | refine Pure.setCell ?_ (by simp <;> omega) _))⟩

/-- What the walk reads of a machine. -/
theorem MRun.machCell {o : MO} {w : World} {vt : Nat → Value} {L : Nat → Ln} {M : Nat → Int} (h : MRun o w vt L M) : ∃ A c, o.vl = .slice A o.cs.length c ∧ w.cell? ⟨o.pm, 0, none⟩ = some (.slice A o.cs.length c) := by
  obtain ⟨A, c, hv, _, _⟩ := h.codes.form
  obtain ⟨g, c', pb, hp, hg, h1, _⟩ := h.mach
  exact ⟨A, c, hv, by rw [← hv]; exact h1⟩

theorem idone_any (o : MO) (w : World) (vt : Nat → Value) (L : Nat → Ln) (M : Nat → Int) (h : MRun o w vt L M) (k : Nat) (hk : k < o.n) :
    Calls Try.prog 69 #[.pointer (some ⟨o.pm, 0, none⟩), .pointer (some ⟨o.gl, k * 4, none⟩)] w fun e w' => e = .returned (.bool (decide ((L k).at_ = o.cs.length))) ∧ Pure w w' := by
  obtain ⟨A, c, hv, hm⟩ := h.machCell
  obtain ⟨q0, q1, q2, q3, _⟩ := h.laneCells hk
  refine (idone_raw w o.pm o.gl (k * 4) o.cs.length c A _ hm q1).mono ?_
  rintro e w' ⟨rfl, hp⟩
  refine ⟨ret_bool ?_, hp⟩
  rw [Bool.eq_iff_iff, beq_iff_eq, decide_eq_true_iff]
  omega

end Go.Proofs.Ytkolnakcgjlcgaa

namespace Go.Proofs.Ytkolnakcgjlcgaa
open Go.RowKit

/-- What the walk reads of the instruction at a place, and of its block. -/
theorem MRun.codeAt {o : MO} {w : World} {vt : Nat → Value} {L : Nat → Ln} {M : Nat → Int} (h : MRun o w vt L M) {a : Nat} (ha : a < o.cs.length) : ∃ b ob c, o.vl = .slice (some ⟨b, ob, none⟩) o.cs.length c ∧ b < w.heap.size ∧ w.cell? ⟨o.pm, 0, none⟩ = some (.slice (some ⟨b, ob, none⟩) o.cs.length c) ∧
    w.cell? ⟨b, ob + a * 4, none⟩ = some (.int .i64 (o.cs.getD a default).op) ∧ w.cell? ⟨b, ob + a * 4 + 1, none⟩ = some (.int .i64 (o.cs.getD a default).a) ∧ w.cell? ⟨b, ob + a * 4 + 2, none⟩ = some (.int .i64 (o.cs.getD a default).b) ∧ w.cell? ⟨b, ob + a * 4 + 3, none⟩ = some (.int .i64 (o.cs.getD a default).c) := by
  obtain ⟨A, c, hv, hm⟩ := h.machCell
  have hcs := h.codes.keep h.pure
  rw [hv] at hcs
  obtain ⟨b, ob, rfl, hb, hc⟩ := hcs.at_ ha
  obtain ⟨c0, c1, c2, c3⟩ := hc
  exact ⟨b, ob, c, hv, hb, hm, c0, c1, c2, c3⟩
theorem MRun.ownAt {o : MO} {w : World} {vt : Nat → Value} {L : Nat → Ln} {M : Nat → Int} (h : MRun o w vt L M) : ∃ (g c : Nat) (pb : Nat → Nat), w.cell? ⟨o.pm, 1, none⟩ = some (.slice (some ⟨g, 0, none⟩) o.cs.length c) ∧ o.cs.length ≤ c ∧ c ≤ 9223372036854775807 ∧ (∀ j, j < o.cs.length → w.cell? ⟨g, j, none⟩ = some (ownV pb (ownOf o.cs j))) ∧
    ∀ q, q < o.cs.length → Opens (o.cs.getD q default) → (o.B ≤ pb q ∧ pb q < o.C) ∧ w.cell? ⟨pb q, 0, none⟩ = some (.int .i64 q) ∧ w.cell? ⟨pb q, 1, none⟩ = some (.int .i64 (endAt o.cs q).2) ∧ w.cell? ⟨pb q, 2, none⟩ = some (.int .i64 (endAt o.cs q).1) := by
  obtain ⟨g, c, pb, hp, hg, h1, h2, h3, h4, h5, h6⟩ := h.mach
  exact ⟨g, c, pb, h2, h3, h4, h5, fun q hq ho => h6 q hq ho⟩

theorem lnStep_if {cs : List Cd} {m id : Nat} {l : Ln} {M : Nat → Int} (h : (cs.getD l.at_ default).op = 11) (hz : l.R (cs.getD l.at_ default).a.toNat ≠ 0) : lnStep cs m id l M = { l with at_ := l.at_ + 1 } := by
  unfold lnStep; simp only; rw [if_neg (by omega), if_pos h, if_neg hz]
theorem lnStep_loop {cs : List Cd} {m id : Nat} {l : Ln} {M : Nat → Int} (h : (cs.getD l.at_ default).op = 13) (hz : l.R (cs.getD l.at_ default).a.toNat ≠ 0) : lnStep cs m id l M = { l with at_ := l.at_ + 1, T := l.T ++ [(cs.getD l.at_ default).b - 1] } := by
  unfold lnStep; simp only; rw [if_neg (by omega), if_neg (by omega), if_neg (by omega), if_pos h, if_neg hz]
theorem lnStep_out {cs : List Cd} {m id : Nat} {l : Ln} {M : Nat → Int} (h : Opens (cs.getD l.at_ default)) (hl : (cs.getD l.at_ default).op = 13 → (endAt cs l.at_).2 < 0) (hz : l.R (cs.getD l.at_ default).a.toNat = 0) : lnStep cs m id l M = { l with at_ := outAt cs l.at_ } := by
  unfold lnStep; simp only
  rcases h with h | h
  · rw [if_neg (by omega), if_pos h, if_pos hz]
  · rw [if_neg (by omega), if_neg (by omega), if_neg (by omega), if_pos h, if_pos hz]
    have : outAt cs l.at_ = ((endAt cs l.at_).1 + 1).toNat := by unfold outAt; rw [if_neg (by have := hl h; omega)]
    rw [this]
theorem MRun.postAt {o : MO} {w wx w1 : World} {vt vt1 : Nat → Value} {L1 L' : Nat → Ln} {M : Nat → Int} {k kk a : Nat} {v : Int} (h : MRun o wx vt1 L1 M) (hst : MStep o w vt wx vt1) (hp : Pure wx w1) (hk : k < o.n) (hkk : k * 4 = kk) (hv : v = (a : Int)) (e : L' = upL L1 k { L1 k with at_ := a }) :
    MPost o w vt L' M (.returned (.tuple #[])) (w1.setCell ⟨o.gl, kk + 1, none⟩ (.int .i64 v)) := by
  subst hkk hv e
  obtain ⟨g1, g2⟩ := (h.keep hp).setAt hk a
  exact ⟨rfl, vt1, g1, hst.trans ((MStep.of_pure hp).trans g2)⟩

set_option maxHeartbeats 4000000 in
set_option maxRecDepth 100000 in
theorem ienter_any (o : MO) (hv : PValid o.cs) (w : World) (vt : Nat → Value) (L : Nat → Ln) (M : Nat → Int) (h : MRun o w vt L M) (k : Nat) (hk : k < o.n) (hlt : (L k).at_ < o.cs.length) (hop : Opens (o.cs.getD (L k).at_ default)) (htl : (L k).T.length ≤ 40) :
    Calls Try.prog 91 #[.pointer (some ⟨o.pm, 0, none⟩), .pointer (some ⟨o.gl, k * 4, none⟩)] w (MPost o w vt (upL L k (lnStep o.cs o.m k (L k) M)) M) := by
  have H := Lib.hid h
  obtain ⟨l, Hl⟩ : ∃ l, Hid (L k = l) := ⟨_, Lib.hid rfl⟩
  rw [Hl.out] at hlt hop htl ⊢
  obtain ⟨a, Ha⟩ : ∃ a, Hid (l.at_ = a) := ⟨_, Lib.hid rfl⟩
  rw [Ha.out] at hlt hop
  have hlen := hv.2.1
  obtain ⟨q0, q1, q2, q3, qf⟩ := h.laneCells hk
  rw [Hl.out] at q1 q3
  rw [Ha.out] at q1
  obtain ⟨b, ob, cv, hvl, hb, m0, c0, c1, c2, c3⟩ := h.codeAt hlt
  obtain ⟨g, cg, pb, m1, hg1, hg2, hown, hblk⟩ := h.ownAt
  have g0 : w.cell? ⟨g, a, none⟩ = some (.pointer (some ⟨pb a, 0, none⟩)) := by
    have := hown a hlt
    have e : ownOf o.cs a = some a := by unfold ownOf; rw [if_pos hop]
    rw [e] at this; exact this
  obtain ⟨_, e0, e1, e2⟩ := hblk a hlt hop
  obtain ⟨cd, Hcd⟩ : ∃ cd, Hid (o.cs.getD a default = cd) := ⟨_, Lib.hid rfl⟩
  have hcok : CdOk cd := by rw [← Hcd.out]; exact hv.1 _ (cdOk_mem hlt)
  have hreg : Reg cd.a := by
    rw [Hcd.out] at hop
    unfold CdOk at hcok
    rcases hop with hop | hop
    · rcases hcok with h | h | h | h | h | h
      · omega
      · exact h.2.1
      · omega
      · omega
      · omega
      · omega
    · rcases hcok with h | h | h | h | h | h
      · omega
      · omega
      · omega
      · omega
      · exact h.2.1
      · omega
  have hcb : cd.op = 13 → 1 ≤ cd.b ∧ cd.b ≤ 4 := fun h13 => by
    unfold CdOk at hcok
    rcases hcok with h | h | h | h | h | h
    · omega
    · omega
    · omega
    · omega
    · exact h.2.2.1
    · omega
  have HCBD := Lib.hid hcb
  have hne0 : ∀ g, (vt k).ownBlock = some g → g ≠ o.gl ∧ g ≠ w.heap.size := fun g hg => ⟨fun e => h.gl_ne.2.2.1 k hk (by rw [hg, e]), by have := (h.trnLo hk hg).2; omega⟩
  obtain ⟨an, han⟩ := Int.eq_ofNat_of_zero_le hreg.1
  have han4 : an < 4 := by have := hreg.2; omega
  have r0 := h.regCell hk han4
  rw [Hl.out] at r0
  obtain ⟨x, Hx⟩ : ∃ x, Hid (l.R an = x) := ⟨_, Lib.hid rfl⟩
  rw [Hx.out] at r0
  obtain ⟨ot, Hot⟩ : ∃ ot, Hid ((endAt o.cs a).2 = ot) := ⟨_, Lib.hid rfl⟩
  obtain ⟨en, Hen⟩ : ∃ en, Hid ((endAt o.cs a).1 = en) := ⟨_, Lib.hid rfl⟩
  rw [Hot.out] at e1
  rw [Hen.out] at e2
  obtain ⟨eN, oI, hbi⟩ := (hv.pi hlt).1 hop
  have hee : (endAt o.cs a).1 = (eN : Int) ∧ (endAt o.cs a).2 = oI := by rw [hbi.ends]; exact ⟨rfl, rfl⟩
  have hen : en = (eN : Int) := by rw [← Hen.out]; exact hee.1
  have hen40 : eN < 40 := by have := hbi.le; omega
  have hotb : ot < 40 ∧ -1 ≤ ot := by
    rw [← Hot.out, hee.2]
    rcases hbi.el with h | ⟨q, h, h1, h2, _⟩ <;> omega
  have hol : cd.op = 13 → ot < 0 := fun h13 => by
    rw [← Hot.out, hee.2]
    rcases hbi.el with h | ⟨q, h, h1, h2, _, _, h3⟩
    · omega
    · rw [Hcd.out] at h3; omega
  have hoa : outAt o.cs a = (if 0 ≤ ot then (ot + 1).toNat else (en + 1).toNat) := by unfold outAt; rw [Hot.out, Hen.out]
  have HOL := Lib.hid hol
  have HOA := Lib.hid hoa
  have HCL := Lib.hid (show cd = o.cs.getD l.at_ default by rw [Ha.out]; exact Hcd.out.symm)
  rw [Hcd.out] at c0 c1 c2 c3 hop
  have HOP := Lib.hid hop
  have htrn := h.trn k hk
  rw [Hl.out] at htrn
  have HT := Lib.hid htrn
  obtain ⟨At, ct, hvt⟩ := htrn.form
  rw [hvt] at q2
  have HVT := Lib.hid hvt
  rw [hvt] at htrn HT hne0
  have HNE0 := Lib.hid hne0
  have HCB : o.C ≤ w.heap.size := h.hC
  obtain ⟨kk, Hkk⟩ : ∃ kk, Hid (k * 4 = kk) := ⟨_, Lib.hid rfl⟩
  rw [Hkk.out] at q0 q1 q2 q3 ⊢
  have ha0 : (0 : Int) ≤ (a : Int) := by omega
  have haI : (a : Int) < (o.cs.length : Int) := by omega
  have hglw : o.gl < w.heap.size := h.glLt
  have f1 := qf (kk + 1)
  have f2 := qf (kk + 2)
  obtain ⟨op, ca, cb, cc⟩ := cd
  simp only at c0 c1 c2 c3 han
  subst han
  unfold MO.row at q0
  have han0 : (0 : Int) ≤ (an : Int) := by omega
  have han4I : (an : Int) < 4 := by omega
  clear h hv hop hreg hcok hcb hne0 hbi hee hol hoa hown hblk qf htrn hvt hvl e0
  go_enter Try.func91, Try.ntmps91
  go_wp2_with fail
  refine region_heldF (fun w' => w'.cell? ⟨o.pm, 0, none⟩ = some (.slice (some ⟨b, ob, none⟩) o.cs.length cv) ∧ w'.cell? ⟨o.pm, 1, none⟩ = some (.slice (some ⟨g, 0, none⟩) o.cs.length cg) ∧ w'.cell? ⟨o.gl, kk + 1, none⟩ = some (.int .i64 (a : Int)) ∧ w'.cell? ⟨g, a, none⟩ = some (.pointer (some ⟨pb a, 0, none⟩)) ∧ w'.cell? ⟨b, ob + a * 4, none⟩ = some (.int .i64 op) ∧ w'.cell? ⟨b, ob + a * 4 + 1, none⟩ = some (.int .i64 (an : Int)) ∧ w'.cell? ⟨b, ob + a * 4 + 2, none⟩ = some (.int .i64 cb) ∧ w'.cell? ⟨b, ob + a * 4 + 3, none⟩ = some (.int .i64 cc))
    (List.range 20) [20, 21, 22] (fun l => List.take 20 l) (fun l => List.drop 20 l) (by kernel_rfl) (by kernel_rfl) (by kernel_rfl) (by kernel_rfl) (fun c a d v w h => by cases d <;> exact h) (by exact ⟨m0, m1, q1, g0, c0, c1, c2, c3⟩) ?_
  simp only [List.take_succ_cons, List.take_zero, List.drop_succ_cons, List.drop_zero]
  iterate 20
    apply held_of
    · exact rfl
    · intro w' hS
      obtain ⟨s0, s1, s2, s3, s4, s5, s6, s7⟩ := hS
      go_simp
      try exact rfl
    try go_simp
  refine held_nil ?_
  unfold Tail
  go_wp2
  refine And.intro (by exact ⟨keepP (by repeat (first | assumption | exact Pure.refl _ | refine Pure.drewN ?_ _ | refine Pure.drew ?_ | refine Pure.alloc ?_ _ | refine Pure.setCell ?_ (by simp <;> omega) _)) m0, keepP (by repeat (first | assumption | exact Pure.refl _ | refine Pure.drewN ?_ _ | refine Pure.drew ?_ | refine Pure.alloc ?_ _ | refine Pure.setCell ?_ (by simp <;> omega) _)) m1, keepP (by repeat (first | assumption | exact Pure.refl _ | refine Pure.drewN ?_ _ | refine Pure.drew ?_ | refine Pure.alloc ?_ _ | refine Pure.setCell ?_ (by simp <;> omega) _)) q1, keepP (by repeat (first | assumption | exact Pure.refl _ | refine Pure.drewN ?_ _ | refine Pure.drew ?_ | refine Pure.alloc ?_ _ | refine Pure.setCell ?_ (by simp <;> omega) _)) g0, keepP (by repeat (first | assumption | exact Pure.refl _ | refine Pure.drewN ?_ _ | refine Pure.drew ?_ | refine Pure.alloc ?_ _ | refine Pure.setCell ?_ (by simp <;> omega) _)) c0, keepP (by repeat (first | assumption | exact Pure.refl _ | refine Pure.drewN ?_ _ | refine Pure.drew ?_ | refine Pure.alloc ?_ _ | refine Pure.setCell ?_ (by simp <;> omega) _)) c1, keepP (by repeat (first | assumption | exact Pure.refl _ | refine Pure.drewN ?_ _ | refine Pure.drew ?_ | refine Pure.alloc ?_ _ | refine Pure.setCell ?_ (by simp <;> omega) _)) c2, keepP (by repeat (first | assumption | exact Pure.refl _ | refine Pure.drewN ?_ _ | refine Pure.drew ?_ | refine Pure.alloc ?_ _ | refine Pure.setCell ?_ (by simp <;> omega) _)) c3⟩) ?_
  unfold Tail
  go_wp2
  refine And.intro (by exact ⟨keepP (by repeat (first | assumption | exact Pure.refl _ | refine Pure.drewN ?_ _ | refine Pure.drew ?_ | refine Pure.alloc ?_ _ | refine Pure.setCell ?_ (by simp <;> omega) _)) m0, keepP (by repeat (first | assumption | exact Pure.refl _ | refine Pure.drewN ?_ _ | refine Pure.drew ?_ | refine Pure.alloc ?_ _ | refine Pure.setCell ?_ (by simp <;> omega) _)) m1, keepP (by repeat (first | assumption | exact Pure.refl _ | refine Pure.drewN ?_ _ | refine Pure.drew ?_ | refine Pure.alloc ?_ _ | refine Pure.setCell ?_ (by simp <;> omega) _)) q1, keepP (by repeat (first | assumption | exact Pure.refl _ | refine Pure.drewN ?_ _ | refine Pure.drew ?_ | refine Pure.alloc ?_ _ | refine Pure.setCell ?_ (by simp <;> omega) _)) g0, keepP (by repeat (first | assumption | exact Pure.refl _ | refine Pure.drewN ?_ _ | refine Pure.drew ?_ | refine Pure.alloc ?_ _ | refine Pure.setCell ?_ (by simp <;> omega) _)) c0, keepP (by repeat (first | assumption | exact Pure.refl _ | refine Pure.drewN ?_ _ | refine Pure.drew ?_ | refine Pure.alloc ?_ _ | refine Pure.setCell ?_ (by simp <;> omega) _)) c1, keepP (by repeat (first | assumption | exact Pure.refl _ | refine Pure.drewN ?_ _ | refine Pure.drew ?_ | refine Pure.alloc ?_ _ | refine Pure.setCell ?_ (by simp <;> omega) _)) c2, keepP (by repeat (first | assumption | exact Pure.refl _ | refine Pure.drewN ?_ _ | refine Pure.drew ?_ | refine Pure.alloc ?_ _ | refine Pure.setCell ?_ (by simp <;> omega) _)) c3⟩) ?_
  unfold Tail
  go_wp2_with fail
  obtain ⟨bx, Hbx⟩ : ∃ bx, Hid (w.heap.size = bx) := ⟨_, Lib.hid rfl⟩
  obtain ⟨wx, Hwx⟩ : ∃ wx, Hid ((w.alloc (.cells #[.int .i64 op, .int .i64 (an : Int), .int .i64 cb, .int .i64 cc] 36)).drew = wx) := ⟨_, Lib.hid rfl⟩
  have HPx : Hid (Pure w wx) := Lib.hid (by rw [← Hwx.out]; exact (by repeat (first | assumption | exact Pure.refl _ | refine Pure.drewN ?_ _ | refine Pure.drew ?_ | refine Pure.alloc ?_ _ | refine Pure.setCell ?_ (by simp <;> omega) _)))
  have hbox : wx.heap[bx]? = some (.cells #[.int .i64 op, .int .i64 (an : Int), .int .i64 cb, .int .i64 cc] 36 (0, 0)) := by rw [← Hwx.out, ← Hbx.out]; exact heap_alloc_new w _
  have x0 := cell_of_row wx bx 0 _ _ _ hbox
  have x1 := cell_of_row wx bx 1 _ _ _ hbox
  have x2 := cell_of_row wx bx 2 _ _ _ hbox
  simp only [List.getElem?_toArray, List.getElem?_cons_zero, List.getElem?_cons_succ] at x0 x1 x2
  have HNE : Hid (∀ g, (Value.slice At l.T.length ct).ownBlock = some g → g ≠ o.gl ∧ g ≠ bx) := Lib.hid (by rw [← Hbx.out]; exact HNE0.out)
  rw [Hbx.out, Hwx.out]
  have Hx0 := Lib.hid (H.out.keep HPx.out)
  have q0 := keepP HPx.out q0
  have q1 := keepP HPx.out q1
  have q2 := keepP HPx.out q2
  have r0 := keepP HPx.out r0
  have e1 := keepP HPx.out e1
  have e2 := keepP HPx.out e2
  have f1 : wx.frozen? ⟨o.gl, kk + 1, none⟩ = false := by rw [HPx.out.frozen _ _ hglw]; exact f1
  have f2 : wx.frozen? ⟨o.gl, kk + 2, none⟩ = false := by rw [HPx.out.frozen _ _ hglw]; exact f2
  have hglx := Nat.lt_of_lt_of_le hglw HPx.out.size
  have HTx := Lib.hid (HT.out.pure HPx.out)
  have hCx := Nat.le_trans HCB HPx.out.size
  clear m0 m1 g0 c0 c1 c2 c3 hbox hb
  have HSt : Hid (MStep o w vt wx vt) := Lib.hid (MStep.of_pure HPx.out)
  by_cases hx : x = 0
  · have hx' : (x != 0) = false := by rw [hx]; rfl
    have Hlo : Hid (lnStep o.cs o.m k l M = { l with at_ := outAt o.cs a }) := Lib.hid (by
      have e := lnStep_out (m := o.m) (id := k) (l := l) (M := M) (by rw [← HCL.out]; exact HOP.out) (fun h13 => by rw [← HCL.out] at h13; rw [Ha.out, Hot.out]; exact HOL.out h13) (by rw [← HCL.out]; show l.R (an : Int).toNat = 0; rw [Int.toNat_natCast, Hx.out, hx])
      rw [e, Ha.out])
    by_cases ho : 0 ≤ ot
    · have hoa : outAt o.cs a = (ot + 1).toNat := by rw [HOA.out, if_pos ho]
      go_quiet (fail)
      go_wp2
      go_end0
      exact Hx0.out.postAt HSt.out (by repeat (first | assumption | exact Pure.refl _ | refine Pure.drewN ?_ _ | refine Pure.drew ?_ | refine Pure.alloc ?_ _ | refine Pure.setCell ?_ (by simp <;> omega) _)) hk Hkk.out (a := (ot + 1).toNat) (by omega) (by rw [Hlo.out, hoa, Hl.out])
    · have hoa : outAt o.cs a = (en + 1).toNat := by rw [HOA.out, if_neg ho]
      go_quiet (fail)
      go_wp2
      go_end0
      exact Hx0.out.postAt HSt.out (by repeat (first | assumption | exact Pure.refl _ | refine Pure.drewN ?_ _ | refine Pure.drew ?_ | refine Pure.alloc ?_ _ | refine Pure.setCell ?_ (by simp <;> omega) _)) hk Hkk.out (a := (en + 1).toNat) (by omega) (by rw [Hlo.out, hoa, Hl.out])
  · have hx' : (x != 0) = true := by rw [bne_iff_ne]; exact hx
    have Hnz : Hid (l.R (o.cs.getD l.at_ default).a.toNat ≠ 0) := Lib.hid (by rw [← HCL.out]; show l.R (an : Int).toNat ≠ 0; rw [Int.toNat_natCast, Hx.out]; exact hx)
    by_cases h13 : op = 13
    · subst h13
      have Hlo : Hid (lnStep o.cs o.m k l M = { l with at_ := a + 1, T := l.T ++ [cb - 1] }) := Lib.hid (by
        have e := lnStep_loop (m := o.m) (id := k) (l := l) (M := M) (by rw [← HCL.out]) Hnz.out
        rw [e, ← HCL.out, Ha.out])
      have hcb := HCBD.out rfl
      obtain ⟨hcb1, hcb4⟩ := hcb
      go_quiet (fail)
      go_wp2_with fail
      refine region_heldF (fun w' => w'.cell? ⟨o.gl, kk + 2, none⟩ = some (.slice At l.T.length ct) ∧ w'.cell? ⟨bx, 2, none⟩ = some (.int .i64 cb))
        (List.range 8) [8, 9, 10, 11, 12] (fun l => List.take 8 l) (fun l => List.drop 8 l) (by kernel_rfl) (by kernel_rfl) (by kernel_rfl) (by kernel_rfl) (fun c a d v w h => by cases d <;> exact h) (by exact ⟨keepP (by repeat (first | assumption | exact Pure.refl _ | refine Pure.drewN ?_ _ | refine Pure.drew ?_ | refine Pure.alloc ?_ _ | refine Pure.setCell ?_ (by simp <;> omega) _)) q2, keepP (by repeat (first | assumption | exact Pure.refl _ | refine Pure.drewN ?_ _ | refine Pure.drew ?_ | refine Pure.alloc ?_ _ | refine Pure.setCell ?_ (by simp <;> omega) _)) x2⟩) ?_
      simp only [List.take_succ_cons, List.take_zero, List.drop_succ_cons, List.drop_zero]
      iterate 8
        apply held_of
        · exact rfl
        · intro w' hS
          obtain ⟨s0, s1⟩ := hS
          go_simp
          try exact rfl
        try go_simp
      refine held_nil ?_
      unfold Tail
      go_wp2
      refine And.intro (by exact ⟨keepP (by repeat (first | assumption | exact Pure.refl _ | refine Pure.drewN ?_ _ | refine Pure.drew ?_ | refine Pure.alloc ?_ _ | refine Pure.setCell ?_ (by simp <;> omega) _)) q2, keepP (by repeat (first | assumption | exact Pure.refl _ | refine Pure.drewN ?_ _ | refine Pure.drew ?_ | refine Pure.alloc ?_ _ | refine Pure.setCell ?_ (by simp <;> omega) _)) x2⟩) ?_
      unfold Tail
      obtain ⟨wy, Hwy⟩ : ∃ wy, Hid (wx.drewN (nq + 1) = wy) := ⟨_, Lib.hid rfl⟩
      have HPy : Hid (Pure wx wy) := Lib.hid (by rw [← Hwy.out]; exact (by repeat (first | assumption | exact Pure.refl _ | refine Pure.drewN ?_ _ | refine Pure.drew ?_ | refine Pure.alloc ?_ _ | refine Pure.setCell ?_ (by simp <;> omega) _)))
      rw [Hwy.out]
      have hCy := Nat.le_trans hCx HPy.out.size
      have htl' : l.T.length + 1 ≤ 1099511627776 := by omega
      refine wl_append1F elInt rfl _ _ rfl o.w0.heap.size _ l.T.length (l.T.map (.int .i64)) rfl (HTx.out.pure HPy.out) wx.heap.size 1 [.int .i64 (cb - 1)] rfl (by rw [← Hwy.out]; simp) rfl rfl (by decide) htl' (Nat.le_trans (Nat.le_trans Hx0.out.lo Hx0.out.bc) hCy) ?_
      intro v' wq r1 r2 r3
      obtain ⟨Aq, cq, rfl⟩ := r1.form
      have hgc : Chg (fun b => (Value.slice At l.T.length ct).ownBlock = some b) wy wq := Chg.of_grown r2 (fun k hk => hk)
      have z2 := keepC hgc (fun e => (HNE.out _ e).1 rfl) (keepP HPy.out q2)
      have zx := keepC hgc (fun e => (HNE.out _ e).2 rfl) (keepP HPy.out x2)
      have zf : wq.frozen? ⟨o.gl, kk + 2, none⟩ = false := by
        obtain ⟨cur, b1, _⟩ := Hx0.out.lanes
        exact frozen_of_row wq o.gl _ _ _ (hgc.heap ((Chg.of_pure (S := fun _ => False) HPy.out).heap b1 id) (fun e => (HNE.out _ e).1 rfl))
      have z1 := keepC hgc (fun e => (HNE.out _ e).1 rfl) (keepP HPy.out q1)
      have zf1 : wq.frozen? ⟨o.gl, kk + 1, none⟩ = false := by
        obtain ⟨cur, b1, _⟩ := Hx0.out.lanes
        exact frozen_of_row wq o.gl _ _ _ (hgc.heap ((Chg.of_pure (S := fun _ => False) HPy.out).heap b1 id) (fun e => (HNE.out _ e).1 rfl))
      have HM := Lib.hid ((Hx0.out.keep HPy.out).setT (T' := l.T ++ [cb - 1]) (wq := wq) (v' := .slice Aq (l.T.length + 1) cq) hk (by rw [HVT.out]; exact r2) (by simpa using r1) (by rw [HVT.out]; exact r3))
      rw [Hkk.out] at HM
      clear r1 r2 r3 hgc
      go_wp2
      refine And.intro (by exact ⟨z2, zx⟩) ?_
      unfold Tail
      go_wp2
      refine And.intro (by exact ⟨z2, zx⟩) ?_
      unfold Tail
      go_wp2
      refine And.intro (by exact ⟨z2, zx⟩) ?_
      unfold Tail
      go_wp2
      go_end0
      exact HM.out.1.postAt (HSt.out.trans ((MStep.of_pure HPy.out).trans HM.out.2)) (by repeat (first | assumption | exact Pure.refl _ | refine Pure.drewN ?_ _ | refine Pure.drew ?_ | refine Pure.alloc ?_ _ | refine Pure.setCell ?_ (by simp <;> omega) _)) hk Hkk.out (a := a + 1) (by push_cast; rfl) (by rw [Hlo.out, upL_same, upL_up, Hl.out])
    · have h11 : op = 11 := by rcases HOP.out with h | h; exact h; exact absurd h h13
      subst h11
      have Hlo : Hid (lnStep o.cs o.m k l M = { l with at_ := a + 1 }) := Lib.hid (by
        have e := lnStep_if (m := o.m) (id := k) (l := l) (M := M) (by rw [← HCL.out]) Hnz.out
        rw [e, Ha.out])
      go_quiet (fail)
      go_wp2
      go_end0
      exact Hx0.out.postAt HSt.out (by repeat (first | assumption | exact Pure.refl _ | refine Pure.drewN ?_ _ | refine Pure.drew ?_ | refine Pure.alloc ?_ _ | refine Pure.setCell ?_ (by simp <;> omega) _)) hk Hkk.out (a := a + 1) (by push_cast; rfl) (by rw [Hlo.out, Hl.out])

end Go.Proofs.Ytkolnakcgjlcgaa
