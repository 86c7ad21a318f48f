/- Lanes in lockstep, plainly: what an instruction does to one lane, to the lanes of a mask, and what a tree of blocks does. No program in sight. The element types of this seat's slices. A slice of the call's own that may begin behind its block's head: read, cut at its front, appended to. Slices of instructions in memory; the laws' helpers on them: size, copy, comparison. The laws' helpers on []int and [][]int: sizes, copies, comparisons. Worlds that differ in some blocks alone; the registers and the memory of a run, in blocks of the run's own. The registers of one lane and the memory, in blocks of one's own. Graphs: which are valid, as the reference and the program find it. No condition. -/
import Derived.Test.YtkolnakcgjlcgaaRows
import Derived.Deep.LoopGhost
import Derived.Deep.RegionWith
import Derived.Test.YtkolnakcgjlcgaaQaa

namespace Go.Proofs.Ytkolnakcgjlcgaa

/-- An access to the memory. -/
structure Ac where
  who : Nat
  cell : Nat
  wr : Bool
  ph : Nat
deriving DecidableEq, Inhabited

/-- A run under way: registers, memory, the steps so far (place, mask, the registers then), the accesses so far, the phase. -/
structure LS where
  R : Nat → Nat → Int
  M : Nat → Int
  H : List (Nat × Nat × (Nat → Nat → Int))
  A : List Ac
  P : Nat

def setF (f : Nat → Int) (r : Nat) (v : Int) : Nat → Int := fun j => if j = r then v else f j
def cellOf (c : Cd) (m : Nat) (f : Nat → Int) : Nat := (f c.b.toNat).toNat % m
/-- A lane's registers behind an instruction. -/
def simR (c : Cd) (id m : Nat) (f M : Nat → Int) : Nat → Int :=
  if c.op = 1 then setF f c.a.toNat c.b
  else if c.op = 2 then setF f c.a.toNat id
  else if c.op = 3 then setF f c.a.toNat ((f c.a.toNat + f c.b.toNat) % 256)
  else if c.op = 4 then setF f c.a.toNat (f c.a.toNat * f c.b.toNat % 256)
  else if c.op = 5 then setF f c.a.toNat (f c.b.toNat)
  else if c.op = 6 then setF f c.a.toNat (if f c.b.toNat < f c.c.toNat then 1 else 0)
  else if c.op = 7 then (if f c.c.toNat = 0 then f else setF f c.a.toNat (f c.b.toNat))
  else if c.op = 8 then setF f c.a.toNat (M (cellOf c m f))
  else f
/-- The memory behind an instruction of a lane. -/
def simM (c : Cd) (m : Nat) (f M : Nat → Int) : Nat → Int := if c.op = 9 then setF M (cellOf c m f) (f c.a.toNat) else M
def lane1 (c : Cd) (m k : Nat) (s : LS) : LS :=
  { s with
    R := fun l => if l = k then simR c k m (s.R k) s.M else s.R l
    M := simM c m (s.R k) s.M
    A := if c.op = 8 ∨ c.op = 9 then s.A ++ [⟨k, cellOf c m (s.R k), decide (c.op = 9), s.P⟩] else s.A }
/-- The lanes below j that are in a mask execute an instruction. -/
def lanesTo (c : Cd) (m mask : Nat) : Nat → LS → LS
  | 0, s => s
  | j + 1, s => if mask.testBit j then lane1 c m j (lanesTo c m mask j s) else lanesTo c m mask j s
def beat (i mask : Nat) (s : LS) : LS := { s with H := s.H ++ [(i, mask, s.R)] }
def exec (c : Cd) (n m i mask : Nat) (s : LS) : LS :=
  let s1 := lanesTo c m mask n (beat i mask s)
  if c.op = 10 then { s1 with P := s1.P + 1 } else s1
/-- The lanes below j of a mask whose register is not 0. -/
def onesTo (R : Nat → Nat → Int) (mask a : Nat) : Nat → Nat
  | 0 => 0
  | j + 1 => if mask.testBit j && !decide (R j a = 0) then onesTo R mask a j ||| 2 ^ j else onesTo R mask a j
def turns (F : Nat → LS → LS) (n a : Nat) : Nat → Nat → LS → LS
  | 0, _, s => s
  | b + 1, y, s => turns F n a b (onesTo s.R y a n) (F (onesTo s.R y a n) s)
/-- A tree of blocks, from place i on, by the lanes of a mask. -/
def run (n m : Nat) : Tr → Nat → Nat → LS → LS
  | .nil, _, _, s => s
  | .op c k, i, mask, s => if mask = 0 then s else run n m k (i + 1) mask (exec c n m i mask s)
  | .ite a t k, i, mask, s => if mask = 0 then s else run n m k (i + 1 + t.len + 1) mask (run n m t (i + 1) (onesTo s.R mask a.toNat n) (beat i mask s))
  | .itee a t e k, i, mask, s => if mask = 0 then s else run n m k (i + 1 + t.len + 1 + e.len + 1) mask
      (run n m e (i + 1 + t.len + 1) (del mask (onesTo s.R mask a.toNat n)) (run n m t (i + 1) (onesTo s.R mask a.toNat n) (beat i mask s)))
  | .loop a b t k, i, mask, s => if mask = 0 then s else run n m k (i + 1 + t.len + 1) mask (turns (run n m t (i + 1)) n a.toNat b.toNat mask (beat i mask s))

theorem run_zero (n m : Nat) : ∀ (t : Tr) (i : Nat) (s : LS), run n m t i 0 s = s
  | .nil, _, _ => rfl
  | .op _ _, _, _ => rfl
  | .ite _ _ _, _, _ => rfl
  | .itee _ _ _ _, _, _ => rfl
  | .loop _ _ _ _, _, _ => rfl

theorem onesTo_bit (R : Nat → Nat → Int) (mask a : Nat) : ∀ j l, (onesTo R mask a j).testBit l = (decide (l < j) && (mask.testBit l && !decide (R l a = 0)))
  | 0, l => by simp [onesTo]
  | j + 1, l => by
    unfold onesTo
    by_cases h : (mask.testBit j && !decide (R j a = 0)) = true
    · rw [if_pos h, Nat.testBit_or, onesTo_bit R mask a j l, Nat.testBit_two_pow]
      by_cases e : j = l
      · subst e; rw [h]; simp
      · have e1 : decide (l < j + 1) = decide (l < j) := by rw [decide_eq_decide]; omega
        have e2 : decide (j = l) = false := by simp [e]
        rw [e1, e2, Bool.or_false]
    · rw [if_neg h, onesTo_bit R mask a j l]
      by_cases e : j = l
      · subst e
        have h' : (mask.testBit j && !decide (R j a = 0)) = false := by simpa using h
        rw [h']; simp
      · have e1 : decide (l < j + 1) = decide (l < j) := by rw [decide_eq_decide]; omega
        rw [e1]
theorem onesTo_lt (R : Nat → Nat → Int) (mask a : Nat) : ∀ n, onesTo R mask a n < 2 ^ n
  | 0 => by simp [onesTo]
  | n + 1 => by
    have ih := onesTo_lt R mask a n
    have h2 : 2 ^ n < 2 ^ (n + 1) := Nat.pow_lt_pow_right (by decide) (by omega)
    unfold onesTo
    split
    · exact Nat.or_lt_two_pow (Nat.lt_trans ih h2) h2
    · exact Nat.lt_trans ih h2
theorem testBit_hi {mask n j : Nat} (h : mask < 2 ^ n) (hj : n ≤ j) : mask.testBit j = false :=
  Nat.testBit_lt_two_pow (Nat.lt_of_lt_of_le h (Nat.pow_le_pow_right (by decide) hj))
/-- Beyond the lanes nothing is counted. -/
theorem onesTo_stop (R : Nat → Nat → Int) {mask a n : Nat} (h : mask < 2 ^ n) : ∀ j, n ≤ j → onesTo R mask a j = onesTo R mask a n
  | 0, hj => by have : n = 0 := by omega
                subst this; rfl
  | j + 1, hj => by
    by_cases e : n = j + 1
    · rw [e]
    · rw [← onesTo_stop R h j (by omega)]
      show (if mask.testBit j && _ then _ else _) = _
      rw [testBit_hi h (by omega)]; rfl
theorem onesTo_sub (R : Nat → Nat → Int) (mask a n l : Nat) (h : (onesTo R mask a n).testBit l = true) : mask.testBit l = true := by
  rw [onesTo_bit] at h
  simp at h
  exact h.2.1
theorem onesTo_none (R : Nat → Nat → Int) (a n : Nat) : onesTo R 0 a n = 0 := by
  apply Nat.eq_of_testBit_eq
  intro i
  rw [onesTo_bit]; simp
theorem lanesTo_stop (c : Cd) (m : Nat) {mask n : Nat} (h : mask < 2 ^ n) (s : LS) : ∀ j, n ≤ j → lanesTo c m mask j s = lanesTo c m mask n s
  | 0, hj => by have : n = 0 := by omega
                subst this; rfl
  | j + 1, hj => by
    by_cases e : n = j + 1
    · rw [e]
    · rw [← lanesTo_stop c m h s j (by omega)]
      show (if mask.testBit j then _ else _) = _
      rw [testBit_hi h (by omega)]; rfl
theorem del_lt2 {a n : Nat} (b : Nat) (h : a < 2 ^ n) : del a b < 2 ^ n := Nat.xor_lt_two_pow h (Nat.lt_of_le_of_lt Nat.and_le_left h)

/-- Registers and cells hold words. -/
def Good (s : LS) : Prop := (∀ l r, Word (s.R l r)) ∧ ∀ j, Word (s.M j)
theorem setF_word {f : Nat → Int} {r : Nat} {v : Int} (h : ∀ j, Word (f j)) (hv : Word v) (j : Nat) : Word (setF f r v j) := by
  unfold setF; split
  · exact hv
  · exact h j
theorem simR_word {c : Cd} {id m : Nat} {f M : Nat → Int} (hc : CdOk c) (hid : id ≤ 255) (hf : ∀ j, Word (f j)) (hM : ∀ j, Word (M j)) (j : Nat) : Word (simR c id m f M j) := by
  unfold simR
  split
  · rename_i h
    refine setF_word hf ?_ j
    unfold CdOk at hc
    rcases hc with hc | hc | hc | hc | hc | hc
    · exact hc.2.2.1
    · omega
    · omega
    · omega
    · omega
    · omega
  split
  · exact setF_word hf ⟨by omega, by omega⟩ j
  split
  · exact setF_word hf ⟨by omega, by omega⟩ j
  split
  · exact setF_word hf ⟨Int.emod_nonneg _ (by decide), by have := Int.emod_lt_of_pos (f c.a.toNat * f c.b.toNat) (by decide : (0 : Int) < 256); omega⟩ j
  split
  · exact setF_word hf (hf _) j
  split
  · refine setF_word hf ?_ j
    split
    · exact ⟨by decide, by decide⟩
    · exact ⟨by decide, by decide⟩
  split
  · split
    · exact hf j
    · exact setF_word hf (hf _) j
  split
  · exact setF_word hf (hM _) j
  · exact hf j
theorem simM_word {c : Cd} {m : Nat} {f M : Nat → Int} (hf : ∀ j, Word (f j)) (hM : ∀ j, Word (M j)) (j : Nat) : Word (simM c m f M j) := by
  unfold simM
  split
  · exact setF_word hM (hf _) j
  · exact hM j
theorem Good.lane1 {s : LS} {c : Cd} {m k : Nat} (h : Good s) (hc : CdOk c) (hk : k ≤ 255) : Good (lane1 c m k s) := by
  refine ⟨fun l r => ?_, fun j => simM_word (h.1 k) h.2 j⟩
  show Word ((if l = k then simR c k m (s.R k) s.M else s.R l) r)
  split
  · exact simR_word hc hk (h.1 k) h.2 r
  · exact h.1 l r
theorem Good.lanesTo {c : Cd} {m mask : Nat} (hc : CdOk c) : ∀ (j : Nat) {s : LS}, Good s → j ≤ 256 → Good (lanesTo c m mask j s)
  | 0, _, h, _ => h
  | j + 1, _, h, hj => by
    show Good (if _ then _ else _)
    split
    · exact (Good.lanesTo hc j h (by omega)).lane1 hc (by omega)
    · exact Good.lanesTo hc j h (by omega)
theorem Good.beat {s : LS} (h : Good s) (i mask : Nat) : Good (beat i mask s) := h
theorem Good.exec {s : LS} {c : Cd} {n m i mask : Nat} (h : Good s) (hc : CdOk c) (hn : n ≤ 256) : Good (exec c n m i mask s) := by
  have h1 := Good.lanesTo (m := m) (mask := mask) hc n (h.beat i mask) hn
  unfold Proofs.Ytkolnakcgjlcgaa.exec
  simp only
  split
  · exact h1
  · exact h1
theorem Good.turns {F : Nat → LS → LS} {n a : Nat} (hF : ∀ y s, Good s → Good (F y s)) : ∀ (b y : Nat) {s : LS}, Good s → Good (turns F n a b y s)
  | 0, _, _, h => h
  | b + 1, _, _, h => Good.turns hF b _ (hF _ _ h)
theorem Good.run {n m : Nat} (hn : n ≤ 256) : ∀ (t : Tr) (i mask : Nat) {s : LS}, t.Ok → Good s → Good (run n m t i mask s)
  | .nil, _, _, _, _, h => h
  | .op c k, i, mask, s, ho, h => by
    show Good (if _ then _ else _)
    split
    · exact h
    · exact Good.run hn k _ _ ho.2 (h.exec ho.1.1 hn)
  | .ite a t k, i, mask, s, ho, h => by
    show Good (if _ then _ else _)
    split
    · exact h
    · exact Good.run hn k _ _ ho.2.2 (Good.run hn t _ _ ho.2.1 (h.beat i mask))
  | .itee a t e k, i, mask, s, ho, h => by
    show Good (if _ then _ else _)
    split
    · exact h
    · exact Good.run hn k _ _ ho.2.2.2 (Good.run hn e _ _ ho.2.2.1 (Good.run hn t _ _ ho.2.1 (h.beat i mask)))
  | .loop a b t k, i, mask, s, ho, h => by
    show Good (if _ then _ else _)
    split
    · exact h
    · exact Good.run hn k _ _ ho.2.2.2 (Good.turns (fun y s hs => Good.run hn t _ _ ho.2.2.1 hs) _ _ (h.beat i mask))

end Go.Proofs.Ytkolnakcgjlcgaa

namespace Go.Proofs.Ytkolnakcgjlcgaa
open Go.RowKit

theorem elInt : ElT Try.prog 24 3 1 [.int .i64 0] 8 := ⟨by kernel_rfl, ⟨.int .i64 0, by kernel_rfl, by kernel_rfl, rfl⟩, by decide⟩

theorem elInts : ElT Try.prog 39 24 1 [.slice none 0 0] 24 := ⟨by kernel_rfl, ⟨.slice none 0 0, by kernel_rfl, by kernel_rfl, rfl⟩, by decide⟩

theorem elCode : ElT Try.prog 23 36 4 [.int .i64 0, .int .i64 0, .int .i64 0, .int .i64 0] 32 := ⟨by kernel_rfl, ⟨.agg #[.int .i64 0, .int .i64 0, .int .i64 0, .int .i64 0], by kernel_rfl, by kernel_rfl, rfl⟩, by decide⟩

end Go.Proofs.Ytkolnakcgjlcgaa

namespace Go.Proofs.Ytkolnakcgjlcgaa
open Go.RowKit

def OwnO (w : World) (B e s : Nat) (v : Value) (n : Nat) (xs : List Value) : Prop :=
  xs.length = n * s ∧ ((v = .slice none 0 0 ∧ n = 0) ∨ ∃ g off cap cur, v = .slice (some ⟨g, off, none⟩) n cap ∧ B ≤ g ∧ w.heap[g]? = some (.cells cur e (0, 0)) ∧ n ≤ cap ∧ cap ≤ 9223372036854775807 ∧ off + cap * s ≤ cur.size ∧ ∀ j u, xs[j]? = some u → cur[off + j]? = some u)

section
variable {w w' : World} {B e s n : Nat} {v : Value} {xs : List Value}
theorem OwnO.of_own (h : w.ownsRow B e s v n xs) : OwnO w B e s v n xs := by
  refine ⟨h.1, ?_⟩
  rcases h.2 with h | ⟨g, cap, cur, rfl, h1, h2, h3, h4, h5, h6⟩
  · exact .inl h
  · refine .inr ⟨g, 0, cap, cur, rfl, h1, h2, h3, by unfold maxLen at h4; omega, by omega, fun j u hu => ?_⟩
    rw [← h6, List.getElem?_take] at hu
    split at hu
    · simpa using hu
    · cases hu
theorem OwnO.kept {row : Option Nat} (h : OwnO w B e s v n xs) (hg : w.grownBy w' row) (hne : ∀ g, v.ownBlock = some g → some g ≠ row) : OwnO w' B e s v n xs := by
  refine ⟨h.1, ?_⟩
  rcases h.2 with h | ⟨g, off, cap, cur, rfl, h1, h2, h3⟩
  · exact .inl h
  · exact .inr ⟨g, off, cap, cur, rfl, h1, by rw [hg.block g (Array.getElem?_eq_some_iff.1 h2).1 (hne g rfl)]; exact h2, h3⟩
theorem OwnO.pure (h : OwnO w B e s v n xs) (hp : Pure w w') : OwnO w' B e s v n xs := h.kept (hp.grownBy none) (fun _ _ => by simp)
theorem OwnO.lt (h : OwnO w B e s v n xs) (k : Nat) (hk : v.ownBlock = some k) : B ≤ k ∧ k < w.heap.size := by
  rcases h.2 with ⟨rfl, _⟩ | ⟨g, off, cap, cur, rfl, h1, h2, h3⟩
  · simp [Value.ownBlock] at hk
  · simp [Value.ownBlock] at hk; subst hk
    exact ⟨h1, (Array.getElem?_eq_some_iff.1 h2).1⟩
theorem OwnO.form (h : OwnO w B e s v n xs) : ∃ A c, v = .slice A n c := by
  rcases h.2 with ⟨rfl, rfl⟩ | ⟨g, off, cap, cur, rfl, _⟩
  · exact ⟨_, _, rfl⟩
  · exact ⟨_, _, rfl⟩
theorem OwnO.formSome (h : OwnO w B e s v n xs) (hn : 0 < n) : ∃ g off c, v = .slice (some ⟨g, off, none⟩) n c ∧ n ≤ c ∧ c ≤ 9223372036854775807 ∧ B ≤ g ∧ g < w.heap.size := by
  rcases h.2 with ⟨rfl, rfl⟩ | ⟨g, off, cap, cur, rfl, h1, h2, h3, h4, _⟩
  · omega
  · exact ⟨_, _, _, rfl, h3, h4, h1, (Array.getElem?_eq_some_iff.1 h2).1⟩
theorem OwnO.cell {g off c : Nat} (h : OwnO w B e s (.slice (some ⟨g, off, none⟩) n c) n xs) (j : Nat) (hj : j < n * s) : w.cell? ⟨g, off + j, none⟩ = xs[j]? := by
  rcases h.2 with ⟨hv, _⟩ | ⟨g', off', cap, cur, hv, h1, h2, h3, h4, h5, h6⟩
  · cases hv
  · injection hv with hv _ hc
    injection hv with hv
    injection hv with e1 e2
    subst e1 e2 hc
    rw [cell_of_row w g _ cur e (0, 0) h2]
    have hl : j < xs.length := by rw [h.1]; exact hj
    rw [List.getElem?_eq_getElem hl]
    exact h6 j _ (List.getElem?_eq_getElem hl)
theorem OwnO.cellSome {g off c : Nat} (h : OwnO w B e s (.slice (some ⟨g, off, none⟩) n c) n xs) (j : Nat) (hj : j < n * s) : ∃ u, w.cell? ⟨g, off + j, none⟩ = some u := by
  rw [h.cell j hj]
  exact ⟨_, List.getElem?_eq_getElem (by rw [h.1]; exact hj)⟩
theorem OwnO.frozen {g off c : Nat} (h : OwnO w B e s (.slice (some ⟨g, off, none⟩) n c) n xs) (j : Nat) : w.frozen? ⟨g, j, none⟩ = false := by
  rcases h.2 with ⟨hv, _⟩ | ⟨g', off', cap, cur, hv, h1, h2, _⟩
  · cases hv
  · injection hv with hv _ hc
    injection hv with hv
    injection hv with e1 e2
    subst e1 e2 hc
    exact frozen_of_row w g _ cur e h2
theorem OwnO.stored {g off c : Nat} (h : OwnO w B e s (.slice (some ⟨g, off, none⟩) n c) n xs) (j : Nat) (u : Value) :
    OwnO (w.setCell ⟨g, off + j, none⟩ u) B e s (.slice (some ⟨g, off, none⟩) n c) n (xs.set j u) := by
  refine ⟨by simpa using h.1, .inr ?_⟩
  rcases h.2 with ⟨hv, _⟩ | ⟨g', off', cap, cur, hv, h1, h2, h3, h4, h5, h6⟩
  · cases hv
  · injection hv with hv _ hc
    injection hv with hv
    injection hv with e1 e2
    subst e1 e2 hc
    refine ⟨g, off, c, _, rfl, h1, heap_setCell_same w g (off + j) cur e u h2, h3, h4, by simpa using h5, fun i v hv => ?_⟩
    rw [List.getElem?_set] at hv
    by_cases hji : j = i
    · subst hji
      rw [if_pos rfl] at hv
      split at hv
      · rename_i hlt
        simp only [Option.some.injEq] at hv
        subst hv
        have : off + j < cur.size := by
          have := Nat.mul_le_mul_right s h3
          have := h.1
          omega
        rw [Array.getElem?_setIfInBounds_self_of_lt this]
      · cases hv
    · rw [if_neg hji] at hv
      rw [Array.getElem?_setIfInBounds_ne (by omega)]
      exact h6 i v hv
theorem OwnO.ne {B' e' s' n' : Nat} {v' : Value} {xs' : List Value} (h : OwnO w B e s v n xs) (h' : OwnO w B' e' s' v' n' xs') (hne : e ≠ e') : ∀ g, v.ownBlock = some g → some g ≠ v'.ownBlock := by
  intro g hg
  rcases h.2 with ⟨rfl, _⟩ | ⟨g1, off, cap, cur, rfl, h1, h2, _⟩
  · simp [Value.ownBlock] at hg
  · simp [Value.ownBlock] at hg; subst hg
    rcases h'.2 with ⟨rfl, _⟩ | ⟨g1', off', cap', cur', rfl, h1', h2', _⟩
    · simp [Value.ownBlock]
    · simp only [Value.ownBlock, ne_eq, Option.some.injEq]
      rintro rfl
      rw [h2] at h2'
      simp only [Option.some.injEq, Obj.cells.injEq] at h2'
      exact hne h2'.2.1
theorem OwnO.alloc (h : OwnO w B e s v n xs) (o : Obj) : OwnO (w.alloc o) B e s v n xs := h.pure (Pure.alloc (Pure.refl _) o)
theorem OwnO.drewN (h : OwnO w B e s v n xs) (k : Nat) : OwnO (w.drewN k) B e s v n xs := h.pure (Pure.drewN (Pure.refl _) k)
theorem OwnO.lit (w : World) (cs : Array Value) (n : Nat) (hB : B ≤ w.heap.size) (hn : n ≤ 9223372036854775807) (hs : cs.size = n * s) : OwnO (w.alloc (.cells cs e)) B e s (.slice (some ⟨w.heap.size, 0, none⟩) n n) n cs.toList :=
  OwnO.of_own (World.ownsRow_lit (e := e) w cs n hB (by unfold maxLen; omega) hs)
theorem OwnO.empty_lit {w : World} {B e s : Nat} (hB : B ≤ w.heap.size) : OwnO (w.alloc (.cells #[] e)) B e s (.slice (some ⟨w.heap.size, 0, none⟩) 0 0) 0 [] :=
  OwnO.lit w #[] 0 hB (by omega) (by simp)
theorem Cells.of_ownO {f : Nat → Value} (h : OwnO w B e s v n xs) (hf : ∀ j, j < n * s → xs[j]? = some (f j)) : Cells w v n s f := by
  rcases h.2 with ⟨rfl, rfl⟩ | ⟨g, off, cap, cur, rfl, h1, h2, h3, h4, h5, h6⟩
  · exact ⟨none, 0, rfl, Nat.le_refl _, by omega, fun h => absurd h (by omega)⟩
  · exact ⟨_, cap, rfl, h3, h4, fun hn => ⟨g, off, rfl, (Array.getElem?_eq_some_iff.1 h2).1, fun j hj => by rw [h.cell j hj]; exact hf j hj⟩⟩
theorem OwnO.take {g off c : Nat} (h : OwnO w B e s (.slice (some ⟨g, off, none⟩) n c) n xs) {k : Nat} (hk : k ≤ n) :
    OwnO w B e s (.slice (some ⟨g, off, none⟩) k c) k (xs.take (k * s)) := by
  have hle := Nat.mul_le_mul_right s hk
  refine ⟨by rw [List.length_take, h.1]; omega, .inr ?_⟩
  rcases h.2 with ⟨hv, _⟩ | ⟨g', off', cap, cur, hv, h1, h2, h3, h4, h5, h6⟩
  · cases hv
  · injection hv with hv _ hc
    injection hv with hv
    injection hv with e1 e2
    subst e1 e2 hc
    refine ⟨g, off, c, cur, rfl, h1, h2, by omega, h4, h5, fun j u hu => ?_⟩
    rw [List.getElem?_take] at hu
    split at hu
    · exact h6 j u hu
    · cases hu
theorem OwnO.drop {g off c : Nat} (h : OwnO w B e s (.slice (some ⟨g, off, none⟩) n c) n xs) {k : Nat} (hk : k ≤ n) :
    OwnO w B e s (.slice (some (if c = k then ⟨g, off, none⟩ else ⟨g, off + k * s, none⟩)) (n - k) (c - k)) (n - k) (xs.drop (k * s)) := by
  refine ⟨by rw [List.length_drop, h.1, Nat.sub_mul], .inr ?_⟩
  rcases h.2 with ⟨hv, _⟩ | ⟨g', off', cap, cur, hv, h1, h2, h3, h4, h5, h6⟩
  · cases hv
  · injection hv with hv _ hc
    injection hv with hv
    injection hv with e1 e2
    subst e1 e2 hc
    by_cases hck : c = k
    · refine ⟨g, off, c - k, cur, by rw [if_pos hck], h1, h2, by omega, by omega, by rw [hck, Nat.sub_self]; omega, fun j u hu => ?_⟩
      rw [List.getElem?_drop, List.getElem?_eq_none (by rw [h.1]; have := Nat.mul_le_mul_right s h3; rw [hck] at this; omega)] at hu
      cases hu
    · refine ⟨g, off + k * s, c - k, cur, by rw [if_neg hck], h1, h2, by omega, by omega, ?_, fun j u hu => ?_⟩
      · have : k * s + (c - k) * s = c * s := by rw [← Nat.add_mul, Nat.add_sub_cancel' (by omega)]
        omega
      · rw [List.getElem?_drop] at hu
        rw [Nat.add_assoc]
        exact h6 _ u hu
end

section
variable {P : Program} {t e : TypeId} {s : Nat} {z : List Value} {bytes : Nat}
theorem heap_setCells_same (g : Nat) : ∀ (vs : List Value) (o : Nat) (w : World) (cur : Array Value) (t : TypeId), w.heap[g]? = some (.cells cur t (0, 0)) → o + vs.length ≤ cur.size →
    ∃ cur', (w.setCells g o vs).heap[g]? = some (.cells cur' t (0, 0)) ∧ cur'.size = cur.size ∧ (∀ j, j < o → cur'[j]? = cur[j]?) ∧ ∀ j u, vs[j]? = some u → cur'[o + j]? = some u
  | [], o, w, cur, t, h, _ => ⟨cur, h, rfl, fun _ _ => rfl, fun j u hu => by simp at hu⟩
  | v :: r, o, w, cur, t, h, hl => by
    simp only [List.length_cons] at hl
    have h1 := heap_setCell_same w g o cur t v h
    obtain ⟨cur', a1, a2, a3, a4⟩ := heap_setCells_same g r (o + 1) _ _ t h1 (by simp; omega)
    refine ⟨cur', a1, by rw [a2]; simp, fun j hj => ?_, fun j u hu => ?_⟩
    · rw [a3 j (by omega)]
      rw [Array.getElem?_setIfInBounds_ne (by omega)]
    · cases j with
      | zero =>
        simp at hu; subst hu
        rw [Nat.add_zero, a3 o (by omega)]
        simp [Array.getElem?_setIfInBounds_self_of_lt (show o < cur.size by omega)]
      | succ j =>
        have := a4 j u (by simpa using hu)
        rwa [show o + 1 + j = o + (j + 1) by omega] at this

theorem grown_setCells (g : Nat) : ∀ (vs : List Value) (o : Nat) (w : World), w.grownBy (w.setCells g o vs) (some g)
  | [], _, w => ⟨rfl, rfl, rfl, Nat.le_refl _, fun _ _ _ => rfl⟩
  | v :: r, o, w => by
    have h1 := grown_setCell w ⟨g, o, none⟩ v
    have h2 := grown_setCells g r (o + 1) (w.setCell ⟨g, o, none⟩ v)
    exact ⟨h2.os.trans h1.os, h2.tape.trans h1.tape, h2.output.trans h1.output, Nat.le_trans h1.size h2.size, fun k hk hne => (h2.block k (Nat.lt_of_lt_of_le hk h1.size) hne).trans (h1.block k hk hne)⟩

theorem wl_appendO (E : ElT P t e s z bytes) {w : World} {ops : Array Oper} {rest : List Oper} {o : Oper} {a : Act} {Q : Exit → Act → World → Prop}
    (hgd : o.guard = none) (sl x : Operand) (ho : o.op = .call { callee := .builtin .append, args := #[sl, x], argTypes := #[t, t] })
    (B : Nat) (v : Value) (n : Nat) (xs : List Value) (hs : a.eval sl = v) (hown : OwnO w B e s v n xs)
    (b m c : Nat) (news : List Value) (hx : a.eval x = .slice (some ⟨b, 0, none⟩) m c) (hl : news.length = m * s) (hnews : ∀ j u, news[j]? = some u → w.cell? ⟨b, j, none⟩ = some u) (h1 : ∀ u ∈ news, u.oneCell' = true)
    (hbytes : (n + m) * bytes ≤ 140737488355328) (h63 : n + m ≤ 9223372036854775807) (hB : B ≤ w.heap.size)
    (h : ∀ v' w', OwnO w' B e s v' (n + m) (xs ++ news) → w.grownBy w' v.ownBlock → wpList P ops Q rest (a.put o.dst v') w') : wpList P ops Q (o :: rest) a w := by
  obtain ⟨i, zv, h2, h3, h4, h5, h6, h7⟩ := E.parts
  rcases hown.2 with ⟨rfl, rfl⟩ | ⟨g, off, cap, cur, rfl, q1, q2, q3, q4, q5, q6⟩
  · have hx0 : xs = [] := List.eq_nil_of_length_eq_zero (by simpa using hown.1)
    subst hx0
    exact wl_append E hgd sl x ho B _ 0 [] hs (World.ownsRow_nil w B e s) b m c news hx hl hnews h1 hbytes h63 hB fun v' w' r1 r2 => h v' w' (OwnO.of_own r1) r2
  · have hcell : ∀ j u, cur[j]? = some u → w.cell? ⟨g, j, none⟩ = some u := fun j u hu => by rw [cell_of_row w g _ cur e (0, 0) q2]; exact hu
    refine wpList_append_arg w hgd sl x t ho e i zv s bytes E.ht h2 h3 h4 h5 (by rw [h6]; simpa using h7) E.hs g off n cap xs hs hown.1 (fun j u hu => hcell _ _ (q6 j u hu)) ⟨b, 0, none⟩ m c news hx hl
      (fun j u hu => by rw [Addr.add_lit]; simpa using hnews j u hu) h1 (fun hr j hj => ?_) (by unfold maxLen; omega) hbytes (fun hr => ?_) (fun hg v' w' r1 r2 => ?_)
    · have hlt : off + n * s + j < cur.size := by
        have : n * s + m * s ≤ cap * s := by rw [← Nat.add_mul]; exact Nat.mul_le_mul_right s hr
        omega
      exact ⟨by rw [hcell _ _ (Array.getElem?_eq_getElem hlt)]; rfl, frozen_of_row w g _ cur e q2⟩
    · have hle : off + n * s + news.length ≤ cur.size := by
        have : n * s + m * s ≤ cap * s := by rw [← Nat.add_mul]; exact Nat.mul_le_mul_right s hr
        omega
      obtain ⟨cur', a1, a2, a3, a4⟩ := heap_setCells_same g news (off + n * s) w cur e q2 hle
      refine h _ _ ⟨by rw [List.length_append, hown.1, hl, Nat.add_mul], .inr ⟨g, off, cap, cur', rfl, q1, a1, hr, q4, by omega, fun j u hu => ?_⟩⟩ (grown_setCells g news _ w)
      rw [List.getElem?_append] at hu
      split at hu
      · rename_i hj
        rw [a3 _ (by rw [hown.1] at hj; omega)]
        exact q6 j u hu
      · rename_i hj
        have := a4 _ u hu
        rwa [show off + n * s + (j - xs.length) = off + j by rw [hown.1] at hj ⊢; omega] at this
    · have r1' := OwnO.of_own r1
      have hw : OwnO w' B e s v' (n + m) (xs ++ news) := by
        refine ⟨r1'.1, ?_⟩
        rcases r1'.2 with h | ⟨g', off', cap', cur', e1, e2, e3⟩
        · exact .inl h
        · exact .inr ⟨g', off', cap', cur', e1, by omega, e3⟩
      exact h v' w' hw ⟨r2.os, r2.tape, r2.output, r2.size, fun k hk _ => r2.block k hk (by simp)⟩
/-- append of one element, just laid in a new block. -/
theorem wl_append1 (E : ElT P t e s z bytes) {w : World} {ops : Array Oper} {rest : List Oper} {o : Oper} {a : Act} {Q : Exit → Act → World → Prop} {et : TypeId}
    (hgd : o.guard = none) (sl x : Operand) (ho : o.op = .call { callee := .builtin .append, args := #[sl, x], argTypes := #[t, t] })
    (B : Nat) (v : Value) (n : Nat) (xs : List Value) (hs : a.eval sl = v) (hown : OwnO w B e s v n xs)
    (b c : Nat) (news : List Value) (hx : a.eval x = .slice (some ⟨b, 0, none⟩) 1 c) (hb : b = w.heap.size) (hl : news.length = s) (h1 : news.all (·.oneCell') = true)
    (hby : bytes ≤ 128) (hn : n + 1 ≤ 1099511627776) (hB : B ≤ w.heap.size)
    (h : ∀ v' w', OwnO w' B e s v' (n + 1) (xs ++ news) → w.grownBy w' v.ownBlock → wpList P ops Q rest (a.put o.dst v') w') : wpList P ops Q (o :: rest) a (w.alloc (.cells news.toArray et)) := by
  subst hb
  refine wl_appendO E hgd sl x ho B v n xs hs (hown.alloc _) w.heap.size 1 c news hx (by omega) (fun j u hu => ?_) (fun u hu => (List.all_eq_true.1 h1) u hu) ?_ (by omega) (Nat.le_trans hB (Pure.alloc (Pure.refl w) _).size)
    (fun v' w' r1 r2 => h v' w' r1 ?_)
  · have := cell_of_row (w.alloc (.cells news.toArray et)) w.heap.size j news.toArray et (0, 0) (heap_alloc_new w _)
    rw [this]
    simpa using hu
  · have := Nat.mul_le_mul hn hby
    omega
  · have h0 := World.grownBy_alloc w (.cells news.toArray et) v.ownBlock
    exact ⟨r2.os.trans h0.os, r2.tape.trans h0.tape, r2.output.trans h0.output, Nat.le_trans h0.size r2.size, fun k hk hne => (r2.block k (Nat.lt_of_lt_of_le hk h0.size) hne).trans (h0.block k hk hne)⟩
end

end Go.Proofs.Ytkolnakcgjlcgaa

namespace Go.Proofs.Ytkolnakcgjlcgaa
open Go.RowKit

def cdCells (c : Cd) : List Value := [.int .i64 c.op, .int .i64 c.a, .int .i64 c.b, .int .i64 c.c]
def cdv (c : Cd) : Value := .agg #[.int .i64 c.op, .int .i64 c.a, .int .i64 c.b, .int .i64 c.c]
def cdf (cs : List Cd) (j : Nat) : Value := (cdCells (cs.getD (j / 4) default)).getD (j % 4) undef
def Codes (w : World) (v : Value) (cs : List Cd) : Prop := Cells w v cs.length 4 (cdf cs)
theorem Codes.keep {w w' : World} {v : Value} {cs : List Cd} (h : Codes w v cs) (hp : Pure w w') : Codes w' v cs := Cells.keep h hp
theorem Codes.form {w : World} {v : Value} {cs : List Cd} (h : Codes w v cs) : ∃ A c, v = .slice A cs.length c ∧ cs.length ≤ c ∧ c ≤ 9223372036854775807 := by
  obtain ⟨A, c, h, h1, h2, _⟩ := h
  exact ⟨A, c, h, h1, h2⟩

/-- An instruction lies in block b from offset o on. -/
structure CodeAt (w : World) (b o : Nat) (c : Cd) : Prop where
  c0 : w.cell? ⟨b, o, none⟩ = some (.int .i64 c.op)
  c1 : w.cell? ⟨b, o + 1, none⟩ = some (.int .i64 c.a)
  c2 : w.cell? ⟨b, o + 2, none⟩ = some (.int .i64 c.b)
  c3 : w.cell? ⟨b, o + 3, none⟩ = some (.int .i64 c.c)
theorem CodeAt.keep {w w' : World} {b o : Nat} {c : Cd} (h : CodeAt w b o c) (hp : Pure w w') (hb : b < w.heap.size) : CodeAt w' b o c :=
  ⟨(hp.cell b _ hb).trans h.c0, (hp.cell b _ hb).trans h.c1, (hp.cell b _ hb).trans h.c2, (hp.cell b _ hb).trans h.c3⟩

theorem cdf_at (cs : List Cd) (k i : Nat) (hi : i < 4) : cdf cs (k * 4 + i) = (cdCells (cs.getD k default)).getD i undef := by
  unfold cdf
  rw [show (k * 4 + i) / 4 = k by omega, show (k * 4 + i) % 4 = i by omega]

theorem Codes.at_ {w : World} {A : Option Addr} {n c : Nat} {cs : List Cd} (h : Codes w (.slice A n c) cs) {k : Nat} (hk : k < cs.length) :
    ∃ b o, A = some ⟨b, o, none⟩ ∧ b < w.heap.size ∧ CodeAt w b (o + k * 4) (cs.getD k default) := by
  obtain ⟨A', c', hv, _, _, h4⟩ := h
  injection hv with e1 e2 e3
  subst e1
  obtain ⟨b, o, rfl, hb, hc⟩ := h4 (by omega)
  refine ⟨b, o, rfl, hb, ?_, ?_, ?_, ?_⟩
  · have := hc (k * 4 + 0) (by omega); rw [cdf_at _ _ _ (by omega)] at this; exact this
  · have := hc (k * 4 + 1) (by omega); rw [cdf_at _ _ _ (by omega)] at this; rw [Nat.add_assoc]; exact this
  · have := hc (k * 4 + 2) (by omega); rw [cdf_at _ _ _ (by omega)] at this; rw [Nat.add_assoc]; exact this
  · have := hc (k * 4 + 3) (by omega); rw [cdf_at _ _ _ (by omega)] at this; rw [Nat.add_assoc]; exact this

theorem Codes.of_ownO {w : World} {B e n : Nat} {v : Value} {xs : List Value} {cs : List Cd} (h : OwnO w B e 4 v n xs) (hn : n = cs.length) (hf : ∀ j, j < cs.length * 4 → xs[j]? = some (cdf cs j)) : Codes w v cs := by
  subst hn
  exact Cells.of_ownO h hf

end Go.Proofs.Ytkolnakcgjlcgaa

namespace Go.Proofs.Ytkolnakcgjlcgaa
open Go.RowKit

theorem IntRows.of_own {w : World} {B e n : Nat} {v : Value} {xs : List Value} {xss : List (List Int)} (h : w.ownsRow B e 1 v n xs) (hn : n = xss.length) (hf : ∀ j, j < xss.length → ∃ r, xs[j]? = some r ∧ Ints w r (xss.getD j [])) : IntRows w v xss := by
  subst hn
  rcases h.2 with ⟨rfl, h0⟩ | ⟨g, cap, cur, rfl, _, hg, hnc, hcm, _⟩
  · exact ⟨none, 0, by rw [h0], by omega, by omega, fun h => absurd h (by omega)⟩
  · refine ⟨_, cap, rfl, hnc, by unfold maxLen at hcm; omega, fun hn => ⟨g, 0, rfl, (Array.getElem?_eq_some_iff.1 hg).1, fun j hj => ?_⟩⟩
    obtain ⟨r, h1, h2⟩ := hf j hj
    exact ⟨r, by rw [Nat.zero_add, h.cellAt j (by omega)]; exact h1, h2⟩

end Go.Proofs.Ytkolnakcgjlcgaa

namespace Go.Proofs.Ytkolnakcgjlcgaa
open Go.RowKit

/-- w' is w, but for new blocks, draws, and the blocks of S. -/
structure Chg (S : Nat → Prop) (w w' : World) : Prop where
  os : w'.os = w.os
  tape : w'.tape = w.tape
  output : w'.output = w.output
  size : w.heap.size ≤ w'.heap.size
  block : ∀ k, k < w.heap.size → ¬ S k → w'.heap[k]? = w.heap[k]?
theorem Chg.refl (S : Nat → Prop) (w : World) : Chg S w w := ⟨rfl, rfl, rfl, Nat.le_refl _, fun _ _ _ => rfl⟩
theorem Chg.trans {S : Nat → Prop} {a b c : World} (h : Chg S a b) (k : Chg S b c) : Chg S a c :=
  ⟨k.os.trans h.os, k.tape.trans h.tape, k.output.trans h.output, Nat.le_trans h.size k.size, fun i hi hn => (k.block i (Nat.lt_of_lt_of_le hi h.size) hn).trans (h.block i hi hn)⟩
/-- The second change may also be to blocks that the first one made. -/
theorem Chg.trans' {S S' : Nat → Prop} {a b c : World} (h : Chg S a b) (k : Chg S' b c) (hS : ∀ i, i < a.heap.size → S' i → S i) : Chg S a c :=
  ⟨k.os.trans h.os, k.tape.trans h.tape, k.output.trans h.output, Nat.le_trans h.size k.size, fun i hi hn => (k.block i (Nat.lt_of_lt_of_le hi h.size) (fun hs => hn (hS i hi hs))).trans (h.block i hi hn)⟩
theorem Chg.mono {S S' : Nat → Prop} {a b : World} (h : Chg S a b) (hS : ∀ i, S i → S' i) : Chg S' a b :=
  ⟨h.os, h.tape, h.output, h.size, fun i hi hn => h.block i hi (fun hs => hn (hS i hs))⟩
theorem Chg.of_pure {S : Nat → Prop} {a b : World} (h : Pure a b) : Chg S a b := ⟨h.os, h.tape, h.output, h.size, fun i hi _ => h.below.block i hi⟩
theorem Chg.of_grown {S : Nat → Prop} {a b : World} {row : Option Nat} (h : a.grownBy b row) (hS : ∀ k, row = some k → S k) : Chg S a b :=
  ⟨h.os, h.tape, h.output, h.size, fun i hi hn => h.block i hi (fun e => hn (hS i e.symm))⟩
theorem Chg.of_set {S : Nat → Prop} (w : World) (g i : Nat) (v : Value) (hS : S g) : Chg S w (w.setCell ⟨g, i, none⟩ v) :=
  Chg.of_grown (grown_setCell w ⟨g, i, none⟩ v) (fun k hk => by injection hk with hk; subst hk; exact hS)
theorem Chg.pure {S : Nat → Prop} {w0 a b : World} (hp : Pure w0 a) (h : Chg S a b) (hS : ∀ k, S k → w0.heap.size ≤ k) : Pure w0 b :=
  ⟨h.os.trans hp.os, h.tape.trans hp.tape, h.output.trans hp.output, Nat.le_trans hp.size h.size, fun k hk => (h.block k (Nat.lt_of_lt_of_le hk hp.size) (fun hs => absurd (hS k hs) (by omega))).trans (hp.below.block k hk)⟩
theorem Chg.heap {S : Nat → Prop} {a b : World} (h : Chg S a b) {k : Nat} {o : Obj} (ho : a.heap[k]? = some o) (hn : ¬ S k) : b.heap[k]? = some o :=
  (h.block k (Array.getElem?_eq_some_iff.1 ho).1 hn).trans ho
theorem Chg.cell {S : Nat → Prop} {a b : World} (h : Chg S a b) {k i : Nat} (hk : k < a.heap.size) (hn : ¬ S k) : b.cell? ⟨k, i, none⟩ = a.cell? ⟨k, i, none⟩ :=
  World.cell?_of_block (h.block k hk hn)
theorem OwnO.chg {S : Nat → Prop} {w w' : World} {B e s n : Nat} {v : Value} {xs : List Value} (h : OwnO w B e s v n xs) (hc : Chg S w w') (hn : ∀ g, v.ownBlock = some g → ¬ S g) : OwnO w' B e s v n xs := by
  refine ⟨h.1, ?_⟩
  rcases h.2 with h | ⟨g, off, cap, cur, rfl, h1, h2, h3⟩
  · exact .inl h
  · exact .inr ⟨g, off, cap, cur, rfl, h1, hc.heap h2 (hn g rfl), h3⟩
/-- A block of one kind is none of another kind. -/
theorem ne_of_heap {w : World} {g g' e e' : Nat} {cur cur' : Array Value} (h : w.heap[g]? = some (.cells cur e (0, 0))) (h' : w.heap[g']? = some (.cells cur' e' (0, 0))) (hne : e ≠ e') : g ≠ g' := by
  rintro rfl
  rw [h] at h'
  simp only [Option.some.injEq, Obj.cells.injEq] at h'
  exact hne h'.2.1
theorem OwnO.ne_heap {w : World} {B e s n g e' : Nat} {v : Value} {xs : List Value} {cur : Array Value} (h : OwnO w B e s v n xs) (h' : w.heap[g]? = some (.cells cur e' (0, 0))) (hne : e ≠ e') : ∀ k, v.ownBlock = some k → k ≠ g := by
  intro k hk
  rcases h.2 with ⟨rfl, _⟩ | ⟨g', off, cap, cur', rfl, _, h2, _⟩
  · simp [Value.ownBlock] at hk
  · simp [Value.ownBlock] at hk
    subst hk
    exact ne_of_heap h2 h' hne

/-- Where the registers and the memory of a run lie. -/
structure RMo where
  B : Nat
  n : Nat
  m : Nat
  gr : Nat
  cr : Nat
  gm : Nat
  cm : Nat
  rows : Nat → Nat

def RMo.row (o : RMo) (k : Nat) : Value := .slice (some ⟨o.rows k, 0, none⟩) 4 4
def RMo.vr (o : RMo) : Value := .slice (some ⟨o.gr, 0, none⟩) o.n o.cr
def RMo.vm (o : RMo) : Value := .slice (some ⟨o.gm, 0, none⟩) o.m o.cm
def row4 (f : Nat → Int) : Array Value := #[.int .i64 (f 0), .int .i64 (f 1), .int .i64 (f 2), .int .i64 (f 3)]
def memL (m : Nat) (M : Nat → Int) : List Value := (List.range m).map fun j => .int .i64 (M j)
structure RM (o : RMo) (w : World) (R : Nat → Nat → Int) (M : Nat → Int) : Prop where
  n8 : o.n ≤ 8
  m1 : 1 ≤ o.m
  m32 : o.m ≤ 32
  cr1 : o.n ≤ o.cr
  cr2 : o.cr ≤ 9223372036854775807
  lo : o.B ≤ o.gr
  outer : ∃ cur : Array Value, w.heap[o.gr]? = some (.cells cur 24 (0, 0)) ∧ ∀ k, k < o.n → cur[k]? = some (o.row k)
  rlo : ∀ k, k < o.n → o.B ≤ o.rows k
  row : ∀ k, k < o.n → w.heap[o.rows k]? = some (.cells (row4 (R k)) 3 (0, 0))
  inj : ∀ k l, k < o.n → l < o.n → o.rows k = o.rows l → k = l
  mem : OwnO w o.B 3 1 o.vm o.m (memL o.m M)
  ne : ∀ k, k < o.n → o.rows k ≠ o.gm

/-- The blocks that a lane's instruction may write. -/
def RMo.lane (o : RMo) (k : Nat) : Nat → Prop := fun b => b = o.rows k ∨ b = o.gm
def RMo.own (o : RMo) : Nat → Prop := fun b => (∃ k, k < o.n ∧ b = o.rows k) ∨ b = o.gm

section
variable {o : RMo} {w w' : World} {R : Nat → Nat → Int} {M : Nat → Int}
theorem RM.chg {S : Nat → Prop} (h : RM o w R M) (hc : Chg S w w') (h1 : ¬ S o.gr) (h2 : ∀ k, k < o.n → ¬ S (o.rows k)) (h3 : ¬ S o.gm) : RM o w' R M := by
  obtain ⟨a1, a2, a3, a4, a5, a6, ⟨cur, b1, b2⟩, a8, a9, a10, a11, a12⟩ := h
  refine ⟨a1, a2, a3, a4, a5, a6, ⟨cur, hc.heap b1 h1, b2⟩, a8, fun k hk => hc.heap (a9 k hk) (h2 k hk), a10, a11.chg hc fun g hg => ?_, a12⟩
  simp [RMo.vm, Value.ownBlock] at hg
  subst hg; exact h3
theorem RM.pure (h : RM o w R M) (hp : Pure w w') : RM o w' R M := h.chg (S := fun _ => False) (Chg.of_pure hp) id (fun _ _ => id) id
theorem RM.gmlo (h : RM o w R M) : o.B ≤ o.gm ∧ o.gm < w.heap.size := h.mem.lt o.gm rfl
theorem RM.lane_lo (h : RM o w R M) {k : Nat} (hk : k < o.n) : ∀ b, o.lane k b → o.B ≤ b := by
  rintro b (rfl | rfl)
  · exact h.rlo k hk
  · exact h.gmlo.1
theorem RM.own_lo (h : RM o w R M) : ∀ b, o.own b → o.B ≤ b := by
  rintro b (⟨k, hk, rfl⟩ | rfl)
  · exact h.rlo k hk
  · exact h.gmlo.1
theorem RM.gr_ne (h : RM o w R M) {k : Nat} (hk : k < o.n) : o.rows k ≠ o.gr := by
  obtain ⟨cur, b1, _⟩ := h.outer
  exact ne_of_heap (h.row k hk) b1 (by decide)
theorem RM.gr_ne2 (h : RM o w R M) : o.gm ≠ o.gr := by
  obtain ⟨cur, b1, _⟩ := h.outer
  exact h.mem.ne_heap b1 (by decide) o.gm rfl
theorem RM.outerCell (h : RM o w R M) {k : Nat} (hk : k < o.n) : w.cell? ⟨o.gr, k, none⟩ = some (o.row k) := by
  obtain ⟨cur, b1, b2⟩ := h.outer
  rw [cell_of_row w o.gr k cur _ _ b1]; exact b2 k hk
theorem RM.regCell (h : RM o w R M) {k : Nat} (hk : k < o.n) {r : Nat} (hr : r < 4) : w.cell? ⟨o.rows k, r, none⟩ = some (.int .i64 (R k r)) := by
  rw [cell_of_row w (o.rows k) r _ _ _ (h.row k hk)]
  have : r = 0 ∨ r = 1 ∨ r = 2 ∨ r = 3 := by omega
  rcases this with rfl | rfl | rfl | rfl <;> rfl
theorem RM.regFrozen (h : RM o w R M) {k : Nat} (hk : k < o.n) (r : Nat) : w.frozen? ⟨o.rows k, r, none⟩ = false := frozen_of_row w (o.rows k) r _ _ (h.row k hk)
theorem RM.memCell (h : RM o w R M) {j : Nat} (hj : j < o.m) : w.cell? ⟨o.gm, j, none⟩ = some (.int .i64 (M j)) := by
  have := h.mem.cell j (by omega)
  rw [Nat.zero_add] at this
  rw [this]; simp [memL, hj]
theorem RM.memFrozen (h : RM o w R M) (j : Nat) : w.frozen? ⟨o.gm, j, none⟩ = false := h.mem.frozen j
/-- One lane's registers, written anew. -/
def upR (R : Nat → Nat → Int) (k : Nat) (f : Nat → Int) : Nat → Nat → Int := fun l => if l = k then f else R l
theorem upR_same (R : Nat → Nat → Int) (k : Nat) : upR R k (R k) = R := funext fun l => by
  unfold upR; split
  · rename_i h; rw [h]
  · rfl
theorem row4_set (f : Nat → Int) {r : Nat} (hr : r < 4) (v : Int) : (row4 f).setIfInBounds r (.int .i64 v) = row4 (setF f r v) := by
  have : r = 0 ∨ r = 1 ∨ r = 2 ∨ r = 3 := by omega
  rcases this with rfl | rfl | rfl | rfl <;> rfl
theorem RM.setReg (h : RM o w R M) {k : Nat} (hk : k < o.n) {r : Nat} (hr : r < 4) (v : Int) : RM o (w.setCell ⟨o.rows k, r, none⟩ (.int .i64 v)) (upR R k (setF (R k) r v)) M := by
  have hc : Chg (fun b => b = o.rows k) w (w.setCell ⟨o.rows k, r, none⟩ (.int .i64 v)) := Chg.of_set w _ _ _ rfl
  have hgm : o.gm ≠ o.rows k := fun e => h.ne k hk e.symm
  have hgr : o.gr ≠ o.rows k := fun e => h.gr_ne hk e.symm
  obtain ⟨a1, a2, a3, a4, a5, a6, ⟨cur, b1, b2⟩, a8, a9, a10, a11, a12⟩ := h
  refine ⟨a1, a2, a3, a4, a5, a6, ⟨cur, hc.heap b1 hgr, b2⟩, a8, fun l hl => ?_, a10, a11.chg hc fun g hg => ?_, a12⟩
  · unfold upR
    split
    · rename_i e
      subst e
      rw [heap_setCell_same w (o.rows l) r _ _ (.int .i64 v) (a9 l hk)]
      rw [row4_set _ hr]
    · rename_i e
      exact hc.heap (a9 l hl) (fun e2 => e (a10 l k hl hk e2))
  · simp [RMo.vm, Value.ownBlock] at hg
    subst hg; exact hgm
theorem memL_set (m : Nat) (M : Nat → Int) {j : Nat} (v : Int) : (memL m M).set j (.int .i64 v) = memL m (setF M j v) := by
  apply List.ext_getElem?
  intro i
  by_cases hi : i < m
  · by_cases e : i = j
    · subst e
      rw [List.getElem?_set_self (by simpa [memL] using hi)]
      simp [memL, hi, setF]
    · rw [List.getElem?_set_ne (by omega)]
      simp [memL, hi, setF, e]
  · rw [List.getElem?_eq_none (by simpa [memL] using hi), List.getElem?_eq_none (by simpa [memL] using hi)]
theorem RM.setMem (h : RM o w R M) (j : Nat) (v : Int) : RM o (w.setCell ⟨o.gm, j, none⟩ (.int .i64 v)) R (setF M j v) := by
  have hc : Chg (fun b => b = o.gm) w (w.setCell ⟨o.gm, j, none⟩ (.int .i64 v)) := Chg.of_set w _ _ _ rfl
  have hgr : o.gr ≠ o.gm := fun e => h.gr_ne2 e.symm
  obtain ⟨a1, a2, a3, a4, a5, a6, ⟨cur, b1, b2⟩, a8, a9, a10, a11, a12⟩ := h
  refine ⟨a1, a2, a3, a4, a5, a6, ⟨cur, hc.heap b1 hgr, b2⟩, a8, fun l hl => hc.heap (a9 l hl) (a12 l hl), a10, ?_, a12⟩
  have := a11.stored j (.int .i64 v)
  rw [Nat.zero_add, memL_set] at this
  exact this
end

end Go.Proofs.Ytkolnakcgjlcgaa

namespace Go.Proofs.Ytkolnakcgjlcgaa.Lw
open Go.RowKit

/-- Where the registers of lane k and the memory lie. -/
structure RMo where
  B : Nat
  k : Nat
  m : Nat
  gm : Nat
  cm : Nat
  c : Nat
  rows : Nat → Nat
def RMo.row (o : RMo) (k : Nat) : Value := .slice (some ⟨o.rows k, 0, none⟩) 4 o.c
def RMo.vm (o : RMo) : Value := .slice (some ⟨o.gm, 0, none⟩) o.m o.cm
/-- The lane whose registers they are. -/
def RMo.Is (o : RMo) (k : Nat) : Prop := k = o.k ∧ k < 8
theorem RMo.Is.eq {o : RMo} {k : Nat} (h : o.Is k) : k = o.k := And.left h
theorem RMo.Is.lt {o : RMo} {k : Nat} (h : o.Is k) : k < 8 := And.right h
def RMo.lane (o : RMo) (k : Nat) : Nat → Prop := fun b => b = o.rows k ∨ b = o.gm
structure RM (o : RMo) (w : World) (R : Nat → Nat → Int) (M : Nat → Int) : Prop where
  m1 : 1 ≤ o.m
  m32 : o.m ≤ 32
  row : OwnO w o.B 3 1 (o.row o.k) 4 (row4 (R o.k)).toList
  mem : OwnO w o.B 3 1 o.vm o.m (memL o.m M)
  ne : o.rows o.k ≠ o.gm

section
variable {o : RMo} {w w' : World} {R : Nat → Nat → Int} {M : Nat → Int}
theorem RM.chg {S : Nat → Prop} (h : RM o w R M) (hc : Chg S w w') (h2 : ¬ S (o.rows o.k)) (h3 : ¬ S o.gm) : RM o w' R M := by
  obtain ⟨a1, a2, a3, a4, a5⟩ := h
  refine ⟨a1, a2, a3.chg hc fun g hg => ?_, a4.chg hc fun g hg => ?_, a5⟩
  · simp [RMo.row, Value.ownBlock] at hg
    subst hg; exact h2
  · simp [RMo.vm, Value.ownBlock] at hg
    subst hg; exact h3
theorem RM.pure (h : RM o w R M) (hp : Pure w w') : RM o w' R M := h.chg (S := fun _ => False) (Chg.of_pure hp) id id
theorem RM.gmlo (h : RM o w R M) : o.B ≤ o.gm ∧ o.gm < w.heap.size := h.mem.lt o.gm rfl
theorem RM.rlo (h : RM o w R M) : o.B ≤ o.rows o.k ∧ o.rows o.k < w.heap.size := h.row.lt (o.rows o.k) rfl
theorem RM.rowLt (h : RM o w R M) {k : Nat} (hk : o.Is k) : o.rows k < w.heap.size := by rw [hk.eq]; exact h.rlo.2
theorem RM.regCell (h : RM o w R M) {k : Nat} (hk : o.Is k) {r : Nat} (hr : r < 4) : w.cell? ⟨o.rows k, r, none⟩ = some (.int .i64 (R k r)) := by
  have := h.row.cell r (by omega)
  rw [Nat.zero_add] at this
  rw [hk.eq, this]
  have : r = 0 ∨ r = 1 ∨ r = 2 ∨ r = 3 := by omega
  rcases this with rfl | rfl | rfl | rfl <;> rfl
theorem RM.regFrozen (h : RM o w R M) {k : Nat} (hk : o.Is k) (r : Nat) : w.frozen? ⟨o.rows k, r, none⟩ = false := by rw [hk.eq]; exact h.row.frozen r
theorem RM.memCell (h : RM o w R M) {j : Nat} (hj : j < o.m) : w.cell? ⟨o.gm, j, none⟩ = some (.int .i64 (M j)) := by
  have := h.mem.cell j (by omega)
  rw [Nat.zero_add] at this
  rw [this]; simp [memL, hj]
theorem RM.memFrozen (h : RM o w R M) (j : Nat) : w.frozen? ⟨o.gm, j, none⟩ = false := h.mem.frozen j
theorem row4_setL (f : Nat → Int) {r : Nat} (hr : r < 4) (v : Int) : (row4 f).toList.set r (.int .i64 v) = (row4 (setF f r v)).toList := by
  have : r = 0 ∨ r = 1 ∨ r = 2 ∨ r = 3 := by omega
  rcases this with rfl | rfl | rfl | rfl <;> rfl
theorem RM.setReg (h : RM o w R M) {k : Nat} (hk : o.Is k) {r : Nat} (hr : r < 4) (v : Int) : RM o (w.setCell ⟨o.rows k, r, none⟩ (.int .i64 v)) (upR R k (setF (R k) r v)) M := by
  obtain rfl := hk.eq
  have hc : Chg (fun b => b = o.rows o.k) w (w.setCell ⟨o.rows o.k, r, none⟩ (.int .i64 v)) := Chg.of_set w _ _ _ rfl
  have hgm : o.gm ≠ o.rows o.k := fun e => h.ne e.symm
  obtain ⟨a1, a2, a3, a4, a5⟩ := h
  refine ⟨a1, a2, ?_, a4.chg hc fun g hg => ?_, a5⟩
  · have h2 := a3.stored r (.int .i64 v)
    rw [Nat.zero_add, row4_setL _ hr] at h2
    have e : upR R o.k (setF (R o.k) r v) o.k = setF (R o.k) r v := if_pos rfl
    rw [e]; exact h2
  · simp [RMo.vm, Value.ownBlock] at hg
    subst hg; exact hgm
theorem RM.setMem (h : RM o w R M) (j : Nat) (v : Int) : RM o (w.setCell ⟨o.gm, j, none⟩ (.int .i64 v)) R (setF M j v) := by
  have hc : Chg (fun b => b = o.gm) w (w.setCell ⟨o.gm, j, none⟩ (.int .i64 v)) := Chg.of_set w _ _ _ rfl
  obtain ⟨a1, a2, a3, a4, a5⟩ := h
  refine ⟨a1, a2, a3.chg hc fun g hg => ?_, ?_, a5⟩
  · simp [RMo.row, Value.ownBlock] at hg
    subst hg; exact a5
  have := a4.stored j (.int .i64 v)
  rw [Nat.zero_add, memL_set] at this
  exact this
end

end Go.Proofs.Ytkolnakcgjlcgaa.Lw

namespace Go.Proofs.Ytkolnakcgjlcgaa
open Go.RowKit

set_option maxHeartbeats 400000 in
theorem l1In_t (n lo hi : Int) (w : World) (h : lo ≤ n ∧ n ≤ hi) :
    Calls Try.prog 79 #[.int .i64 n, .int .i64 lo, .int .i64 hi] w fun e w' => e = .returned (.bool true) ∧ w = w' := by
  obtain ⟨h1, h2⟩ := h
  go_enter Try.func79, Try.ntmps79
  go_wp2
  go_ret
  exact ⟨rfl, rfl⟩
set_option maxHeartbeats 400000 in
theorem l1In_f (n lo hi : Int) (w : World) (h : ¬ (lo ≤ n ∧ n ≤ hi)) :
    Calls Try.prog 79 #[.int .i64 n, .int .i64 lo, .int .i64 hi] w fun e w' => e = .returned (.bool false) ∧ w = w' := by
  by_cases h1 : lo ≤ n
  · have h2 : ¬ n ≤ hi := by omega
    clear h
    go_enter Try.func79, Try.ntmps79
    go_wp2
    go_ret
    exact ⟨rfl, rfl⟩
  · clear h
    go_enter Try.func79, Try.ntmps79
    go_wp2
    go_ret
    exact ⟨rfl, rfl⟩
theorem l1In_any (n lo hi : Int) (w : World) (B : Bool) (hB : B = true ↔ (lo ≤ n ∧ n ≤ hi)) :
    Calls Try.prog 79 #[.int .i64 n, .int .i64 lo, .int .i64 hi] w fun e w' => e = .returned (.bool B) ∧ w = w' := by
  cases B
  · exact l1In_f n lo hi w (fun h => by simp [h] at hB)
  · exact l1In_t n lo hi w (hB.1 rfl)

set_option maxHeartbeats 400000 in
theorem within_t (n lo hi : Int) (w : World) (h : lo ≤ n ∧ n ≤ hi) :
    Calls Try.prog 64 #[.int .i64 n, .int .i64 lo, .int .i64 hi] w fun e w' => e = .returned (.bool true) ∧ w = w' := by
  obtain ⟨h1, h2⟩ := h
  go_enter Try.func64, Try.ntmps64
  go_wp2
  go_ret
  exact ⟨rfl, rfl⟩
set_option maxHeartbeats 400000 in
theorem within_f (n lo hi : Int) (w : World) (h : ¬ (lo ≤ n ∧ n ≤ hi)) :
    Calls Try.prog 64 #[.int .i64 n, .int .i64 lo, .int .i64 hi] w fun e w' => e = .returned (.bool false) ∧ w = w' := by
  by_cases h1 : lo ≤ n
  · have h2 : ¬ n ≤ hi := by omega
    clear h
    go_enter Try.func64, Try.ntmps64
    go_wp2
    go_ret
    exact ⟨rfl, rfl⟩
  · clear h
    go_enter Try.func64, Try.ntmps64
    go_wp2
    go_ret
    exact ⟨rfl, rfl⟩
theorem within_any (n lo hi : Int) (w : World) (B : Bool) (hB : B = true ↔ (lo ≤ n ∧ n ≤ hi)) :
    Calls Try.prog 64 #[.int .i64 n, .int .i64 lo, .int .i64 hi] w fun e w' => e = .returned (.bool B) ∧ w = w' := by
  cases B
  · exact within_f n lo hi w (fun h => by simp [h] at hB)
  · exact within_t n lo hi w (hB.1 rfl)

def rowOk (n : Nat) (r : List Int) (m : Nat) : Prop := ∀ j, j < m → 0 ≤ r.getD j 0 ∧ r.getD j 0 ≤ (n : Int) - 1 ∧ ∀ i, i < j → r.getD i 0 ≠ r.getD j 0
def GValid (xss : List (List Int)) : Prop := (∀ k, k < xss.length → rowOk xss.length (xss.getD k []) (xss.getD k []).length) ∧ xss.length ≤ 64

end Go.Proofs.Ytkolnakcgjlcgaa
