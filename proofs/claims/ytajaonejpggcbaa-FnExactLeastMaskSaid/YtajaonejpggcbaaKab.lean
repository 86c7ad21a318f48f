/- Lanes in lockstep, plainly: what an instruction does to one lane, to the lanes of a mask, and what a tree of blocks does. No program in sight. The element types of this seat's slices. A slice of the call's own that may begin behind its block's head: read, cut at its front, appended to. Slices of instructions in memory; the laws' helpers on them: size, copy, comparison. The laws' helpers on []int and [][]int: sizes, copies, comparisons. No condition. -/
import Derived.Test.YtajaonejpggcbaaRows
import Derived.Deep.LoopGhost
import Derived.Deep.RegionWith
import Derived.Test.YtajaonejpggcbaaKaa

namespace Go.Proofs.Ytajaonejpggcbaa

/-- An access to the memory. -/
structure Ac where
  who : Nat
  cell : Nat
  wr : Bool
  ph : Nat
deriving DecidableEq, Inhabited

/-- A run under way: registers, memory, the steps so far (place, mask, the registers then), the accesses so far, the phase. -/
structure LS where
  R : Nat → Nat → Int
  M : Nat → Int
  H : List (Nat × Nat × (Nat → Nat → Int))
  A : List Ac
  P : Nat

def setF (f : Nat → Int) (r : Nat) (v : Int) : Nat → Int := fun j => if j = r then v else f j
theorem setF_same (f : Nat → Int) (r : Nat) (v : Int) : setF f r v r = v := if_pos rfl
theorem setF_ne (f : Nat → Int) {r j : Nat} (v : Int) (h : j ≠ r) : setF f r v j = f j := if_neg h
def cellOf (c : Cd) (m : Nat) (f : Nat → Int) : Nat := (f c.b.toNat).toNat % m
/-- A lane's registers behind an instruction. -/
def simR (c : Cd) (id m : Nat) (f M : Nat → Int) : Nat → Int :=
  if c.op = 1 then setF f c.a.toNat c.b
  else if c.op = 2 then setF f c.a.toNat id
  else if c.op = 3 then setF f c.a.toNat ((f c.a.toNat + f c.b.toNat) % 256)
  else if c.op = 4 then setF f c.a.toNat (f c.a.toNat * f c.b.toNat % 256)
  else if c.op = 5 then setF f c.a.toNat (f c.b.toNat)
  else if c.op = 6 then setF f c.a.toNat (if f c.b.toNat < f c.c.toNat then 1 else 0)
  else if c.op = 7 then (if f c.c.toNat = 0 then f else setF f c.a.toNat (f c.b.toNat))
  else if c.op = 8 then setF f c.a.toNat (M (cellOf c m f))
  else f
/-- The memory behind an instruction of a lane. -/
def simM (c : Cd) (m : Nat) (f M : Nat → Int) : Nat → Int := if c.op = 9 then setF M (cellOf c m f) (f c.a.toNat) else M
def lane1 (c : Cd) (m k : Nat) (s : LS) : LS :=
  { s with
    R := fun l => if l = k then simR c k m (s.R k) s.M else s.R l
    M := simM c m (s.R k) s.M
    A := if c.op = 8 ∨ c.op = 9 then s.A ++ [⟨k, cellOf c m (s.R k), decide (c.op = 9), s.P⟩] else s.A }
/-- The lanes below j that are in a mask execute an instruction. -/
def lanesTo (c : Cd) (m mask : Nat) : Nat → LS → LS
  | 0, s => s
  | j + 1, s => if mask.testBit j then lane1 c m j (lanesTo c m mask j s) else lanesTo c m mask j s
def beat (i mask : Nat) (s : LS) : LS := { s with H := s.H ++ [(i, mask, s.R)] }
def exec (c : Cd) (n m i mask : Nat) (s : LS) : LS :=
  let s1 := lanesTo c m mask n (beat i mask s)
  if c.op = 10 then { s1 with P := s1.P + 1 } else s1
/-- The lanes below j of a mask whose register is not 0. -/
def onesTo (R : Nat → Nat → Int) (mask a : Nat) : Nat → Nat
  | 0 => 0
  | j + 1 => if mask.testBit j && !decide (R j a = 0) then onesTo R mask a j ||| 2 ^ j else onesTo R mask a j
def turns (F : Nat → LS → LS) (n a : Nat) : Nat → Nat → LS → LS
  | 0, _, s => s
  | b + 1, y, s => turns F n a b (onesTo s.R y a n) (F (onesTo s.R y a n) s)
/-- A tree of blocks, from place i on, by the lanes of a mask. -/
def run (n m : Nat) : Tr → Nat → Nat → LS → LS
  | .nil, _, _, s => s
  | .op c k, i, mask, s => if mask = 0 then s else run n m k (i + 1) mask (exec c n m i mask s)
  | .ite a t k, i, mask, s => if mask = 0 then s else run n m k (i + 1 + t.len + 1) mask (run n m t (i + 1) (onesTo s.R mask a.toNat n) (beat i mask s))
  | .itee a t e k, i, mask, s => if mask = 0 then s else run n m k (i + 1 + t.len + 1 + e.len + 1) mask
      (run n m e (i + 1 + t.len + 1) (del mask (onesTo s.R mask a.toNat n)) (run n m t (i + 1) (onesTo s.R mask a.toNat n) (beat i mask s)))
  | .loop a b t k, i, mask, s => if mask = 0 then s else run n m k (i + 1 + t.len + 1) mask (turns (run n m t (i + 1)) n a.toNat b.toNat mask (beat i mask s))

theorem run_zero (n m : Nat) : ∀ (t : Tr) (i : Nat) (s : LS), run n m t i 0 s = s
  | .nil, _, _ => rfl
  | .op _ _, _, _ => rfl
  | .ite _ _ _, _, _ => rfl
  | .itee _ _ _ _, _, _ => rfl
  | .loop _ _ _ _, _, _ => rfl

theorem onesTo_bit (R : Nat → Nat → Int) (mask a : Nat) : ∀ j l, (onesTo R mask a j).testBit l = (decide (l < j) && (mask.testBit l && !decide (R l a = 0)))
  | 0, l => by simp [onesTo]
  | j + 1, l => by
    unfold onesTo
    by_cases h : (mask.testBit j && !decide (R j a = 0)) = true
    · rw [if_pos h, Nat.testBit_or, onesTo_bit R mask a j l, Nat.testBit_two_pow]
      by_cases e : j = l
      · subst e; rw [h]; simp
      · have e1 : decide (l < j + 1) = decide (l < j) := by rw [decide_eq_decide]; omega
        have e2 : decide (j = l) = false := by simp [e]
        rw [e1, e2, Bool.or_false]
    · rw [if_neg h, onesTo_bit R mask a j l]
      by_cases e : j = l
      · subst e
        have h' : (mask.testBit j && !decide (R j a = 0)) = false := by simpa using h
        rw [h']; simp
      · have e1 : decide (l < j + 1) = decide (l < j) := by rw [decide_eq_decide]; omega
        rw [e1]
theorem onesTo_lt (R : Nat → Nat → Int) (mask a : Nat) : ∀ n, onesTo R mask a n < 2 ^ n
  | 0 => by simp [onesTo]
  | n + 1 => by
    have ih := onesTo_lt R mask a n
    have h2 : 2 ^ n < 2 ^ (n + 1) := Nat.pow_lt_pow_right (by decide) (by omega)
    unfold onesTo
    split
    · exact Nat.or_lt_two_pow (Nat.lt_trans ih h2) h2
    · exact Nat.lt_trans ih h2
theorem testBit_hi {mask n j : Nat} (h : mask < 2 ^ n) (hj : n ≤ j) : mask.testBit j = false :=
  Nat.testBit_lt_two_pow (Nat.lt_of_lt_of_le h (Nat.pow_le_pow_right (by decide) hj))
/-- Beyond the lanes nothing is counted. -/
theorem onesTo_stop (R : Nat → Nat → Int) {mask a n : Nat} (h : mask < 2 ^ n) : ∀ j, n ≤ j → onesTo R mask a j = onesTo R mask a n
  | 0, hj => by have : n = 0 := by omega
                subst this; rfl
  | j + 1, hj => by
    by_cases e : n = j + 1
    · rw [e]
    · rw [← onesTo_stop R h j (by omega)]
      show (if mask.testBit j && _ then _ else _) = _
      rw [testBit_hi h (by omega)]; rfl
theorem onesTo_sub (R : Nat → Nat → Int) (mask a n l : Nat) (h : (onesTo R mask a n).testBit l = true) : mask.testBit l = true := by
  rw [onesTo_bit] at h
  simp at h
  exact h.2.1
theorem onesTo_none (R : Nat → Nat → Int) (a n : Nat) : onesTo R 0 a n = 0 := by
  apply Nat.eq_of_testBit_eq
  intro i
  rw [onesTo_bit]; simp
theorem turns_zero {n m a : Nat} {t : Tr} {i : Nat} : ∀ (b : Nat) (s : LS), turns (run n m t i) n a b 0 s = s
  | 0, _ => rfl
  | b + 1, s => by
    show turns _ _ _ b (onesTo s.R 0 a n) (run n m t i (onesTo s.R 0 a n) s) = s
    rw [onesTo_none, run_zero, turns_zero b s]
theorem lanesTo_stop (c : Cd) (m : Nat) {mask n : Nat} (h : mask < 2 ^ n) (s : LS) : ∀ j, n ≤ j → lanesTo c m mask j s = lanesTo c m mask n s
  | 0, hj => by have : n = 0 := by omega
                subst this; rfl
  | j + 1, hj => by
    by_cases e : n = j + 1
    · rw [e]
    · rw [← lanesTo_stop c m h s j (by omega)]
      show (if mask.testBit j then _ else _) = _
      rw [testBit_hi h (by omega)]; rfl
theorem del_lt2 {a n : Nat} (b : Nat) (h : a < 2 ^ n) : del a b < 2 ^ n := Nat.xor_lt_two_pow h (Nat.lt_of_le_of_lt Nat.and_le_left h)

/-- Registers and cells hold words. -/
def Good (s : LS) : Prop := (∀ l r, Word (s.R l r)) ∧ ∀ j, Word (s.M j)
theorem setF_word {f : Nat → Int} {r : Nat} {v : Int} (h : ∀ j, Word (f j)) (hv : Word v) (j : Nat) : Word (setF f r v j) := by
  unfold setF; split
  · exact hv
  · exact h j
theorem simR_word {c : Cd} {id m : Nat} {f M : Nat → Int} (hc : CdOk c) (hid : id ≤ 255) (hf : ∀ j, Word (f j)) (hM : ∀ j, Word (M j)) (j : Nat) : Word (simR c id m f M j) := by
  unfold simR
  split
  · rename_i h
    refine setF_word hf ?_ j
    unfold CdOk at hc
    rcases hc with hc | hc | hc | hc | hc | hc
    · exact hc.2.2.1
    · omega
    · omega
    · omega
    · omega
    · omega
  split
  · exact setF_word hf ⟨by omega, by omega⟩ j
  split
  · exact setF_word hf ⟨by omega, by omega⟩ j
  split
  · exact setF_word hf ⟨Int.emod_nonneg _ (by decide), by have := Int.emod_lt_of_pos (f c.a.toNat * f c.b.toNat) (by decide : (0 : Int) < 256); omega⟩ j
  split
  · exact setF_word hf (hf _) j
  split
  · refine setF_word hf ?_ j
    split
    · exact ⟨by decide, by decide⟩
    · exact ⟨by decide, by decide⟩
  split
  · split
    · exact hf j
    · exact setF_word hf (hf _) j
  split
  · exact setF_word hf (hM _) j
  · exact hf j
theorem simM_word {c : Cd} {m : Nat} {f M : Nat → Int} (hf : ∀ j, Word (f j)) (hM : ∀ j, Word (M j)) (j : Nat) : Word (simM c m f M j) := by
  unfold simM
  split
  · exact setF_word hM (hf _) j
  · exact hM j
theorem Good.lane1 {s : LS} {c : Cd} {m k : Nat} (h : Good s) (hc : CdOk c) (hk : k ≤ 255) : Good (lane1 c m k s) := by
  refine ⟨fun l r => ?_, fun j => simM_word (h.1 k) h.2 j⟩
  show Word ((if l = k then simR c k m (s.R k) s.M else s.R l) r)
  split
  · exact simR_word hc hk (h.1 k) h.2 r
  · exact h.1 l r
theorem Good.lanesTo {c : Cd} {m mask : Nat} (hc : CdOk c) : ∀ (j : Nat) {s : LS}, Good s → j ≤ 256 → Good (lanesTo c m mask j s)
  | 0, _, h, _ => h
  | j + 1, _, h, hj => by
    show Good (if _ then _ else _)
    split
    · exact (Good.lanesTo hc j h (by omega)).lane1 hc (by omega)
    · exact Good.lanesTo hc j h (by omega)
theorem Good.beat {s : LS} (h : Good s) (i mask : Nat) : Good (beat i mask s) := h
theorem Good.exec {s : LS} {c : Cd} {n m i mask : Nat} (h : Good s) (hc : CdOk c) (hn : n ≤ 256) : Good (exec c n m i mask s) := by
  have h1 := Good.lanesTo (m := m) (mask := mask) hc n (h.beat i mask) hn
  unfold Proofs.Ytajaonejpggcbaa.exec
  simp only
  split
  · exact h1
  · exact h1
theorem Good.turns {F : Nat → LS → LS} {n a : Nat} (hF : ∀ y s, Good s → Good (F y s)) : ∀ (b y : Nat) {s : LS}, Good s → Good (turns F n a b y s)
  | 0, _, _, h => h
  | b + 1, _, _, h => Good.turns hF b _ (hF _ _ h)
theorem Good.run {n m : Nat} (hn : n ≤ 256) : ∀ (t : Tr) (i mask : Nat) {s : LS}, t.Ok → Good s → Good (run n m t i mask s)
  | .nil, _, _, _, _, h => h
  | .op c k, i, mask, s, ho, h => by
    show Good (if _ then _ else _)
    split
    · exact h
    · exact Good.run hn k _ _ ho.2 (h.exec ho.1.1 hn)
  | .ite a t k, i, mask, s, ho, h => by
    show Good (if _ then _ else _)
    split
    · exact h
    · exact Good.run hn k _ _ ho.2.2 (Good.run hn t _ _ ho.2.1 (h.beat i mask))
  | .itee a t e k, i, mask, s, ho, h => by
    show Good (if _ then _ else _)
    split
    · exact h
    · exact Good.run hn k _ _ ho.2.2.2 (Good.run hn e _ _ ho.2.2.1 (Good.run hn t _ _ ho.2.1 (h.beat i mask)))
  | .loop a b t k, i, mask, s, ho, h => by
    show Good (if _ then _ else _)
    split
    · exact h
    · exact Good.run hn k _ _ ho.2.2.2 (Good.turns (fun y s hs => Good.run hn t _ _ ho.2.2.1 hs) _ _ (h.beat i mask))

end Go.Proofs.Ytajaonejpggcbaa

namespace Go.Proofs.Ytajaonejpggcbaa
open Go.RowKit

theorem elInt : ElT Try.prog 23 3 1 [.int .i64 0] 8 := ⟨by kernel_rfl, ⟨.int .i64 0, by kernel_rfl, by kernel_rfl, rfl⟩, by decide⟩

theorem elInts : ElT Try.prog 94 23 1 [.slice none 0 0] 24 := ⟨by kernel_rfl, ⟨.slice none 0 0, by kernel_rfl, by kernel_rfl, rfl⟩, by decide⟩

theorem elCode : ElT Try.prog 35 68 4 [.int .i64 0, .int .i64 0, .int .i64 0, .int .i64 0] 32 := ⟨by kernel_rfl, ⟨.agg #[.int .i64 0, .int .i64 0, .int .i64 0, .int .i64 0], by kernel_rfl, by kernel_rfl, rfl⟩, by decide⟩

end Go.Proofs.Ytajaonejpggcbaa

namespace Go.Proofs.Ytajaonejpggcbaa
open Go.RowKit

def OwnO (w : World) (B e s : Nat) (v : Value) (n : Nat) (xs : List Value) : Prop :=
  xs.length = n * s ∧ ((v = .slice none 0 0 ∧ n = 0) ∨ ∃ g off cap cur, v = .slice (some ⟨g, off, none⟩) n cap ∧ B ≤ g ∧ w.heap[g]? = some (.cells cur e (0, 0)) ∧ n ≤ cap ∧ cap ≤ 9223372036854775807 ∧ off + cap * s ≤ cur.size ∧ ∀ j u, xs[j]? = some u → cur[off + j]? = some u)

section
variable {w w' : World} {B e s n : Nat} {v : Value} {xs : List Value}
theorem OwnO.of_own (h : w.ownsRow B e s v n xs) : OwnO w B e s v n xs := by
  refine ⟨h.1, ?_⟩
  rcases h.2 with h | ⟨g, cap, cur, rfl, h1, h2, h3, h4, h5, h6⟩
  · exact .inl h
  · refine .inr ⟨g, 0, cap, cur, rfl, h1, h2, h3, by unfold maxLen at h4; omega, by omega, fun j u hu => ?_⟩
    rw [← h6, List.getElem?_take] at hu
    split at hu
    · simpa using hu
    · cases hu
theorem OwnO.kept {row : Option Nat} (h : OwnO w B e s v n xs) (hg : w.grownBy w' row) (hne : ∀ g, v.ownBlock = some g → some g ≠ row) : OwnO w' B e s v n xs := by
  refine ⟨h.1, ?_⟩
  rcases h.2 with h | ⟨g, off, cap, cur, rfl, h1, h2, h3⟩
  · exact .inl h
  · exact .inr ⟨g, off, cap, cur, rfl, h1, by rw [hg.block g (Array.getElem?_eq_some_iff.1 h2).1 (hne g rfl)]; exact h2, h3⟩
theorem OwnO.pure (h : OwnO w B e s v n xs) (hp : Pure w w') : OwnO w' B e s v n xs := h.kept (hp.grownBy none) (fun _ _ => by simp)
theorem OwnO.lt (h : OwnO w B e s v n xs) (k : Nat) (hk : v.ownBlock = some k) : B ≤ k ∧ k < w.heap.size := by
  rcases h.2 with ⟨rfl, _⟩ | ⟨g, off, cap, cur, rfl, h1, h2, h3⟩
  · simp [Value.ownBlock] at hk
  · simp [Value.ownBlock] at hk; subst hk
    exact ⟨h1, (Array.getElem?_eq_some_iff.1 h2).1⟩
theorem OwnO.form (h : OwnO w B e s v n xs) : ∃ A c, v = .slice A n c := by
  rcases h.2 with ⟨rfl, rfl⟩ | ⟨g, off, cap, cur, rfl, _⟩
  · exact ⟨_, _, rfl⟩
  · exact ⟨_, _, rfl⟩
theorem OwnO.formSome (h : OwnO w B e s v n xs) (hn : 0 < n) : ∃ g off c, v = .slice (some ⟨g, off, none⟩) n c ∧ n ≤ c ∧ c ≤ 9223372036854775807 ∧ B ≤ g ∧ g < w.heap.size := by
  rcases h.2 with ⟨rfl, rfl⟩ | ⟨g, off, cap, cur, rfl, h1, h2, h3, h4, _⟩
  · omega
  · exact ⟨_, _, _, rfl, h3, h4, h1, (Array.getElem?_eq_some_iff.1 h2).1⟩
theorem OwnO.cell {g off c : Nat} (h : OwnO w B e s (.slice (some ⟨g, off, none⟩) n c) n xs) (j : Nat) (hj : j < n * s) : w.cell? ⟨g, off + j, none⟩ = xs[j]? := by
  rcases h.2 with ⟨hv, _⟩ | ⟨g', off', cap, cur, hv, h1, h2, h3, h4, h5, h6⟩
  · cases hv
  · injection hv with hv _ hc
    injection hv with hv
    injection hv with e1 e2
    subst e1 e2 hc
    rw [cell_of_row w g _ cur e (0, 0) h2]
    have hl : j < xs.length := by rw [h.1]; exact hj
    rw [List.getElem?_eq_getElem hl]
    exact h6 j _ (List.getElem?_eq_getElem hl)
theorem OwnO.cellSome {g off c : Nat} (h : OwnO w B e s (.slice (some ⟨g, off, none⟩) n c) n xs) (j : Nat) (hj : j < n * s) : ∃ u, w.cell? ⟨g, off + j, none⟩ = some u := by
  rw [h.cell j hj]
  exact ⟨_, List.getElem?_eq_getElem (by rw [h.1]; exact hj)⟩
theorem OwnO.frozen {g off c : Nat} (h : OwnO w B e s (.slice (some ⟨g, off, none⟩) n c) n xs) (j : Nat) : w.frozen? ⟨g, j, none⟩ = false := by
  rcases h.2 with ⟨hv, _⟩ | ⟨g', off', cap, cur, hv, h1, h2, _⟩
  · cases hv
  · injection hv with hv _ hc
    injection hv with hv
    injection hv with e1 e2
    subst e1 e2 hc
    exact frozen_of_row w g _ cur e h2
theorem OwnO.stored {g off c : Nat} (h : OwnO w B e s (.slice (some ⟨g, off, none⟩) n c) n xs) (j : Nat) (u : Value) :
    OwnO (w.setCell ⟨g, off + j, none⟩ u) B e s (.slice (some ⟨g, off, none⟩) n c) n (xs.set j u) := by
  refine ⟨by simpa using h.1, .inr ?_⟩
  rcases h.2 with ⟨hv, _⟩ | ⟨g', off', cap, cur, hv, h1, h2, h3, h4, h5, h6⟩
  · cases hv
  · injection hv with hv _ hc
    injection hv with hv
    injection hv with e1 e2
    subst e1 e2 hc
    refine ⟨g, off, c, _, rfl, h1, heap_setCell_same w g (off + j) cur e u h2, h3, h4, by simpa using h5, fun i v hv => ?_⟩
    rw [List.getElem?_set] at hv
    by_cases hji : j = i
    · subst hji
      rw [if_pos rfl] at hv
      split at hv
      · rename_i hlt
        simp only [Option.some.injEq] at hv
        subst hv
        have : off + j < cur.size := by
          have := Nat.mul_le_mul_right s h3
          have := h.1
          omega
        rw [Array.getElem?_setIfInBounds_self_of_lt this]
      · cases hv
    · rw [if_neg hji] at hv
      rw [Array.getElem?_setIfInBounds_ne (by omega)]
      exact h6 i v hv
theorem OwnO.ne {B' e' s' n' : Nat} {v' : Value} {xs' : List Value} (h : OwnO w B e s v n xs) (h' : OwnO w B' e' s' v' n' xs') (hne : e ≠ e') : ∀ g, v.ownBlock = some g → some g ≠ v'.ownBlock := by
  intro g hg
  rcases h.2 with ⟨rfl, _⟩ | ⟨g1, off, cap, cur, rfl, h1, h2, _⟩
  · simp [Value.ownBlock] at hg
  · simp [Value.ownBlock] at hg; subst hg
    rcases h'.2 with ⟨rfl, _⟩ | ⟨g1', off', cap', cur', rfl, h1', h2', _⟩
    · simp [Value.ownBlock]
    · simp only [Value.ownBlock, ne_eq, Option.some.injEq]
      rintro rfl
      rw [h2] at h2'
      simp only [Option.some.injEq, Obj.cells.injEq] at h2'
      exact hne h2'.2.1
theorem OwnO.alloc (h : OwnO w B e s v n xs) (o : Obj) : OwnO (w.alloc o) B e s v n xs := h.pure (Pure.alloc (Pure.refl _) o)
theorem OwnO.drewN (h : OwnO w B e s v n xs) (k : Nat) : OwnO (w.drewN k) B e s v n xs := h.pure (Pure.drewN (Pure.refl _) k)
theorem OwnO.lit (w : World) (cs : Array Value) (n : Nat) (hB : B ≤ w.heap.size) (hn : n ≤ 9223372036854775807) (hs : cs.size = n * s) : OwnO (w.alloc (.cells cs e)) B e s (.slice (some ⟨w.heap.size, 0, none⟩) n n) n cs.toList :=
  OwnO.of_own (World.ownsRow_lit (e := e) w cs n hB (by unfold maxLen; omega) hs)
theorem OwnO.empty_lit {w : World} {B e s : Nat} (hB : B ≤ w.heap.size) : OwnO (w.alloc (.cells #[] e)) B e s (.slice (some ⟨w.heap.size, 0, none⟩) 0 0) 0 [] :=
  OwnO.lit w #[] 0 hB (by omega) (by simp)
theorem Cells.of_ownO {f : Nat → Value} (h : OwnO w B e s v n xs) (hf : ∀ j, j < n * s → xs[j]? = some (f j)) : Cells w v n s f := by
  rcases h.2 with ⟨rfl, rfl⟩ | ⟨g, off, cap, cur, rfl, h1, h2, h3, h4, h5, h6⟩
  · exact ⟨none, 0, rfl, Nat.le_refl _, by omega, fun h => absurd h (by omega)⟩
  · exact ⟨_, cap, rfl, h3, h4, fun hn => ⟨g, off, rfl, (Array.getElem?_eq_some_iff.1 h2).1, fun j hj => by rw [h.cell j hj]; exact hf j hj⟩⟩
theorem OwnO.take {g off c : Nat} (h : OwnO w B e s (.slice (some ⟨g, off, none⟩) n c) n xs) {k : Nat} (hk : k ≤ n) :
    OwnO w B e s (.slice (some ⟨g, off, none⟩) k c) k (xs.take (k * s)) := by
  have hle := Nat.mul_le_mul_right s hk
  refine ⟨by rw [List.length_take, h.1]; omega, .inr ?_⟩
  rcases h.2 with ⟨hv, _⟩ | ⟨g', off', cap, cur, hv, h1, h2, h3, h4, h5, h6⟩
  · cases hv
  · injection hv with hv _ hc
    injection hv with hv
    injection hv with e1 e2
    subst e1 e2 hc
    refine ⟨g, off, c, cur, rfl, h1, h2, by omega, h4, h5, fun j u hu => ?_⟩
    rw [List.getElem?_take] at hu
    split at hu
    · exact h6 j u hu
    · cases hu
theorem OwnO.drop {g off c : Nat} (h : OwnO w B e s (.slice (some ⟨g, off, none⟩) n c) n xs) {k : Nat} (hk : k ≤ n) :
    OwnO w B e s (.slice (some (if c = k then ⟨g, off, none⟩ else ⟨g, off + k * s, none⟩)) (n - k) (c - k)) (n - k) (xs.drop (k * s)) := by
  refine ⟨by rw [List.length_drop, h.1, Nat.sub_mul], .inr ?_⟩
  rcases h.2 with ⟨hv, _⟩ | ⟨g', off', cap, cur, hv, h1, h2, h3, h4, h5, h6⟩
  · cases hv
  · injection hv with hv _ hc
    injection hv with hv
    injection hv with e1 e2
    subst e1 e2 hc
    by_cases hck : c = k
    · refine ⟨g, off, c - k, cur, by rw [if_pos hck], h1, h2, by omega, by omega, by rw [hck, Nat.sub_self]; omega, fun j u hu => ?_⟩
      rw [List.getElem?_drop, List.getElem?_eq_none (by rw [h.1]; have := Nat.mul_le_mul_right s h3; rw [hck] at this; omega)] at hu
      cases hu
    · refine ⟨g, off + k * s, c - k, cur, by rw [if_neg hck], h1, h2, by omega, by omega, ?_, fun j u hu => ?_⟩
      · have : k * s + (c - k) * s = c * s := by rw [← Nat.add_mul, Nat.add_sub_cancel' (by omega)]
        omega
      · rw [List.getElem?_drop] at hu
        rw [Nat.add_assoc]
        exact h6 _ u hu
end

section
variable {P : Program} {t e : TypeId} {s : Nat} {z : List Value} {bytes : Nat}
theorem heap_setCells_same (g : Nat) : ∀ (vs : List Value) (o : Nat) (w : World) (cur : Array Value) (t : TypeId), w.heap[g]? = some (.cells cur t (0, 0)) → o + vs.length ≤ cur.size →
    ∃ cur', (w.setCells g o vs).heap[g]? = some (.cells cur' t (0, 0)) ∧ cur'.size = cur.size ∧ (∀ j, j < o → cur'[j]? = cur[j]?) ∧ ∀ j u, vs[j]? = some u → cur'[o + j]? = some u
  | [], o, w, cur, t, h, _ => ⟨cur, h, rfl, fun _ _ => rfl, fun j u hu => by simp at hu⟩
  | v :: r, o, w, cur, t, h, hl => by
    simp only [List.length_cons] at hl
    have h1 := heap_setCell_same w g o cur t v h
    obtain ⟨cur', a1, a2, a3, a4⟩ := heap_setCells_same g r (o + 1) _ _ t h1 (by simp; omega)
    refine ⟨cur', a1, by rw [a2]; simp, fun j hj => ?_, fun j u hu => ?_⟩
    · rw [a3 j (by omega)]
      rw [Array.getElem?_setIfInBounds_ne (by omega)]
    · cases j with
      | zero =>
        simp at hu; subst hu
        rw [Nat.add_zero, a3 o (by omega)]
        simp [Array.getElem?_setIfInBounds_self_of_lt (show o < cur.size by omega)]
      | succ j =>
        have := a4 j u (by simpa using hu)
        rwa [show o + 1 + j = o + (j + 1) by omega] at this

theorem grown_setCells (g : Nat) : ∀ (vs : List Value) (o : Nat) (w : World), w.grownBy (w.setCells g o vs) (some g)
  | [], _, w => ⟨rfl, rfl, rfl, Nat.le_refl _, fun _ _ _ => rfl⟩
  | v :: r, o, w => by
    have h1 := grown_setCell w ⟨g, o, none⟩ v
    have h2 := grown_setCells g r (o + 1) (w.setCell ⟨g, o, none⟩ v)
    exact ⟨h2.os.trans h1.os, h2.tape.trans h1.tape, h2.output.trans h1.output, Nat.le_trans h1.size h2.size, fun k hk hne => (h2.block k (Nat.lt_of_lt_of_le hk h1.size) hne).trans (h1.block k hk hne)⟩

theorem wl_appendO (E : ElT P t e s z bytes) {w : World} {ops : Array Oper} {rest : List Oper} {o : Oper} {a : Act} {Q : Exit → Act → World → Prop}
    (hgd : o.guard = none) (sl x : Operand) (ho : o.op = .call { callee := .builtin .append, args := #[sl, x], argTypes := #[t, t] })
    (B : Nat) (v : Value) (n : Nat) (xs : List Value) (hs : a.eval sl = v) (hown : OwnO w B e s v n xs)
    (b m c : Nat) (news : List Value) (hx : a.eval x = .slice (some ⟨b, 0, none⟩) m c) (hl : news.length = m * s) (hnews : ∀ j u, news[j]? = some u → w.cell? ⟨b, j, none⟩ = some u) (h1 : ∀ u ∈ news, u.oneCell' = true)
    (hbytes : (n + m) * bytes ≤ 140737488355328) (h63 : n + m ≤ 9223372036854775807) (hB : B ≤ w.heap.size)
    (h : ∀ v' w', OwnO w' B e s v' (n + m) (xs ++ news) → w.grownBy w' v.ownBlock → wpList P ops Q rest (a.put o.dst v') w') : wpList P ops Q (o :: rest) a w := by
  obtain ⟨i, zv, h2, h3, h4, h5, h6, h7⟩ := E.parts
  rcases hown.2 with ⟨rfl, rfl⟩ | ⟨g, off, cap, cur, rfl, q1, q2, q3, q4, q5, q6⟩
  · have hx0 : xs = [] := List.eq_nil_of_length_eq_zero (by simpa using hown.1)
    subst hx0
    exact wl_append E hgd sl x ho B _ 0 [] hs (World.ownsRow_nil w B e s) b m c news hx hl hnews h1 hbytes h63 hB fun v' w' r1 r2 => h v' w' (OwnO.of_own r1) r2
  · have hcell : ∀ j u, cur[j]? = some u → w.cell? ⟨g, j, none⟩ = some u := fun j u hu => by rw [cell_of_row w g _ cur e (0, 0) q2]; exact hu
    refine wpList_append_arg w hgd sl x t ho e i zv s bytes E.ht h2 h3 h4 h5 (by rw [h6]; simpa using h7) E.hs g off n cap xs hs hown.1 (fun j u hu => hcell _ _ (q6 j u hu)) ⟨b, 0, none⟩ m c news hx hl
      (fun j u hu => by rw [Addr.add_lit]; simpa using hnews j u hu) h1 (fun hr j hj => ?_) (by unfold maxLen; omega) hbytes (fun hr => ?_) (fun hg v' w' r1 r2 => ?_)
    · have hlt : off + n * s + j < cur.size := by
        have : n * s + m * s ≤ cap * s := by rw [← Nat.add_mul]; exact Nat.mul_le_mul_right s hr
        omega
      exact ⟨by rw [hcell _ _ (Array.getElem?_eq_getElem hlt)]; rfl, frozen_of_row w g _ cur e q2⟩
    · have hle : off + n * s + news.length ≤ cur.size := by
        have : n * s + m * s ≤ cap * s := by rw [← Nat.add_mul]; exact Nat.mul_le_mul_right s hr
        omega
      obtain ⟨cur', a1, a2, a3, a4⟩ := heap_setCells_same g news (off + n * s) w cur e q2 hle
      refine h _ _ ⟨by rw [List.length_append, hown.1, hl, Nat.add_mul], .inr ⟨g, off, cap, cur', rfl, q1, a1, hr, q4, by omega, fun j u hu => ?_⟩⟩ (grown_setCells g news _ w)
      rw [List.getElem?_append] at hu
      split at hu
      · rename_i hj
        rw [a3 _ (by rw [hown.1] at hj; omega)]
        exact q6 j u hu
      · rename_i hj
        have := a4 _ u hu
        rwa [show off + n * s + (j - xs.length) = off + j by rw [hown.1] at hj ⊢; omega] at this
    · have r1' := OwnO.of_own r1
      have hw : OwnO w' B e s v' (n + m) (xs ++ news) := by
        refine ⟨r1'.1, ?_⟩
        rcases r1'.2 with h | ⟨g', off', cap', cur', e1, e2, e3⟩
        · exact .inl h
        · exact .inr ⟨g', off', cap', cur', e1, by omega, e3⟩
      exact h v' w' hw ⟨r2.os, r2.tape, r2.output, r2.size, fun k hk _ => r2.block k hk (by simp)⟩
/-- append of one element, just laid in a new block. -/
theorem wl_append1 (E : ElT P t e s z bytes) {w : World} {ops : Array Oper} {rest : List Oper} {o : Oper} {a : Act} {Q : Exit → Act → World → Prop} {et : TypeId}
    (hgd : o.guard = none) (sl x : Operand) (ho : o.op = .call { callee := .builtin .append, args := #[sl, x], argTypes := #[t, t] })
    (B : Nat) (v : Value) (n : Nat) (xs : List Value) (hs : a.eval sl = v) (hown : OwnO w B e s v n xs)
    (b c : Nat) (news : List Value) (hx : a.eval x = .slice (some ⟨b, 0, none⟩) 1 c) (hb : b = w.heap.size) (hl : news.length = s) (h1 : news.all (·.oneCell') = true)
    (hby : bytes ≤ 128) (hn : n + 1 ≤ 1099511627776) (hB : B ≤ w.heap.size)
    (h : ∀ v' w', OwnO w' B e s v' (n + 1) (xs ++ news) → w.grownBy w' v.ownBlock → wpList P ops Q rest (a.put o.dst v') w') : wpList P ops Q (o :: rest) a (w.alloc (.cells news.toArray et)) := by
  subst hb
  refine wl_appendO E hgd sl x ho B v n xs hs (hown.alloc _) w.heap.size 1 c news hx (by omega) (fun j u hu => ?_) (fun u hu => (List.all_eq_true.1 h1) u hu) ?_ (by omega) (Nat.le_trans hB (Pure.alloc (Pure.refl w) _).size)
    (fun v' w' r1 r2 => h v' w' r1 ?_)
  · have := cell_of_row (w.alloc (.cells news.toArray et)) w.heap.size j news.toArray et (0, 0) (heap_alloc_new w _)
    rw [this]
    simpa using hu
  · have := Nat.mul_le_mul hn hby
    omega
  · have h0 := World.grownBy_alloc w (.cells news.toArray et) v.ownBlock
    exact ⟨r2.os.trans h0.os, r2.tape.trans h0.tape, r2.output.trans h0.output, Nat.le_trans h0.size r2.size, fun k hk hne => (r2.block k (Nat.lt_of_lt_of_le hk h0.size) hne).trans (h0.block k hk hne)⟩
end

end Go.Proofs.Ytajaonejpggcbaa

namespace Go.Proofs.Ytajaonejpggcbaa
open Go.RowKit

theorem elLCode : ElT Try.prog 26 70 4 [.int .i64 0, .int .i64 0, .int .i64 0, .int .i64 0] 32 := ⟨by kernel_rfl, ⟨.agg #[.int .i64 0, .int .i64 0, .int .i64 0, .int .i64 0], by kernel_rfl, by kernel_rfl, rfl⟩, by decide⟩

def cdCells (c : Cd) : List Value := [.int .i64 c.op, .int .i64 c.a, .int .i64 c.b, .int .i64 c.c]
def cdv (c : Cd) : Value := .agg #[.int .i64 c.op, .int .i64 c.a, .int .i64 c.b, .int .i64 c.c]
def cdf (cs : List Cd) (j : Nat) : Value := (cdCells (cs.getD (j / 4) default)).getD (j % 4) undef
def Codes (w : World) (v : Value) (cs : List Cd) : Prop := Cells w v cs.length 4 (cdf cs)
theorem Codes.keep {w w' : World} {v : Value} {cs : List Cd} (h : Codes w v cs) (hp : Pure w w') : Codes w' v cs := Cells.keep h hp
theorem Codes.form {w : World} {v : Value} {cs : List Cd} (h : Codes w v cs) : ∃ A c, v = .slice A cs.length c ∧ cs.length ≤ c ∧ c ≤ 9223372036854775807 := by
  obtain ⟨A, c, h, h1, h2, _⟩ := h
  exact ⟨A, c, h, h1, h2⟩

/-- An instruction lies in block b from offset o on. -/
structure CodeAt (w : World) (b o : Nat) (c : Cd) : Prop where
  c0 : w.cell? ⟨b, o, none⟩ = some (.int .i64 c.op)
  c1 : w.cell? ⟨b, o + 1, none⟩ = some (.int .i64 c.a)
  c2 : w.cell? ⟨b, o + 2, none⟩ = some (.int .i64 c.b)
  c3 : w.cell? ⟨b, o + 3, none⟩ = some (.int .i64 c.c)
theorem CodeAt.keep {w w' : World} {b o : Nat} {c : Cd} (h : CodeAt w b o c) (hp : Pure w w') (hb : b < w.heap.size) : CodeAt w' b o c :=
  ⟨(hp.cell b _ hb).trans h.c0, (hp.cell b _ hb).trans h.c1, (hp.cell b _ hb).trans h.c2, (hp.cell b _ hb).trans h.c3⟩

theorem cdf_at (cs : List Cd) (k i : Nat) (hi : i < 4) : cdf cs (k * 4 + i) = (cdCells (cs.getD k default)).getD i undef := by
  unfold cdf
  rw [show (k * 4 + i) / 4 = k by omega, show (k * 4 + i) % 4 = i by omega]

theorem Codes.at_ {w : World} {A : Option Addr} {n c : Nat} {cs : List Cd} (h : Codes w (.slice A n c) cs) {k : Nat} (hk : k < cs.length) :
    ∃ b o, A = some ⟨b, o, none⟩ ∧ b < w.heap.size ∧ CodeAt w b (o + k * 4) (cs.getD k default) := by
  obtain ⟨A', c', hv, _, _, h4⟩ := h
  injection hv with e1 e2 e3
  subst e1
  obtain ⟨b, o, rfl, hb, hc⟩ := h4 (by omega)
  refine ⟨b, o, rfl, hb, ?_, ?_, ?_, ?_⟩
  · have := hc (k * 4 + 0) (by omega); rw [cdf_at _ _ _ (by omega)] at this; exact this
  · have := hc (k * 4 + 1) (by omega); rw [cdf_at _ _ _ (by omega)] at this; rw [Nat.add_assoc]; exact this
  · have := hc (k * 4 + 2) (by omega); rw [cdf_at _ _ _ (by omega)] at this; rw [Nat.add_assoc]; exact this
  · have := hc (k * 4 + 3) (by omega); rw [cdf_at _ _ _ (by omega)] at this; rw [Nat.add_assoc]; exact this

theorem Codes.of_ownO {w : World} {B e n : Nat} {v : Value} {xs : List Value} {cs : List Cd} (h : OwnO w B e 4 v n xs) (hn : n = cs.length) (hf : ∀ j, j < cs.length * 4 → xs[j]? = some (cdf cs j)) : Codes w v cs := by
  subst hn
  exact Cells.of_ownO h hf

set_option maxHeartbeats 400000 in
theorem szCodeS_any (v : Value) (cs : List Cd) (left : Int) (w : World) (h : Codes w v cs) (hl0 : 0 ≤ left) (hl1 : left ≤ 1048576) :
    Calls Try.prog 14 #[v, .int .i64 left] w fun e w' => e = .returned (.int .i64 (if left < cs.length then -1 else left - cs.length)) ∧ w = w' := by
  obtain ⟨A, c, rfl, hnc, hcm⟩ := h.form
  clear h
  by_cases hlt : left < cs.length
  · rw [if_pos hlt]
    go_enter Try.func14, Try.ntmps14
    go_wp2
    go_ret
    exact ⟨rfl, rfl⟩
  · rw [if_neg hlt]
    go_enter Try.func14, Try.ntmps14
    go_wp2
    go_ret
    exact ⟨rfl, rfl⟩

set_option maxHeartbeats 400000 in
theorem toCode_any (c : Cd) (w : World) :
    Calls Try.prog 53 #[cdv c] w fun e w' => e = .returned (cdv c) ∧ Pure w w' := by
  unfold cdv
  go_enter Try.func53, Try.ntmps53
  go_wp2
  exact bodyPost_ret (v := .agg #[.int .i64 c.op, .int .i64 c.a, .int .i64 c.b, .int .i64 c.c]) (by simp [results, Try.results53, go_sem]) rfl ⟨rfl, (by repeat (first | assumption | exact Pure.refl _ | refine Pure.drewN ?_ _ | refine Pure.drew ?_ | refine Pure.alloc ?_ _ | refine Pure.setCell ?_ (by simp <;> omega) _))⟩

def rep4 (ys : List Value) (k : Nat) (c : Cd) : List Value := (((ys.set (k * 4) (.int .i64 c.op)).set (k * 4 + 1) (.int .i64 c.a)).set (k * 4 + 2) (.int .i64 c.b)).set (k * 4 + 3) (.int .i64 c.c)
theorem rep4_length (ys : List Value) (k : Nat) (c : Cd) : (rep4 ys k c).length = ys.length := by simp [rep4]
theorem rep4_other (ys : List Value) (k : Nat) (c : Cd) (j : Nat) (h : j < k * 4 ∨ k * 4 + 4 ≤ j) : (rep4 ys k c)[j]? = ys[j]? := by
  unfold rep4
  rw [List.getElem?_set_ne (by omega), List.getElem?_set_ne (by omega), List.getElem?_set_ne (by omega), List.getElem?_set_ne (by omega)]
theorem rep4_same (ys : List Value) (k : Nat) (c : Cd) (i : Nat) (hi : i < 4) (hl : k * 4 + 4 ≤ ys.length) : (rep4 ys k c)[k * 4 + i]? = some ((cdCells c).getD i undef) := by
  unfold rep4
  match i, hi with
  | 0, _ => rw [List.getElem?_set_ne (by omega), List.getElem?_set_ne (by omega), List.getElem?_set_ne (by omega), Nat.add_zero, List.getElem?_set_self (by omega)]; rfl
  | 1, _ => rw [List.getElem?_set_ne (by omega), List.getElem?_set_ne (by omega), List.getElem?_set_self (by simp; omega)]; rfl
  | 2, _ => rw [List.getElem?_set_ne (by omega), List.getElem?_set_self (by simp; omega)]; rfl
  | 3, _ => rw [List.getElem?_set_self (by simp; omega)]; rfl
theorem rep4_cdf {ys : List Value} {k : Nat} {cs : List Cd} (hl : k * 4 + 4 ≤ ys.length) (h : ∀ j, j < k * 4 → ys[j]? = some (cdf cs j)) : ∀ j, j < (k + 1) * 4 → (rep4 ys k (cs.getD k default))[j]? = some (cdf cs j) := by
  intro j hj
  by_cases h1 : j < k * 4
  · rw [rep4_other _ _ _ _ (.inl h1)]; exact h j h1
  · obtain ⟨i, rfl⟩ : ∃ i, j = k * 4 + i := ⟨j - k * 4, by omega⟩
    rw [rep4_same _ _ _ _ (by omega) hl, cdf_at _ _ _ (by omega)]

set_option maxHeartbeats 400000 in
theorem toCodeS_any (v : Value) (cs : List Cd) (w : World) (h : Codes w v cs) (hlen : cs.length ≤ 1048576) :
    Calls Try.prog 17 #[v] w fun e w' => ∃ v', e = .returned v' ∧ OwnO w' w.heap.size 68 4 v' cs.length ((List.range (cs.length * 4)).map (cdf cs)) ∧ Pure w w' := by
  have H := Lib.hid h
  obtain ⟨A, c, rfl, hnc, hcm⟩ := h.form
  clear h
  go_enter Try.func17, Try.ntmps17
  go_wp2_with (at_make; go_must (refine wl_make elCode rfl _ _ rfl w.heap.size _ _ _ _ cs.length rfl rfl rfl rfl (by omega) (by omega) (Nat.le_refl _) ?_); intro w1 hown hp hsz)
  have hO := OwnO.of_own hown
  clear hown
  go_loopg [4] cs.length (fun gk i wr => ∃ k : Nat, gk + k = cs.length ∧ i = .int .i64 k ∧ Pure w wr ∧ ∃ ys, OwnO wr w.heap.size 68 4 (.slice (some ⟨w.heap.size, 0, none⟩) cs.length cs.length) cs.length ys ∧ ∀ j, j < k * 4 → ys[j]? = some (cdf cs j))
  case atStart => exact ⟨0, rfl, rfl, hp, _, hO, fun j hj => absurd hj (by omega)⟩
  case round =>
    clear hO hp hsz
    obtain ⟨k, hgk, rfl, hp, ys, hown, hys⟩ := hrel
    have Hgk := Lib.hid hgk
    have Hys := Lib.hid hys
    have Hown := Lib.hid hown
    have hkn : k ≤ cs.length := by omega
    clear hgk hys hown
    by_cases hlt : k < cs.length
    · obtain ⟨b, o, rfl, hb, hc⟩ := H.out.at_ hlt
      have hat := hc.keep hp hb
      obtain ⟨cd, Hcd⟩ : ∃ cd, Hid (cs.getD k default = cd) := ⟨_, rfl⟩
      rw [Hcd.out] at hat
      obtain ⟨q0, q1, q2, q3⟩ := hat
      clear hc
      go_wp2_with fail
      refine (toCode_any cd _).mono ?_
      rintro e w1 ⟨rfl, hp1⟩
      unfold cdv
      have hp2 := hp.trans hp1
      have hO1 := Hown.out.pure hp1
      have hl := hO1.1
      have f0 := hO1.frozen (k * 4)
      have f1 := hO1.frozen (k * 4 + 1)
      have f2 := hO1.frozen (k * 4 + 2)
      have f3 := hO1.frozen (k * 4 + 3)
      obtain ⟨u0, g0⟩ := hO1.cellSome (k * 4) (by omega)
      obtain ⟨u1, g1⟩ := hO1.cellSome (k * 4 + 1) (by omega)
      obtain ⟨u2, g2⟩ := hO1.cellSome (k * 4 + 2) (by omega)
      obtain ⟨u3, g3⟩ := hO1.cellSome (k * 4 + 3) (by omega)
      rw [Nat.zero_add] at g0 g1 g2 g3
      have s1 := hO1.stored (k * 4) (.int .i64 cd.op)
      have s2 := s1.stored (k * 4 + 1) (.int .i64 cd.a)
      have s3 := s2.stored (k * 4 + 2) (.int .i64 cd.b)
      have s4 := s3.stored (k * 4 + 3) (.int .i64 cd.c)
      simp only [Nat.zero_add] at s4
      have HS := Lib.hid s4
      have HL : Hid (ys.length = cs.length * 4) := hl
      clear s1 s2 s3 s4 hl hO1
      go_wp2
      go_roundg (cs.length - (k + 1))
      case measure => have := Hgk.out; omega
      case rel =>
        refine ⟨k + 1, by have := Hgk.out; omega, by go_num, ?_, rep4 ys k cd, HS.out, ?_⟩
        · exact (((hp2.setCell (Nat.le_refl _) _).setCell (Nat.le_refl _) _).setCell (Nat.le_refl _) _).setCell (Nat.le_refl _) _
        · rw [← Hcd.out]
          exact rep4_cdf (by have := HL.out; omega) Hys.out
      
    · have hkl : k = cs.length := by have := Hgk.out; omega
      subst hkl
      go_wp2
      go_ret
      refine ⟨_, rfl, ?_, hp⟩
      have : ys = (List.range (cs.length * 4)).map (cdf cs) := by
        apply List.ext_getElem?
        intro j
        by_cases hj : j < cs.length * 4
        · rw [Hys.out j hj]; simp [hj]
        · rw [List.getElem?_eq_none (by rw [Hown.out.1]; omega), List.getElem?_eq_none (by simp; omega)]
      rw [← this]; exact Hown.out

set_option maxHeartbeats 400000 in
theorem eqCode_any (x y : Cd) (w : World) (B : Bool) (hB : B = true ↔ x = y) :
    Calls Try.prog 59 #[cdv x, cdv y] w fun e w' => e = .returned (.bool B) ∧ Pure w w' := by
  unfold cdv
  obtain ⟨x0, x1, x2, x3⟩ := x
  obtain ⟨y0, y1, y2, y3⟩ := y
  simp only [Cd.mk.injEq] at hB
  have HB := Lib.hid hB; clear hB
  by_cases h0 : x0 = y0
  · have d0 : (x0 != y0) = false := by simp [h0]
    have H0 := Lib.hid h0; clear h0
    by_cases h1 : x1 = y1
    · have d1 : (x1 != y1) = false := by simp [h1]
      have H1 := Lib.hid h1; clear h1
      by_cases h2 : x2 = y2
      · have d2 : (x2 != y2) = false := by simp [h2]
        have H2 := Lib.hid h2; clear h2
        by_cases h3 : x3 = y3
        · have d3 : (x3 != y3) = false := by simp [h3]
          have H3 := Lib.hid h3; clear h3
          go_enter Try.func59, Try.ntmps59
          go_wp2
          go_ret
          exact ⟨ret_bool (HB.out.2 ⟨H0.out, H1.out, H2.out, H3.out⟩).symm, (by repeat (first | assumption | exact Pure.refl _ | refine Pure.drewN ?_ _ | refine Pure.drew ?_ | refine Pure.alloc ?_ _ | refine Pure.setCell ?_ (by simp <;> omega) _))⟩
        · have d3 : (x3 != y3) = true := by simp [h3]
          have H3 := Lib.hid h3; clear h3
          go_enter Try.func59, Try.ntmps59
          go_wp2
          go_ret
          exact ⟨ret_bool (by cases hb : B; rfl; exact absurd (HB.out.1 hb).2.2.2 H3.out), (by repeat (first | assumption | exact Pure.refl _ | refine Pure.drewN ?_ _ | refine Pure.drew ?_ | refine Pure.alloc ?_ _ | refine Pure.setCell ?_ (by simp <;> omega) _))⟩
      · have d2 : (x2 != y2) = true := by simp [h2]
        have H2 := Lib.hid h2; clear h2
        go_enter Try.func59, Try.ntmps59
        go_wp2
        go_ret
        exact ⟨ret_bool (by cases hb : B; rfl; exact absurd (HB.out.1 hb).2.2.1 H2.out), (by repeat (first | assumption | exact Pure.refl _ | refine Pure.drewN ?_ _ | refine Pure.drew ?_ | refine Pure.alloc ?_ _ | refine Pure.setCell ?_ (by simp <;> omega) _))⟩
    · have d1 : (x1 != y1) = true := by simp [h1]
      have H1 := Lib.hid h1; clear h1
      go_enter Try.func59, Try.ntmps59
      go_wp2
      go_ret
      exact ⟨ret_bool (by cases hb : B; rfl; exact absurd (HB.out.1 hb).2.1 H1.out), (by repeat (first | assumption | exact Pure.refl _ | refine Pure.drewN ?_ _ | refine Pure.drew ?_ | refine Pure.alloc ?_ _ | refine Pure.setCell ?_ (by simp <;> omega) _))⟩
  · have d0 : (x0 != y0) = true := by simp [h0]
    have H0 := Lib.hid h0; clear h0
    go_enter Try.func59, Try.ntmps59
    go_wp2
    go_ret
    exact ⟨ret_bool (by cases hb : B; rfl; exact absurd (HB.out.1 hb).1 H0.out), (by repeat (first | assumption | exact Pure.refl _ | refine Pure.drewN ?_ _ | refine Pure.drew ?_ | refine Pure.alloc ?_ _ | refine Pure.setCell ?_ (by simp <;> omega) _))⟩

set_option maxHeartbeats 400000 in
theorem eqCodeS_same (v v' : Value) (cs : List Cd) (w : World) (h : Codes w v cs) (h' : Codes w v' cs) :
    Calls Try.prog 20 #[v, v'] w fun e w' => e = .returned (.bool true) ∧ Pure w w' := by
  have H := Lib.hid h
  have H' := Lib.hid h'
  obtain ⟨A, c, rfl, hnc, hcm⟩ := h.form
  obtain ⟨A', c', rfl, hnc', hcm'⟩ := h'.form
  clear h h'
  have hd : ((cs.length : Int) != cs.length) = false := by simp
  go_enter Try.func20, Try.ntmps20
  go_wp2
  go_loopg [5] cs.length (fun gk i wr => ∃ k : Nat, gk + k = cs.length ∧ i = .int .i64 k ∧ Pure w wr)
  case atStart => exact ⟨0, rfl, rfl, Pure.refl _⟩
  case round =>
    obtain ⟨k, hgk, rfl, hp⟩ := hrel
    have Hgk := Lib.hid hgk
    have hkn : k ≤ cs.length := by omega
    clear hgk
    by_cases hlt : k < cs.length
    · obtain ⟨b, o, rfl, hb, hc⟩ := H.out.at_ hlt
      obtain ⟨b', o', rfl, hb', hc'⟩ := H'.out.at_ hlt
      have hat := hc.keep hp hb
      have hat' := hc'.keep hp hb'
      obtain ⟨cd, Hcd⟩ : ∃ cd, Hid (cs.getD k default = cd) := ⟨_, rfl⟩
      rw [Hcd.out] at hat hat'
      obtain ⟨q0, q1, q2, q3⟩ := hat
      obtain ⟨r0, r1, r2, r3⟩ := hat'
      clear hc hc'
      go_wp2
      go_region_with (first | (go_at_call 59; refine (eqCode_any cd cd _ true (by simp)).mono ?_; rintro e w1 ⟨rfl, hp1⟩))
      all_goals
        have hp2 := hp.drew.trans hp1
        go_wp2
        go_roundg (cs.length - (k + 1))
        case measure => have := Hgk.out; omega
        case rel => exact ⟨k + 1, by have := Hgk.out; omega, by go_num, hp2⟩
    · go_wp2
      go_ret
      exact ⟨rfl, hp⟩

end Go.Proofs.Ytajaonejpggcbaa

namespace Go.Proofs.Ytajaonejpggcbaa
open Go.RowKit

set_option maxHeartbeats 400000 in
theorem szIntS_any (v : Value) (xs : List Int) (left : Int) (w : World) (h : Ints w v xs) (hl0 : 0 ≤ left) (hl1 : left ≤ 1048576) :
    Calls Try.prog 49 #[v, .int .i64 left] w fun e w' => e = .returned (.int .i64 (if left < xs.length then -1 else left - xs.length)) ∧ w = w' := by
  obtain ⟨A, c, rfl, hnc, hcm, hread⟩ := h
  clear hread
  by_cases hlt : left < xs.length
  · rw [if_pos hlt]
    go_enter Try.func49, Try.ntmps49
    go_wp2
    go_ret
    exact ⟨rfl, rfl⟩
  · rw [if_neg hlt]
    go_enter Try.func49, Try.ntmps49
    go_wp2
    go_ret
    exact ⟨rfl, rfl⟩

set_option maxHeartbeats 400000 in
theorem toIntS_any (v : Value) (xs : List Int) (w : World) (h : Ints w v xs) (hlen : xs.length ≤ 17592186044416) :
    Calls Try.prog 22 #[v] w fun e w' => ∃ v', e = .returned v' ∧ w'.ownsRow w.heap.size 3 1 v' xs.length (xs.map (.int .i64)) ∧ Pure w w' := by
  obtain ⟨A, c, rfl, hnc, hcm, hread⟩ := h
  go_enter Try.func22, Try.ntmps22
  go_wp2_with (at_make; refine wl_make elInt rfl _ _ rfl w.heap.size _ _ _ _ xs.length rfl rfl rfl rfl (by omega) (by omega) (Nat.le_refl _) ?_; intro w1 hown hp hsz)
  go_loopw [4] (fun i wr => ∃ k : Nat, k ≤ xs.length ∧ i = .int .i64 k ∧ Pure w wr ∧ ∃ ys, wr.ownsRow w.heap.size 3 1 (.slice (some ⟨w.heap.size, 0, none⟩) xs.length xs.length) xs.length ys ∧ ∀ j, j < k → ys[j]? = some (.int .i64 (xs.getD j 0))) (fun i _ => xs.length - (intOf i).toNat)
  case atStart => exact ⟨0, Nat.zero_le _, rfl, hp, _, hown, fun j hj => absurd hj (by omega)⟩
  case round =>
    clear hown hp hsz w1
    obtain ⟨k, hk, rfl, hp, ys, hown, hys⟩ := hrel
    by_cases hlt : k < xs.length
    · obtain ⟨b, o, rfl, hb, hc⟩ := hread (by omega)
      have hx := (hp.cell b (o + k) hb).trans (hc k (by omega))
      have hy := hown.cellAt k (by omega)
      have hl : k < ys.length := by have := hown.1; omega
      rw [List.getElem?_eq_getElem hl] at hy
      have hf := hown.frozenAt k
      have hne : w.heap.size ≠ b := by omega
      have Hst := Lib.hid (hown.stored k (.int .i64 (xs.getD k 0))).1
      have Hys := Lib.hid hys
      clear hread hc hys hown
      obtain ⟨x, Hx⟩ : ∃ x, Hid (xs.getD k 0 = x) := ⟨_, rfl⟩
      rw [Hx.out] at hx Hst
      go_wp2
      go_roundw
      case rel =>
        refine ⟨k + 1, by omega, by go_num, Pure.setCell hp (Nat.le_refl _) _, _, Hst.out, fun j hj => ?_⟩
        rw [List.getElem?_set]
        by_cases hjk : k = j
        · subst hjk; rw [if_pos rfl, if_pos hl, Hx.out]
        · rw [if_neg hjk]; exact Hys.out j (by omega)
      case measure => simp [intOf]; omega
    · have hk' : k = xs.length := by omega
      subst hk'
      go_wp2
      go_ret
      refine ⟨_, rfl, ?_, hp⟩
      have hl := hown.1
      have : ys = xs.map (.int .i64) := by
        apply List.ext_getElem?
        intro j
        by_cases hj : j < xs.length
        · rw [hys j hj]; simp [hj]
        · rw [List.getElem?_eq_none (by omega), List.getElem?_eq_none (by simp; omega)]
      rw [← this]; exact hown


theorem getD_ext {xs ys : List Int} (hl : xs.length = ys.length) (h : ∀ j, j < xs.length → xs.getD j 0 = ys.getD j 0) : xs = ys := by
  apply List.ext_getElem hl
  intro j h1 h2
  have := h j h1
  simpa [List.getD_eq_getElem?_getD, h1, h2] using this

set_option maxHeartbeats 400000 in
theorem eqIntS_any (v v' : Value) (xs ys : List Int) (w : World) (h : Ints w v xs) (h' : Ints w v' ys) (B : Bool) (hB : decide (xs = ys) = B) :
    Calls Try.prog 24 #[v, v'] w fun e w' => e = .returned (.bool B) ∧ ∃ n, w' = w.drewN n := by
  obtain ⟨A, c, rfl, hnc, hcm, hread⟩ := h
  obtain ⟨A', c', rfl, hnc', hcm', hread'⟩ := h'
  have HB := Lib.hid hB; clear hB
  by_cases hl : xs.length = ys.length
  · have hl' : (!((xs.length : Int) == ys.length)) = false := by simp [hl]
    have hl2 : ((xs.length : Int) != ys.length) = false := by simp [hl]
    have hle : xs.length ≤ ys.length := by omega
    have hle' : ys.length ≤ xs.length := by omega
    have HL := Lib.hid hl; clear hl
    go_enter Try.func24, Try.ntmps24
    go_wp2
    go_loopw [5] (fun i wr => ∃ k : Nat, k ≤ xs.length ∧ i = .int .i64 k ∧ (∃ n, wr = w.drewN n) ∧ ∀ j, j < k → xs.getD j 0 = ys.getD j 0) (fun i _ => xs.length - (intOf i).toNat)
    case atStart => exact ⟨0, Nat.zero_le _, rfl, ⟨0, rfl⟩, fun j hj => absurd hj (by omega)⟩
    case round =>
      obtain ⟨k, hk, rfl, ⟨n0, rfl⟩, heq⟩ := hrel
      have Heq := Lib.hid heq; clear heq
      by_cases hlt : k < xs.length
      · obtain ⟨b, o, rfl, hb, hc⟩ := hread (by omega)
        obtain ⟨b', o', rfl, hb', hc'⟩ := hread' (by omega)
        have hx := hc k (by omega)
        have hy := hc' k (by omega)
        clear hread hread' hc hc'
        have hlt' : k < ys.length := by omega
        obtain ⟨x, Hx⟩ : ∃ x, Hid (xs.getD k 0 = x) := ⟨_, rfl⟩
        obtain ⟨y, Hy⟩ : ∃ y, Hid (ys.getD k 0 = y) := ⟨_, rfl⟩
        rw [Hx.out] at hx
        rw [Hy.out] at hy
        by_cases hxy : x = y
        · have hd : (x != y) = false := by simp [hxy]
          have Hxy := Lib.hid hxy; clear hxy
          go_wp2
          go_quiet (fail)
          go_wp2
          go_roundw
          case rel =>
            refine ⟨k + 1, by omega, by go_num, (by first | exact ⟨_, rfl⟩ | exact ⟨_, World.drewN_drewN _ _ _⟩ | exact ⟨0, rfl⟩), fun j hj => ?_⟩
            by_cases hjk : j = k
            · subst hjk; rw [Hx.out, Hy.out]; exact Hxy.out
            · exact Heq.out j (by omega)
          case measure => simp [intOf]; omega
        · have hd : (x != y) = true := by simp [hxy]
          have Hxy := Lib.hid hxy; clear hxy
          go_wp2
          go_quiet (fail)
          go_wp2
          go_ret
          refine ⟨ret_bool ?_, (by first | exact ⟨_, rfl⟩ | exact ⟨_, World.drewN_drewN _ _ _⟩ | exact ⟨0, rfl⟩)⟩
          rw [← HB.out]
          refine (decide_eq_false ?_).symm
          rintro rfl
          exact Hxy.out (Hx.out.symm.trans Hy.out)
      · go_wp2
        go_ret
        refine ⟨ret_bool ?_, _, rfl⟩
        rw [← HB.out]
        exact (decide_eq_true (getD_ext HL.out fun j hj => Heq.out j (by omega))).symm
  · have hl' : ((xs.length : Int) != ys.length) = true := by rw [bne_iff_ne]; omega
    have HL := Lib.hid hl; clear hl
    go_enter Try.func24, Try.ntmps24
    go_wp2
    go_ret
    refine ⟨ret_bool ?_, 0, rfl⟩
    rw [← HB.out]
    refine (decide_eq_false ?_).symm
    rintro rfl
    exact HL.out rfl

def SzSS (xss : List (List Int)) (left : Int) (w : World) (e : Ending) (w' : World) : Prop :=
  (∃ r : Int, e = .returned (.int .i64 r) ∧ (0 ≤ r → xss.length ≤ left ∧ ∀ k, k < xss.length → (xss.getD k []).length ≤ left)) ∧ w = w'

theorem IntRows.of_own {w : World} {B e n : Nat} {v : Value} {xs : List Value} {xss : List (List Int)} (h : w.ownsRow B e 1 v n xs) (hn : n = xss.length) (hf : ∀ j, j < xss.length → ∃ r, xs[j]? = some r ∧ Ints w r (xss.getD j [])) : IntRows w v xss := by
  subst hn
  rcases h.2 with ⟨rfl, h0⟩ | ⟨g, cap, cur, rfl, _, hg, hnc, hcm, _⟩
  · exact ⟨none, 0, by rw [h0], by omega, by omega, fun h => absurd h (by omega)⟩
  · refine ⟨_, cap, rfl, hnc, by unfold maxLen at hcm; omega, fun hn => ⟨g, 0, rfl, (Array.getElem?_eq_some_iff.1 hg).1, fun j hj => ?_⟩⟩
    obtain ⟨r, h1, h2⟩ := hf j hj
    exact ⟨r, by rw [Nat.zero_add, h.cellAt j (by omega)]; exact h1, h2⟩

end Go.Proofs.Ytajaonejpggcbaa
