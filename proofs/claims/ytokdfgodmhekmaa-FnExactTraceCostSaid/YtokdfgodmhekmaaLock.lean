/- Lanes in lockstep, plainly: what an instruction does to one lane, to the lanes of a mask, and what a tree of blocks does. No program in sight. -/
import Derived.Test.YtokdfgodmhekmaaTree
import Derived.Test.YtokdfgodmhekmaaLiveP
namespace Go.Proofs.Ytokdfgodmhekmaa

/-- An access to the memory. -/
structure Ac where
  who : Nat
  cell : Nat
  wr : Bool
  ph : Nat
deriving DecidableEq, Inhabited

/-- A run under way: registers, memory, the steps so far (place, mask, the registers then), the accesses so far, the phase. -/
structure LS where
  R : Nat → Nat → Int
  M : Nat → Int
  H : List (Nat × Nat × (Nat → Nat → Int))
  A : List Ac
  P : Nat

def setF (f : Nat → Int) (r : Nat) (v : Int) : Nat → Int := fun j => if j = r then v else f j
theorem setF_same (f : Nat → Int) (r : Nat) (v : Int) : setF f r v r = v := if_pos rfl
theorem setF_ne (f : Nat → Int) {r j : Nat} (v : Int) (h : j ≠ r) : setF f r v j = f j := if_neg h
def cellOf (c : Cd) (m : Nat) (f : Nat → Int) : Nat := (f c.b.toNat).toNat % m
/-- A lane's registers behind an instruction. -/
def simR (c : Cd) (id m : Nat) (f M : Nat → Int) : Nat → Int :=
  if c.op = 1 then setF f c.a.toNat c.b
  else if c.op = 2 then setF f c.a.toNat id
  else if c.op = 3 then setF f c.a.toNat ((f c.a.toNat + f c.b.toNat) % 256)
  else if c.op = 4 then setF f c.a.toNat (f c.a.toNat * f c.b.toNat % 256)
  else if c.op = 5 then setF f c.a.toNat (f c.b.toNat)
  else if c.op = 6 then setF f c.a.toNat (if f c.b.toNat < f c.c.toNat then 1 else 0)
  else if c.op = 7 then (if f c.c.toNat = 0 then f else setF f c.a.toNat (f c.b.toNat))
  else if c.op = 8 then setF f c.a.toNat (M (cellOf c m f))
  else f
/-- The memory behind an instruction of a lane. -/
def simM (c : Cd) (m : Nat) (f M : Nat → Int) : Nat → Int := if c.op = 9 then setF M (cellOf c m f) (f c.a.toNat) else M
def lane1 (c : Cd) (m k : Nat) (s : LS) : LS :=
  { s with
    R := fun l => if l = k then simR c k m (s.R k) s.M else s.R l
    M := simM c m (s.R k) s.M
    A := if c.op = 8 ∨ c.op = 9 then s.A ++ [⟨k, cellOf c m (s.R k), decide (c.op = 9), s.P⟩] else s.A }
/-- The lanes below j that are in a mask execute an instruction. -/
def lanesTo (c : Cd) (m mask : Nat) : Nat → LS → LS
  | 0, s => s
  | j + 1, s => if mask.testBit j then lane1 c m j (lanesTo c m mask j s) else lanesTo c m mask j s
def beat (i mask : Nat) (s : LS) : LS := { s with H := s.H ++ [(i, mask, s.R)] }
def exec (c : Cd) (n m i mask : Nat) (s : LS) : LS :=
  let s1 := lanesTo c m mask n (beat i mask s)
  if c.op = 10 then { s1 with P := s1.P + 1 } else s1
/-- The lanes below j of a mask whose register is not 0. -/
def onesTo (R : Nat → Nat → Int) (mask a : Nat) : Nat → Nat
  | 0 => 0
  | j + 1 => if mask.testBit j && !decide (R j a = 0) then onesTo R mask a j ||| 2 ^ j else onesTo R mask a j
def turns (F : Nat → LS → LS) (n a : Nat) : Nat → Nat → LS → LS
  | 0, _, s => s
  | b + 1, y, s => turns F n a b (onesTo s.R y a n) (F (onesTo s.R y a n) s)
/-- A tree of blocks, from place i on, by the lanes of a mask. -/
def run (n m : Nat) : Tr → Nat → Nat → LS → LS
  | .nil, _, _, s => s
  | .op c k, i, mask, s => if mask = 0 then s else run n m k (i + 1) mask (exec c n m i mask s)
  | .ite a t k, i, mask, s => if mask = 0 then s else run n m k (i + 1 + t.len + 1) mask (run n m t (i + 1) (onesTo s.R mask a.toNat n) (beat i mask s))
  | .itee a t e k, i, mask, s => if mask = 0 then s else run n m k (i + 1 + t.len + 1 + e.len + 1) mask
      (run n m e (i + 1 + t.len + 1) (del mask (onesTo s.R mask a.toNat n)) (run n m t (i + 1) (onesTo s.R mask a.toNat n) (beat i mask s)))
  | .loop a b t k, i, mask, s => if mask = 0 then s else run n m k (i + 1 + t.len + 1) mask (turns (run n m t (i + 1)) n a.toNat b.toNat mask (beat i mask s))

theorem run_zero (n m : Nat) : ∀ (t : Tr) (i : Nat) (s : LS), run n m t i 0 s = s
  | .nil, _, _ => rfl
  | .op _ _, _, _ => rfl
  | .ite _ _ _, _, _ => rfl
  | .itee _ _ _ _, _, _ => rfl
  | .loop _ _ _ _, _, _ => rfl

theorem onesTo_bit (R : Nat → Nat → Int) (mask a : Nat) : ∀ j l, (onesTo R mask a j).testBit l = (decide (l < j) && (mask.testBit l && !decide (R l a = 0)))
  | 0, l => by simp [onesTo]
  | j + 1, l => by
    unfold onesTo
    by_cases h : (mask.testBit j && !decide (R j a = 0)) = true
    · rw [if_pos h, Nat.testBit_or, onesTo_bit R mask a j l, Nat.testBit_two_pow]
      by_cases e : j = l
      · subst e; rw [h]; simp
      · have e1 : decide (l < j + 1) = decide (l < j) := by rw [decide_eq_decide]; omega
        have e2 : decide (j = l) = false := by simp [e]
        rw [e1, e2, Bool.or_false]
    · rw [if_neg h, onesTo_bit R mask a j l]
      by_cases e : j = l
      · subst e
        have h' : (mask.testBit j && !decide (R j a = 0)) = false := by simpa using h
        rw [h']; simp
      · have e1 : decide (l < j + 1) = decide (l < j) := by rw [decide_eq_decide]; omega
        rw [e1]
theorem onesTo_lt (R : Nat → Nat → Int) (mask a : Nat) : ∀ n, onesTo R mask a n < 2 ^ n
  | 0 => by simp [onesTo]
  | n + 1 => by
    have ih := onesTo_lt R mask a n
    have h2 : 2 ^ n < 2 ^ (n + 1) := Nat.pow_lt_pow_right (by decide) (by omega)
    unfold onesTo
    split
    · exact Nat.or_lt_two_pow (Nat.lt_trans ih h2) h2
    · exact Nat.lt_trans ih h2
theorem testBit_hi {mask n j : Nat} (h : mask < 2 ^ n) (hj : n ≤ j) : mask.testBit j = false :=
  Nat.testBit_lt_two_pow (Nat.lt_of_lt_of_le h (Nat.pow_le_pow_right (by decide) hj))
/-- Beyond the lanes nothing is counted. -/
theorem onesTo_stop (R : Nat → Nat → Int) {mask a n : Nat} (h : mask < 2 ^ n) : ∀ j, n ≤ j → onesTo R mask a j = onesTo R mask a n
  | 0, hj => by have : n = 0 := by omega
                subst this; rfl
  | j + 1, hj => by
    by_cases e : n = j + 1
    · rw [e]
    · rw [← onesTo_stop R h j (by omega)]
      show (if mask.testBit j && _ then _ else _) = _
      rw [testBit_hi h (by omega)]; rfl
theorem onesTo_sub (R : Nat → Nat → Int) (mask a n l : Nat) (h : (onesTo R mask a n).testBit l = true) : mask.testBit l = true := by
  rw [onesTo_bit] at h
  simp at h
  exact h.2.1
theorem onesTo_none (R : Nat → Nat → Int) (a n : Nat) : onesTo R 0 a n = 0 := by
  apply Nat.eq_of_testBit_eq
  intro i
  rw [onesTo_bit]; simp
theorem turns_zero {n m a : Nat} {t : Tr} {i : Nat} : ∀ (b : Nat) (s : LS), turns (run n m t i) n a b 0 s = s
  | 0, _ => rfl
  | b + 1, s => by
    show turns _ _ _ b (onesTo s.R 0 a n) (run n m t i (onesTo s.R 0 a n) s) = s
    rw [onesTo_none, run_zero, turns_zero b s]
theorem lanesTo_stop (c : Cd) (m : Nat) {mask n : Nat} (h : mask < 2 ^ n) (s : LS) : ∀ j, n ≤ j → lanesTo c m mask j s = lanesTo c m mask n s
  | 0, hj => by have : n = 0 := by omega
                subst this; rfl
  | j + 1, hj => by
    by_cases e : n = j + 1
    · rw [e]
    · rw [← lanesTo_stop c m h s j (by omega)]
      show (if mask.testBit j then _ else _) = _
      rw [testBit_hi h (by omega)]; rfl
theorem del_lt2 {a n : Nat} (b : Nat) (h : a < 2 ^ n) : del a b < 2 ^ n := Nat.xor_lt_two_pow h (Nat.lt_of_le_of_lt Nat.and_le_left h)

/-- Registers and cells hold words. -/
def Good (s : LS) : Prop := (∀ l r, Word (s.R l r)) ∧ ∀ j, Word (s.M j)
theorem setF_word {f : Nat → Int} {r : Nat} {v : Int} (h : ∀ j, Word (f j)) (hv : Word v) (j : Nat) : Word (setF f r v j) := by
  unfold setF; split
  · exact hv
  · exact h j
theorem simR_word {c : Cd} {id m : Nat} {f M : Nat → Int} (hc : CdOk c) (hid : id ≤ 255) (hf : ∀ j, Word (f j)) (hM : ∀ j, Word (M j)) (j : Nat) : Word (simR c id m f M j) := by
  unfold simR
  split
  · rename_i h
    refine setF_word hf ?_ j
    unfold CdOk at hc
    rcases hc with hc | hc | hc | hc | hc | hc
    · exact hc.2.2.1
    · omega
    · omega
    · omega
    · omega
    · omega
  split
  · exact setF_word hf ⟨by omega, by omega⟩ j
  split
  · exact setF_word hf ⟨by omega, by omega⟩ j
  split
  · exact setF_word hf ⟨Int.emod_nonneg _ (by decide), by have := Int.emod_lt_of_pos (f c.a.toNat * f c.b.toNat) (by decide : (0 : Int) < 256); omega⟩ j
  split
  · exact setF_word hf (hf _) j
  split
  · refine setF_word hf ?_ j
    split
    · exact ⟨by decide, by decide⟩
    · exact ⟨by decide, by decide⟩
  split
  · split
    · exact hf j
    · exact setF_word hf (hf _) j
  split
  · exact setF_word hf (hM _) j
  · exact hf j
theorem simM_word {c : Cd} {m : Nat} {f M : Nat → Int} (hf : ∀ j, Word (f j)) (hM : ∀ j, Word (M j)) (j : Nat) : Word (simM c m f M j) := by
  unfold simM
  split
  · exact setF_word hM (hf _) j
  · exact hM j
theorem Good.lane1 {s : LS} {c : Cd} {m k : Nat} (h : Good s) (hc : CdOk c) (hk : k ≤ 255) : Good (lane1 c m k s) := by
  refine ⟨fun l r => ?_, fun j => simM_word (h.1 k) h.2 j⟩
  show Word ((if l = k then simR c k m (s.R k) s.M else s.R l) r)
  split
  · exact simR_word hc hk (h.1 k) h.2 r
  · exact h.1 l r
theorem Good.lanesTo {c : Cd} {m mask : Nat} (hc : CdOk c) : ∀ (j : Nat) {s : LS}, Good s → j ≤ 256 → Good (lanesTo c m mask j s)
  | 0, _, h, _ => h
  | j + 1, _, h, hj => by
    show Good (if _ then _ else _)
    split
    · exact (Good.lanesTo hc j h (by omega)).lane1 hc (by omega)
    · exact Good.lanesTo hc j h (by omega)
theorem Good.beat {s : LS} (h : Good s) (i mask : Nat) : Good (beat i mask s) := h
theorem Good.exec {s : LS} {c : Cd} {n m i mask : Nat} (h : Good s) (hc : CdOk c) (hn : n ≤ 256) : Good (exec c n m i mask s) := by
  have h1 := Good.lanesTo (m := m) (mask := mask) hc n (h.beat i mask) hn
  unfold Proofs.Ytokdfgodmhekmaa.exec
  simp only
  split
  · exact h1
  · exact h1
theorem Good.turns {F : Nat → LS → LS} {n a : Nat} (hF : ∀ y s, Good s → Good (F y s)) : ∀ (b y : Nat) {s : LS}, Good s → Good (turns F n a b y s)
  | 0, _, _, h => h
  | b + 1, _, _, h => Good.turns hF b _ (hF _ _ h)
theorem Good.run {n m : Nat} (hn : n ≤ 256) : ∀ (t : Tr) (i mask : Nat) {s : LS}, t.Ok → Good s → Good (run n m t i mask s)
  | .nil, _, _, _, _, h => h
  | .op c k, i, mask, s, ho, h => by
    show Good (if _ then _ else _)
    split
    · exact h
    · exact Good.run hn k _ _ ho.2 (h.exec ho.1.1 hn)
  | .ite a t k, i, mask, s, ho, h => by
    show Good (if _ then _ else _)
    split
    · exact h
    · exact Good.run hn k _ _ ho.2.2 (Good.run hn t _ _ ho.2.1 (h.beat i mask))
  | .itee a t e k, i, mask, s, ho, h => by
    show Good (if _ then _ else _)
    split
    · exact h
    · exact Good.run hn k _ _ ho.2.2.2 (Good.run hn e _ _ ho.2.2.1 (Good.run hn t _ _ ho.2.1 (h.beat i mask)))
  | .loop a b t k, i, mask, s, ho, h => by
    show Good (if _ then _ else _)
    split
    · exact h
    · exact Good.run hn k _ _ ho.2.2.2 (Good.turns (fun y s hs => Good.run hn t _ _ ho.2.2.1 hs) _ _ (h.beat i mask))

end Go.Proofs.Ytokdfgodmhekmaa
