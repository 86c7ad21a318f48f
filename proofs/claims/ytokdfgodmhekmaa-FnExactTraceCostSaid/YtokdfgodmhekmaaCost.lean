/- How many steps a tree of blocks can take; the turns of a loop, told from behind the first test. No program in sight. -/
import Derived.Test.YtokdfgodmhekmaaLock
namespace Go.Proofs.Ytokdfgodmhekmaa

def Tr.cost : Tr → Nat
  | .nil => 0
  | .op _ k => 1 + k.cost
  | .ite _ t k => 1 + t.cost + k.cost
  | .itee _ t e k => 1 + t.cost + e.cost + k.cost
  | .loop _ b t k => 1 + b.toNat * t.cost + k.cost
theorem lanesTo_H (c : Cd) (m mask : Nat) : ∀ (j : Nat) (s : LS), (lanesTo c m mask j s).H = s.H
  | 0, _ => rfl
  | j + 1, s => by
    show (if _ then _ else _ : LS).H = _
    split
    · exact lanesTo_H c m mask j s
    · exact lanesTo_H c m mask j s
theorem exec_H (c : Cd) (n m i mask : Nat) (s : LS) : (exec c n m i mask s).H = s.H ++ [(i, mask, s.R)] := by
  unfold exec
  simp only
  split
  · exact lanesTo_H c m mask n _
  · exact lanesTo_H c m mask n _
theorem turns_H {F : Nat → LS → LS} {n a c : Nat} (hF : ∀ y s, (F y s).H.length ≤ s.H.length + c) : ∀ (b y : Nat) (s : LS), (turns F n a b y s).H.length ≤ s.H.length + b * c
  | 0, _, _ => by simp [turns]
  | b + 1, y, s => by
    have h1 := turns_H (n := n) (a := a) hF b (onesTo s.R y a n) (F (onesTo s.R y a n) s)
    have h2 := hF (onesTo s.R y a n) s
    have h3 : (b + 1) * c = b * c + c := Nat.succ_mul b c
    show (turns F n a b _ _).H.length ≤ _
    omega
theorem run_H (n m : Nat) : ∀ (t : Tr) (i mask : Nat) (s : LS), (run n m t i mask s).H.length ≤ s.H.length + t.cost
  | .nil, _, _, _ => by simp [run, Tr.cost]
  | .op c k, i, mask, s => by
    show (if _ then _ else _ : LS).H.length ≤ s.H.length + (1 + k.cost)
    split
    · omega
    · have := run_H n m k (i + 1) mask (exec c n m i mask s)
      rw [exec_H] at this
      simp at this
      omega
  | .ite a t k, i, mask, s => by
    show (if _ then _ else _ : LS).H.length ≤ s.H.length + (1 + t.cost + k.cost)
    split
    · omega
    · have h1 := run_H n m k (i + 1 + t.len + 1) mask (run n m t (i + 1) (onesTo s.R mask a.toNat n) (beat i mask s))
      have h2 := run_H n m t (i + 1) (onesTo s.R mask a.toNat n) (beat i mask s)
      have h3 : (beat i mask s).H.length = s.H.length + 1 := by simp [beat]
      omega
  | .itee a t e k, i, mask, s => by
    show (if _ then _ else _ : LS).H.length ≤ s.H.length + (1 + t.cost + e.cost + k.cost)
    split
    · omega
    · have h1 := run_H n m k (i + 1 + t.len + 1 + e.len + 1) mask (run n m e (i + 1 + t.len + 1) (del mask (onesTo s.R mask a.toNat n)) (run n m t (i + 1) (onesTo s.R mask a.toNat n) (beat i mask s)))
      have h2 := run_H n m e (i + 1 + t.len + 1) (del mask (onesTo s.R mask a.toNat n)) (run n m t (i + 1) (onesTo s.R mask a.toNat n) (beat i mask s))
      have h4 := run_H n m t (i + 1) (onesTo s.R mask a.toNat n) (beat i mask s)
      have h3 : (beat i mask s).H.length = s.H.length + 1 := by simp [beat]
      omega
  | .loop a b t k, i, mask, s => by
    show (if _ then _ else _ : LS).H.length ≤ s.H.length + (1 + b.toNat * t.cost + k.cost)
    split
    · omega
    · have h1 := run_H n m k (i + 1 + t.len + 1) mask (turns (run n m t (i + 1)) n a.toNat b.toNat mask (beat i mask s))
      have h2 := turns_H (F := run n m t (i + 1)) (n := n) (a := a.toNat) (c := t.cost) (fun y s => run_H n m t (i + 1) y s) b.toNat mask (beat i mask s)
      have h3 : (beat i mask s).H.length = s.H.length + 1 := by simp [beat]
      omega
/-- A tree of at most 40 instructions, nested to a depth of 3, takes few steps. -/
theorem cost_le : ∀ (t : Tr) (d : Nat), t.Ok → t.depth ≤ d → t.cost ≤ t.len * 4 ^ d
  | .nil, d, _, _ => by simp [Tr.cost]
  | .op c k, d, h, hd => by
    have := cost_le k d h.2 hd
    have h4 : 1 ≤ 4 ^ d := Nat.one_le_pow _ _ (by decide)
    rw [Tr.len_op, Nat.add_mul]
    simp only [Tr.cost]; omega
  | .ite a t k, d, h, hd => by
    simp only [Tr.depth] at hd
    have h1 := cost_le t d h.2.1 (by omega)
    have h2 := cost_le k d h.2.2 (by omega)
    have h4 : 1 ≤ 4 ^ d := Nat.one_le_pow _ _ (by decide)
    rw [Tr.len_ite, Nat.add_mul, Nat.add_mul, Nat.add_mul]
    simp only [Tr.cost]; omega
  | .itee a t e k, d, h, hd => by
    simp only [Tr.depth] at hd
    have h1 := cost_le t d h.2.1 (by omega)
    have h2 := cost_le e d h.2.2.1 (by omega)
    have h3 := cost_le k d h.2.2.2 (by omega)
    have h4 : 1 ≤ 4 ^ d := Nat.one_le_pow _ _ (by decide)
    rw [Tr.len_itee, Nat.add_mul, Nat.add_mul, Nat.add_mul, Nat.add_mul, Nat.add_mul]
    simp only [Tr.cost]; omega
  | .loop a b t k, 0, h, hd => by simp only [Tr.depth] at hd; omega
  | .loop a b t k, d + 1, h, hd => by
    simp only [Tr.depth] at hd
    have h1 := cost_le t d h.2.2.1 (by omega)
    have h2 := cost_le k (d + 1) h.2.2.2 (by omega)
    have h4 : 1 ≤ 4 ^ (d + 1) := Nat.one_le_pow _ _ (by decide)
    have hb : b.toNat ≤ 4 := by have := h.2.1; omega
    have h5 : b.toNat * t.cost ≤ 4 * (t.len * 4 ^ d) := Nat.mul_le_mul hb h1
    have h6 : 4 * (t.len * 4 ^ d) = t.len * 4 ^ (d + 1) := by rw [Nat.pow_succ]; rw [← Nat.mul_assoc, Nat.mul_comm 4 t.len, Nat.mul_assoc, Nat.mul_comm 4]
    rw [Tr.len_loop, Nat.add_mul, Nat.add_mul, Nat.add_mul]
    simp only [Tr.cost]; omega
theorem PValid.cost {cs : List Cd} {t : Tr} (h : PValid cs) (e : cs = t.flat) (hok : t.Ok) (hd : t.depth ≤ 3) : t.cost ≤ 2560 := by
  have h1 := cost_le t 3 hok hd
  have h2 : t.len ≤ 40 := by have := h.2.1; rw [e] at this; exact this
  have h3 : t.len * 4 ^ 3 ≤ 40 * 4 ^ 3 := Nat.mul_le_mul_right _ h2
  omega

/-- The turns of a loop, where the lanes of the next turn are known. -/
def turnsR (F : Nat → LS → LS) (n a : Nat) : Nat → Nat → LS → LS
  | 0, _, s => s
  | b + 1, y, s => turnsR F n a b (onesTo (F y s).R y a n) (F y s)
theorem turns_eq (F : Nat → LS → LS) (n a : Nat) : ∀ (b y : Nat) (s : LS), turns F n a b y s = turnsR F n a b (onesTo s.R y a n) s
  | 0, _, _ => rfl
  | b + 1, y, s => by
    show turns F n a b _ _ = turnsR F n a b _ _
    rw [turns_eq F n a b]
theorem turnsR_zero {n m a : Nat} {t : Tr} {i : Nat} : ∀ (b : Nat) (s : LS), turnsR (run n m t i) n a b 0 s = s
  | 0, _ => rfl
  | b + 1, s => by
    show turnsR _ _ _ b (onesTo (run n m t i 0 s).R 0 a n) (run n m t i 0 s) = s
    rw [onesTo_none, run_zero, turnsR_zero b s]
theorem turnsR_succ (F : Nat → LS → LS) (n a b y : Nat) (s : LS) : turnsR F n a (b + 1) y s = turnsR F n a b (onesTo (F y s).R y a n) (F y s) := rfl
theorem Tr.len_zero {t : Tr} (h : t.len = 0) : t = .nil := by
  cases t with
  | nil => rfl
  | op c k => rw [Tr.len_op] at h; omega
  | ite a t k => rw [Tr.len_ite] at h; omega
  | itee a t e k => rw [Tr.len_itee] at h; omega
  | loop a b t k => rw [Tr.len_loop] at h; omega

end Go.Proofs.Ytokdfgodmhekmaa
