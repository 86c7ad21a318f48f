/- What one instruction does in lockstep: the registers of each lane, the accesses. No program in sight. Three small programs: when they have races. No program in sight. No condition. -/
import Derived.Test.YtonmndojlnohcaaKcc

namespace Go.Proofs.Ytonmndojlnohcaa

theorem simR_M {c : Cd} (h : c.op ≠ 8) (id m : Nat) (f M M' : Nat → Int) : simR c id m f M = simR c id m f M' := by
  unfold simR
  rw [if_neg h, if_neg h]
theorem lanes_M {c : Cd} (h : c.op ≠ 9) (m mask : Nat) (s : LS) : ∀ j, (lanesTo c m mask j s).M = s.M
  | 0 => rfl
  | j + 1 => by
    have ih := lanes_M h m mask s j
    unfold lanesTo
    split
    · show simM c m _ (lanesTo c m mask j s).M = _
      unfold simM; rw [if_neg h]; exact ih
    · exact ih
theorem lanes_R (c : Cd) (m mask : Nat) (s : LS) : ∀ j l, (lanesTo c m mask j s).R l = if l < j ∧ mask.testBit l = true then simR c l m (s.R l) s.M else s.R l
  | 0, l => by rw [if_neg (by omega)]; rfl
  | j + 1, l => by
    have ih := lanes_R c m mask s j
    have hM : simR c j m (s.R j) (lanesTo c m mask j s).M = simR c j m (s.R j) s.M := by
      by_cases h : c.op = 9
      · exact simR_M (by omega) j m _ _ _
      · rw [lanes_M h]
    unfold lanesTo
    split
    · rename_i hb
      show (if l = j then simR c j m ((lanesTo c m mask j s).R j) (lanesTo c m mask j s).M else (lanesTo c m mask j s).R l) = _
      by_cases hl : l = j
      · subst hl
        rw [if_pos rfl, if_pos ⟨by omega, hb⟩, ih l, if_neg (by omega)]
        exact hM
      · rw [if_neg hl, ih l]
        by_cases hq : l < j ∧ mask.testBit l = true
        · rw [if_pos hq, if_pos ⟨by omega, hq.2⟩]
        · rw [if_neg hq, if_neg (fun h => hq ⟨by omega, h.2⟩)]
    · rename_i hb
      rw [ih l]
      by_cases hq : l < j ∧ mask.testBit l = true
      · rw [if_pos hq, if_pos ⟨by omega, hq.2⟩]
      · rw [if_neg hq, if_neg (fun h => by
          by_cases hl : l = j
          · subst hl; exact hb h.2
          · exact hq ⟨by omega, h.2⟩)]
/-- The accesses of the lanes below j of a mask. -/
def accTo (c : Cd) (m mask P : Nat) (R : Nat → Nat → Int) : Nat → List Ac
  | 0 => []
  | j + 1 => if mask.testBit j then accTo c m mask P R j ++ [⟨j, cellOf c m (R j), decide (c.op = 9), P⟩] else accTo c m mask P R j
theorem accTo_mem {c : Cd} {m mask P : Nat} {R : Nat → Nat → Int} {x : Ac} : ∀ {j : Nat}, x ∈ accTo c m mask P R j ↔ ∃ l, l < j ∧ mask.testBit l = true ∧ x = ⟨l, cellOf c m (R l), decide (c.op = 9), P⟩
  | 0 => ⟨fun h => absurd h (by simp [accTo]), fun ⟨l, h, _⟩ => absurd h (by omega)⟩
  | j + 1 => by
    unfold accTo
    split
    · rename_i hb
      rw [List.mem_append, accTo_mem (j := j)]
      constructor
      · rintro (⟨l, h1, h2, h3⟩ | h)
        · exact ⟨l, by omega, h2, h3⟩
        · simp at h; exact ⟨j, by omega, hb, h⟩
      · rintro ⟨l, h1, h2, h3⟩
        by_cases hl : l = j
        · subst hl; exact .inr (by simp [h3])
        · exact .inl ⟨l, by omega, h2, h3⟩
    · rename_i hb
      rw [accTo_mem (j := j)]
      constructor
      · rintro ⟨l, h1, h2, h3⟩
        exact ⟨l, by omega, h2, h3⟩
      · rintro ⟨l, h1, h2, h3⟩
        by_cases hl : l = j
        · subst hl; exact absurd h2 hb
        · exact ⟨l, by omega, h2, h3⟩
theorem cellOf_eq {c : Cd} {m : Nat} {f g : Nat → Int} (h : f c.b.toNat = g c.b.toNat) : cellOf c m f = cellOf c m g := by unfold cellOf; rw [h]
theorem lanes_A (c : Cd) (m mask : Nat) (s : LS) : ∀ j, (lanesTo c m mask j s).A = if c.op = 8 ∨ c.op = 9 then s.A ++ accTo c m mask s.P s.R j else s.A
  | 0 => by
    split
    · show s.A = s.A ++ []; simp
    · rfl
  | j + 1 => by
    have ih := lanes_A c m mask s j
    unfold lanesTo accTo
    split
    · show (if c.op = 8 ∨ c.op = 9 then (lanesTo c m mask j s).A ++ [⟨j, cellOf c m ((lanesTo c m mask j s).R j), decide (c.op = 9), (lanesTo c m mask j s).P⟩] else (lanesTo c m mask j s).A) = _
      split
      · rw [ih, if_pos (by assumption), lanesTo_P, lanes_R, if_neg (by omega), List.append_assoc]
      · rw [ih, if_neg (by assumption)]
    · exact ih
theorem exec_R (c : Cd) (n m i mask : Nat) (s : LS) (l : Nat) : (exec c n m i mask s).R l = if l < n ∧ mask.testBit l = true then simR c l m (s.R l) s.M else s.R l := by
  have h := lanes_R c m mask (beat i mask s) n l
  unfold exec
  simp only
  split
  · exact h
  · exact h
theorem exec_A (c : Cd) (n m i mask : Nat) (s : LS) : (exec c n m i mask s).A = if c.op = 8 ∨ c.op = 9 then s.A ++ accTo c m mask s.P s.R n else s.A := by
  have h := lanes_A c m mask (beat i mask s) n
  unfold exec
  simp only
  split
  · exact h
  · exact h
theorem exec_P (c : Cd) (n m i mask : Nat) (s : LS) : (exec c n m i mask s).P = if c.op = 10 then s.P + 1 else s.P := by
  have h := lanesTo_P c m mask (beat i mask s) n
  unfold exec
  simp only
  split
  · show (lanesTo c m mask n (beat i mask s)).P + 1 = _; rw [h]; rfl
  · rw [h]; rfl
theorem exec_M {c : Cd} (h9 : c.op ≠ 9) (n m i mask : Nat) (s : LS) : (exec c n m i mask s).M = s.M := by
  have h := lanes_M h9 m mask (beat i mask s) n
  unfold exec
  simp only
  split
  · exact h
  · exact h
theorem full_bit {n l : Nat} (h : l < n) : (2 ^ n - 1 : Nat).testBit l = true := by
  rw [Nat.testBit_two_pow_sub_one]; simp [h]
/-- With all lanes. -/
theorem exec_Rf (c : Cd) (n m i : Nat) (s : LS) (l : Nat) (h : l < n) : (exec c n m i (2 ^ n - 1) s).R l = simR c l m (s.R l) s.M := by
  rw [exec_R, if_pos ⟨h, full_bit h⟩]
theorem accTo_full {c : Cd} {n m P : Nat} {R : Nat → Nat → Int} {x : Ac} : x ∈ accTo c m (2 ^ n - 1) P R n ↔ ∃ l, l < n ∧ x = ⟨l, cellOf c m (R l), decide (c.op = 9), P⟩ := by
  rw [accTo_mem]
  exact ⟨fun ⟨l, h1, _, h3⟩ => ⟨l, h1, h3⟩, fun ⟨l, h1, h3⟩ => ⟨l, h1, full_bit h1, h3⟩⟩

/-- A program of plain instructions alone. -/
def lineT : List Cd → Tr
  | [] => .nil
  | c :: r => .op c (lineT r)
theorem line_flat : ∀ cs : List Cd, (lineT cs).flat = cs
  | [] => rfl
  | c :: r => by show c :: (lineT r).flat = _; rw [line_flat r]
theorem line_ok : ∀ {cs : List Cd}, (∀ c ∈ cs, Plain c) → (lineT cs).Ok
  | [], _ => trivial
  | c :: r, h => ⟨h c (by simp), line_ok fun x hx => h x (by simp [hx])⟩
theorem line_depth : ∀ cs : List Cd, (lineT cs).depth = 0
  | [] => rfl
  | _ :: r => line_depth r
def lineRun (n m : Nat) : List Cd → Nat → LS → LS
  | [], _, s => s
  | c :: r, i, s => lineRun n m r (i + 1) (exec c n m i (2 ^ n - 1) s)
theorem line_run (n m : Nat) (hn : 1 ≤ n) : ∀ (cs : List Cd) (i : Nat) (s : LS), run n m (lineT cs) i (2 ^ n - 1) s = lineRun n m cs i s
  | [], _, _ => rfl
  | c :: r, i, s => by
    show (if (2 ^ n - 1 : Nat) = 0 then s else run n m (lineT r) (i + 1) (2 ^ n - 1) (exec c n m i (2 ^ n - 1) s)) = _
    rw [if_neg (full_ne hn), line_run n m hn r]
    rfl
theorem line_lock {cs : List Cd} {n : Nat} {mem : List Int} (hn : 1 ≤ n) (hp : ∀ c ∈ cs, Plain c) (h40 : cs.length ≤ 40) : PValid cs ∧ lockOf cs n mem = lineRun n mem.length cs 0 (startLS mem) := by
  have hv := valid_of_tree (line_ok hp) (by rw [line_depth]; omega) (by unfold Tr.len; rw [line_flat]; exact h40)
  have e := treeOf_eq hv rfl (line_ok hp)
  rw [line_flat] at hv e
  refine ⟨hv, ?_⟩
  unfold lockOf
  rw [e, line_run n mem.length hn]

end Go.Proofs.Ytonmndojlnohcaa

namespace Go.Proofs.Ytonmndojlnohcaa

def rsC : List Cd := [⟨2, 1, 0, 0⟩, ⟨9, 1, 0, 0⟩]
def raC : List Cd := [⟨2, 1, 0, 0⟩, ⟨9, 1, 1, 0⟩]
def rbC : List Cd := [⟨1, 2, 1, 0⟩, ⟨2, 0, 0, 0⟩, ⟨9, 0, 0, 0⟩, ⟨10, 0, 0, 0⟩, ⟨3, 0, 2, 0⟩, ⟨8, 1, 0, 0⟩]
def rbC0 : List Cd := [⟨1, 2, 1, 0⟩, ⟨2, 0, 0, 0⟩, ⟨9, 0, 0, 0⟩, ⟨3, 0, 2, 0⟩, ⟨8, 1, 0, 0⟩]
theorem rs_plain : ∀ c ∈ rsC, Plain c := by simp [rsC, Plain, CdOk, Reg, Word]
theorem ra_plain : ∀ c ∈ raC, Plain c := by simp [raC, Plain, CdOk, Reg, Word]
theorem rb_plain : ∀ c ∈ rbC, Plain c := by simp [rbC, Plain, CdOk, Reg, Word]
theorem rb_plain0 : ∀ c ∈ rbC0, Plain c := by simp [rbC0, Plain, CdOk, Reg, Word]
theorem free_dec {cs : List Cd} {n : Nat} {mem : List Int} {P : Prop} [Decidable P] (hok : RunOk cs n mem) (h : ¬ Race (lockA cs n mem).A ↔ P) : freeA cs n mem = decide P := by
  rw [Bool.eq_iff_iff, freeA_iff hok, decide_eq_true_iff]; exact h
theorem simR_2 (a : Int) (l m : Nat) (f M : Nat → Int) : simR ⟨2, a, 0, 0⟩ l m f M = setF f a.toNat l := rfl
theorem exec_A0 {c : Cd} (h8 : c.op ≠ 8) (h9 : c.op ≠ 9) (n m i mask : Nat) (s : LS) : (exec c n m i mask s).A = s.A := by
  rw [exec_A, if_neg (by rintro (h | h); exact h8 h; exact h9 h)]
theorem exec_A1 {c : Cd} (h : c.op = 8 ∨ c.op = 9) (n m i mask : Nat) (s : LS) : (exec c n m i mask s).A = s.A ++ accTo c m mask s.P s.R n := by
  rw [exec_A, if_pos h]

theorem lane_P (n : Nat) (mem : List Int) : (exec ⟨2, 1, 0, 0⟩ n mem.length 0 (2 ^ n - 1) (startLS mem)).P = 0 := by rw [exec_P, if_neg (by show ¬ ((2 : Int) = 10); decide)]; rfl

theorem rs_acc {n : Nat} {mem : List Int} (hok : RunOk rsC n mem) (x : Ac) : x ∈ (lockA rsC n mem).A ↔ ∃ l, l < n ∧ x = ⟨l, 0, true, 0⟩ := by
  have hn : 1 ≤ n := by have := hok.2.1.1; omega
  have hl := (line_lock (cs := rsC) (mem := mem) hn rs_plain (by decide)).2
  rw [lockA_ok hok, hl]
  show x ∈ (exec ⟨9, 1, 0, 0⟩ n mem.length 1 (2 ^ n - 1) (exec ⟨2, 1, 0, 0⟩ n mem.length 0 (2 ^ n - 1) (startLS mem))).A ↔ _
  rw [exec_A1 (.inr rfl), exec_A0 (by show ¬ ((2 : Int) = 8); decide) (by show ¬ ((2 : Int) = 9); decide), List.mem_append]
  have h0 : x ∉ (startLS mem).A := by simp [startLS]
  constructor
  · rintro (h | h)
    · exact absurd h h0
    · obtain ⟨l, h1, h2⟩ := accTo_full.1 h
      refine ⟨l, h1, h2.trans ?_⟩
      have e : cellOf ⟨9, 1, 0, 0⟩ mem.length ((exec ⟨2, 1, 0, 0⟩ n mem.length 0 (2 ^ n - 1) (startLS mem)).R l) = 0 := by
        rw [exec_Rf _ _ _ _ _ _ h1, simR_2]; show (setF _ 1 _ 0).toNat % _ = 0
        rw [setF_ne _ _ (by decide)]; show (0 : Int).toNat % _ = 0; simp
      rw [e, lane_P]; rfl
  · rintro ⟨l, h1, rfl⟩
    refine .inr (accTo_full.2 ⟨l, h1, ?_⟩)
    have e : cellOf ⟨9, 1, 0, 0⟩ mem.length ((exec ⟨2, 1, 0, 0⟩ n mem.length 0 (2 ^ n - 1) (startLS mem)).R l) = 0 := by
      rw [exec_Rf _ _ _ _ _ _ h1, simR_2]; show (setF _ 1 _ 0).toNat % _ = 0
      rw [setF_ne _ _ (by decide)]; show (0 : Int).toNat % _ = 0; simp
    rw [e, lane_P]; rfl
theorem rs_free {n : Nat} {mem : List Int} (hok : RunOk rsC n mem) : freeA rsC n mem = decide (n = 1) := by
  have hn : 1 ≤ n := by have := hok.2.1.1; omega
  refine free_dec hok ?_
  rw [race_iff]
  constructor
  · intro h
    by_cases h1 : n = 1
    · exact h1
    · exact absurd ⟨⟨0, 0, true, 0⟩, (rs_acc hok _).2 ⟨0, by omega, rfl⟩, ⟨1, 0, true, 0⟩, (rs_acc hok _).2 ⟨1, by omega, rfl⟩, by decide⟩ h
  · rintro rfl ⟨x, hx, y, hy, hc⟩
    obtain ⟨l, h1, rfl⟩ := (rs_acc hok x).1 hx
    obtain ⟨k, h2, rfl⟩ := (rs_acc hok y).1 hy
    have := (clash_iff.1 hc).2.1
    simp only at this
    omega
theorem ra_acc {n : Nat} {mem : List Int} (hok : RunOk raC n mem) (x : Ac) : x ∈ (lockA raC n mem).A ↔ ∃ l, l < n ∧ x = ⟨l, l % mem.length, true, 0⟩ := by
  have hn : 1 ≤ n := by have := hok.2.1.1; omega
  have hl := (line_lock (cs := raC) (mem := mem) hn ra_plain (by decide)).2
  rw [lockA_ok hok, hl]
  show x ∈ (exec ⟨9, 1, 1, 0⟩ n mem.length 1 (2 ^ n - 1) (exec ⟨2, 1, 0, 0⟩ n mem.length 0 (2 ^ n - 1) (startLS mem))).A ↔ _
  rw [exec_A1 (.inr rfl), exec_A0 (by show ¬ ((2 : Int) = 8); decide) (by show ¬ ((2 : Int) = 9); decide), List.mem_append]
  have h0 : x ∉ (startLS mem).A := by simp [startLS]
  have e : ∀ l, l < n → cellOf ⟨9, 1, 1, 0⟩ mem.length ((exec ⟨2, 1, 0, 0⟩ n mem.length 0 (2 ^ n - 1) (startLS mem)).R l) = l % mem.length := by
    intro l h1
    rw [exec_Rf _ _ _ _ _ _ h1, simR_2]; show (setF _ 1 _ 1).toNat % _ = _
    rw [setF_same]; simp
  constructor
  · rintro (h | h)
    · exact absurd h h0
    · obtain ⟨l, h1, h2⟩ := accTo_full.1 h
      rw [e l h1, lane_P] at h2
      exact ⟨l, h1, h2⟩
  · rintro ⟨l, h1, rfl⟩
    refine .inr (accTo_full.2 ⟨l, h1, ?_⟩)
    rw [e l h1, lane_P]; rfl
theorem ra_free {n : Nat} {mem : List Int} (hok : RunOk raC n mem) : freeA raC n mem = decide (n ≤ mem.length) := by
  have hn : 1 ≤ n := by have := hok.2.1.1; omega
  have hm : 1 ≤ mem.length := hok.2.2.1.1
  refine free_dec hok ?_
  rw [race_iff]
  constructor
  · intro h
    by_cases h1 : n ≤ mem.length
    · exact h1
    · refine absurd ⟨⟨0, 0, true, 0⟩, (ra_acc hok _).2 ⟨0, by omega, by simp⟩, ⟨mem.length, 0, true, 0⟩, (ra_acc hok _).2 ⟨mem.length, by omega, by simp⟩, ?_⟩ h
      rw [clash_iff]; exact ⟨rfl, by show ¬ (0 = mem.length); omega, rfl, .inl rfl⟩
  · rintro h ⟨x, hx, y, hy, hc⟩
    obtain ⟨l, h1, rfl⟩ := (ra_acc hok x).1 hx
    obtain ⟨k, h2, rfl⟩ := (ra_acc hok y).1 hy
    have hq := clash_iff.1 hc
    have e1 := hq.2.1
    have e2 := hq.2.2.1
    simp only at e1 e2
    rw [Nat.mod_eq_of_lt (by omega), Nat.mod_eq_of_lt (by omega)] at e2
    omega

/-- The registers in the third program. -/
theorem rb_pre {n : Nat} {mem : List Int} (l : Nat) (h : l < n) : (exec ⟨2, 0, 0, 0⟩ n mem.length 1 (2 ^ n - 1) (exec ⟨1, 2, 1, 0⟩ n mem.length 0 (2 ^ n - 1) (startLS mem))).R l = setF (setF (fun _ => 0) 2 1) 0 l := by
  rw [exec_Rf _ _ _ _ _ _ h, simR_2, exec_Rf _ _ _ _ _ _ h]; rfl
theorem store_R {n m i : Nat} (s : LS) (l : Nat) (h : l < n) (a b : Int) : (exec ⟨9, a, b, 0⟩ n m i (2 ^ n - 1) s).R l = s.R l := by
  rw [exec_Rf _ _ _ _ _ _ h]; rfl
theorem bar_R {n m i : Nat} (s : LS) (l : Nat) (h : l < n) : (exec ⟨10, 0, 0, 0⟩ n m i (2 ^ n - 1) s).R l = s.R l := by
  rw [exec_Rf _ _ _ _ _ _ h]; rfl
theorem add_R {n m i : Nat} (s : LS) (l : Nat) (h : l < n) (a b : Int) : (exec ⟨3, a, b, 0⟩ n m i (2 ^ n - 1) s).R l = setF (s.R l) a.toNat ((s.R l a.toNat + s.R l b.toNat) % 256) := by
  rw [exec_Rf _ _ _ _ _ _ h]; rfl
theorem rb_cell1 {l m : Nat} : cellOf ⟨9, 0, 0, 0⟩ m (setF (setF (fun _ => 0) 2 1) 0 (l : Nat)) = l % m := by
  show (setF _ 0 _ 0).toNat % _ = _
  rw [setF_same]; simp
theorem rb_cell2 {l m : Nat} (h : l < 255) : cellOf ⟨8, 1, 0, 0⟩ m (setF (setF (setF (fun _ => 0) 2 1) 0 (l : Nat)) (0 : Int).toNat ((setF (setF (fun _ => 0) 2 1) 0 (l : Nat) (0 : Int).toNat + setF (setF (fun _ => 0) 2 1) 0 (l : Nat) (2 : Int).toNat) % 256)) = (l + 1) % m := by
  show (setF _ 0 _ 0).toNat % _ = _
  rw [setF_same]
  have e : setF (setF (fun _ => (0 : Int)) 2 1) 0 (l : Nat) (0 : Int).toNat = (l : Int) := setF_same _ _ _
  have e2 : setF (setF (fun _ => (0 : Int)) 2 1) 0 (l : Nat) (2 : Int).toNat = 1 := rfl
  rw [e, e2]
  have : (((l : Int) + 1) % 256).toNat = l + 1 := by omega
  rw [this]
theorem rb_acc {n : Nat} {mem : List Int} (hok : RunOk rbC n mem) (x : Ac) (hx : x ∈ (lockA rbC n mem).A) : (∃ l, l < n ∧ x = ⟨l, l % mem.length, true, 0⟩) ∨ (∃ l, l < n ∧ x = ⟨l, (l + 1) % mem.length, false, 1⟩) := by
  have hn : 1 ≤ n := by have := hok.2.1.1; omega
  have hn8 : n ≤ 8 := by have := hok.2.1.2; omega
  have hl := (line_lock (cs := rbC) (mem := mem) hn rb_plain (by decide)).2
  rw [lockA_ok hok, hl] at hx
  obtain ⟨s2, hs2⟩ : ∃ s2, exec ⟨2, 0, 0, 0⟩ n mem.length 1 (2 ^ n - 1) (exec ⟨1, 2, 1, 0⟩ n mem.length 0 (2 ^ n - 1) (startLS mem)) = s2 := ⟨_, rfl⟩
  have hR : ∀ l, l < n → s2.R l = setF (setF (fun _ => 0) 2 1) 0 (l : Nat) := fun l h => by rw [← hs2]; exact rb_pre l h
  have hA : s2.A = [] := by rw [← hs2, exec_A0 (by show ¬ ((2 : Int) = 8); decide) (by show ¬ ((2 : Int) = 9); decide), exec_A0 (by show ¬ ((1 : Int) = 8); decide) (by show ¬ ((1 : Int) = 9); decide)]; rfl
  have hP : s2.P = 0 := by rw [← hs2, exec_P, if_neg (by show ¬ ((2 : Int) = 10); decide), exec_P, if_neg (by show ¬ ((1 : Int) = 10); decide)]; rfl
  have hx : x ∈ (exec ⟨8, 1, 0, 0⟩ n mem.length 5 (2 ^ n - 1) (exec ⟨3, 0, 2, 0⟩ n mem.length 4 (2 ^ n - 1) (exec ⟨10, 0, 0, 0⟩ n mem.length 3 (2 ^ n - 1) (exec ⟨9, 0, 0, 0⟩ n mem.length 2 (2 ^ n - 1) s2)))).A := by rw [← hs2]; exact hx
  rw [exec_A1 (.inl rfl), exec_A0 (by show ¬ ((3 : Int) = 8); decide) (by show ¬ ((3 : Int) = 9); decide), exec_A0 (by show ¬ ((10 : Int) = 8); decide) (by show ¬ ((10 : Int) = 9); decide), exec_A1 (.inr rfl), hA, List.nil_append, List.mem_append] at hx
  rcases hx with hx | hx
  · obtain ⟨l, h1, h2⟩ := accTo_full.1 hx
    refine .inl ⟨l, h1, ?_⟩
    rw [hR l h1, rb_cell1, hP] at h2
    exact h2
  · obtain ⟨l, h1, h2⟩ := accTo_full.1 hx
    refine .inr ⟨l, h1, ?_⟩
    rw [add_R _ _ h1, bar_R _ _ h1, store_R _ _ h1, hR l h1, rb_cell2 (by omega), exec_P, if_neg (by show ¬ ((3 : Int) = 10); decide), exec_P, if_pos rfl, exec_P, if_neg (by show ¬ ((9 : Int) = 10); decide), hP] at h2
    exact h2
theorem rb_free {n : Nat} {mem : List Int} (hok : RunOk rbC n mem) (hm : n < mem.length) : freeA rbC n mem = true := by
  rw [freeA_iff hok, race_iff]
  rintro ⟨x, hx, y, hy, hc⟩
  have hq := clash_iff.1 hc
  have e0 := hq.1
  have e1 := hq.2.1
  have e2 := hq.2.2.1
  have e3 := hq.2.2.2
  rcases rb_acc hok x hx with ⟨l, h1, rfl⟩ | ⟨l, h1, rfl⟩
  · rcases rb_acc hok y hy with ⟨k, h2, rfl⟩ | ⟨k, h2, rfl⟩
    · simp only at e1 e2
      rw [Nat.mod_eq_of_lt (by omega), Nat.mod_eq_of_lt (by omega)] at e2
      omega
    · simp only at e0; omega
  · rcases rb_acc hok y hy with ⟨k, h2, rfl⟩ | ⟨k, h2, rfl⟩
    · simp only at e0; omega
    · simp at e3
theorem rb_acc0 {n : Nat} {mem : List Int} (hok : RunOk rbC0 n mem) (x : Ac) : x ∈ (lockA rbC0 n mem).A ↔ (∃ l, l < n ∧ x = ⟨l, l % mem.length, true, 0⟩) ∨ (∃ l, l < n ∧ x = ⟨l, (l + 1) % mem.length, false, 0⟩) := by
  have hn : 1 ≤ n := by have := hok.2.1.1; omega
  have hn8 : n ≤ 8 := by have := hok.2.1.2; omega
  have hl := (line_lock (cs := rbC0) (mem := mem) hn rb_plain0 (by decide)).2
  rw [lockA_ok hok, hl]
  obtain ⟨s2, hs2⟩ : ∃ s2, exec ⟨2, 0, 0, 0⟩ n mem.length 1 (2 ^ n - 1) (exec ⟨1, 2, 1, 0⟩ n mem.length 0 (2 ^ n - 1) (startLS mem)) = s2 := ⟨_, rfl⟩
  have hR : ∀ l, l < n → s2.R l = setF (setF (fun _ => 0) 2 1) 0 (l : Nat) := fun l h => by rw [← hs2]; exact rb_pre l h
  have hA : s2.A = [] := by rw [← hs2, exec_A0 (by show ¬ ((2 : Int) = 8); decide) (by show ¬ ((2 : Int) = 9); decide), exec_A0 (by show ¬ ((1 : Int) = 8); decide) (by show ¬ ((1 : Int) = 9); decide)]; rfl
  have hP : s2.P = 0 := by rw [← hs2, exec_P, if_neg (by show ¬ ((2 : Int) = 10); decide), exec_P, if_neg (by show ¬ ((1 : Int) = 10); decide)]; rfl
  have hgo : lineRun n mem.length rbC0 0 (startLS mem) = exec ⟨8, 1, 0, 0⟩ n mem.length 4 (2 ^ n - 1) (exec ⟨3, 0, 2, 0⟩ n mem.length 3 (2 ^ n - 1) (exec ⟨9, 0, 0, 0⟩ n mem.length 2 (2 ^ n - 1) s2)) := by rw [← hs2]; rfl
  rw [hgo, exec_A1 (.inl rfl), exec_A0 (by show ¬ ((3 : Int) = 8); decide) (by show ¬ ((3 : Int) = 9); decide), exec_A1 (.inr rfl), hA, List.nil_append, List.mem_append]
  have hP3 : (exec ⟨3, 0, 2, 0⟩ n mem.length 3 (2 ^ n - 1) (exec ⟨9, 0, 0, 0⟩ n mem.length 2 (2 ^ n - 1) s2)).P = 0 := by
    rw [exec_P, if_neg (by show ¬ ((3 : Int) = 10); decide), exec_P, if_neg (by show ¬ ((9 : Int) = 10); decide), hP]
  have hR3 : ∀ l, l < n → cellOf ⟨8, 1, 0, 0⟩ mem.length ((exec ⟨3, 0, 2, 0⟩ n mem.length 3 (2 ^ n - 1) (exec ⟨9, 0, 0, 0⟩ n mem.length 2 (2 ^ n - 1) s2)).R l) = (l + 1) % mem.length := by
    intro l h1
    rw [add_R _ _ h1, store_R _ _ h1, hR l h1, rb_cell2 (by omega)]
  constructor
  · rintro (hx | hx)
    · obtain ⟨l, h1, h2⟩ := accTo_full.1 hx
      rw [hR l h1, rb_cell1, hP] at h2
      exact .inl ⟨l, h1, h2⟩
    · obtain ⟨l, h1, h2⟩ := accTo_full.1 hx
      rw [hR3 l h1, hP3] at h2
      exact .inr ⟨l, h1, h2⟩
  · rintro (⟨l, h1, rfl⟩ | ⟨l, h1, rfl⟩)
    · refine .inl (accTo_full.2 ⟨l, h1, ?_⟩)
      rw [hR l h1, rb_cell1, hP]; rfl
    · refine .inr (accTo_full.2 ⟨l, h1, ?_⟩)
      rw [hR3 l h1, hP3]; rfl
theorem rb_free0 {n : Nat} {mem : List Int} (hok : RunOk rbC0 n mem) (hm : n < mem.length) : freeA rbC0 n mem = decide (n = 1) := by
  have hn : 1 ≤ n := by have := hok.2.1.1; omega
  refine free_dec hok ?_
  rw [race_iff]
  constructor
  · intro h
    by_cases h1 : n = 1
    · exact h1
    · refine absurd ⟨⟨1, 1, true, 0⟩, (rb_acc0 hok _).2 (.inl ⟨1, by omega, by rw [Nat.mod_eq_of_lt (by omega)]⟩), ⟨0, 1, false, 0⟩, (rb_acc0 hok _).2 (.inr ⟨0, by omega, by rw [Nat.mod_eq_of_lt (by omega)]⟩), by decide⟩ h
  · rintro rfl ⟨x, hx, y, hy, hc⟩
    have e1 := (clash_iff.1 hc).2.1
    rcases (rb_acc0 hok x).1 hx with ⟨l, h1, rfl⟩ | ⟨l, h1, rfl⟩ <;> rcases (rb_acc0 hok y).1 hy with ⟨k, h2, rfl⟩ | ⟨k, h2, rfl⟩ <;> (simp only at e1; omega)

end Go.Proofs.Ytonmndojlnohcaa
