/- Uniform registers are uniform: what the analysis tells holds in every step of a run in lockstep. No program in sight. The reference's comparison of registers between lanes. No condition. -/
import Derived.Test.YtokdfgodmhekmaaKag
import Derived.Test.YtokdfgodmhekmaaKah
import Derived.Test.YtokdfgodmhekmaaKbj
import Derived.Test.YtokdfgodmhekmaaKcd

namespace Go.Proofs.Ytokdfgodmhekmaa

theorem simR_Mx {c : Cd} (h : c.op ≠ 8) (id m : Nat) (f M M' : Nat → Int) : simR c id m f M = simR c id m f M' := by
  unfold simR
  rw [if_neg h, if_neg h]
theorem lanes_Mx {c : Cd} (h : c.op ≠ 9) (m mask : Nat) (s : LS) : ∀ j, (lanesTo c m mask j s).M = s.M
  | 0 => rfl
  | j + 1 => by
    have ih := lanes_Mx h m mask s j
    unfold lanesTo
    split
    · show simM c m _ (lanesTo c m mask j s).M = _
      unfold simM; rw [if_neg h]; exact ih
    · exact ih
theorem lanes_Rx (c : Cd) (m mask : Nat) (s : LS) : ∀ j l, (lanesTo c m mask j s).R l = if l < j ∧ mask.testBit l = true then simR c l m (s.R l) s.M else s.R l
  | 0, l => by rw [if_neg (by omega)]; rfl
  | j + 1, l => by
    have ih := lanes_Rx c m mask s j
    have hM : simR c j m (s.R j) (lanesTo c m mask j s).M = simR c j m (s.R j) s.M := by
      by_cases h : c.op = 9
      · exact simR_Mx (by omega) j m _ _ _
      · rw [lanes_Mx h]
    unfold lanesTo
    split
    · rename_i hb
      show (if l = j then simR c j m ((lanesTo c m mask j s).R j) (lanesTo c m mask j s).M else (lanesTo c m mask j s).R l) = _
      by_cases hl : l = j
      · subst hl
        rw [if_pos rfl, if_pos ⟨by omega, hb⟩, ih l, if_neg (by omega)]
        exact hM
      · rw [if_neg hl, ih l]
        by_cases hq : l < j ∧ mask.testBit l = true
        · rw [if_pos hq, if_pos ⟨by omega, hq.2⟩]
        · rw [if_neg hq, if_neg (fun h => hq ⟨by omega, h.2⟩)]
    · rename_i hb
      rw [ih l]
      by_cases hq : l < j ∧ mask.testBit l = true
      · rw [if_pos hq, if_pos ⟨by omega, hq.2⟩]
      · rw [if_neg hq, if_neg (fun h => by
          by_cases hl : l = j
          · subst hl; exact hb h.2
          · exact hq ⟨by omega, h.2⟩)]
theorem exec_Rx (c : Cd) (n m i mask : Nat) (s : LS) (l : Nat) : (exec c n m i mask s).R l = if l < n ∧ mask.testBit l = true then simR c l m (s.R l) s.M else s.R l := by
  have h := lanes_Rx c m mask (beat i mask s) n l
  unfold exec
  simp only
  split
  · exact h
  · exact h

/-- The registers of a set have the same value in all lanes of a mask. -/
def Eqv (R : Nat → Nat → Int) (mask u : Nat) : Prop := ∀ r, u.testBit r = true → ∀ k l, mask.testBit k = true → mask.testBit l = true → R k r = R l r
theorem Eqv.sub {R : Nat → Nat → Int} {mask mask' u u' : Nat} (h : Eqv R mask u) (hm : Sub mask' mask) (hu : Sub u' u) : Eqv R mask' u' :=
  fun r hr k l hk hl => h r (hu r hr) k l (hm k hk) (hm l hl)
theorem Eqv.zero (R : Nat → Nat → Int) (u : Nat) : Eqv R 0 u := fun r _ k _ hk _ => by simp at hk
theorem Eqv.congr {R R' : Nat → Nat → Int} {mask u : Nat} (h : Eqv R mask u) (hR : ∀ l, mask.testBit l = true → R' l = R l) : Eqv R' mask u := fun r hr k l hk hl => by
  rw [hR k hk, hR l hl]; exact h r hr k l hk hl

theorem pw_bit (x : Int) (r : Nat) : (pw x).testBit r = decide (x.toNat = r) := by unfold pw; rw [Nat.testBit_two_pow]
theorem simR_keep {c : Cd} {id m : Nat} {f M : Nat → Int} {r : Nat} (h : (wst c).testBit r = false) : simR c id m f M r = f r := by
  by_cases hop : 1 ≤ c.op ∧ c.op ≤ 8
  · unfold wst at h
    rw [if_pos hop, pw_bit] at h
    have hne : r ≠ c.a.toNat := fun e => by simp [e] at h
    unfold simR
    repeat' split
    all_goals first | exact setF_ne _ _ hne | rfl
  · unfold simR
    rw [if_neg (by omega), if_neg (by omega), if_neg (by omega), if_neg (by omega), if_neg (by omega), if_neg (by omega), if_neg (by omega), if_neg (by omega)]
theorem simR_same {c : Cd} {id id' m : Nat} {f g M : Nat → Int} (h2 : c.op ≠ 2) (hr : ∀ r, (rd c).testBit r = true → f r = g r) {r : Nat} (hw : (wst c).testBit r = true) : simR c id m f M r = simR c id' m g M r := by
  have hop : 1 ≤ c.op ∧ c.op ≤ 8 := by
    refine Classical.byContradiction fun hn => ?_
    unfold wst at hw
    rw [if_neg hn] at hw
    simp at hw
  unfold wst at hw
  rw [if_pos hop, pw_bit, decide_eq_true_eq] at hw
  subst hw
  have ha : c.op = 3 ∨ c.op = 4 ∨ c.op = 7 → f c.a.toNat = g c.a.toNat := fun h => hr _ (by
    unfold rd
    rcases h with h | h | h
    all_goals simp [h, Nat.testBit_or, pw_bit])
  have hb : 3 ≤ c.op ∧ c.op ≤ 8 → f c.b.toNat = g c.b.toNat := fun h => hr _ (by
    have : c.op = 3 ∨ c.op = 4 ∨ c.op = 5 ∨ c.op = 6 ∨ c.op = 7 ∨ c.op = 8 := by omega
    unfold rd
    rcases this with h | h | h | h | h | h
    all_goals simp [h, Nat.testBit_or, pw_bit])
  have hc : c.op = 6 ∨ c.op = 7 → f c.c.toNat = g c.c.toNat := fun h => hr _ (by
    unfold rd
    rcases h with h | h
    all_goals simp [h, Nat.testBit_or, pw_bit])
  have hh : c.op = 1 ∨ c.op = 3 ∨ c.op = 4 ∨ c.op = 5 ∨ c.op = 6 ∨ c.op = 7 ∨ c.op = 8 := by omega
  unfold simR
  rcases hh with h | h | h | h | h | h | h
  · rw [if_pos h, if_pos h, setF_same, setF_same]
  · have e1 : ¬ c.op = 1 := by omega
    rw [if_neg e1, if_neg h2, if_pos h, if_neg e1, if_neg h2, if_pos h, setF_same, setF_same, ha (by omega), hb (by omega)]
  · have e1 : ¬ c.op = 1 := by omega
    have e3 : ¬ c.op = 3 := by omega
    rw [if_neg e1, if_neg h2, if_neg e3, if_pos h, if_neg e1, if_neg h2, if_neg e3, if_pos h, setF_same, setF_same, ha (by omega), hb (by omega)]
  · have e1 : ¬ c.op = 1 := by omega
    have e3 : ¬ c.op = 3 := by omega
    have e4 : ¬ c.op = 4 := by omega
    rw [if_neg e1, if_neg h2, if_neg e3, if_neg e4, if_pos h, if_neg e1, if_neg h2, if_neg e3, if_neg e4, if_pos h, setF_same, setF_same, hb (by omega)]
  · have e1 : ¬ c.op = 1 := by omega
    have e3 : ¬ c.op = 3 := by omega
    have e4 : ¬ c.op = 4 := by omega
    have e5 : ¬ c.op = 5 := by omega
    rw [if_neg e1, if_neg h2, if_neg e3, if_neg e4, if_neg e5, if_pos h, if_neg e1, if_neg h2, if_neg e3, if_neg e4, if_neg e5, if_pos h, setF_same, setF_same, hb (by omega), hc (by omega)]
  · have e1 : ¬ c.op = 1 := by omega
    have e3 : ¬ c.op = 3 := by omega
    have e4 : ¬ c.op = 4 := by omega
    have e5 : ¬ c.op = 5 := by omega
    have e6 : ¬ c.op = 6 := by omega
    rw [if_neg e1, if_neg h2, if_neg e3, if_neg e4, if_neg e5, if_neg e6, if_pos h, if_neg e1, if_neg h2, if_neg e3, if_neg e4, if_neg e5, if_neg e6, if_pos h, hc (by omega)]
    split
    · exact ha (by omega)
    · rw [setF_same, setF_same, hb (by omega)]
  · have e1 : ¬ c.op = 1 := by omega
    have e3 : ¬ c.op = 3 := by omega
    have e4 : ¬ c.op = 4 := by omega
    have e5 : ¬ c.op = 5 := by omega
    have e6 : ¬ c.op = 6 := by omega
    have e7 : ¬ c.op = 7 := by omega
    rw [if_neg e1, if_neg h2, if_neg e3, if_neg e4, if_neg e5, if_neg e6, if_neg e7, if_pos h, if_neg e1, if_neg h2, if_neg e3, if_neg e4, if_neg e5, if_neg e6, if_neg e7, if_pos h, setF_same, setF_same]
    unfold cellOf
    rw [hb (by omega)]
theorem code_holds {c : Cd} {n m i mask u : Nat} {s : LS} (hm : mask < 2 ^ n) (h : Eqv s.R mask u) : Eqv (exec c n m i mask s).R mask (uCode c u) := by
  have hin : ∀ l, mask.testBit l = true → l < n ∧ mask.testBit l = true := fun l hl => ⟨Nat.lt_of_not_le (fun hn => by rw [testBit_hi hm hn] at hl; cases hl), hl⟩
  intro r hr k l hk hl
  rw [exec_Rx, exec_Rx, if_pos (hin k hk), if_pos (hin l hl)]
  by_cases hq : c.op = 2 ∨ rd c &&& u ≠ rd c
  · rw [uCode, if_pos hq, del_bit, Bool.and_eq_true, Bool.not_eq_true'] at hr
    rw [simR_keep hr.2, simR_keep hr.2]
    exact h r hr.1 k l hk hl
  · rw [uCode, if_neg hq, Nat.testBit_or] at hr
    rw [not_or, Decidable.not_not] at hq
    cases hw : (wst c).testBit r
    · rw [hw, Bool.or_false] at hr
      rw [simR_keep hw, simR_keep hw]
      exact h r hr k l hk hl
    · exact simR_same hq.1 (fun q hq1 => h q (Sub.of_and hq.2 q hq1) k l hk hl) hw
theorem onesTo_none' {R : Nat → Nat → Int} {mask a n : Nat} (h : ∀ k, mask.testBit k = true → R k a = 0) : onesTo R mask a n = 0 := by
  apply Nat.eq_of_testBit_eq
  intro l
  rw [onesTo_bit, Nat.zero_testBit]
  cases hl : mask.testBit l
  · simp
  · simp [h l hl]
/-- Lanes that agree go on together, or none does. -/
theorem onesTo_eqv {R : Nat → Nat → Int} {mask a n : Nat} (hm : mask < 2 ^ n) (h : ∀ k l, mask.testBit k = true → mask.testBit l = true → R k a = R l a) : onesTo R mask a n = mask ∨ onesTo R mask a n = 0 := by
  by_cases hx : ∃ k, mask.testBit k = true ∧ R k a ≠ 0
  · obtain ⟨k, hk, hne⟩ := hx
    refine .inl (Nat.eq_of_testBit_eq fun l => ?_)
    rw [onesTo_bit]
    cases hl : mask.testBit l
    · simp
    · have hln : l < n := Nat.lt_of_not_le fun hn => by rw [testBit_hi hm hn] at hl; cases hl
      have : R l a ≠ 0 := by rw [h l k hl hk]; exact hne
      simp [hln, this]
  · refine .inr (onesTo_none' fun k hk => ?_)
    exact Classical.byContradiction fun hne => hx ⟨k, hk, hne⟩
theorem ones_le {R : Nat → Nat → Int} {mask a n : Nat} : Sub (onesTo R mask a n) mask := fun l hl => onesTo_sub R mask a n l hl
theorem del_le {a b : Nat} : Sub (del a b) a := fun l hl => by rw [del_bit, Bool.and_eq_true] at hl; exact hl.1
theorem ones_off {R : Nat → Nat → Int} {mask a n l : Nat} (h : mask.testBit l = false) : (onesTo R mask a n).testBit l = false := by
  cases hb : (onesTo R mask a n).testBit l
  · rfl
  · rw [onesTo_sub R mask a n l hb] at h; cases h
theorem del_off {a b l : Nat} (h : a.testBit l = false) : (del a b).testBit l = false := by rw [del_bit, h]; rfl

/-- Lanes outside of the mask keep their registers. -/
theorem turns_frame {F : Nat → LS → LS} {n a l : Nat} (hF : ∀ y s, y.testBit l = false → (F y s).R l = s.R l) : ∀ (b y : Nat) (s : LS), y.testBit l = false → (turns F n a b y s).R l = s.R l
  | 0, _, _, _ => rfl
  | b + 1, y, s, h => (turns_frame hF b (onesTo s.R y a n) (F (onesTo s.R y a n) s) (ones_off h)).trans (hF _ _ (ones_off h))
theorem run_frame (n m : Nat) : ∀ (t : Tr) (i mask : Nat) (s : LS) (l : Nat), mask.testBit l = false → (run n m t i mask s).R l = s.R l
  | .nil, _, _, _, _, _ => rfl
  | .op c k, i, mask, s, l, h => by
    show LS.R (if _ then _ else _) l = _
    split
    · rfl
    · rw [run_frame n m k _ _ _ l h, exec_Rx, if_neg (fun q => by rw [h] at q; cases q.2)]
  | .ite a t k, i, mask, s, l, h => by
    show LS.R (if _ then _ else _) l = _
    split
    · rfl
    · rw [run_frame n m k _ _ _ l h, run_frame n m t _ _ _ l (ones_off h)]; rfl
  | .itee a t e k, i, mask, s, l, h => by
    show LS.R (if _ then _ else _) l = _
    split
    · rfl
    · rw [run_frame n m k _ _ _ l h, run_frame n m e _ _ _ l (del_off h), run_frame n m t _ _ _ l (ones_off h)]; rfl
  | .loop a b t k, i, mask, s, l, h => by
    show LS.R (if _ then _ else _) l = _
    split
    · rfl
    · rw [run_frame n m k _ _ _ l h, turns_frame (fun y s hy => run_frame n m t _ _ _ l hy) _ _ _ h]; rfl
/-- Registers that a tree does not write stay. -/
theorem turns_keepR {F : Nat → LS → LS} {n a l r : Nat} (hF : ∀ y s, (F y s).R l r = s.R l r) : ∀ (b y : Nat) (s : LS), (turns F n a b y s).R l r = s.R l r
  | 0, _, _ => rfl
  | b + 1, y, s => (turns_keepR hF b (onesTo s.R y a n) (F (onesTo s.R y a n) s)).trans (hF _ _)
theorem run_keepR (n m : Nat) : ∀ (t : Tr) (i mask : Nat) (s : LS) (l r : Nat), (writ t).testBit r = false → (run n m t i mask s).R l r = s.R l r
  | .nil, _, _, _, _, _, _ => rfl
  | .op c k, i, mask, s, l, r, h => by
    have h' : (wst c ||| writ k).testBit r = false := h
    rw [Nat.testBit_or, Bool.or_eq_false_iff] at h'
    show LS.R (if _ then _ else _) l r = _
    split
    · rfl
    · rw [run_keepR n m k _ _ _ l r h'.2, exec_Rx]
      split
      · exact simR_keep h'.1
      · rfl
  | .ite a t k, i, mask, s, l, r, h => by
    have h' : (writ t ||| writ k).testBit r = false := h
    rw [Nat.testBit_or, Bool.or_eq_false_iff] at h'
    show LS.R (if _ then _ else _) l r = _
    split
    · rfl
    · rw [run_keepR n m k _ _ _ l r h'.2, run_keepR n m t _ _ _ l r h'.1]; rfl
  | .itee a t e k, i, mask, s, l, r, h => by
    have h' : ((writ t ||| writ e) ||| writ k).testBit r = false := h
    rw [Nat.testBit_or, Nat.testBit_or, Bool.or_eq_false_iff, Bool.or_eq_false_iff] at h'
    show LS.R (if _ then _ else _) l r = _
    split
    · rfl
    · rw [run_keepR n m k _ _ _ l r h'.2, run_keepR n m e _ _ _ l r h'.1.2, run_keepR n m t _ _ _ l r h'.1.1]; rfl
  | .loop a b t k, i, mask, s, l, r, h => by
    have h' : (writ t ||| writ k).testBit r = false := h
    rw [Nat.testBit_or, Bool.or_eq_false_iff] at h'
    show LS.R (if _ then _ else _) l r = _
    split
    · rfl
    · rw [run_keepR n m k _ _ _ l r h'.2, turns_keepR (fun y s => run_keepR n m t _ _ _ l r h'.1)]; rfl

theorem iter_sub {f : Nat → Nat} (hf : ∀ h, Sub (f h) h) : ∀ n h, Sub (iter f n h) h
  | 0, _ => Sub.refl _
  | n + 1, h => (iter_sub hf n (f h)).trans (hf h)
/-- A step at one of the places of a tree: what the sets tell holds in it. -/
def AtS (xs : List Nat) (i : Nat) (x : Nat × Nat × (Nat → Nat → Int)) : Prop := i ≤ x.1 ∧ x.1 < i + xs.length ∧ Eqv x.2.2 x.2.1 (xs.getD (x.1 - i) 0)
theorem AtS.cons {xs : List Nat} {i u : Nat} {x : Nat × Nat × (Nat → Nat → Int)} (h : AtS xs (i + 1) x) : AtS (u :: xs) i x := by
  obtain ⟨h1, h2, h3⟩ := h
  refine ⟨by omega, by simp; omega, ?_⟩
  rw [show x.1 - i = (x.1 - (i + 1)) + 1 by omega]
  exact h3
theorem AtS.left {xs ys : List Nat} {i : Nat} {x : Nat × Nat × (Nat → Nat → Int)} (h : AtS xs i x) : AtS (xs ++ ys) i x := by
  obtain ⟨h1, h2, h3⟩ := h
  refine ⟨h1, by simp; omega, ?_⟩
  have e : (xs ++ ys).getD (x.1 - i) 0 = xs.getD (x.1 - i) 0 := by
    rw [List.getD_eq_getElem?_getD, List.getD_eq_getElem?_getD, List.getElem?_append_left (by omega)]
  rw [e]; exact h3
theorem AtS.right {xs ys : List Nat} {i j : Nat} {x : Nat × Nat × (Nat → Nat → Int)} (h : AtS ys j x) (hj : j = i + xs.length) : AtS (xs ++ ys) i x := by
  subst hj
  obtain ⟨h1, h2, h3⟩ := h
  refine ⟨by omega, by simp; omega, ?_⟩
  have e : (xs ++ ys).getD (x.1 - i) 0 = ys.getD (x.1 - (i + xs.length)) 0 := by
    rw [List.getD_eq_getElem?_getD, List.getD_eq_getElem?_getD, List.getElem?_append_right (by omega), show x.1 - i - xs.length = x.1 - (i + xs.length) by omega]
  rw [e]; exact h3
theorem AtS.here {xs : List Nat} {i u mask : Nat} {s : LS} {x : Nat × Nat × (Nat → Nat → Int)} (h : x ∈ (beat i mask s).H) (hu : Eqv s.R mask u) : x ∈ s.H ∨ AtS (u :: xs) i x := by
  rcases List.mem_append.1 h with h | h
  · exact .inl h
  · simp at h
    subst h
    refine .inr ⟨Nat.le_refl _, by simp, ?_⟩
    show Eqv s.R mask ((u :: xs).getD (i - i) 0)
    rw [Nat.sub_self]
    exact hu

theorem turns_holds {F : Nat → LS → LS} {n a h : Nat} {Q : Nat × Nat × (Nat → Nat → Int) → Prop} (hz : ∀ s, F 0 s = s) (hF : ∀ y s, y < 2 ^ n → Eqv s.R y h → Eqv (F y s).R y h ∧ ∀ x ∈ (F y s).H, x ∈ s.H ∨ Q x) :
    ∀ (b y : Nat) (s : LS), y < 2 ^ n → Eqv s.R y h → (∀ x ∈ (turns F n a b y s).H, x ∈ s.H ∨ Q x) ∧ (∀ mask, mask < 2 ^ n → (y = mask ∨ y = 0) → h.testBit a = true → Eqv s.R mask h → Eqv (turns F n a b y s).R mask h)
  | 0, y, s, _, _ => ⟨fun x hx => .inl hx, fun _ _ _ _ hm => hm⟩
  | b + 1, y, s, hy, he => by
    have hs : Eqv s.R (onesTo s.R y a n) h := he.sub ones_le (Sub.refl _)
    obtain ⟨p1, p2⟩ := hF (onesTo s.R y a n) s (onesTo_lt _ _ _ _) hs
    obtain ⟨q1, q2⟩ := turns_holds hz hF b (onesTo s.R y a n) (F (onesTo s.R y a n) s) (onesTo_lt _ _ _ _) p1
    refine ⟨fun x hx => ?_, fun mask hm hym ha hem => ?_⟩
    · rcases q1 x hx with k | k
      · exact p2 x k
      · exact .inr k
    · have ho : onesTo s.R y a n = mask ∨ onesTo s.R y a n = 0 := by
        rcases hym with rfl | rfl
        · exact onesTo_eqv hm (fun k l hk hl => hem a ha k l hk hl)
        · exact .inr (onesTo_none _ _ _)
      refine q2 mask hm ho ha ?_
      rcases ho with e | e
      · rw [e]; exact (hF mask s hm hem).1
      · rw [e, hz]; exact hem
theorem run_holds (n m : Nat) : ∀ (t : Tr) (i mask : Nat) (s : LS) (u : Nat), t.Ok → mask < 2 ^ n → u < 16 → Eqv s.R mask u →
    Eqv (run n m t i mask s).R mask (uni t u).1 ∧ ∀ x ∈ (run n m t i mask s).H, x ∈ s.H ∨ AtS (uni t u).2 i x
  | .nil, _, _, _, _, _, _, _, h => ⟨h, fun _ hx => .inl hx⟩
  | .op c k, i, mask, s, u, ho, hm, hu, h => by
    by_cases h0 : mask = 0
    · subst h0; rw [run_zero]; exact ⟨Eqv.zero _ _, fun _ hx => .inl hx⟩
    have e : run n m (.op c k) i mask s = run n m k (i + 1) mask (exec c n m i mask s) := if_neg h0
    obtain ⟨p1, p2⟩ := run_holds n m k (i + 1) mask (exec c n m i mask s) (uCode c u) ho.2 hm (uCode_lt ho.1.1 hu) (code_holds hm h)
    rw [e, uni_op]
    refine ⟨p1, fun x hx => ?_⟩
    rcases p2 x hx with q | q
    · rw [exec_H] at q
      exact AtS.here (s := s) q h
    · exact .inr q.cons
  | .ite a t k, i, mask, s, u, ho, hm, hu, h => by
    by_cases h0 : mask = 0
    · subst h0; rw [run_zero]; exact ⟨Eqv.zero _ _, fun _ hx => .inl hx⟩
    have e : run n m (.ite a t k) i mask s = run n m k (i + 1 + t.len + 1) mask (run n m t (i + 1) (onesTo s.R mask a.toNat n) (beat i mask s)) := if_neg h0
    have hso : Eqv (beat i mask s).R (onesTo s.R mask a.toNat n) u := h.sub ones_le (Sub.refl _)
    obtain ⟨p1, p2⟩ := run_holds n m t (i + 1) (onesTo s.R mask a.toNat n) (beat i mask s) u ho.2.1 (onesTo_lt _ _ _ _) hu hso
    have hv : uIf a t u < 16 := by unfold uIf; split; exact and_lt16 hu; exact del_lt' hu
    have hmid : Eqv (run n m t (i + 1) (onesTo s.R mask a.toNat n) (beat i mask s)).R mask (uIf a t u) := by
      unfold uIf
      split
      · rename_i hua
        rcases onesTo_eqv hm (fun k l hk hl => h a.toNat hua k l hk hl) with q | q
        · rw [q] at p1 ⊢
          exact p1.sub (Sub.refl _) (fun i hi => by rw [Nat.testBit_and, Bool.and_eq_true] at hi; exact hi.2)
        · rw [q, run_zero]
          exact h.sub (Sub.refl _) (fun i hi => by rw [Nat.testBit_and, Bool.and_eq_true] at hi; exact hi.1)
      · intro r hr k l hk hl
        rw [del_bit, Bool.and_eq_true, Bool.not_eq_true'] at hr
        rw [run_keepR n m t _ _ _ k r hr.2, run_keepR n m t _ _ _ l r hr.2]
        exact h r hr.1 k l hk hl
    obtain ⟨r1, r2⟩ := run_holds n m k (i + 1 + t.len + 1) mask _ (uIf a t u) ho.2.2 hm hv hmid
    rw [e, uni_ite]
    refine ⟨r1, fun x hx => ?_⟩
    rcases r2 x hx with q | q
    · rcases p2 x q with q | q
      · exact AtS.here q h
      · exact .inr q.left.cons
    · refine .inr (AtS.cons (AtS.right (AtS.cons q) ?_))
      rw [uni_len]
  | .itee a t e k, i, mask, s, u, ho, hm, hu, h => by
    by_cases h0 : mask = 0
    · subst h0; rw [run_zero]; exact ⟨Eqv.zero _ _, fun _ hx => .inl hx⟩
    have er : run n m (.itee a t e k) i mask s = run n m k (i + 1 + t.len + 1 + e.len + 1) mask (run n m e (i + 1 + t.len + 1) (del mask (onesTo s.R mask a.toNat n)) (run n m t (i + 1) (onesTo s.R mask a.toNat n) (beat i mask s))) := if_neg h0
    have hso : Eqv (beat i mask s).R (onesTo s.R mask a.toNat n) u := h.sub ones_le (Sub.refl _)
    obtain ⟨p1, p2⟩ := run_holds n m t (i + 1) (onesTo s.R mask a.toNat n) (beat i mask s) u ho.2.1 (onesTo_lt _ _ _ _) hu hso
    have hse : Eqv (run n m t (i + 1) (onesTo s.R mask a.toNat n) (beat i mask s)).R (del mask (onesTo s.R mask a.toNat n)) u := by
      refine Eqv.congr (R := s.R) (h.sub del_le (Sub.refl _)) fun l hl => ?_
      rw [del_bit, Bool.and_eq_true, Bool.not_eq_true'] at hl
      exact run_frame n m t _ _ _ l hl.2
    obtain ⟨g1, g2⟩ := run_holds n m e (i + 1 + t.len + 1) (del mask (onesTo s.R mask a.toNat n)) _ u ho.2.2.1 (del_lt2 _ hm) hu hse
    have hv : uIfe a t e u < 16 := by unfold uIfe; split; exact and_lt16 (uni_lt t u ho.2.1 hu); exact del_lt' hu
    have hmid : Eqv (run n m e (i + 1 + t.len + 1) (del mask (onesTo s.R mask a.toNat n)) (run n m t (i + 1) (onesTo s.R mask a.toNat n) (beat i mask s))).R mask (uIfe a t e u) := by
      unfold uIfe
      split
      · rename_i hua
        rcases onesTo_eqv hm (fun k l hk hl => h a.toNat hua k l hk hl) with q | q
        · have hd : del mask mask = 0 := by
            apply Nat.eq_of_testBit_eq
            intro l
            rw [del_bit, Nat.zero_testBit]
            cases mask.testBit l <;> rfl
          rw [q] at p1 ⊢
          rw [hd, run_zero]
          exact p1.sub (Sub.refl _) (fun i hi => by rw [Nat.testBit_and, Bool.and_eq_true] at hi; exact hi.1)
        · rw [q] at g1 ⊢
          rw [del_zero] at g1 ⊢
          exact g1.sub (Sub.refl _) (fun i hi => by rw [Nat.testBit_and, Bool.and_eq_true] at hi; exact hi.2)
      · intro r hr k l hk hl
        rw [del_bit, Bool.and_eq_true, Bool.not_eq_true', Nat.testBit_or, Bool.or_eq_false_iff] at hr
        rw [run_keepR n m e _ _ _ k r hr.2.2, run_keepR n m t _ _ _ k r hr.2.1, run_keepR n m e _ _ _ l r hr.2.2, run_keepR n m t _ _ _ l r hr.2.1]
        exact h r hr.1 k l hk hl
    obtain ⟨r1, r2⟩ := run_holds n m k (i + 1 + t.len + 1 + e.len + 1) mask _ (uIfe a t e u) ho.2.2.2 hm hv hmid
    rw [er, uni_itee]
    refine ⟨r1, fun x hx => ?_⟩
    rcases r2 x hx with q | q
    · rcases g2 x q with q | q
      · rcases p2 x q with q | q
        · exact AtS.here q h
        · exact .inr q.left.cons
      · refine .inr (AtS.cons (AtS.right (AtS.cons q.left) ?_))
        rw [uni_len]
    · refine .inr (AtS.cons (AtS.right (AtS.cons (AtS.right (AtS.cons q) ?_)) rfl))
      rw [uni_len, uni_len]
  | .loop a b t k, i, mask, s, u, ho, hm, hu, h => by
    by_cases h0 : mask = 0
    · subst h0; rw [run_zero]; exact ⟨Eqv.zero _ _, fun _ hx => .inl hx⟩
    have e : run n m (.loop a b t k) i mask s = run n m k (i + 1 + t.len + 1) mask (turns (run n m t (i + 1)) n a.toNat b.toNat mask (beat i mask s)) := if_neg h0
    have hfix := uHead_fix t hu
    have hhu : Sub (uHead t u) u := iter_sub (fun x i hi => by unfold uTurn at hi; rw [Nat.testBit_and, Bool.and_eq_true] at hi; exact hi.1) 16 u
    have hlt : uHead t u < 16 := Nat.lt_of_le_of_lt (uHead_le t u) hu
    have hsub : Sub (uHead t u) (uni t (uHead t u)).1 := Sub.of_and hfix
    have hsh : Eqv (beat i mask s).R mask (uHead t u) := h.sub (Sub.refl _) hhu
    obtain ⟨p1, p2⟩ := turns_holds (F := run n m t (i + 1)) (n := n) (a := a.toNat) (h := uHead t u) (Q := AtS (uni t (uHead t u)).2 (i + 1)) (fun s => run_zero n m t (i + 1) s)
      (fun y s' hy hs' => by
        obtain ⟨q1, q2⟩ := run_holds n m t (i + 1) y s' (uHead t u) ho.2.2.1 hy hlt hs'
        exact ⟨q1.sub (Sub.refl _) hsub, q2⟩) b.toNat mask (beat i mask s) hm hsh
    have hv : uLoop a t u < 16 := by unfold uLoop; split; exact hlt; exact del_lt' hu
    have hmid : Eqv (turns (run n m t (i + 1)) n a.toNat b.toNat mask (beat i mask s)).R mask (uLoop a t u) := by
      unfold uLoop
      split
      · rename_i hua
        exact p2 mask hm (.inl rfl) hua hsh
      · intro r hr k l hk hl
        rw [del_bit, Bool.and_eq_true, Bool.not_eq_true'] at hr
        rw [turns_keepR (fun y s => run_keepR n m t _ _ _ k r hr.2), turns_keepR (fun y s => run_keepR n m t _ _ _ l r hr.2)]
        exact h r hr.1 k l hk hl
    obtain ⟨r1, r2⟩ := run_holds n m k (i + 1 + t.len + 1) mask _ (uLoop a t u) ho.2.2.2 hm hv hmid
    rw [e, uni_loop]
    refine ⟨r1, fun x hx => ?_⟩
    rcases r2 x hx with q | q
    · rcases p1 x q with q | q
      · exact AtS.here q h
      · exact .inr q.left.cons
    · refine .inr (AtS.cons (AtS.right (AtS.cons q) ?_))
      rw [uni_len]
/-- In every step of a run the registers that the analysis tells are the same in all active lanes. -/
theorem lock_holds {cs : List Cd} {n : Nat} {mem : List Int} (hv : PValid cs) : ∀ x ∈ (lockOf cs n mem).H, Eqv x.2.2 x.2.1 (usL cs (treeOf cs) x.1) := by
  obtain ⟨h1, h2, h3⟩ := treeOf_spec hv
  intro x hx
  have hlt : (2 ^ n - 1 : Nat) < 2 ^ n := by have := Nat.two_pow_pos n; omega
  have h := (run_holds n mem.length (treeOf cs) 0 (2 ^ n - 1) (startLS mem) 15 h2 hlt (by omega) (fun _ _ _ _ _ _ => rfl)).2 x hx
  rcases h with h | ⟨_, q2, q3⟩
  · cases h
  · have hop := run_op n mem.length (treeOf cs) 0 (2 ^ n - 1) (startLS mem) x h2 (Seg.whole h1) hx
    rcases hop with hop | hop
    · cases hop
    · unfold usL lay
      rw [if_pos ⟨⟨Nat.zero_le _, q2⟩, hop.1, hop.2⟩]
      exact q3

end Go.Proofs.Ytokdfgodmhekmaa

namespace Go.Proofs.Ytokdfgodmhekmaa
open Go.RowKit

def firstV (f : Option Nat) : Int := match f with
  | none => -1
  | some k => (k : Int)
def rowDiff (set : Nat) (R : Nat → Nat → Int) (j f : Nat) : Nat → Bool
  | 0 => false
  | r + 1 => rowDiff set R j f r || (set.testBit r && !decide (R j r = R f r))
theorem rowDiff_any (set : Nat) (R : Nat → Nat → Int) (j f : Nat) : ((List.range 4).any fun r => set.testBit r && !decide (R j r = R f r)) = rowDiff set R j f 4 := by
  simp [List.range_succ, rowDiff, Bool.or_assoc]
theorem unev_first {set mask : Nat} {R : Nat → Nat → Int} : ∀ j k, (unevTo set mask R j).1 = some k → k < j
  | 0, k, h => by simp [unevTo] at h
  | j + 1, k, h => by
    have ih := unev_first (set := set) (mask := mask) (R := R) j
    unfold unevTo at h
    simp only at h
    split at h
    · simp only [Option.some.injEq] at h
      cases hf : (unevTo set mask R j).1 with
      | none => rw [hf] at h; simp at h; omega
      | some q => rw [hf] at h; simp at h; have := ih q hf; omega
    · have := ih k h; omega
theorem unev_off {set mask : Nat} {R : Nat → Nat → Int} {j : Nat} (h : mask.testBit j = false) : unevTo set mask R (j + 1) = unevTo set mask R j := by
  show (let (f, b) := unevTo set mask R j; if mask.testBit j then _ else _) = _
  simp [h]
theorem unev_on {set mask : Nat} {R : Nat → Nat → Int} {j : Nat} (h : mask.testBit j = true) : unevTo set mask R (j + 1) = (some ((unevTo set mask R j).1.getD j), (unevTo set mask R j).2 || rowDiff set R j ((unevTo set mask R j).1.getD j) 4) := by
  rw [← rowDiff_any]
  show (let (f, b) := unevTo set mask R j; if mask.testBit j then _ else _) = _
  simp [h]

theorem held_no {P : Program} {ops : Array Oper} {S : World → Prop} {E : Act → Prop} {o : Oper} {r : List Oper} {a : Act} (hw : Region.wanted o (yielded ops a.tmps) = false) (h : Held P ops S E r (a.put o.dst undef)) : Held P ops S E (o :: r) a := ⟨undef, .inr ⟨hw, rfl⟩, h⟩
theorem Obj8.cmpSet {o : SO} {w : World} {vt : Value} {sp un : Bool} {R : Nat → Nat → Int} {M : Nat → Int} (h : Obj8 o w vt sp un) (hr : RM o.rm w R M) (b : Bool) :
    Obj8 o (w.setCell ⟨o.p, 7, none⟩ (.bool b)) vt sp b ∧ RM o.rm (w.setCell ⟨o.p, 7, none⟩ (.bool b)) R M ∧ Chg (fun c => c = o.p) w (w.setCell ⟨o.p, 7, none⟩ (.bool b)) := by
  have hc : Chg (fun c => c = o.p) w (w.setCell ⟨o.p, 7, none⟩ (.bool b)) := Chg.of_set w _ _ _ rfl
  have hap := h.apart hr
  exact ⟨h.setUn b, hr.chg hc (fun e => hap.2.1 e.symm) (fun k hk e => hap.2.2.2 k hk e.symm) (fun e => hap.2.2.1 e.symm), hc⟩

set_option maxHeartbeats 4000000 in
set_option maxRecDepth 100000 in
theorem scmp_any (o : SO) : CmpOk o := by
  intro w vt sp un R M set mask ho h hset hm
  have HO := Lib.hid ho
  have H := Lib.hid h
  have hn8 := h.n8
  have hcr := h.cr1
  have hcr2 := h.cr2
  have hplt := ho.lt
  clear ho h
  go_enter Try.func93, Try.ntmps93
  go_wp2
  go_loopg [7, 6, 8] o.rm.n (fun gk i f _ wr => ∃ j : Nat, gk + j = o.rm.n ∧ i = .int .i64 j ∧ f = .int .i64 (firstV (unevTo set mask R j).1) ∧ Obj8 o wr vt sp (un || (unevTo set mask R j).2) ∧ RM o.rm wr R M ∧ Chg (fun b => b = o.p) w wr)
  case atStart => exact ⟨0, rfl, rfl, rfl, by simpa [unevTo] using HO.out, H.out, Chg.refl _ _⟩
  case round =>
    obtain ⟨j, hgk, rfl, rfl, ho, hr, hc⟩ := hrel
    have Hgk := Lib.hid hgk
    have HOJ := Lib.hid ho
    have HRJ := Lib.hid hr
    have HCJ := Lib.hid hc
    have hjn : j ≤ o.rm.n := by omega
    have hplt := ho.lt
    obtain ⟨p0, p1, p2, p3, p4, p5, p6, p7⟩ := ho.facts
    have HOFF := Lib.hid (unev_off (set := set) (mask := mask) (R := R) (j := j))
    have HON := Lib.hid (unev_on (set := set) (mask := mask) (R := R) (j := j))
    have HFL := Lib.hid (unev_first (set := set) (mask := mask) (R := R) j)
    have HFIN : Hid (j = o.rm.n → (unevTo set mask R j).2 = unev o.rm.n set mask R) := Lib.hid (fun e => by subst e; rfl)
    obtain ⟨f, Hf⟩ : ∃ f, Hid ((unevTo set mask R j).1 = f) := ⟨_, Lib.hid rfl⟩
    obtain ⟨bu, Hbu⟩ : ∃ bu, Hid ((unevTo set mask R j).2 = bu) := ⟨_, Lib.hid rfl⟩
    rw [Hf.out, Hbu.out] at HON
    rw [Hf.out] at HFL
    rw [Hbu.out] at HFIN HOJ
    clear hgk hr hc ho p0 p2 p3 p4 p5 p6 p7
    by_cases hlt : j < o.rm.n
    · have hnn := digit_nonneg mask j
      have hbit := digit_eq0 mask j
      obtain ⟨D, HD⟩ : ∃ D, Hid (mask.testBit j = D) := ⟨_, Lib.hid rfl⟩
      rw [HD.out] at hbit HOFF HON
      cases D
      · rw [Bool.not_false] at hbit
        rw [Hf.out]
        go_wp2
        go_roundg (o.rm.n - (j + 1))
        case measure => have := Hgk.out; omega
        case rel => exact ⟨j + 1, by have := Hgk.out; omega, by go_num, by rw [HOFF.out (by trivial), Hf.out], by rw [HOFF.out (by trivial), Hbu.out]; exact HOJ.out, HRJ.out, HCJ.out⟩
      · rw [Bool.not_true] at hbit
        have hfl : f.getD j < o.rm.n := by
          cases f with
          | none => exact hlt
          | some q => have := HFL.out q rfl; show q < _; omega
        rw [Hf.out]
        obtain ⟨fj, Hfj⟩ : ∃ fj, Hid (f.getD j = fj) := ⟨_, Lib.hid rfl⟩
        rw [Hfj.out] at hfl HON
        have hfv : decide (firstV f < 0) = f.isNone := by
          cases f with
          | none => rfl
          | some q => show decide ((q : Int) < 0) = false; simp
        have hfs : f.isNone = false → firstV f = (fj : Int) := fun hs => by
          rw [← Hfj.out]
          cases f with
          | none => cases hs
          | some q => rfl
        have HFS := Lib.hid hfs
        have hft : f.isNone = true → fj = j := fun hs => by
          rw [← Hfj.out]
          cases f with
          | none => rfl
          | some q => cases hs
        have HFT := Lib.hid hft
        clear hfs hft
        obtain ⟨fv, Hfv⟩ : ∃ fv, Hid (firstV f = fv) := ⟨_, Lib.hid rfl⟩
        rw [Hfv.out] at hfv HFS ⊢
        obtain ⟨N, HN⟩ : ∃ N, Hid (f.isNone = N) := ⟨_, Lib.hid rfl⟩
        rw [HN.out] at hfv HFS HFT
        cases N
        case' true =>
          have e := (HFT.out (by trivial)).symm
          subst e
          go_wp2_with fail
          go_loopg [8] 4 (fun g2 i wr => ∃ r : Nat, g2 + r = 4 ∧ i = .int .i64 r ∧ Obj8 o wr vt sp ((un || bu) || rowDiff set R j j r) ∧ RM o.rm wr R M ∧ Chg (fun b => b = o.p) w wr)
          case atStart => exact ⟨0, rfl, rfl, by simpa [rowDiff] using HOJ.out, HRJ.out, HCJ.out⟩
          case round =>
            obtain ⟨r, hg2, rfl, ho2, hr2, hc2⟩ := hrel
            have Hg2 := Lib.hid hg2
            have HO2 := Lib.hid ho2
            have HR2 := Lib.hid hr2
            have HC2 := Lib.hid hc2
            have hr4 : r ≤ 4 := by omega
            have hplt2 := ho2.lt
            have f7 := ho2.frozen 7
            obtain ⟨p0, p1, p2, p3, p4, p5, p6, p7⟩ := ho2.facts
            unfold RMo.vr at p2
            have HNX : Hid (rowDiff set R j j (r + 1) = (rowDiff set R j j r || (set.testBit r && !decide (R j r = R j r)))) := Lib.hid rfl
            obtain ⟨U, HU⟩ : ∃ U, Hid (((un || bu) || rowDiff set R j j r) = U) := ⟨_, Lib.hid rfl⟩
            rw [HU.out] at p7
            clear hg2 ho2 hr2 hc2 p0 p1 p3 p4 p5 p6
            by_cases hlt2 : r < 4
            · have hsn := digit_nonneg set r
              have hsb := digit_eq1 set r
              have hsb2 : (((set : Int) / 2 ^ r).tmod 2 == 1) = set.testBit r := by rw [Int.tmod_eq_emod_of_nonneg hsn]; exact hsb
              have HSB := Lib.hid hsb2
              clear hsb2
              obtain ⟨E, HE⟩ : ∃ E, Hid (set.testBit r = E) := ⟨_, Lib.hid rfl⟩
              rw [HE.out] at hsb HNX HSB
              have q1 := HR2.out.outerCell hlt
              have q2 := HR2.out.outerCell hfl
              unfold RMo.row at q1 q2
              have q3 := HR2.out.regCell hlt hlt2
              have q4 := HR2.out.regCell hfl hlt2
              obtain ⟨x, Hx⟩ : ∃ x, Hid (R j r = x) := ⟨_, Lib.hid rfl⟩
              rw [Hx.out] at q3 q4 HNX
              have hj0 : (0 : Int) ≤ (j : Int) := by omega
              have hjI : (j : Int) < (o.rm.n : Int) := by omega
              have hf0 : (0 : Int) ≤ (j : Int) := by omega
              have hfI : (j : Int) < (o.rm.n : Int) := by omega
              have hr0 : (0 : Int) ≤ (r : Int) := by omega
              have hrI : (r : Int) < 4 := by omega
              obtain ⟨V, HV⟩ : ∃ V, Hid (((un || bu) || rowDiff set R j j (r + 1)) = V) := ⟨_, Lib.hid rfl⟩
              have hv : V = (U || (E && (x != x))) := by
                have hxy : (x != x) = !decide (x = x) := by by_cases e : x = x <;> simp
                rw [← HV.out, ← HU.out, HNX.out, hxy]
                cases un <;> cases bu <;> simp
              have HS := Lib.hid (HO2.out.cmpSet HR2.out V)
              obtain ⟨Z, HZ⟩ : ∃ Z, Hid ((x != x) = Z) := ⟨_, Lib.hid rfl⟩
              have hz := HZ.out
              rw [hz] at hv
              have HVV := Lib.hid hv
              clear hv
              cases U
              case true =>
                have hV : V = true := by rw [HVV.out]; rfl
                rw [hV] at HS
                go_wp2_with fail
                refine region_heldF (fun w' => w'.cell? ⟨o.p, 7, none⟩ = some (.bool true) ∧ w'.cell? ⟨o.p, 2, none⟩ = some (.slice (some ⟨o.rm.gr, 0, none⟩) o.rm.n o.rm.cr) ∧ w'.cell? ⟨o.rm.gr, j, none⟩ = some (.slice (some ⟨o.rm.rows j, 0, none⟩) 4 4) ∧ w'.cell? ⟨o.rm.rows j, r, none⟩ = some (.int .i64 x))
                  (List.range 37) [37] (fun l => List.take 37 l) (fun l => List.drop 37 l) (by kernel_rfl) (by kernel_rfl) (by kernel_rfl) (by kernel_rfl) (fun c a d v w h => by cases d <;> exact h) (by exact ⟨keepPc (by repeat (first | assumption | exact Pure.refl _ | refine Pure.drewN ?_ _ | refine Pure.drew ?_ | refine Pure.alloc ?_ _ | refine Pure.setCell ?_ (by simp <;> omega) _)) p7, keepPc (by repeat (first | assumption | exact Pure.refl _ | refine Pure.drewN ?_ _ | refine Pure.drew ?_ | refine Pure.alloc ?_ _ | refine Pure.setCell ?_ (by simp <;> omega) _)) p2, keepPc (by repeat (first | assumption | exact Pure.refl _ | refine Pure.drewN ?_ _ | refine Pure.drew ?_ | refine Pure.alloc ?_ _ | refine Pure.setCell ?_ (by simp <;> omega) _)) q1, keepPc (by repeat (first | assumption | exact Pure.refl _ | refine Pure.drewN ?_ _ | refine Pure.drew ?_ | refine Pure.alloc ?_ _ | refine Pure.setCell ?_ (by simp <;> omega) _)) q3⟩) ?_
                simp only [List.take_succ_cons, List.take_zero, List.drop_succ_cons, List.drop_zero]
                iterate 37
                  first
                    | (refine held_no (by exact rfl) ?_)
                    | (apply held_of
                       · exact rfl
                       · intro w' hS
                         obtain ⟨s0, s1, s2, s4⟩ := hS
                         go_simp
                         try exact rfl)
                  try go_simp
                  try simp only [HSB.out]
                refine held_nil ?_
                unfold Tail
                go_wp2
                go_roundg (4 - (r + 1))
                case measure => have := Hg2.out; omega
                case rel => exact ⟨r + 1, by have := Hg2.out; omega, by go_num, by rw [HV.out, hV]; exact HS.out.1, HS.out.2.1.pure (Pure.drew (Pure.refl _)), (HC2.out.trans HS.out.2.2).trans (Chg.of_pure (Pure.drew (Pure.refl _)))⟩
              case false =>
              cases E
              case false =>
                have hV : V = false := by rw [HVV.out]; simp
                rw [hV] at HS
                go_wp2_with fail
                refine region_heldF (fun w' => w'.cell? ⟨o.p, 7, none⟩ = some (.bool false) ∧ w'.cell? ⟨o.p, 2, none⟩ = some (.slice (some ⟨o.rm.gr, 0, none⟩) o.rm.n o.rm.cr) ∧ w'.cell? ⟨o.rm.gr, j, none⟩ = some (.slice (some ⟨o.rm.rows j, 0, none⟩) 4 4) ∧ w'.cell? ⟨o.rm.rows j, r, none⟩ = some (.int .i64 x))
                  (List.range 37) [37] (fun l => List.take 37 l) (fun l => List.drop 37 l) (by kernel_rfl) (by kernel_rfl) (by kernel_rfl) (by kernel_rfl) (fun c a d v w h => by cases d <;> exact h) (by exact ⟨keepPc (by repeat (first | assumption | exact Pure.refl _ | refine Pure.drewN ?_ _ | refine Pure.drew ?_ | refine Pure.alloc ?_ _ | refine Pure.setCell ?_ (by simp <;> omega) _)) p7, keepPc (by repeat (first | assumption | exact Pure.refl _ | refine Pure.drewN ?_ _ | refine Pure.drew ?_ | refine Pure.alloc ?_ _ | refine Pure.setCell ?_ (by simp <;> omega) _)) p2, keepPc (by repeat (first | assumption | exact Pure.refl _ | refine Pure.drewN ?_ _ | refine Pure.drew ?_ | refine Pure.alloc ?_ _ | refine Pure.setCell ?_ (by simp <;> omega) _)) q1, keepPc (by repeat (first | assumption | exact Pure.refl _ | refine Pure.drewN ?_ _ | refine Pure.drew ?_ | refine Pure.alloc ?_ _ | refine Pure.setCell ?_ (by simp <;> omega) _)) q3⟩) ?_
                simp only [List.take_succ_cons, List.take_zero, List.drop_succ_cons, List.drop_zero]
                iterate 37
                  first
                    | (refine held_no (by exact rfl) ?_)
                    | (apply held_of
                       · exact rfl
                       · intro w' hS
                         obtain ⟨s0, s1, s2, s4⟩ := hS
                         go_simp
                         try exact rfl)
                  try go_simp
                  try simp only [HSB.out]
                refine held_nil ?_
                unfold Tail
                go_wp2
                go_roundg (4 - (r + 1))
                case measure => have := Hg2.out; omega
                case rel => exact ⟨r + 1, by have := Hg2.out; omega, by go_num, by rw [HV.out, hV]; exact HS.out.1, HS.out.2.1.pure (Pure.drew (Pure.refl _)), (HC2.out.trans HS.out.2.2).trans (Chg.of_pure (Pure.drew (Pure.refl _)))⟩
              case true =>
              have hz0 : Z = false := by rw [← HZ.out]; simp
              subst hz0
              have hV : V = false := by rw [HVV.out]; simp
              rw [hV] at HS
              go_wp2_with fail
              refine region_heldF (fun w' => w'.cell? ⟨o.p, 7, none⟩ = some (.bool false) ∧ w'.cell? ⟨o.p, 2, none⟩ = some (.slice (some ⟨o.rm.gr, 0, none⟩) o.rm.n o.rm.cr) ∧ w'.cell? ⟨o.rm.gr, j, none⟩ = some (.slice (some ⟨o.rm.rows j, 0, none⟩) 4 4) ∧ w'.cell? ⟨o.rm.rows j, r, none⟩ = some (.int .i64 x))
                (List.range 37) [37] (fun l => List.take 37 l) (fun l => List.drop 37 l) (by kernel_rfl) (by kernel_rfl) (by kernel_rfl) (by kernel_rfl) (fun c a d v w h => by cases d <;> exact h) (by exact ⟨keepPc (by repeat (first | assumption | exact Pure.refl _ | refine Pure.drewN ?_ _ | refine Pure.drew ?_ | refine Pure.alloc ?_ _ | refine Pure.setCell ?_ (by simp <;> omega) _)) p7, keepPc (by repeat (first | assumption | exact Pure.refl _ | refine Pure.drewN ?_ _ | refine Pure.drew ?_ | refine Pure.alloc ?_ _ | refine Pure.setCell ?_ (by simp <;> omega) _)) p2, keepPc (by repeat (first | assumption | exact Pure.refl _ | refine Pure.drewN ?_ _ | refine Pure.drew ?_ | refine Pure.alloc ?_ _ | refine Pure.setCell ?_ (by simp <;> omega) _)) q1, keepPc (by repeat (first | assumption | exact Pure.refl _ | refine Pure.drewN ?_ _ | refine Pure.drew ?_ | refine Pure.alloc ?_ _ | refine Pure.setCell ?_ (by simp <;> omega) _)) q3⟩) ?_
              simp only [List.take_succ_cons, List.take_zero, List.drop_succ_cons, List.drop_zero]
              iterate 37
                first
                  | (refine held_no (by exact rfl) ?_)
                  | (apply held_of
                     · exact rfl
                     · intro w' hS
                       obtain ⟨s0, s1, s2, s4⟩ := hS
                       go_simp
                       try exact rfl)
                try go_simp
                try simp only [HSB.out]
              refine held_nil ?_
              unfold Tail
              go_wp2
              go_roundg (4 - (r + 1))
              case measure => have := Hg2.out; omega
              case rel => exact ⟨r + 1, by have := Hg2.out; omega, by go_num, by rw [HV.out, hV]; exact HS.out.1, HS.out.2.1.pure (Pure.drew (Pure.refl _)), (HC2.out.trans HS.out.2.2).trans (Chg.of_pure (Pure.drew (Pure.refl _)))⟩
            · have hr5 : r = 4 := by omega
              subst hr5
              go_wp2
              go_roundg (o.rm.n - (j + 1))
              case measure => have := Hgk.out; omega
              case rel => exact ⟨j + 1, by have := Hgk.out; omega, by go_num, by rw [HON.out (by trivial)] <;> rfl, by rw [HON.out (by trivial), ← Bool.or_assoc]; exact HO2.out, HR2.out, HC2.out⟩
        case' false =>
          have e := HFS.out (by trivial)
          subst e
          go_wp2_with fail
          go_loopg [8] 4 (fun g2 i wr => ∃ r : Nat, g2 + r = 4 ∧ i = .int .i64 r ∧ Obj8 o wr vt sp ((un || bu) || rowDiff set R j fj r) ∧ RM o.rm wr R M ∧ Chg (fun b => b = o.p) w wr)
          case atStart => exact ⟨0, rfl, rfl, by simpa [rowDiff] using HOJ.out, HRJ.out, HCJ.out⟩
          case round =>
            obtain ⟨r, hg2, rfl, ho2, hr2, hc2⟩ := hrel
            have Hg2 := Lib.hid hg2
            have HO2 := Lib.hid ho2
            have HR2 := Lib.hid hr2
            have HC2 := Lib.hid hc2
            have hr4 : r ≤ 4 := by omega
            have hplt2 := ho2.lt
            have f7 := ho2.frozen 7
            obtain ⟨p0, p1, p2, p3, p4, p5, p6, p7⟩ := ho2.facts
            unfold RMo.vr at p2
            have HNX : Hid (rowDiff set R j fj (r + 1) = (rowDiff set R j fj r || (set.testBit r && !decide (R j r = R fj r)))) := Lib.hid rfl
            obtain ⟨U, HU⟩ : ∃ U, Hid (((un || bu) || rowDiff set R j fj r) = U) := ⟨_, Lib.hid rfl⟩
            rw [HU.out] at p7
            clear hg2 ho2 hr2 hc2 p0 p1 p3 p4 p5 p6
            by_cases hlt2 : r < 4
            · have hsn := digit_nonneg set r
              have hsb := digit_eq1 set r
              have hsb2 : (((set : Int) / 2 ^ r).tmod 2 == 1) = set.testBit r := by rw [Int.tmod_eq_emod_of_nonneg hsn]; exact hsb
              have HSB := Lib.hid hsb2
              clear hsb2
              obtain ⟨E, HE⟩ : ∃ E, Hid (set.testBit r = E) := ⟨_, Lib.hid rfl⟩
              rw [HE.out] at hsb HNX HSB
              have q1 := HR2.out.outerCell hlt
              have q2 := HR2.out.outerCell hfl
              unfold RMo.row at q1 q2
              have q3 := HR2.out.regCell hlt hlt2
              have q4 := HR2.out.regCell hfl hlt2
              obtain ⟨x, Hx⟩ : ∃ x, Hid (R j r = x) := ⟨_, Lib.hid rfl⟩
              obtain ⟨y, Hy⟩ : ∃ y, Hid (R fj r = y) := ⟨_, Lib.hid rfl⟩
              rw [Hx.out] at q3 HNX
              rw [Hy.out] at q4 HNX
              have hj0 : (0 : Int) ≤ (j : Int) := by omega
              have hjI : (j : Int) < (o.rm.n : Int) := by omega
              have hf0 : (0 : Int) ≤ (fj : Int) := by omega
              have hfI : (fj : Int) < (o.rm.n : Int) := by omega
              have hr0 : (0 : Int) ≤ (r : Int) := by omega
              have hrI : (r : Int) < 4 := by omega
              obtain ⟨V, HV⟩ : ∃ V, Hid (((un || bu) || rowDiff set R j fj (r + 1)) = V) := ⟨_, Lib.hid rfl⟩
              have hv : V = (U || (E && (x != y))) := by
                have hxy : (x != y) = !decide (x = y) := by by_cases e : x = y <;> simp [e]
                rw [← HV.out, ← HU.out, HNX.out, hxy]
                cases un <;> cases bu <;> simp
              have HS := Lib.hid (HO2.out.cmpSet HR2.out V)
              obtain ⟨Z, HZ⟩ : ∃ Z, Hid ((x != y) = Z) := ⟨_, Lib.hid rfl⟩
              have hz := HZ.out
              rw [hz] at hv
              have HVV := Lib.hid hv
              clear hv
              cases U
              case true =>
                have hV : V = true := by rw [HVV.out]; rfl
                rw [hV] at HS
                go_wp2_with fail
                refine region_heldF (fun w' => w'.cell? ⟨o.p, 7, none⟩ = some (.bool true) ∧ w'.cell? ⟨o.p, 2, none⟩ = some (.slice (some ⟨o.rm.gr, 0, none⟩) o.rm.n o.rm.cr) ∧ w'.cell? ⟨o.rm.gr, j, none⟩ = some (.slice (some ⟨o.rm.rows j, 0, none⟩) 4 4) ∧ w'.cell? ⟨o.rm.gr, fj, none⟩ = some (.slice (some ⟨o.rm.rows fj, 0, none⟩) 4 4) ∧ w'.cell? ⟨o.rm.rows j, r, none⟩ = some (.int .i64 x) ∧ w'.cell? ⟨o.rm.rows fj, r, none⟩ = some (.int .i64 y))
                  (List.range 37) [37] (fun l => List.take 37 l) (fun l => List.drop 37 l) (by kernel_rfl) (by kernel_rfl) (by kernel_rfl) (by kernel_rfl) (fun c a d v w h => by cases d <;> exact h) (by exact ⟨keepPc (by repeat (first | assumption | exact Pure.refl _ | refine Pure.drewN ?_ _ | refine Pure.drew ?_ | refine Pure.alloc ?_ _ | refine Pure.setCell ?_ (by simp <;> omega) _)) p7, keepPc (by repeat (first | assumption | exact Pure.refl _ | refine Pure.drewN ?_ _ | refine Pure.drew ?_ | refine Pure.alloc ?_ _ | refine Pure.setCell ?_ (by simp <;> omega) _)) p2, keepPc (by repeat (first | assumption | exact Pure.refl _ | refine Pure.drewN ?_ _ | refine Pure.drew ?_ | refine Pure.alloc ?_ _ | refine Pure.setCell ?_ (by simp <;> omega) _)) q1, keepPc (by repeat (first | assumption | exact Pure.refl _ | refine Pure.drewN ?_ _ | refine Pure.drew ?_ | refine Pure.alloc ?_ _ | refine Pure.setCell ?_ (by simp <;> omega) _)) q2, keepPc (by repeat (first | assumption | exact Pure.refl _ | refine Pure.drewN ?_ _ | refine Pure.drew ?_ | refine Pure.alloc ?_ _ | refine Pure.setCell ?_ (by simp <;> omega) _)) q3, keepPc (by repeat (first | assumption | exact Pure.refl _ | refine Pure.drewN ?_ _ | refine Pure.drew ?_ | refine Pure.alloc ?_ _ | refine Pure.setCell ?_ (by simp <;> omega) _)) q4⟩) ?_
                simp only [List.take_succ_cons, List.take_zero, List.drop_succ_cons, List.drop_zero]
                iterate 37
                  first
                    | (refine held_no (by exact rfl) ?_)
                    | (apply held_of
                       · exact rfl
                       · intro w' hS
                         obtain ⟨s0, s1, s2, s3, s4, s5⟩ := hS
                         go_simp
                         try exact rfl)
                  try go_simp
                  try simp only [HSB.out]
                refine held_nil ?_
                unfold Tail
                go_wp2
                go_roundg (4 - (r + 1))
                case measure => have := Hg2.out; omega
                case rel => exact ⟨r + 1, by have := Hg2.out; omega, by go_num, by rw [HV.out, hV]; exact HS.out.1, HS.out.2.1.pure (Pure.drew (Pure.refl _)), (HC2.out.trans HS.out.2.2).trans (Chg.of_pure (Pure.drew (Pure.refl _)))⟩
              case false =>
              cases E
              case false =>
                have hV : V = false := by rw [HVV.out]; simp
                rw [hV] at HS
                go_wp2_with fail
                refine region_heldF (fun w' => w'.cell? ⟨o.p, 7, none⟩ = some (.bool false) ∧ w'.cell? ⟨o.p, 2, none⟩ = some (.slice (some ⟨o.rm.gr, 0, none⟩) o.rm.n o.rm.cr) ∧ w'.cell? ⟨o.rm.gr, j, none⟩ = some (.slice (some ⟨o.rm.rows j, 0, none⟩) 4 4) ∧ w'.cell? ⟨o.rm.gr, fj, none⟩ = some (.slice (some ⟨o.rm.rows fj, 0, none⟩) 4 4) ∧ w'.cell? ⟨o.rm.rows j, r, none⟩ = some (.int .i64 x) ∧ w'.cell? ⟨o.rm.rows fj, r, none⟩ = some (.int .i64 y))
                  (List.range 37) [37] (fun l => List.take 37 l) (fun l => List.drop 37 l) (by kernel_rfl) (by kernel_rfl) (by kernel_rfl) (by kernel_rfl) (fun c a d v w h => by cases d <;> exact h) (by exact ⟨keepPc (by repeat (first | assumption | exact Pure.refl _ | refine Pure.drewN ?_ _ | refine Pure.drew ?_ | refine Pure.alloc ?_ _ | refine Pure.setCell ?_ (by simp <;> omega) _)) p7, keepPc (by repeat (first | assumption | exact Pure.refl _ | refine Pure.drewN ?_ _ | refine Pure.drew ?_ | refine Pure.alloc ?_ _ | refine Pure.setCell ?_ (by simp <;> omega) _)) p2, keepPc (by repeat (first | assumption | exact Pure.refl _ | refine Pure.drewN ?_ _ | refine Pure.drew ?_ | refine Pure.alloc ?_ _ | refine Pure.setCell ?_ (by simp <;> omega) _)) q1, keepPc (by repeat (first | assumption | exact Pure.refl _ | refine Pure.drewN ?_ _ | refine Pure.drew ?_ | refine Pure.alloc ?_ _ | refine Pure.setCell ?_ (by simp <;> omega) _)) q2, keepPc (by repeat (first | assumption | exact Pure.refl _ | refine Pure.drewN ?_ _ | refine Pure.drew ?_ | refine Pure.alloc ?_ _ | refine Pure.setCell ?_ (by simp <;> omega) _)) q3, keepPc (by repeat (first | assumption | exact Pure.refl _ | refine Pure.drewN ?_ _ | refine Pure.drew ?_ | refine Pure.alloc ?_ _ | refine Pure.setCell ?_ (by simp <;> omega) _)) q4⟩) ?_
                simp only [List.take_succ_cons, List.take_zero, List.drop_succ_cons, List.drop_zero]
                iterate 37
                  first
                    | (refine held_no (by exact rfl) ?_)
                    | (apply held_of
                       · exact rfl
                       · intro w' hS
                         obtain ⟨s0, s1, s2, s3, s4, s5⟩ := hS
                         go_simp
                         try exact rfl)
                  try go_simp
                  try simp only [HSB.out]
                refine held_nil ?_
                unfold Tail
                go_wp2
                go_roundg (4 - (r + 1))
                case measure => have := Hg2.out; omega
                case rel => exact ⟨r + 1, by have := Hg2.out; omega, by go_num, by rw [HV.out, hV]; exact HS.out.1, HS.out.2.1.pure (Pure.drew (Pure.refl _)), (HC2.out.trans HS.out.2.2).trans (Chg.of_pure (Pure.drew (Pure.refl _)))⟩
              case true =>
              have hV : V = Z := by rw [HVV.out]; simp
              rw [hV] at HS
              go_wp2_with fail
              refine region_heldF (fun w' => w'.cell? ⟨o.p, 7, none⟩ = some (.bool false) ∧ w'.cell? ⟨o.p, 2, none⟩ = some (.slice (some ⟨o.rm.gr, 0, none⟩) o.rm.n o.rm.cr) ∧ w'.cell? ⟨o.rm.gr, j, none⟩ = some (.slice (some ⟨o.rm.rows j, 0, none⟩) 4 4) ∧ w'.cell? ⟨o.rm.gr, fj, none⟩ = some (.slice (some ⟨o.rm.rows fj, 0, none⟩) 4 4) ∧ w'.cell? ⟨o.rm.rows j, r, none⟩ = some (.int .i64 x) ∧ w'.cell? ⟨o.rm.rows fj, r, none⟩ = some (.int .i64 y))
                (List.range 37) [37] (fun l => List.take 37 l) (fun l => List.drop 37 l) (by kernel_rfl) (by kernel_rfl) (by kernel_rfl) (by kernel_rfl) (fun c a d v w h => by cases d <;> exact h) (by exact ⟨keepPc (by repeat (first | assumption | exact Pure.refl _ | refine Pure.drewN ?_ _ | refine Pure.drew ?_ | refine Pure.alloc ?_ _ | refine Pure.setCell ?_ (by simp <;> omega) _)) p7, keepPc (by repeat (first | assumption | exact Pure.refl _ | refine Pure.drewN ?_ _ | refine Pure.drew ?_ | refine Pure.alloc ?_ _ | refine Pure.setCell ?_ (by simp <;> omega) _)) p2, keepPc (by repeat (first | assumption | exact Pure.refl _ | refine Pure.drewN ?_ _ | refine Pure.drew ?_ | refine Pure.alloc ?_ _ | refine Pure.setCell ?_ (by simp <;> omega) _)) q1, keepPc (by repeat (first | assumption | exact Pure.refl _ | refine Pure.drewN ?_ _ | refine Pure.drew ?_ | refine Pure.alloc ?_ _ | refine Pure.setCell ?_ (by simp <;> omega) _)) q2, keepPc (by repeat (first | assumption | exact Pure.refl _ | refine Pure.drewN ?_ _ | refine Pure.drew ?_ | refine Pure.alloc ?_ _ | refine Pure.setCell ?_ (by simp <;> omega) _)) q3, keepPc (by repeat (first | assumption | exact Pure.refl _ | refine Pure.drewN ?_ _ | refine Pure.drew ?_ | refine Pure.alloc ?_ _ | refine Pure.setCell ?_ (by simp <;> omega) _)) q4⟩) ?_
              simp only [List.take_succ_cons, List.take_zero, List.drop_succ_cons, List.drop_zero]
              iterate 37
                first
                  | (refine held_no (by exact rfl) ?_)
                  | (apply held_of
                     · exact rfl
                     · intro w' hS
                       obtain ⟨s0, s1, s2, s3, s4, s5⟩ := hS
                       go_simp
                       try exact rfl)
                try go_simp
                try simp only [HSB.out]
              refine held_nil ?_
              unfold Tail
              go_wp2
              go_roundg (4 - (r + 1))
              case measure => have := Hg2.out; omega
              case rel => exact ⟨r + 1, by have := Hg2.out; omega, by go_num, by rw [HV.out, hV]; exact HS.out.1, HS.out.2.1.pure (Pure.drew (Pure.refl _)), (HC2.out.trans HS.out.2.2).trans (Chg.of_pure (Pure.drew (Pure.refl _)))⟩
            · have hr5 : r = 4 := by omega
              subst hr5
              go_wp2
              go_roundg (o.rm.n - (j + 1))
              case measure => have := Hgk.out; omega
              case rel => exact ⟨j + 1, by have := Hgk.out; omega, by go_num, by rw [HON.out (by trivial)] <;> rfl, by rw [HON.out (by trivial), ← Bool.or_assoc]; exact HO2.out, HR2.out, HC2.out⟩
    · have hjl : j = o.rm.n := by omega
      rw [Hf.out]
      go_wp2
      go_end0
      exact ⟨rfl, by rw [← HFIN.out hjl]; exact HOJ.out, HRJ.out, HCJ.out⟩

end Go.Proofs.Ytokdfgodmhekmaa
