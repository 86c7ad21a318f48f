/- Lanes that run by themselves, those at the least place first, make the steps of lockstep, if no barrier is split. No program in sight. No condition. -/
import Derived.Test.YtkolnakcgjlcgaaQae

namespace Go.Proofs.Ytkolnakcgjlcgaa

/-- No barrier is executed by some lanes only. -/
def NoSp (cs : List Cd) (n : Nat) (H : List (Nat × Nat × (Nat → Nat → Int))) : Prop := ∀ x ∈ H, (cs.getD x.1 default).op = 10 → x.2.1 = 2 ^ n - 1
theorem lanesTo_Pf (c : Cd) (m mask : Nat) (s : LS) : ∀ j, (lanesTo c m mask j s).P = s.P
  | 0 => rfl
  | j + 1 => by
    unfold lanesTo; split
    · exact lanesTo_Pf c m mask s j
    · exact lanesTo_Pf c m mask s j
theorem lanesTo_Hf (c : Cd) (m mask : Nat) (s : LS) : ∀ j, (lanesTo c m mask j s).H = s.H
  | 0 => rfl
  | j + 1 => by
    unfold lanesTo; split
    · exact lanesTo_Hf c m mask s j
    · exact lanesTo_Hf c m mask s j
theorem exec_Hf (c : Cd) (n m i mask : Nat) (s : LS) : (exec c n m i mask s).H = s.H ++ [(i, mask, s.R)] := by
  unfold exec; simp only
  split
  · exact lanesTo_Hf c m mask _ n
  · exact lanesTo_Hf c m mask _ n
theorem turns_mono {F : Nat → LS → LS} {n a : Nat} (hF : ∀ y s x, x ∈ s.H → x ∈ (F y s).H) : ∀ (b y : Nat) (s : LS) (x), x ∈ s.H → x ∈ (turns F n a b y s).H
  | 0, _, _, _, h => h
  | b + 1, _, _, _, h => turns_mono hF b _ _ _ (hF _ _ _ h)
theorem run_mono (n m : Nat) : ∀ (t : Tr) (i mask : Nat) (s : LS) (x), x ∈ s.H → x ∈ (run n m t i mask s).H
  | .nil, _, _, _, _, h => h
  | .op c k, i, mask, s, x, h => by
    unfold run; split
    · exact h
    · exact run_mono n m k _ _ _ _ (by rw [exec_Hf]; exact List.mem_append_left _ h)
  | .ite a t k, i, mask, s, x, h => by
    unfold run; split
    · exact h
    · exact run_mono n m k _ _ _ _ (run_mono n m t _ _ _ _ (List.mem_append_left _ h))
  | .itee a t e k, i, mask, s, x, h => by
    unfold run; split
    · exact h
    · exact run_mono n m k _ _ _ _ (run_mono n m e _ _ _ _ (run_mono n m t _ _ _ _ (List.mem_append_left _ h)))
  | .loop a b t k, i, mask, s, x, h => by
    unfold run; split
    · exact h
    · exact run_mono n m k _ _ _ _ (turns_mono (fun y s x hx => run_mono n m t _ _ _ _ hx) _ _ _ _ (List.mem_append_left _ h))

/-- The lanes by themselves hold what the lanes in lockstep hold. -/
structure Syn (n : Nat) (s : LS) (c : CS) : Prop where
  all : ∀ l, l < n → (c.L l).R = s.R l ∧ (c.L l).W = false
  mem : c.M = s.M
  ac : c.A = s.A
  ph : c.P = s.P
  hi : c.H = s.H.map fun x => (x.1, x.2.1)
/-- The lanes of a mask are at one place. -/
def Plc (n mask i : Nat) (F : List Fr) (c : CS) : Prop := ∀ l, l < n → mask.testBit l = true → (c.L l).at_ = i ∧ (c.L l).T = frT F
def Far (n mask b : Nat) (c : CS) : Prop := ∀ l, l < n → mask.testBit l = false → b ≤ (c.L l).at_
def Same (n mask : Nat) (c c' : CS) : Prop := ∀ l, l < n → mask.testBit l = false → c'.L l = c.L l
theorem Same.refl (n mask : Nat) (c : CS) : Same n mask c c := fun _ _ _ => rfl
theorem Same.trans {n mask : Nat} {a b c : CS} (h : Same n mask a b) (k : Same n mask b c) : Same n mask a c := fun l hl hb => (k l hl hb).trans (h l hl hb)
theorem Far.same {n mask b : Nat} {c c' : CS} (h : Far n mask b c) (k : Same n mask c c') : Far n mask b c' := fun l hl hb => by rw [k l hl hb]; exact h l hl hb
theorem Far.le {n mask b b' : Nat} {c : CS} (h : Far n mask b c) (hb : b' ≤ b) : Far n mask b' c := fun l hl hx => Nat.le_trans hb (h l hl hx)

theorem lnStep_plain {cs : List Cd} {m id : Nat} {l : Ln} {M : Nat → Int} {c : Cd} (hc : cs.getD l.at_ default = c) (hp : Plain c) : lnStep cs m id l M = { l with R := simR c id m l.R M, at_ := l.at_ + 1, W := if c.op = 10 then true else l.W } := by
  obtain ⟨p1, p2, p3, p4⟩ := hp.2
  unfold lnStep
  simp only [hc]
  by_cases h10 : c.op = 10
  · rw [if_pos h10, if_pos h10]
    have : simR c id m l.R M = l.R := by unfold simR; simp [h10]
    rw [this]
  · rw [if_neg h10, if_neg p1, if_neg p2, if_neg p3, if_neg p4, if_neg h10]
theorem step_plain {cs : List Cd} {n m mask p : Nat} {c : Cd} {x : CS} {s : LS} (hc : cs.getD p default = c) (hp : Plain c) (ha : ∀ l, l < n → mask.testBit l = true → (x.L l).at_ = p)
    (hR : ∀ l, l < n → (x.L l).R = s.R l) (hM : x.M = s.M) (hA : x.A = s.A) (hP : x.P = s.P) : ∀ j, j ≤ n →
    (∀ l, l < n → (stepTo cs m mask j x).L l = if l < j ∧ mask.testBit l = true then { x.L l with R := (lanesTo c m mask j s).R l, at_ := p + 1, W := if c.op = 10 then true else (x.L l).W } else x.L l) ∧
    (∀ l, ¬ (l < j ∧ mask.testBit l = true) → (lanesTo c m mask j s).R l = s.R l) ∧
    (stepTo cs m mask j x).M = (lanesTo c m mask j s).M ∧ (stepTo cs m mask j x).A = (lanesTo c m mask j s).A
  | 0, _ => ⟨fun l _ => by simp [stepTo], fun _ _ => rfl, hM, hA⟩
  | j + 1, hj => by
    obtain ⟨g1, g2, g3, g4⟩ := step_plain (m := m) hc hp ha hR hM hA hP j (by omega)
    unfold stepTo lanesTo
    by_cases hb : mask.testBit j = true
    · rw [if_pos hb, if_pos hb]
      have e0 : (stepTo cs m mask j x).L j = x.L j := by rw [g1 j (by omega), if_neg (by omega)]
      have e1 : (lanesTo c m mask j s).R j = s.R j := g2 j (by omega)
      have e2 := ha j (by omega) hb
      have e3 := hR j (by omega)
      have e4 : cs.getD (x.L j).at_ default = c := by rw [e2]; exact hc
      have e5 : lnStep cs m j (x.L j) (lanesTo c m mask j s).M = { x.L j with R := simR c j m (s.R j) (lanesTo c m mask j s).M, at_ := p + 1, W := if c.op = 10 then true else (x.L j).W } := by
        rw [lnStep_plain e4 hp, e2, e3]
      refine ⟨fun l hl => ?_, fun l hl => ?_, ?_, ?_⟩
      · show (if l = j then lnStep cs m j ((stepTo cs m mask j x).L j) (stepTo cs m mask j x).M else (stepTo cs m mask j x).L l) = _
        rw [e0, g3, e5]
        by_cases e : l = j
        · subst e
          rw [if_pos (rfl : l = l), if_pos (⟨by omega, hb⟩ : l < l + 1 ∧ mask.testBit l = true), show (lane1 c m l (lanesTo c m mask l s)).R l = simR c l m ((lanesTo c m mask l s).R l) (lanesTo c m mask l s).M from if_pos rfl, e1]
        · rw [if_neg e, g1 l hl]
          have : (lane1 c m j (lanesTo c m mask j s)).R l = (lanesTo c m mask j s).R l := if_neg e
          rw [this]
          by_cases hq : l < j
          · simp [hq, show l < j + 1 by omega]
          · simp [hq, show ¬ l < j + 1 by omega]
      · show (if l = j then _ else (lanesTo c m mask j s).R l) = _
        by_cases e : l = j
        · subst e; exact absurd ⟨by omega, hb⟩ hl
        · rw [if_neg e]; exact g2 l (fun h => hl ⟨by omega, h.2⟩)
      · show simM (cs.getD ((stepTo cs m mask j x).L j).at_ default) m ((stepTo cs m mask j x).L j).R (stepTo cs m mask j x).M = simM c m ((lanesTo c m mask j s).R j) (lanesTo c m mask j s).M
        rw [e0, e4, e3, e1, g3]
      · show (stepTo cs m mask j x).A ++ lnAcc cs m j (stepTo cs m mask j x).P ((stepTo cs m mask j x).L j) = (if _ then _ else _)
        rw [e0, step_P, hP, g4, lanesTo_Pf]
        unfold lnAcc
        rw [e4, e3, e1]
        simp only
        split
        · rfl
        · simp
    · rw [if_neg hb, if_neg hb]
      refine ⟨fun l hl => ?_, fun l hl => ?_, g3, g4⟩
      · rw [g1 l hl]
        by_cases e : l = j
        · subst e; simp [hb]
        · by_cases hq : l < j
          · simp [hq, show l < j + 1 by omega]
          · simp [hq, show ¬ l < j + 1 by omega]
      · refine g2 l fun h => hl ⟨by omega, h.2⟩

section
variable {cs : List Cd} {n m : Nat}
theorem exec_go {mask p : Nat} {c : Cd} {x : CS} {s : LS} {F : List Fr} (hc : cs.getD p default = c) (hp : Plain c) (hpl : p < cs.length) (h0 : mask ≠ 0) (hm : mask < 2 ^ n)
    (hs : Syn n s x) (ha : Plc n mask p F x) (ho : Far n mask (p + 1) x) (h10 : c.op = 10 → mask = 2 ^ n - 1) :
    ∃ x', Gets cs n m x x' ∧ Syn n (exec c n m p mask s) x' ∧ Plc n mask (p + 1) F x' ∧ Same n mask x x' := by
  refine ⟨_, Gets.one, ?_⟩
  have hpn := hp.2
  rw [least_step h0 hm hpl (fun l hl hb => ⟨(ha l hl hb).1, (hs.all l hl).2⟩) (fun l hl hb => ho l hl hb)]
  obtain ⟨g1, g2, g3, g4⟩ := step_plain (n := n) (m := m) (mask := mask) (x := noteC cs p mask x) (s := beat p mask s) hc hp (fun l hl hb => (ha l hl hb).1) (fun l hl => (hs.all l hl).1) hs.mem hs.ac hs.ph n (Nat.le_refl _)
  have hH : (stepTo cs m mask n (noteC cs p mask x)).H = (exec c n m p mask s).H.map fun x => (x.1, x.2.1) := by
    have hq : quietOp (cs.getD p default) = false := by rw [hc]; unfold quietOp; simp; omega
    have hN : (noteC cs p mask x).H = x.H ++ [(p, mask)] := if_neg (by rw [hq]; simp)
    rw [step_H, exec_Hf, hN, hs.hi, List.map_append]; rfl
  have hPP : (stepTo cs m mask n (noteC cs p mask x)).P = s.P := by rw [step_P]; exact hs.ph
  have hLx : ∀ l, (noteC cs p mask x).L l = x.L l := fun _ => rfl
  by_cases hb10 : c.op = 10
  · have hfull := h10 hb10
    have hbit : ∀ l, l < n → mask.testBit l = true := fun l hl => by rw [hfull, Nat.testBit_two_pow_sub_one]; simpa using hl
    obtain ⟨k, hk, _⟩ := some_bit' h0 hm
    have hL : ∀ l, l < n → (stepTo cs m mask n (noteC cs p mask x)).L l = { x.L l with R := (lanesTo c m mask n (beat p mask s)).R l, at_ := p + 1, W := true } := fun l hl => by
      rw [g1 l hl, if_pos ⟨hl, hbit l hl⟩, if_pos hb10]; rfl
    have hng : anyGo cs (stepTo cs m mask n (noteC cs p mask x)).L n = false := by
      cases hq : anyGo cs (stepTo cs m mask n (noteC cs p mask x)).L n
      · rfl
      · obtain ⟨l, h1, h2⟩ := anyGo_iff.1 hq
        rw [hL l h1] at h2
        simp [goesL] at h2
    have hwt : anyWait (stepTo cs m mask n (noteC cs p mask x)).L n = true := anyWait_iff.2 ⟨k, hk, by rw [hL k hk]⟩
    have he : exec c n m p mask s = { lanesTo c m mask n (beat p mask s) with P := (lanesTo c m mask n (beat p mask s)).P + 1 } := by unfold exec; simp only; rw [if_pos hb10]
    have hpass : passS cs n (stepTo cs m mask n (noteC cs p mask x)) = { stepTo cs m mask n (noteC cs p mask x) with L := freeL n (stepTo cs m mask n (noteC cs p mask x)).L, P := (stepTo cs m mask n (noteC cs p mask x)).P + 1 } := by
      unfold passS; rw [hng, hwt]; rfl
    rw [hpass]
    have hF : ∀ l, l < n → freeL n (stepTo cs m mask n (noteC cs p mask x)).L l = { x.L l with R := (lanesTo c m mask n (beat p mask s)).R l, at_ := p + 1, W := false } := fun l hl => by
      unfold freeL; rw [if_pos hl, hL l hl]
    refine ⟨⟨fun l hl => ?_, ?_, ?_, ?_, hH⟩, fun l hl hb => ?_, fun l hl hb => ?_⟩
    · show (freeL n _ l).R = _ ∧ (freeL n _ l).W = false
      rw [hF l hl, he]; exact ⟨rfl, rfl⟩
    · show (stepTo cs m mask n (noteC cs p mask x)).M = _; rw [g3, he]
    · show (stepTo cs m mask n (noteC cs p mask x)).A = _; rw [g4, he]
    · show (stepTo cs m mask n (noteC cs p mask x)).P + 1 = _
      rw [hPP, he]
      show s.P + 1 = (lanesTo c m mask n (beat p mask s)).P + 1
      rw [lanesTo_Pf]; rfl
    · show (freeL n _ l).at_ = _ ∧ (freeL n _ l).T = _
      rw [hF l hl]; exact ⟨rfl, (ha l hl hb).2⟩
    · rw [hbit l hl] at hb; cases hb
  · have hL : ∀ l, l < n → (stepTo cs m mask n (noteC cs p mask x)).L l = if mask.testBit l = true then { x.L l with R := (lanesTo c m mask n (beat p mask s)).R l, at_ := p + 1 } else x.L l := fun l hl => by
      rw [g1 l hl]
      by_cases hb : mask.testBit l = true
      · rw [if_pos ⟨hl, hb⟩, if_pos hb, if_neg hb10, hLx l]
      · rw [if_neg (fun h => hb h.2), if_neg hb, hLx l]
    have he : exec c n m p mask s = lanesTo c m mask n (beat p mask s) := by unfold exec; simp only; rw [if_neg hb10]
    rw [pass_same]
    · refine ⟨⟨fun l hl => ?_, by rw [g3, he], by rw [g4, he], ?_, hH⟩, fun l hl hb => ?_, fun l hl hb => ?_⟩
      · rw [hL l hl, he]
        by_cases hb : mask.testBit l = true
        · rw [if_pos hb]; exact ⟨rfl, (hs.all l hl).2⟩
        · rw [if_neg hb, g2 l (fun h => hb h.2)]; exact hs.all l hl
      · rw [hPP, he, lanesTo_Pf]; rfl
      · rw [hL l hl, if_pos hb]; exact ⟨rfl, (ha l hl hb).2⟩
      · rw [hL l hl, if_neg (by rw [hb]; simp)]
    · intro l hl
      rw [hL l hl]
      split
      · exact (hs.all l hl).2
      · exact (hs.all l hl).2

/-- An instruction of a block, by the lanes of a mask. -/
theorem ctl_sync {mask p : Nat} {x : CS} {s s' : LS} (hm : mask < 2 ^ n) (hp : p < cs.length) (hop : (cs.getD p default).op ≠ 8 ∧ (cs.getD p default).op ≠ 9)
    (hs : Syn n s x) (ha : ∀ l, l < n → mask.testBit l = true → (x.L l).at_ = p ∧ (lnStep cs m l (x.L l) x.M).R = (x.L l).R ∧ (lnStep cs m l (x.L l) x.M).W = false) (ho : Far n mask (p + 1) x)
    (e : (s' = s ∧ (mask = 0 ∨ quietOp (cs.getD p default) = true)) ∨ (s' = beat p mask s ∧ mask ≠ 0 ∧ quietOp (cs.getD p default) = false)) :
    ∃ x', Gets cs n m x x' ∧ Syn n s' x' ∧ (∀ l, l < n → x'.L l = if mask.testBit l = true then lnStep cs m l (x.L l) x.M else x.L l) ∧ x'.M = x.M := by
  refine ⟨_, ctl_go (fun l => lnStep cs m l (x.L l) x.M) hm hp hop (fun l hl hb => ⟨(ha l hl hb).1, rfl, (ha l hl hb).2.2⟩) (fun l hl => (hs.all l hl).2) ho, ?_, fun l hl => ?_, rfl⟩
  · have hall : ∀ l, l < n → (if l < n ∧ mask.testBit l = true then lnStep cs m l (x.L l) x.M else x.L l).R = s.R l ∧ (if l < n ∧ mask.testBit l = true then lnStep cs m l (x.L l) x.M else x.L l).W = false := fun l hl => by
      split
      · rename_i hb
        obtain ⟨_, h2, h3⟩ := ha l hl hb.2
        exact ⟨h2.trans (hs.all l hl).1, h3⟩
      · exact hs.all l hl
    rcases e with ⟨rfl, h⟩ | ⟨rfl, h1, h2⟩
    · exact ⟨hall, hs.mem, hs.ac, hs.ph, by show (if _ then _ else _) = _; rw [if_pos h]; exact hs.hi⟩
    · refine ⟨hall, hs.mem, hs.ac, hs.ph, ?_⟩
      show (if _ then _ else _) = _
      rw [if_neg (by rw [h2]; simp [h1])]
      show x.H ++ [(p, mask)] = (s.H ++ [(p, mask, s.R)]).map _
      rw [List.map_append, hs.hi]; rfl
  · show (if l < n ∧ mask.testBit l = true then lnStep cs m l (x.L l) x.M else x.L l) = _
    by_cases hb : mask.testBit l = true
    · rw [if_pos ⟨hl, hb⟩, if_pos hb]
    · rw [if_neg (fun h => hb h.2), if_neg hb]

def RunS (cs : List Cd) (n m : Nat) (t : Tr) (i : Nat) (F : List Fr) : Prop := ∀ (mask : Nat) (s : LS) (x : CS), mask < 2 ^ n → Syn n s x → Plc n mask i F x → Far n mask (i + t.len) x → NoSp cs n (run n m t i mask s).H →
  ∃ x', Gets cs n m x x' ∧ Syn n (run n m t i mask s) x' ∧ Plc n mask (i + t.len) F x' ∧ Same n mask x x'

theorem quiet_if (a : Int) : quietOp (cIf a) = false := by simp [quietOp, cIf]
theorem quiet_loop (a b : Int) : quietOp (cLoop a b) = false := by simp [quietOp, cLoop]
theorem quiet_else : quietOp cElse = true := by simp [quietOp, cElse]
theorem quiet_end : quietOp cEnd = true := by simp [quietOp, cEnd]
theorem ones_bit {R : Nat → Nat → Int} {mask a n l : Nat} (hl : l < n) : (onesTo R mask a n).testBit l = true ↔ mask.testBit l = true ∧ R l a ≠ 0 := by
  rw [onesTo_bit]; simp [hl]
theorem del_bit' (a b l : Nat) : (del a b).testBit l = (a.testBit l && !(b.testBit l)) := by
  unfold del
  rw [Nat.testBit_xor, Nat.testBit_and]
  cases a.testBit l <;> cases b.testBit l <;> rfl

theorem turns_sync {p : Nat} {a b : Int} {t k : Tr} {F : List Fr} (hx : ∀ r, 0 ≤ r → r < b → Ctx cs (p + 1 + t.len) (.lo p a b r t k :: F)) (hbody : ∀ r, 0 ≤ r → r < b → RunS cs n m t (p + 1) (.lo p a b r t k :: F)) :
    ∀ (r : Nat), (r : Int) < b → ∀ (y : Nat) (s : LS) (x : CS), y < 2 ^ n → Syn n s x → Plc n y (p + 1 + t.len) (.lo p a b r t k :: F) x → Far n y (p + 1 + t.len + 1) x → NoSp cs n (turns (run n m t (p + 1)) n a.toNat r y s).H →
    ∃ x', Gets cs n m x x' ∧ Syn n (turns (run n m t (p + 1)) n a.toNat r y s) x' ∧ Plc n y (p + 1 + t.len + 1) F x' ∧ Same n y x x' := by
  intro r
  induction r with
  | zero =>
    intro hr y s x hy hs hp hf _
    have hc := hx 0 (by omega) hr
    have hat : ∀ l, l < n → y.testBit l = true → At cs (x.L l) .nil (.lo p a b ((0 : Nat) : Int) t k :: F) := fun l hl hb => by
      obtain ⟨h1, h2⟩ := hp l hl hb
      exact ⟨⟨cs.drop (x.L l).at_, by simp [Tr.flat]⟩, trivial, by rw [h1]; exact hc, h2⟩
    have hst : ∀ l, l < n → y.testBit l = true → lnStep cs m l (x.L l) x.M = { x.L l with at_ := (x.L l).at_ + 1, T := frT F } := fun l hl hb => by
      rw [(hat l hl hb).step_lo.1, if_neg (fun h => by have := h.1; omega)]
    have hq : quietOp (cs.getD (p + 1 + t.len) default) = true := by rw [hc.1]; exact quiet_end
    obtain ⟨x', g1, g2, g3, g4⟩ := ctl_sync (m := m) (s' := s) hy hc.2.1 (by rw [hc.1]; simp [cEnd]) hs (fun l hl hb => ⟨(hp l hl hb).1, by rw [hst l hl hb], by rw [hst l hl hb]; exact (hs.all l hl).2⟩) hf (.inl ⟨rfl, .inr hq⟩)
    refine ⟨x', g1, g2, fun l hl hb => ?_, fun l hl hb => ?_⟩
    · rw [g3 l hl, if_pos hb, hst l hl hb]
      exact ⟨by show (x.L l).at_ + 1 = _; rw [(hp l hl hb).1], rfl⟩
    · rw [g3 l hl, if_neg (by rw [hb]; simp)]
  | succ r ih =>
    intro hr y s x hy hs hp hf hn
    have hc := hx ((r + 1 : Nat) : Int) (by omega) hr
    have hat : ∀ l, l < n → y.testBit l = true → At cs (x.L l) .nil (.lo p a b ((r + 1 : Nat) : Int) t k :: F) := fun l hl hb => by
      obtain ⟨h1, h2⟩ := hp l hl hb
      exact ⟨⟨cs.drop (x.L l).at_, by simp [Tr.flat]⟩, trivial, by rw [h1]; exact hc, h2⟩
    have hst : ∀ l, l < n → y.testBit l = true → lnStep cs m l (x.L l) x.M = (if s.R l a.toNat ≠ 0 then { x.L l with at_ := p + 1, T := frT F ++ [(r : Int)] } else { x.L l with at_ := p + 1 + t.len + 1, T := frT F }) := fun l hl hb => by
      rw [(hat l hl hb).step_lo.1, ← (hs.all l hl).1, (hp l hl hb).1, show ((r + 1 : Nat) : Int) - 1 = r by omega]
      by_cases hz : (x.L l).R a.toNat ≠ 0
      · rw [if_pos ⟨by omega, hz⟩, if_pos hz]
      · rw [if_neg (fun h => hz h.2), if_neg hz]
    have hq : quietOp (cs.getD (p + 1 + t.len) default) = true := by rw [hc.1]; exact quiet_end
    obtain ⟨x1, g1, g2, g3, g4⟩ := ctl_sync (m := m) (s' := s) hy hc.2.1 (by rw [hc.1]; simp [cEnd]) hs (fun l hl hb => ⟨(hp l hl hb).1, by rw [hst l hl hb]; split <;> rfl, by rw [hst l hl hb]; split <;> exact (hs.all l hl).2⟩) hf (.inl ⟨rfl, .inr hq⟩)
    have hy' := onesTo_lt s.R y a.toNat n
    have hsub : ∀ l, (onesTo s.R y a.toNat n).testBit l = true → y.testBit l = true := fun l h => onesTo_sub _ _ _ _ _ h
    have hn1 : NoSp cs n (run n m t (p + 1) (onesTo s.R y a.toNat n) s).H := fun z hz => hn z (turns_mono (a := a.toNat) (fun y s x hx => run_mono n m t _ _ _ _ hx) r (onesTo s.R y a.toNat n) (run n m t (p + 1) (onesTo s.R y a.toNat n) s) z hz)
    obtain ⟨x2, k1, k2, k3, k4⟩ := hbody (r : Int) (by omega) (by omega) (onesTo s.R y a.toNat n) s x1 hy' g2
      (fun l hl hb => by
        obtain ⟨b1, b2⟩ := (ones_bit hl).1 hb
        rw [g3 l hl, if_pos b1, hst l hl b1, if_pos b2]
        exact ⟨rfl, rfl⟩)
      (fun l hl hb => by
        rw [g3 l hl]
        by_cases hyl : y.testBit l = true
        · rw [if_pos hyl, hst l hl hyl, if_neg (fun h => by rw [(ones_bit hl).2 ⟨hyl, h⟩] at hb; cases hb)]
          show p + 1 + t.len ≤ p + 1 + t.len + 1; omega
        · rw [if_neg hyl]
          have := hf l hl (by simpa using hyl)
          omega) hn1
    have hlo : ∀ l, l < n → (onesTo s.R y a.toNat n).testBit l = false → p + 1 + t.len + 1 ≤ (x1.L l).at_ ∧ (y.testBit l = true → (x1.L l).at_ = p + 1 + t.len + 1 ∧ (x1.L l).T = frT F) := fun l hl hb => by
      rw [g3 l hl]
      by_cases hyl : y.testBit l = true
      · rw [if_pos hyl, hst l hl hyl, if_neg (fun h => by rw [(ones_bit hl).2 ⟨hyl, h⟩] at hb; cases hb)]
        exact ⟨Nat.le_refl _, fun _ => ⟨rfl, rfl⟩⟩
      · rw [if_neg hyl]
        exact ⟨hf l hl (by simpa using hyl), fun h => absurd h hyl⟩
    obtain ⟨x3, q1, q2, q3, q4⟩ := ih (by omega) (onesTo s.R y a.toNat n) _ x2 hy' k2 k3 (fun l hl hb => by rw [k4 l hl hb]; exact (hlo l hl hb).1) hn
    refine ⟨x3, (g1.trans k1).trans q1, q2, fun l hl hb => ?_, fun l hl hb => ?_⟩
    · by_cases hyl : (onesTo s.R y a.toNat n).testBit l = true
      · exact q3 l hl hyl
      · have hyl' : (onesTo s.R y a.toNat n).testBit l = false := by simpa using hyl
        rw [q4 l hl hyl', k4 l hl hyl']
        exact (hlo l hl hyl').2 hb
    · have hyl' : (onesTo s.R y a.toNat n).testBit l = false := by
        cases hq2 : (onesTo s.R y a.toNat n).testBit l
        · rfl
        · rw [hsub l hq2] at hb; cases hb
      rw [q4 l hl hyl', k4 l hl hyl', g3 l hl, if_neg (by rw [hb]; simp)]

theorem RunS.zero {t : Tr} {i : Nat} {F : List Fr} {s : LS} {x : CS} (hs : Syn n s x) : ∃ x', Gets cs n m x x' ∧ Syn n (run n m t i 0 s) x' ∧ Plc n 0 (i + t.len) F x' ∧ Same n 0 x x' :=
  ⟨x, Gets.refl _ _ _ _, by rw [run_zero]; exact hs, fun l _ hb => by simp at hb, Same.refl _ _ _⟩

theorem run_sync : ∀ (t : Tr) (i : Nat) (F : List Fr), t.Ok → Seg cs i t → Ctx cs (i + t.len) F → RunS cs n m t i F
  | .nil, i, F, _, _, _ => fun mask s x hm hs hp hf _ => ⟨x, Gets.refl _ _ _ _, hs, hp, Same.refl _ _ _⟩
  | .op c k, i, F, ho, hg, hc => fun mask s x hm hs hp hf hn => by
    by_cases h0 : mask = 0
    · subst h0; exact RunS.zero hs
    obtain ⟨s1, s2, s3⟩ := hg.op
    have hc' : Ctx cs (i + 1 + k.len) F := by rw [Tr.len_op] at hc; rwa [show i + 1 + k.len = i + (k.len + 1) by omega]
    rw [Tr.len_op] at hf ⊢
    unfold run at hn ⊢
    rw [if_neg h0] at hn ⊢
    have h10 : c.op = 10 → mask = 2 ^ n - 1 := fun h => by
      have := hn (i, mask, s.R) (run_mono n m k _ _ _ _ (by rw [exec_Hf]; simp)) (by show (cs.getD i default).op = 10; rw [s1]; exact h)
      exact this
    obtain ⟨x1, g1, g2, g3, g4⟩ := exec_go (m := m) s1 ho.1 s2 h0 hm hs hp (hf.le (by omega)) h10
    obtain ⟨x2, k1, k2, k3, k4⟩ := run_sync k (i + 1) F ho.2 s3 hc' mask _ x1 hm g2 g3 ((hf.le (by omega)).same g4) hn
    refine ⟨x2, g1.trans k1, k2, ?_, g4.trans k4⟩
    rwa [show i + (k.len + 1) = i + 1 + k.len by omega]
  | .ite a t k, i, F, ho, hg, hc => fun mask s x hm hs hp hf hn => by
    by_cases h0 : mask = 0
    · subst h0; exact RunS.zero hs
    obtain ⟨s1, s2, s3, s4, s5⟩ := hg.ite
    have hat : ∀ l, l < n → mask.testBit l = true → At cs (x.L l) (.ite a t k) F := fun l hl hb => by
      obtain ⟨h1, h2⟩ := hp l hl hb
      exact ⟨by rw [h1]; exact hg, ho, by rw [h1]; exact hc, h2⟩
    have e2 := (end_ite ho hg).2
    rw [Tr.len_ite, show i + (1 + t.len + 1 + k.len) = i + 1 + t.len + 1 + k.len by omega] at hc hf ⊢
    unfold run at hn ⊢
    rw [if_neg h0] at hn ⊢
    have hst : ∀ l, l < n → mask.testBit l = true → lnStep cs m l (x.L l) x.M = (if s.R l a.toNat = 0 then { x.L l with at_ := i + 1 + t.len + 1 } else { x.L l with at_ := i + 1 }) := fun l hl hb => by
      rw [(hat l hl hb).step_ite.1, ← (hs.all l hl).1, (hp l hl hb).1]
    obtain ⟨x1, g1, g2, g3, g4⟩ := ctl_sync (m := m) (s' := beat i mask s) hm (show i < cs.length by omega) (by rw [s1]; simp [cIf]) hs (fun l hl hb => ⟨(hp l hl hb).1, by rw [hst l hl hb]; split <;> rfl, by rw [hst l hl hb]; split <;> exact (hs.all l hl).2⟩) (hf.le (by omega)) (.inr ⟨rfl, h0, by rw [s1]; exact quiet_if a⟩)
    have hx : Ctx cs (i + 1 + t.len) (.fi i k :: F) := ⟨s3, s4, e2, by rw [s1]; rfl, s5, ho.2.2, hc⟩
    have hy' := onesTo_lt s.R mask a.toNat n
    have hsub : ∀ l, (onesTo s.R mask a.toNat n).testBit l = true → mask.testBit l = true := fun l h => onesTo_sub _ _ _ _ _ h
    have hlo : ∀ l, l < n → (onesTo s.R mask a.toNat n).testBit l = false → i + 1 + t.len + 1 ≤ (x1.L l).at_ ∧ (mask.testBit l = true → (x1.L l).at_ = i + 1 + t.len + 1 ∧ (x1.L l).T = frT F) := fun l hl hb => by
      rw [g3 l hl]
      by_cases hyl : mask.testBit l = true
      · rw [if_pos hyl, hst l hl hyl, if_pos (Classical.byContradiction fun h => by rw [(ones_bit hl).2 ⟨hyl, h⟩] at hb; cases hb)]
        exact ⟨Nat.le_refl _, fun _ => ⟨rfl, (hp l hl hyl).2⟩⟩
      · rw [if_neg hyl]
        have := hf l hl (by simpa using hyl)
        exact ⟨by omega, fun h => absurd h hyl⟩
    obtain ⟨x2, k1, k2, k3, k4⟩ := run_sync t (i + 1) (.fi i k :: F) ho.2.1 s2 hx (onesTo s.R mask a.toNat n) (beat i mask s) x1 hy' g2
      (fun l hl hb => by
        obtain ⟨b1, b2⟩ := (ones_bit hl).1 hb
        rw [g3 l hl, if_pos b1, hst l hl b1, if_neg b2]
        exact ⟨rfl, (hp l hl b1).2⟩)
      (fun l hl hb => by have := (hlo l hl hb).1; omega) (fun z hz => hn z (run_mono n m k _ _ _ _ hz))
    have hat2 : ∀ l, l < n → (onesTo s.R mask a.toNat n).testBit l = true → At cs (x2.L l) .nil (.fi i k :: F) := fun l hl hb => by
      obtain ⟨h1, h2⟩ := k3 l hl hb
      exact ⟨⟨cs.drop (x2.L l).at_, by simp [Tr.flat]⟩, trivial, by rw [h1]; exact hx, h2⟩
    have hst2 : ∀ l, l < n → (onesTo s.R mask a.toNat n).testBit l = true → lnStep cs m l (x2.L l) x2.M = { x2.L l with at_ := i + 1 + t.len + 1 } := fun l hl hb => by
      rw [(hat2 l hl hb).step_fi.1, (k3 l hl hb).1]
    obtain ⟨x3, q1, q2, q3, q4⟩ := ctl_sync (m := m) (s' := run n m t (i + 1) (onesTo s.R mask a.toNat n) (beat i mask s)) hy' s4 (by rw [s3]; simp [cEnd]) k2 (fun l hl hb => ⟨(k3 l hl hb).1, by rw [hst2 l hl hb], by rw [hst2 l hl hb]; exact (k2.all l hl).2⟩) (fun l hl hb => by rw [k4 l hl hb]; exact (hlo l hl hb).1) (.inl ⟨rfl, .inr (by rw [s3]; exact quiet_end)⟩)
    have hpl3 : Plc n mask (i + 1 + t.len + 1) F x3 := fun l hl hb => by
      rw [q3 l hl]
      by_cases hyl : (onesTo s.R mask a.toNat n).testBit l = true
      · rw [if_pos hyl, hst2 l hl hyl]
        exact ⟨rfl, (k3 l hl hyl).2⟩
      · have hyl' : (onesTo s.R mask a.toNat n).testBit l = false := by simpa using hyl
        rw [if_neg hyl, k4 l hl hyl']
        exact (hlo l hl hyl').2 hb
    have hsm3 : Same n mask x x3 := fun l hl hb => by
      have hyl' : (onesTo s.R mask a.toNat n).testBit l = false := by
        cases hq2 : (onesTo s.R mask a.toNat n).testBit l
        · rfl
        · rw [hsub l hq2] at hb; cases hb
      rw [q3 l hl, if_neg (by rw [hyl']; simp), k4 l hl hyl', g3 l hl, if_neg (by rw [hb]; simp)]
    obtain ⟨x4, r1, r2, r3, r4⟩ := run_sync k (i + 1 + t.len + 1) F ho.2.2 s5 hc mask _ x3 hm q2 hpl3 (hf.same hsm3) hn
    exact ⟨x4, ((g1.trans k1).trans q1).trans r1, r2, r3, hsm3.trans r4⟩
  | .itee a t e k, i, F, ho, hg, hc => fun mask s x hm hs hp hf hn => by
    by_cases h0 : mask = 0
    · subst h0; exact RunS.zero hs
    obtain ⟨s1, s2, s3, s4, s5, s6, s7⟩ := hg.itee
    have hat : ∀ l, l < n → mask.testBit l = true → At cs (x.L l) (.itee a t e k) F := fun l hl hb => by
      obtain ⟨h1, h2⟩ := hp l hl hb
      exact ⟨by rw [h1]; exact hg, ho, by rw [h1]; exact hc, h2⟩
    obtain ⟨e1, e2, e3⟩ := end_itee ho hg
    rw [Tr.len_itee, show i + (1 + t.len + 1 + e.len + 1 + k.len) = i + 1 + t.len + 1 + e.len + 1 + k.len by omega] at hc hf ⊢
    unfold run at hn ⊢
    rw [if_neg h0] at hn ⊢
    have hst : ∀ l, l < n → mask.testBit l = true → lnStep cs m l (x.L l) x.M = (if s.R l a.toNat = 0 then { x.L l with at_ := i + 1 + t.len + 1 } else { x.L l with at_ := i + 1 }) := fun l hl hb => by
      rw [(hat l hl hb).step_itee.1, ← (hs.all l hl).1, (hp l hl hb).1]
    obtain ⟨x1, g1, g2, g3, g4⟩ := ctl_sync (m := m) (s' := beat i mask s) hm (show i < cs.length by omega) (by rw [s1]; simp [cIf]) hs (fun l hl hb => ⟨(hp l hl hb).1, by rw [hst l hl hb]; split <;> rfl, by rw [hst l hl hb]; split <;> exact (hs.all l hl).2⟩) (hf.le (by omega)) (.inr ⟨rfl, h0, by rw [s1]; exact quiet_if a⟩)
    have hxt : Ctx cs (i + 1 + t.len) (.fe i e k :: F) := ⟨s3, by omega, e2, by rw [e1], s7, ho.2.2.2, hc⟩
    have hxe : Ctx cs (i + 1 + t.len + 1 + e.len) (.fi i k :: F) := ⟨s5, s6, e3, by rw [s1]; rfl, s7, ho.2.2.2, hc⟩
    obtain ⟨y, hy⟩ : ∃ y, y = onesTo s.R mask a.toNat n := ⟨_, rfl⟩
    have hyb : ∀ l, l < n → (y.testBit l = true ↔ mask.testBit l = true ∧ s.R l a.toNat ≠ 0) := fun l hl => by rw [hy]; exact ones_bit hl
    have hy' : y < 2 ^ n := by rw [hy]; exact onesTo_lt s.R mask a.toNat n
    have hsub : ∀ l, y.testBit l = true → mask.testBit l = true := fun l h => by rw [hy] at h; exact onesTo_sub _ _ _ _ _ h
    have hz' : del mask y < 2 ^ n := del_lt2 _ hm
    have hzb : ∀ l, (del mask y).testBit l = (mask.testBit l && !(y.testBit l)) := fun l => del_bit' _ _ _
    rw [← hy] at hn ⊢
    clear hy
    have hno : ∀ l, l < n → (del mask y).testBit l = true → mask.testBit l = true ∧ y.testBit l = false ∧ s.R l a.toNat = 0 := fun l hl hb => by
      rw [hzb l] at hb
      simp only [Bool.and_eq_true, Bool.not_eq_true'] at hb
      refine ⟨hb.1, hb.2, Classical.byContradiction fun h => ?_⟩
      rw [(hyb l hl).2 ⟨hb.1, h⟩] at hb
      cases hb.2
    -- the lanes that do not enter
    have hL1 : ∀ l, l < n → y.testBit l = false → (mask.testBit l = true → (x1.L l).at_ = i + 1 + t.len + 1 ∧ (x1.L l).T = frT F) ∧ (mask.testBit l = false → x1.L l = x.L l) := fun l hl hb => by
      rw [g3 l hl]
      refine ⟨fun hml => ?_, fun hml => by rw [if_neg (by rw [hml]; simp)]⟩
      rw [if_pos hml, hst l hl hml, if_pos (Classical.byContradiction fun h => by rw [(hyb l hl).2 ⟨hml, h⟩] at hb; cases hb)]
      exact ⟨rfl, (hp l hl hml).2⟩
    have hfar1 : ∀ l, l < n → y.testBit l = false → i + 1 + t.len + 1 ≤ (x1.L l).at_ := fun l hl hb => by
      by_cases hml : mask.testBit l = true
      · rw [((hL1 l hl hb).1 hml).1]; exact Nat.le_refl _
      · have hml' : mask.testBit l = false := by simpa using hml
        rw [(hL1 l hl hb).2 hml']
        have := hf l hl hml'
        omega
    obtain ⟨x2, k1, k2, k3, k4⟩ := run_sync t (i + 1) (.fe i e k :: F) ho.2.1 s2 hxt y (beat i mask s) x1 hy' g2
      (fun l hl hb => by
        obtain ⟨b1, b2⟩ := (hyb l hl).1 hb
        rw [g3 l hl, if_pos b1, hst l hl b1, if_neg b2]
        exact ⟨rfl, (hp l hl b1).2⟩)
      (fun l hl hb => by have := hfar1 l hl hb; omega) (fun z hz => hn z (run_mono n m k _ _ _ _ (run_mono n m e _ _ _ _ hz)))
    -- they leave the first part
    have hat2 : ∀ l, l < n → y.testBit l = true → At cs (x2.L l) .nil (.fe i e k :: F) := fun l hl hb => by
      obtain ⟨h1, h2⟩ := k3 l hl hb
      exact ⟨⟨cs.drop (x2.L l).at_, by simp [Tr.flat]⟩, trivial, by rw [h1]; exact hxt, h2⟩
    have hst2 : ∀ l, l < n → y.testBit l = true → lnStep cs m l (x2.L l) x2.M = { x2.L l with at_ := i + 1 + t.len + 1 + e.len + 1 } := fun l hl hb => by
      rw [(hat2 l hl hb).step_fe.1, (k3 l hl hb).1]
    obtain ⟨x3, q1, q2, q3, q4⟩ := ctl_sync (m := m) (s' := run n m t (i + 1) y (beat i mask s)) hy' (show i + 1 + t.len < cs.length by omega) (by rw [s3]; simp [cElse]) k2 (fun l hl hb => ⟨(k3 l hl hb).1, by rw [hst2 l hl hb], by rw [hst2 l hl hb]; exact (k2.all l hl).2⟩) (fun l hl hb => by rw [k4 l hl hb]; exact hfar1 l hl hb) (.inl ⟨rfl, .inr (by rw [s3]; exact quiet_else)⟩)
    have hL3 : ∀ l, l < n → y.testBit l = false → x3.L l = x1.L l := fun l hl hb => by rw [q3 l hl, if_neg (by rw [hb]; simp), k4 l hl hb]
    have hL3y : ∀ l, l < n → y.testBit l = true → (x3.L l).at_ = i + 1 + t.len + 1 + e.len + 1 ∧ (x3.L l).T = frT F := fun l hl hb => by
      rw [q3 l hl, if_pos hb, hst2 l hl hb]
      exact ⟨rfl, (k3 l hl hb).2⟩
    -- the others take the second one
    have hfar3 : ∀ l, l < n → (del mask y).testBit l = false → i + 1 + t.len + 1 + e.len + 1 ≤ (x3.L l).at_ := fun l hl hb => by
      by_cases hyl : y.testBit l = true
      · rw [(hL3y l hl hyl).1]; exact Nat.le_refl _
      · have hyl' : y.testBit l = false := by simpa using hyl
        have hml : mask.testBit l = false := by
          rw [hzb l, hyl'] at hb; simpa using hb
        rw [hL3 l hl hyl', (hL1 l hl hyl').2 hml]
        have := hf l hl hml
        omega
    obtain ⟨x4, r1, r2, r3, r4⟩ := run_sync e (i + 1 + t.len + 1) (.fi i k :: F) ho.2.2.1 s4 hxe (del mask y) _ x3 hz' q2
      (fun l hl hb => by
        obtain ⟨b1, b2, b3⟩ := hno l hl hb
        rw [hL3 l hl b2]
        exact (hL1 l hl b2).1 b1)
      (fun l hl hb => by have := hfar3 l hl hb; omega) (fun z hz => hn z (run_mono n m k _ _ _ _ hz))
    have hat4 : ∀ l, l < n → (del mask y).testBit l = true → At cs (x4.L l) .nil (.fi i k :: F) := fun l hl hb => by
      obtain ⟨h1, h2⟩ := r3 l hl hb
      exact ⟨⟨cs.drop (x4.L l).at_, by simp [Tr.flat]⟩, trivial, by rw [h1]; exact hxe, h2⟩
    have hst4 : ∀ l, l < n → (del mask y).testBit l = true → lnStep cs m l (x4.L l) x4.M = { x4.L l with at_ := i + 1 + t.len + 1 + e.len + 1 } := fun l hl hb => by
      rw [(hat4 l hl hb).step_fi.1, (r3 l hl hb).1]
    obtain ⟨x5, u1, u2, u3, u4⟩ := ctl_sync (m := m) (s' := run n m e (i + 1 + t.len + 1) (del mask y) (run n m t (i + 1) y (beat i mask s))) hz' s6 (by rw [s5]; simp [cEnd]) r2 (fun l hl hb => ⟨(r3 l hl hb).1, by rw [hst4 l hl hb], by rw [hst4 l hl hb]; exact (r2.all l hl).2⟩) (fun l hl hb => by rw [r4 l hl hb]; exact hfar3 l hl hb) (.inl ⟨rfl, .inr (by rw [s5]; exact quiet_end)⟩)
    have hpl5 : Plc n mask (i + 1 + t.len + 1 + e.len + 1) F x5 := fun l hl hb => by
      rw [u3 l hl]
      by_cases hzl : (del mask y).testBit l = true
      · rw [if_pos hzl, hst4 l hl hzl]
        exact ⟨rfl, (r3 l hl hzl).2⟩
      · have hzl' : (del mask y).testBit l = false := by simpa using hzl
        rw [if_neg hzl, r4 l hl hzl']
        have hyl : y.testBit l = true := by
          rw [hzb l, hb] at hzl'; simpa using hzl'
        exact hL3y l hl hyl
    have hsm5 : Same n mask x x5 := fun l hl hb => by
      have hyl' : y.testBit l = false := by
        cases hq2 : y.testBit l
        · rfl
        · rw [hsub l hq2] at hb; cases hb
      have hzl' : (del mask y).testBit l = false := by rw [hzb l, hb]; rfl
      rw [u3 l hl, if_neg (by rw [hzl']; simp), r4 l hl hzl', hL3 l hl hyl', (hL1 l hl hyl').2 hb]
    obtain ⟨x6, v1, v2, v3, v4⟩ := run_sync k (i + 1 + t.len + 1 + e.len + 1) F ho.2.2.2 s7 hc mask _ x5 hm u2 hpl5 (hf.same hsm5) hn
    exact ⟨x6, ((((g1.trans k1).trans q1).trans r1).trans u1).trans v1, v2, v3, hsm5.trans v4⟩
  | .loop a b t k, i, F, ho, hg, hc => fun mask s x hm hs hp hf hn => by
    by_cases h0 : mask = 0
    · subst h0; exact RunS.zero hs
    obtain ⟨s1, s2, s3, s4, s5⟩ := hg.loop
    have hat : ∀ l, l < n → mask.testBit l = true → At cs (x.L l) (.loop a b t k) F := fun l hl hb => by
      obtain ⟨h1, h2⟩ := hp l hl hb
      exact ⟨by rw [h1]; exact hg, ho, by rw [h1]; exact hc, h2⟩
    have e2 := (end_loop ho hg).2
    obtain ⟨_, ob, o1, o2⟩ := ho
    rw [Tr.len_loop, show i + (1 + t.len + 1 + k.len) = i + 1 + t.len + 1 + k.len by omega] at hc hf ⊢
    unfold run at hn ⊢
    rw [if_neg h0] at hn ⊢
    have hx : ∀ r, 0 ≤ r → r < b → Ctx cs (i + 1 + t.len) (.lo i a b r t k :: F) := fun r h1 h2 => ⟨s3, s4, e2, s1, h1, h2, ob.2, s2, o1, rfl, s5, o2, hc⟩
    have hst : ∀ l, l < n → mask.testBit l = true → lnStep cs m l (x.L l) x.M = (if s.R l a.toNat = 0 then { x.L l with at_ := i + 1 + t.len + 1 } else { x.L l with at_ := i + 1, T := frT F ++ [b - 1] }) := fun l hl hb => by
      rw [(hat l hl hb).step_loop.1, ← (hs.all l hl).1, (hp l hl hb).1]
    obtain ⟨x1, g1, g2, g3, g4⟩ := ctl_sync (m := m) (s' := beat i mask s) hm (show i < cs.length by omega) (by rw [s1]; simp [cLoop]) hs (fun l hl hb => ⟨(hp l hl hb).1, by rw [hst l hl hb]; split <;> rfl, by rw [hst l hl hb]; split <;> exact (hs.all l hl).2⟩) (hf.le (by omega)) (.inr ⟨rfl, h0, by rw [s1]; exact quiet_loop a b⟩)
    obtain ⟨q, hq⟩ : ∃ q : Nat, b = (q : Int) + 1 := ⟨(b - 1).toNat, by omega⟩
    have hqt : b.toNat = q + 1 := by omega
    rw [hqt] at hn ⊢
    have hy' := onesTo_lt s.R mask a.toNat n
    have hsub : ∀ l, (onesTo s.R mask a.toNat n).testBit l = true → mask.testBit l = true := fun l h => onesTo_sub _ _ _ _ _ h
    have hlo : ∀ l, l < n → (onesTo s.R mask a.toNat n).testBit l = false → i + 1 + t.len + 1 ≤ (x1.L l).at_ ∧ (mask.testBit l = true → (x1.L l).at_ = i + 1 + t.len + 1 ∧ (x1.L l).T = frT F) := fun l hl hb => by
      rw [g3 l hl]
      by_cases hyl : mask.testBit l = true
      · rw [if_pos hyl, hst l hl hyl, if_pos (Classical.byContradiction fun h => by rw [(ones_bit hl).2 ⟨hyl, h⟩] at hb; cases hb)]
        exact ⟨Nat.le_refl _, fun _ => ⟨rfl, (hp l hl hyl).2⟩⟩
      · rw [if_neg hyl]
        have := hf l hl (by simpa using hyl)
        exact ⟨by omega, fun h => absurd h hyl⟩
    have hbody : ∀ r, 0 ≤ r → r < b → RunS cs n m t (i + 1) (.lo i a b r t k :: F) := fun r h1 h2 => run_sync t (i + 1) (.lo i a b r t k :: F) o1 s2 (hx r h1 h2)
    have hnt : NoSp cs n (turns (run n m t (i + 1)) n a.toNat q (onesTo s.R mask a.toNat n) (run n m t (i + 1) (onesTo s.R mask a.toNat n) (beat i mask s))).H := fun z hz => hn z (run_mono n m k _ _ _ _ hz)
    obtain ⟨x2, k1, k2, k3, k4⟩ := hbody q (by omega) (by omega) (onesTo s.R mask a.toNat n) (beat i mask s) x1 hy' g2
      (fun l hl hb => by
        obtain ⟨b1, b2⟩ := (ones_bit hl).1 hb
        rw [g3 l hl, if_pos b1, hst l hl b1, if_neg b2]
        exact ⟨rfl, by show frT F ++ [b - 1] = frT F ++ [(q : Int)]; rw [show b - 1 = (q : Int) by omega]⟩)
      (fun l hl hb => by have := (hlo l hl hb).1; omega) (fun z hz => hnt z (turns_mono (fun y s x hx => run_mono n m t _ _ _ _ hx) _ _ _ _ hz))
    obtain ⟨x3, q1, q2, q3, q4⟩ := turns_sync hx hbody q (by omega) (onesTo s.R mask a.toNat n) _ x2 hy' k2 k3 (fun l hl hb => by rw [k4 l hl hb]; exact (hlo l hl hb).1) hnt
    have hpl3 : Plc n mask (i + 1 + t.len + 1) F x3 := fun l hl hb => by
      by_cases hyl : (onesTo s.R mask a.toNat n).testBit l = true
      · exact q3 l hl hyl
      · have hyl' : (onesTo s.R mask a.toNat n).testBit l = false := by simpa using hyl
        rw [q4 l hl hyl', k4 l hl hyl']
        exact (hlo l hl hyl').2 hb
    have hsm3 : Same n mask x x3 := fun l hl hb => by
      have hyl' : (onesTo s.R mask a.toNat n).testBit l = false := by
        cases hq2 : (onesTo s.R mask a.toNat n).testBit l
        · rfl
        · rw [hsub l hq2] at hb; cases hb
      rw [q4 l hl hyl', k4 l hl hyl', g3 l hl, if_neg (by rw [hb]; simp)]
    obtain ⟨x4, r1, r2, r3, r4⟩ := run_sync k (i + 1 + t.len + 1) F o2 s5 hc mask _ x3 hm q2 hpl3 (hf.same hsm3) hn
    exact ⟨x4, ((g1.trans k1).trans q1).trans r1, r2, r3, hsm3.trans r4⟩
end

end Go.Proofs.Ytkolnakcgjlcgaa
