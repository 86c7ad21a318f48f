/- A lane on its way is a valid lane, and it meets at most 2560 barriers, in plain logic. Lanes that run by themselves come to the end, soon enough; there they leave what lockstep leaves. No program in sight. Where the steps of a run lie, and by which lanes; what they cost. No program in sight. The trace and its cost, as the reference finds them. The laws' helpers on steps and accesses: equal ones are found equal; marks are written and found. What a run gives for any arguments: its steps, and the first that splits a barrier. Programs without split barriers; programs with one lane. No program in sight. A lane alone, run from barrier to barrier, ends with the registers of lockstep with one lane, in plain logic. Valid lanes and their steps, in plain logic: turns are short and small, a step stays in the program. No condition. -/
import Derived.Test.YtkolnakcgjlcgaaQab
import Derived.Test.YtkolnakcgjlcgaaQac
import Derived.Test.YtkolnakcgjlcgaaQae
import Derived.Test.YtkolnakcgjlcgaaQag
import Derived.Test.YtkolnakcgjlcgaaQaj
import Derived.Test.YtkolnakcgjlcgaaQba
import Derived.Test.YtkolnakcgjlcgaaQbb
import Derived.Test.YtkolnakcgjlcgaaQbg
import Derived.Test.YtkolnakcgjlcgaaQbi
import Derived.Test.YtkolnakcgjlcgaaQbj
import Derived.Test.YtkolnakcgjlcgaaQca

namespace Go.Proofs.Ytkolnakcgjlcgaa

/-- What is scanned without a fault leaves the stack as it was. -/
theorem scan_same : ∀ (t : Tr) (k : Nat) (s s' : List (Nat × Int)), t.Ok → sscan t.flat k s = some s' → s' = s
  | .nil, k, s, s', _, h => by
    simp [Tr.flat, sscan] at h
    exact h.symm
  | .op c t, k, s, s', ho, h => by
    obtain ⟨hp, ho⟩ := ho
    simp only [Tr.flat, sscan] at h
    rw [sstep_other (fun e => e.elim hp.2.1 hp.2.2.2.1) hp.2.2.1 hp.2.2.2.2] at h
    exact scan_same t _ s s' ho h
  | .ite a t u, k, s, s', ho, h => by
    simp only [Tr.flat, sscan] at h
    rw [sstep_open (opens_if a)] at h
    split at h
    · simp only [Option.bind_some] at h
      rw [sscan_append] at h
      cases h1 : sscan t.flat (k + 1) ((k, (cIf a).op) :: s) with
      | none => rw [h1] at h; simp at h
      | some s1 =>
        have e1 := scan_same t _ _ s1 ho.2.1 h1
        subst e1
        rw [h1] at h
        simp only [Option.bind_some, sscan] at h
        rw [sstep_end (show cEnd.op = 14 from rfl)] at h
        simp only [Option.bind_some] at h
        exact scan_same u _ s s' ho.2.2 h
    · simp at h
  | .itee a t e u, k, s, s', ho, h => by
    simp only [Tr.flat, sscan] at h
    rw [sstep_open (opens_if a)] at h
    split at h
    · simp only [Option.bind_some] at h
      rw [sscan_append] at h
      cases h1 : sscan t.flat (k + 1) ((k, (cIf a).op) :: s) with
      | none => rw [h1] at h; simp at h
      | some s1 =>
        have e1 := scan_same t _ _ s1 ho.2.1 h1
        subst e1
        rw [h1] at h
        simp only [Option.bind_some, sscan] at h
        rw [sstep_else (show cElse.op = 12 from rfl)] at h
        simp only [show (cIf a).op = 11 from rfl, if_true, Option.bind_some] at h
        rw [sscan_append] at h
        cases h2 : sscan e.flat (k + 1 + t.flat.length + 1) ((k, 12) :: s) with
        | none => rw [h2] at h; simp at h
        | some s2 =>
          have e2 := scan_same e _ _ s2 ho.2.2.1 h2
          subst e2
          rw [h2] at h
          simp only [Option.bind_some, sscan] at h
          rw [sstep_end (show cEnd.op = 14 from rfl)] at h
          simp only [Option.bind_some] at h
          exact scan_same u _ s s' ho.2.2.2 h
    · simp at h
  | .loop a b t u, k, s, s', ho, h => by
    simp only [Tr.flat, sscan] at h
    rw [sstep_open (opens_loop a b)] at h
    split at h
    · simp only [Option.bind_some] at h
      rw [sscan_append] at h
      cases h1 : sscan t.flat (k + 1) ((k, (cLoop a b).op) :: s) with
      | none => rw [h1] at h; simp at h
      | some s1 =>
        have e1 := scan_same t _ _ s1 ho.2.2.1 h1
        subst e1
        rw [h1] at h
        simp only [Option.bind_some, sscan] at h
        rw [sstep_end (show cEnd.op = 14 from rfl)] at h
        simp only [Option.bind_some] at h
        exact scan_same u _ s s' ho.2.2.2 h
    · simp at h
section
variable {cs : List Cd}
theorem stk_seg (hv : PValid cs) {i : Nat} {t : Tr} (hs : Seg cs i t) (ho : t.Ok) (hl : i + t.len ≤ cs.length) : stkOf cs (i + t.len) = stkOf cs i := by
  obtain ⟨post, hd⟩ := hs
  have e : cs.take (i + t.len) = cs.take i ++ t.flat := by
    have h2 := List.take_append_drop i cs
    have h3 : (cs.take i).length = i := by simp; omega
    conv => lhs; rw [← h2, hd]
    rw [List.take_append, h3]
    rw [List.take_of_length_le (by omega), show i + t.len - i = t.flat.length by unfold Tr.len; omega, List.take_left]
  obtain ⟨st, h1, _⟩ := hv.stk (show i ≤ cs.length by omega)
  obtain ⟨st2, h2, _⟩ := hv.stk hl
  unfold stkOf
  rw [h1, h2]
  have h3 := h2
  rw [e, sscan_append, h1] at h3
  simp only [Option.bind_some] at h3
  rw [scan_same t _ _ _ ho h3]
theorem stk_end (hv : PValid cs) {j : Nat} (hj : j < cs.length) (hc : cs.getD j default = cEnd) : ∃ x, stkOf cs j = x :: stkOf cs (j + 1) := by
  obtain ⟨st, h1, _⟩ := hv.stk (show j ≤ cs.length by omega)
  obtain ⟨st2, h2, _⟩ := hv.stk (show j + 1 ≤ cs.length by omega)
  have h3 := sscan_take hj h1
  rw [h2, hc, sstep_end (show cEnd.op = 14 from rfl)] at h3
  unfold stkOf
  rw [h1, h2]
  match st, h3 with
  | [], h3 => simp at h3
  | x :: r, h3 =>
    simp only [Option.some.injEq] at h3
    subst h3
    exact ⟨x.1, rfl⟩
theorem stk_head (hv : PValid cs) {j x : Nat} {r : List Nat} (hj : j ≤ cs.length) (h : stkOf cs j = x :: r) : aroundAt cs j = x := by
  have := stkOf_first hv hj
  rw [h] at this
  simpa using this
theorem stk_tail (hv : PValid cs) {j x : Nat} {r : List Nat} (hj : j ≤ cs.length) (h : stkOf cs j = x :: r) : stkOf cs x = r := by
  obtain ⟨st, h1, _⟩ := hv.stk hj
  have e : stkOf cs j = st.map (·.1) := by unfold stkOf; rw [h1]; rfl
  rw [e] at h
  match st, h, h1 with
  | [], h, _ => simp at h
  | y :: s, h, h1 =>
    simp only [List.map_cons, List.cons.injEq] at h
    obtain ⟨e1, e2⟩ := h
    have h3 := stk_drop j hj (y :: s) h1 0 (by simp)
    simp only [List.getElem_cons_zero, List.drop_succ_cons, List.drop_zero] at h3
    unfold stkOf
    rw [← e1, h3]
    exact e2

/-- Where the blocks around a lane begin. -/
def posF : List Fr → List Nat
  | [] => []
  | .fi p _ :: F => p :: posF F
  | .fe p _ _ :: F => p :: posF F
  | .lo p _ _ _ _ _ :: F => p :: posF F
theorem fe_facts (hv : PValid cs) {j p : Nat} {e : Tr} (hc : cs.getD j default = cElse) (hj : j < cs.length) (ha : aroundAt cs j = p) (he : (endAt cs p).1 = ((j + 1 + e.len : Nat) : Int)) :
    (cs.getD p default).op = 11 ∧ cs.getD (j + 1 + e.len) default = cEnd ∧ aroundAt cs (j + 1 + e.len) = p ∧ j + 1 + e.len < cs.length := by
  obtain ⟨b, E, bi⟩ := (hv.pi hj).2.1 (by rw [hc]; rfl)
  rcases bi.el with h | ⟨q, h1, _, _, _, h5, h6⟩
  · omega
  · have hq : q = j := by omega
    subst hq
    have hb : b = p := by omega
    subst hb
    have hE : E = q + 1 + e.len := by have := bi.ends; rw [this] at he; simp only at he; omega
    subst hE
    exact ⟨h6, bi.en, bi.ar, bi.le⟩
theorem ctx_stk (hv : PValid cs) : ∀ (F : List Fr) (j : Nat), Ctx cs j F → stkOf cs j = posF F
  | [], j, h => by rw [show j = cs.length from h]; exact stkOf_end hv
  | .fi p k :: F, j, h => by
    obtain ⟨h1, h2, h3, _, h5, h6, h7⟩ := h
    have ih := ctx_stk hv F _ h7
    have hle := h7.le
    rw [stk_seg hv h5 h6 hle] at ih
    obtain ⟨x, hx⟩ := stk_end hv h2 h1
    have := stk_head hv (Nat.le_of_lt h2) hx
    rw [hx, ih]
    show x :: posF F = p :: posF F
    rw [show x = p by omega]
  | .fe p e k :: F, j, h => by
    obtain ⟨h1, h2, h3, h4, h5, h6, h7⟩ := h
    have ih := ctx_stk hv F _ h7
    have hle := h7.le
    rw [stk_seg hv h5 h6 hle] at ih
    obtain ⟨_, g2, g3, g4⟩ := fe_facts hv h1 h2 h3 h4
    obtain ⟨x, hx⟩ := stk_end hv g4 g2
    have e1 := stk_head hv (Nat.le_of_lt g4) hx
    have e2 := stk_tail hv (Nat.le_of_lt g4) hx
    rw [ih] at e2
    have hxp : x = p := by omega
    subst hxp
    have hf := stkOf_first hv (Nat.le_of_lt h2)
    rw [h3] at hf
    match hq : stkOf cs j, hf with
    | [], hf => simp at hf
    | y :: r, hf =>
      have e3 := stk_head hv (Nat.le_of_lt h2) hq
      have hy : y = x := by omega
      subst hy
      have e4 := stk_tail hv (Nat.le_of_lt h2) hq
      rw [e2] at e4
      rw [← e4]; rfl
  | .lo p a b r t k :: F, j, h => by
    obtain ⟨h1, h2, h3, _, _, _, _, _, _, _, h5, h6, h7⟩ := h
    have ih := ctx_stk hv F _ h7
    have hle := h7.le
    rw [stk_seg hv h5 h6 hle] at ih
    obtain ⟨x, hx⟩ := stk_end hv h2 h1
    have := stk_head hv (Nat.le_of_lt h2) hx
    rw [hx, ih]
    show x :: posF F = p :: posF F
    rw [show x = p by omega]

/-- The loops of a stack, the outermost one first. -/
def lpsL (cs : List Cd) : List Nat → List Nat
  | [] => []
  | x :: r => lpsL cs r ++ (if (cs.getD x default).op = 13 then [x] else [])
theorem lpsL_snoc (x : Nat) : ∀ l : List Nat, lpsL cs (l ++ [x]) = (if (cs.getD x default).op = 13 then [x] else []) ++ lpsL cs l
  | [] => by simp [lpsL]
  | y :: l => by simp only [List.cons_append, lpsL]; rw [lpsL_snoc x l, List.append_assoc]
theorem lpsTo_eq (k : Nat) : ∀ i, i ≤ (stkOf cs k).length → lpsTo cs k i = lpsL cs ((stkOf cs k).take i)
  | 0, _ => by simp [lpsTo, lpsL]
  | i + 1, h => by
    have hg : (stkOf cs k).getD i 0 = (stkOf cs k)[i] := by simp [List.getD_eq_getElem?_getD, show i < (stkOf cs k).length by omega]
    rw [List.take_succ_eq_append_getElem (by omega), lpsL_snoc, ← lpsTo_eq k i (by omega), ← hg]
    have e : lpsTo cs k (i + 1) = if (cs.getD ((stkOf cs k).getD i 0) default).op = 13 then (stkOf cs k).getD i 0 :: lpsTo cs k i else lpsTo cs k i := rfl
    rw [e]
    by_cases h13 : (cs.getD ((stkOf cs k).getD i 0) default).op = 13
    · rw [if_pos h13, if_pos h13, List.singleton_append]
    · rw [if_neg h13, if_neg h13, List.nil_append]
theorem lps_eq (k : Nat) : lps cs k = lpsL cs (stkOf cs k) := by
  unfold lps
  rw [lpsTo_eq k _ (Nat.le_refl _), List.take_length]
theorem ctx_lps (hv : PValid cs) : ∀ (F : List Fr) (j : Nat), Ctx cs j F → (lpsL cs (posF F)).length = (frT F).length ∧ ∀ k, k < (frT F).length → 0 ≤ (frT F).getD k 0 ∧ (frT F).getD k 0 ≤ (cs.getD ((lpsL cs (posF F)).getD k 0) default).b - 1
  | [], _, _ => by simp [lpsL, posF, frT]
  | .fi p k :: F, j, h => by
    obtain ⟨_, _, _, h4, _, _, h7⟩ := h
    have ih := ctx_lps hv F _ h7
    show (lpsL cs (p :: posF F)).length = (frT F).length ∧ _
    have e : lpsL cs (p :: posF F) = lpsL cs (posF F) := by
      simp only [lpsL]; rw [if_neg (by omega), List.append_nil]
    show _ ∧ ∀ k, k < (frT F).length → 0 ≤ (frT F).getD k 0 ∧ (frT F).getD k 0 ≤ (cs.getD ((lpsL cs (p :: posF F)).getD k 0) default).b - 1
    rw [e]
    exact ih
  | .fe p e k :: F, j, h => by
    obtain ⟨h1, h2, h3, h4, _, _, h7⟩ := h
    have ih := ctx_lps hv F _ h7
    obtain ⟨g1, _⟩ := fe_facts hv h1 h2 h3 h4
    show (lpsL cs (p :: posF F)).length = (frT F).length ∧ _
    have e : lpsL cs (p :: posF F) = lpsL cs (posF F) := by
      simp only [lpsL]; rw [if_neg (by omega), List.append_nil]
    show _ ∧ ∀ k, k < (frT F).length → 0 ≤ (frT F).getD k 0 ∧ (frT F).getD k 0 ≤ (cs.getD ((lpsL cs (p :: posF F)).getD k 0) default).b - 1
    rw [e]
    exact ih
  | .lo p a b r t k :: F, j, h => by
    obtain ⟨_, _, _, h4, h5, h6, _, _, _, _, _, _, h7⟩ := h
    obtain ⟨i1, i2⟩ := ctx_lps hv F _ h7
    have e : lpsL cs (posF (.lo p a b r t k :: F)) = lpsL cs (posF F) ++ [p] := by
      show lpsL cs (p :: posF F) = _
      simp only [lpsL]; rw [if_pos (by rw [h4]; rfl)]
    have eF : frT (.lo p a b r t k :: F) = frT F ++ [r] := rfl
    rw [e, eF]
    refine ⟨by simp [i1], fun q hq => ?_⟩
    by_cases hlt : q < (frT F).length
    · have e1 : (frT F ++ [r]).getD q 0 = (frT F).getD q 0 := by simp [List.getD_eq_getElem?_getD, List.getElem?_append_left hlt]
      have e2 : (lpsL cs (posF F) ++ [p]).getD q 0 = (lpsL cs (posF F)).getD q 0 := by
        rw [List.getD_eq_getElem?_getD, List.getElem?_append_left (by omega), ← List.getD_eq_getElem?_getD]
      rw [e1, e2]
      exact i2 q hlt
    · have hq' : q = (frT F).length := by simp at hq; omega
      subst hq'
      have e1 : (frT F ++ [r]).getD (frT F).length 0 = r := by simp [List.getD_eq_getElem?_getD]
      have e2 : (lpsL cs (posF F) ++ [p]).getD (frT F).length 0 = p := by rw [← i1]; simp [List.getD_eq_getElem?_getD]
      rw [e1, e2, h4]
      refine ⟨h5, ?_⟩
      show r ≤ b - 1
      omega
/-- A lane's own values. -/
def lxL (l : Ln) : Lx := ⟨[l.R 0, l.R 1, l.R 2, l.R 3], (l.at_ : Nat), l.T, l.W⟩
def WOk (cs : List Cd) (l : Ln) : Prop := l.W = true → 0 < l.at_ ∧ (cs.getD (l.at_ - 1) default).op = 10
theorem At.lane {l : Ln} {u : Tr} {F : List Fr} (hv : PValid cs) (h : At cs l u F) (hw : WOk cs l) (hg : ∀ r, Word (l.R r)) : LaneOk cs (lxL l) := by
  have hle := h.ctx.le
  have hl : l.at_ ≤ cs.length := by omega
  have hs := ctx_stk hv F _ h.ctx
  rw [stk_seg hv h.seg h.ok hle] at hs
  obtain ⟨e1, e2⟩ := ctx_lps hv F _ h.ctx
  have e3 : lps cs l.at_ = lpsL cs (posF F) := by rw [lps_eq, hs]
  refine ⟨hv, rfl, by show (0 : Int) ≤ ((l.at_ : Nat) : Int); omega, by show ((l.at_ : Nat) : Int) ≤ _; omega, ?_, ?_, ?_, ?_⟩
  · intro x hx
    simp only [lxL, List.mem_cons, List.not_mem_nil, or_false] at hx
    rcases hx with rfl | rfl | rfl | rfl
    all_goals exact hg _
  · show (lps cs ((l.at_ : Nat) : Int).toNat).length = l.T.length
    rw [Int.toNat_natCast, e3, h.t]; exact e1
  · intro k hk
    show 0 ≤ l.T.getD k 0 ∧ l.T.getD k 0 ≤ (cs.getD ((lps cs ((l.at_ : Nat) : Int).toNat).getD k 0) default).b - 1
    rw [Int.toNat_natCast, e3, h.t]
    exact e2 k (by rw [← h.t]; exact hk)
  · intro hwt
    obtain ⟨a, b⟩ := hw hwt
    refine ⟨by show (0 : Int) < ((l.at_ : Nat) : Int); omega, ?_⟩
    show (cs.getD (((l.at_ : Nat) : Int).toNat - 1) default).op = 10
    rw [Int.toNat_natCast]; exact b

/-- The most barriers on a way. -/
def Tr.bar : Tr → Nat
  | .nil => 0
  | .op c k => (if c.op = 10 then 1 else 0) + k.bar
  | .ite _ t k => t.bar + k.bar
  | .itee _ t e k => t.bar + e.bar + k.bar
  | .loop _ b t k => b.toNat * t.bar + k.bar
def barF : List Fr → Nat
  | [] => 0
  | .fi _ k :: F => k.bar + barF F
  | .fe _ _ k :: F => k.bar + barF F
  | .lo _ _ _ r t k :: F => r.toNat * t.bar + k.bar + barF F
theorem bar_le : ∀ (t : Tr), t.Ok → ∀ d, t.depth ≤ d → t.bar ≤ 4 ^ d * t.len
  | .nil, _, _, _ => by simp [Tr.bar]
  | .op c k, ho, d, h => by
    have ih := bar_le k ho.2 d h
    have hp : 1 ≤ 4 ^ d := Nat.one_le_pow _ _ (by decide)
    simp only [Tr.bar, Tr.len_op, Nat.mul_add]
    split <;> omega
  | .ite a t k, ho, d, h => by
    simp only [Tr.depth] at h
    have i1 := bar_le t ho.2.1 d (by omega)
    have i2 := bar_le k ho.2.2 d (by omega)
    simp only [Tr.bar, Tr.len_ite, Nat.mul_add]
    omega
  | .itee a t e k, ho, d, h => by
    simp only [Tr.depth] at h
    have i1 := bar_le t ho.2.1 d (by omega)
    have i2 := bar_le e ho.2.2.1 d (by omega)
    have i3 := bar_le k ho.2.2.2 d (by omega)
    simp only [Tr.bar, Tr.len_itee, Nat.mul_add]
    omega
  | .loop a b t k, ho, d, h => by
    simp only [Tr.depth] at h
    obtain ⟨_, hb, o1, o2⟩ := ho
    obtain ⟨e, rfl⟩ : ∃ e, d = e + 1 := ⟨d - 1, by omega⟩
    have i1 := bar_le t o1 e (by omega)
    have i2 := bar_le k o2 (e + 1) (by omega)
    have h5 : 4 ^ (e + 1) = 4 * 4 ^ e := by rw [Nat.pow_succ, Nat.mul_comm]
    have hq : b.toNat * t.bar ≤ 4 * t.bar := Nat.mul_le_mul_right _ (by omega)
    simp only [Tr.bar, Tr.len_loop, Nat.mul_add]
    have hx : 4 ^ (e + 1) * t.len = 4 * (4 ^ e * t.len) := by rw [h5, Nat.mul_assoc]
    rw [hx]
    rw [h5]
    rw [h5] at i2
    omega
theorem At.bars {l : Ln} {u : Tr} {F : List Fr} {m id : Nat} {M : Nat → Int} (h : At cs l u F) (hl : l.at_ < cs.length) :
    ∃ u' F', At cs (lnStep cs m id l M) u' F' ∧ u'.way + wayF F' + 1 ≤ u.way + wayF F ∧ u'.bar + barF F' + (if (cs.getD l.at_ default).op = 10 then 1 else 0) ≤ u.bar + barF F := by
  cases u with
  | op c k =>
    obtain ⟨e, _, _⟩ := h.seg.op
    refine ⟨k, F, (h.step_op (m := m) (id := id) (M := M)).2, by simp only [Tr.way]; omega, ?_⟩
    rw [e]
    simp only [Tr.bar]; omega
  | ite a t k =>
    obtain ⟨e, _⟩ := h.seg.ite
    have := (h.step_ite (m := m) (id := id) (M := M)).2
    rw [e, if_neg (show ¬ (cIf a).op = 10 by simp [cIf])]
    split at this
    · exact ⟨_, _, this, by simp only [Tr.way]; omega, by simp only [Tr.bar]; omega⟩
    · exact ⟨_, _, this, by simp only [Tr.way, wayF]; omega, by simp only [Tr.bar, barF]; omega⟩
  | itee a t e k =>
    obtain ⟨e1, _⟩ := h.seg.itee
    have := (h.step_itee (m := m) (id := id) (M := M)).2
    rw [e1, if_neg (show ¬ (cIf a).op = 10 by simp [cIf])]
    split at this
    · exact ⟨_, _, this, by simp only [Tr.way, wayF]; omega, by simp only [Tr.bar, barF]; omega⟩
    · exact ⟨_, _, this, by simp only [Tr.way, wayF]; omega, by simp only [Tr.bar, barF]; omega⟩
  | loop a b t k =>
    obtain ⟨e1, _⟩ := h.seg.loop
    have hs := (h.step_loop (m := m) (id := id) (M := M)).2
    obtain ⟨_, ob, _, _⟩ := h.ok
    rw [e1, if_neg (show ¬ (cLoop a b).op = 10 by simp [cLoop])]
    split at hs
    · exact ⟨_, _, hs, by simp only [Tr.way]; omega, by simp only [Tr.bar]; omega⟩
    · refine ⟨_, _, hs, ?_, ?_⟩
      · simp only [Tr.way, wayF]
        obtain ⟨q, rfl⟩ : ∃ q : Nat, b = (q : Int) + 1 := ⟨(b - 1).toNat, by omega⟩
        rw [show ((q : Int) + 1 - 1).toNat = q by omega, show ((q : Int) + 1).toNat = q + 1 by omega, Nat.succ_mul]
        omega
      · simp only [Tr.bar, barF]
        obtain ⟨q, rfl⟩ : ∃ q : Nat, b = (q : Int) + 1 := ⟨(b - 1).toNat, by omega⟩
        rw [show ((q : Int) + 1 - 1).toNat = q by omega, show ((q : Int) + 1).toNat = q + 1 by omega, Nat.succ_mul]
        omega
  | nil =>
    cases F with
    | nil => have := h.done; omega
    | cons f F =>
      cases f with
      | fi p k =>
        obtain ⟨e1, _⟩ := h.nil_ctx
        rw [e1, if_neg (show ¬ cEnd.op = 10 by simp [cEnd])]
        exact ⟨_, _, (h.step_fi (m := m) (id := id) (M := M)).2, by simp only [Tr.way, wayF]; omega, by simp only [Tr.bar, barF]; omega⟩
      | fe p e k =>
        obtain ⟨e1, _⟩ := h.nil_ctx
        rw [e1, if_neg (show ¬ cElse.op = 10 by simp [cElse])]
        exact ⟨_, _, (h.step_fe (m := m) (id := id) (M := M)).2, by simp only [Tr.way, wayF]; omega, by simp only [Tr.bar, barF]; omega⟩
      | lo p a b r t k =>
        obtain ⟨e1, _⟩ := h.nil_ctx
        rw [e1, if_neg (show ¬ cEnd.op = 10 by simp [cEnd])]
        have hs := (h.step_lo (m := m) (id := id) (M := M)).2
        split at hs
        · rename_i hz
          refine ⟨_, _, hs, ?_, ?_⟩
          · simp only [Tr.way, wayF]
            obtain ⟨q, rfl⟩ : ∃ q : Nat, r = (q : Int) + 1 := ⟨(r - 1).toNat, by omega⟩
            rw [show ((q : Int) + 1 - 1).toNat = q by omega, show ((q : Int) + 1).toNat = q + 1 by omega, Nat.succ_mul]
            omega
          · simp only [Tr.bar, barF]
            obtain ⟨q, rfl⟩ : ∃ q : Nat, r = (q : Int) + 1 := ⟨(r - 1).toNat, by omega⟩
            rw [show ((q : Int) + 1 - 1).toNat = q by omega, show ((q : Int) + 1).toNat = q + 1 by omega, Nat.succ_mul]
            omega
        · exact ⟨_, _, hs, by simp only [Tr.way, wayF]; omega, by simp only [Tr.bar, barF]; omega⟩
end

end Go.Proofs.Ytkolnakcgjlcgaa

namespace Go.Proofs.Ytkolnakcgjlcgaa

theorem way_le : ∀ (t : Tr), t.Ok → ∀ d, t.depth ≤ d → t.way ≤ 5 ^ d * t.len
  | .nil, _, _, _ => by simp [Tr.way]
  | .op c k, ho, d, h => by
    have ih := way_le k ho.2 d h
    have hp : 1 ≤ 5 ^ d := Nat.one_le_pow _ _ (by decide)
    simp only [Tr.way, Tr.len_op, Nat.mul_add]
    omega
  | .ite a t k, ho, d, h => by
    simp only [Tr.depth] at h
    have i1 := way_le t ho.2.1 d (by omega)
    have i2 := way_le k ho.2.2 d (by omega)
    have hp : 1 ≤ 5 ^ d := Nat.one_le_pow _ _ (by decide)
    simp only [Tr.way, Tr.len_ite, Nat.mul_add]
    omega
  | .itee a t e k, ho, d, h => by
    simp only [Tr.depth] at h
    have i1 := way_le t ho.2.1 d (by omega)
    have i2 := way_le e ho.2.2.1 d (by omega)
    have i3 := way_le k ho.2.2.2 d (by omega)
    have hp : 1 ≤ 5 ^ d := Nat.one_le_pow _ _ (by decide)
    simp only [Tr.way, Tr.len_itee, Nat.mul_add]
    omega
  | .loop a b t k, ho, d, h => by
    simp only [Tr.depth] at h
    obtain ⟨_, hb, o1, o2⟩ := ho
    obtain ⟨e, rfl⟩ : ∃ e, d = e + 1 := ⟨d - 1, by omega⟩
    have i1 := way_le t o1 e (by omega)
    have i2 := way_le k o2 (e + 1) (by omega)
    have hp : 1 ≤ 5 ^ e := Nat.one_le_pow _ _ (by decide)
    have h5 : 5 ^ (e + 1) = 5 * 5 ^ e := by rw [Nat.pow_succ, Nat.mul_comm]
    have hq : b.toNat * (t.way + 1) ≤ 4 * (t.way + 1) := Nat.mul_le_mul_right _ (by omega)
    rw [Nat.mul_add, Nat.mul_add] at hq
    simp only [Tr.way, Tr.len_loop, Nat.mul_add]
    have hx : 5 ^ (e + 1) * t.len = 5 * (5 ^ e * t.len) := by rw [h5, Nat.mul_assoc]
    rw [hx]
    rw [h5]
    rw [h5] at i2
    omega

def startCS (mem : List Int) : CS := ⟨fun _ => ln0, fun j => mem.getD j 0, [], [], 0⟩
/-- Lockstep without split barriers is the run by the least places. -/
theorem lock_sync {cs : List Cd} {n : Nat} {mem : List Int} (hok : RunOk cs n mem) (hn : NoSp cs n (lockOf cs n mem).H) :
    ∃ c, Gets cs n mem.length (startCS mem) c ∧ DoneL cs n c.L ∧ Syn n (lockOf cs n mem) c := by
  obtain ⟨h1, h2, h3⟩ := treeOf_spec hok.1
  have hl : (treeOf cs).len = cs.length := (congrArg List.length h1).symm
  have hb : ∀ l, l < n → ((2 : Nat) ^ n - 1).testBit l = true := fun l hl => by rw [Nat.testBit_two_pow_sub_one]; simpa using hl
  obtain ⟨c, g1, g2, g3, g4⟩ := run_sync (cs := cs) (n := n) (m := mem.length) (treeOf cs) 0 [] h2 (Seg.whole h1) (by show 0 + (treeOf cs).len = cs.length; omega) (2 ^ n - 1) (startLS mem) (startCS mem)
    (Nat.sub_lt (Nat.pow_pos (by decide)) (by decide)) ⟨fun l _ => ⟨rfl, rfl⟩, rfl, rfl, rfl, rfl⟩ (fun l _ _ => ⟨rfl, rfl⟩) (fun l hl hx => by rw [hb l hl] at hx; cases hx) hn
  refine ⟨c, g1, fun l hl => ⟨(g2.all l hl).2, ?_⟩, g2⟩
  rw [(g3 l hl (hb l hl)).1]; omega
theorem Gets.done_unique {cs : List Cd} {n m : Nat} {s c : CS} {N : Nat} (h : Gets cs n m s c) (hd : DoneL cs n c.L) (hN : DoneL cs n (lIter cs n m N s).L) : lIter cs n m N s = c := by
  obtain ⟨j, rfl⟩ := h
  by_cases hj : j ≤ N
  · obtain ⟨d, rfl⟩ : ∃ d, N = j + d := ⟨N - j, by omega⟩
    rw [lIter_add, lIter_done hd]
  · obtain ⟨d, rfl⟩ : ∃ d, j = N + d := ⟨j - N, by omega⟩
    rw [lIter_add, lIter_done hN]
end Go.Proofs.Ytkolnakcgjlcgaa

namespace Go.Proofs.Ytkolnakcgjlcgaa

def StepIn (n a b : Nat) (x : Nat × Nat × (Nat → Nat → Int)) : Prop := a ≤ x.1 ∧ x.1 < b ∧ x.2.1 ≠ 0 ∧ x.2.1 < 2 ^ n
theorem StepIn.wide {n a b a' b' : Nat} {x : Nat × Nat × (Nat → Nat → Int)} (h : StepIn n a b x) (ha : a' ≤ a) (hb : b ≤ b') : StepIn n a' b' x := ⟨Nat.le_trans ha h.1, Nat.lt_of_lt_of_le h.2.1 hb, h.2.2⟩
theorem beat_in {n i mask b : Nat} {s : LS} {x : Nat × Nat × (Nat → Nat → Int)} (hm : mask < 2 ^ n) (h0 : mask ≠ 0) (hb : i < b) (h : x ∈ (beat i mask s).H) : x ∈ s.H ∨ StepIn n i b x := by
  rcases List.mem_append.1 h with h | h
  · exact .inl h
  · simp at h; subst h; exact .inr ⟨Nat.le_refl _, hb, h0, hm⟩
theorem turns_in {F : Nat → LS → LS} {n a lo hi : Nat} (hF : ∀ y s x, y < 2 ^ n → x ∈ (F y s).H → x ∈ s.H ∨ StepIn n lo hi x) : ∀ (b y : Nat) (s : LS) (x), x ∈ (turns F n a b y s).H → x ∈ s.H ∨ StepIn n lo hi x
  | 0, _, _, _, h => .inl h
  | b + 1, y, s, x, h => by
    rcases turns_in hF b (onesTo s.R y a n) (F (onesTo s.R y a n) s) x h with h | h
    · exact hF _ _ _ (onesTo_lt _ _ _ _) h
    · exact .inr h
theorem runStepIn (n m : Nat) : ∀ (t : Tr) (i mask : Nat) (s : LS) (x), mask < 2 ^ n → x ∈ (run n m t i mask s).H → x ∈ s.H ∨ StepIn n i (i + t.len) x
  | .nil, _, _, _, _, _, h => .inl h
  | .op c k, i, mask, s, x, hm, h => by
    rw [Tr.len_op]
    by_cases h0 : mask = 0
    · subst h0; rw [run_zero] at h; exact .inl h
    · have h : x ∈ (if mask = 0 then s else run n m k (i + 1) mask (exec c n m i mask s) : LS).H := h
      rw [if_neg h0] at h
      rcases runStepIn n m k _ _ _ _ hm h with h | h
      · rw [exec_H] at h
        exact beat_in (s := s) hm h0 (by omega) h
      · exact .inr (h.wide (by omega) (by omega))
  | .ite a t k, i, mask, s, x, hm, h => by
    rw [Tr.len_ite]
    by_cases h0 : mask = 0
    · subst h0; rw [run_zero] at h; exact .inl h
    · have h : x ∈ (if mask = 0 then s else _ : LS).H := h
      rw [if_neg h0] at h
      rcases runStepIn n m k _ _ _ _ hm h with h | h
      · rcases runStepIn n m t _ _ _ _ (onesTo_lt _ _ _ _) h with h | h
        · exact beat_in (s := s) hm h0 (by omega) h
        · exact .inr (h.wide (by omega) (by omega))
      · exact .inr (h.wide (by omega) (by omega))
  | .itee a t e k, i, mask, s, x, hm, h => by
    rw [Tr.len_itee]
    by_cases h0 : mask = 0
    · subst h0; rw [run_zero] at h; exact .inl h
    · have h : x ∈ (if mask = 0 then s else _ : LS).H := h
      rw [if_neg h0] at h
      rcases runStepIn n m k _ _ _ _ hm h with h | h
      · rcases runStepIn n m e _ _ _ _ (del_lt2 _ hm) h with h | h
        · rcases runStepIn n m t _ _ _ _ (onesTo_lt _ _ _ _) h with h | h
          · exact beat_in (s := s) hm h0 (by omega) h
          · exact .inr (h.wide (by omega) (by omega))
        · exact .inr (h.wide (by omega) (by omega))
      · exact .inr (h.wide (by omega) (by omega))
  | .loop a b t k, i, mask, s, x, hm, h => by
    rw [Tr.len_loop]
    by_cases h0 : mask = 0
    · subst h0; rw [run_zero] at h; exact .inl h
    · have h : x ∈ (if mask = 0 then s else _ : LS).H := h
      rw [if_neg h0] at h
      rcases runStepIn n m k _ _ _ _ hm h with h | h
      · rcases turns_in (lo := i) (hi := i + (1 + t.len + 1 + k.len)) (fun y s x hy hx => (runStepIn n m t _ _ _ _ hy hx).imp id fun h => h.wide (by omega) (by omega)) _ _ _ _ h with h | h
        · exact beat_in (s := s) hm h0 (by omega) h
        · exact .inr (h.wide (by omega) (by omega))
      · exact .inr (h.wide (by omega) (by omega))

end Go.Proofs.Ytkolnakcgjlcgaa

namespace Go.Proofs.Ytkolnakcgjlcgaa
open Go.RowKit

theorem lockOf_in {cs : List Cd} {n : Nat} {mem : List Int} (hv : PValid cs) : ∀ x ∈ (lockOf cs n mem).H, StepIn n 0 cs.length x := by
  intro x hx
  obtain ⟨h1, h2, h3⟩ := treeOf_spec hv
  have hlen : (treeOf cs).len = cs.length := (congrArg List.length h1).symm
  rcases runStepIn n mem.length (treeOf cs) 0 (2 ^ n - 1) (startLS mem) x (Nat.sub_lt (Nat.two_pow_pos n) (by decide)) hx with h | h
  · cases h
  · rw [hlen, Nat.zero_add] at h; exact h
theorem lanes_nat {a : Int} (h : LanesOk a) : ∃ n : Nat, a = n ∧ 1 ≤ n ∧ n ≤ 8 := ⟨a.toNat, by unfold LanesOk at h; omega, by unfold LanesOk at h; omega, by unfold LanesOk at h; omega⟩

end Go.Proofs.Ytkolnakcgjlcgaa

namespace Go.Proofs.Ytkolnakcgjlcgaa
open Go.RowKit

/-- A slice whose cells read as a list. -/
def Flat (w : World) (v : Value) (n s : Nat) (xs : List Value) : Prop := Cells w v n s fun j => xs.getD j undef
theorem Flat.keep {w w' : World} {v : Value} {n s : Nat} {xs : List Value} (h : Flat w v n s xs) (hp : Pure w w') : Flat w' v n s xs := Cells.keep h hp
theorem Flat.of_own {w : World} {B e s n : Nat} {v : Value} {xs : List Value} (h : OwnO w B e s v n xs) : Flat w v n s xs :=
  Cells.of_ownO h fun j hj => by
    have : j < xs.length := by rw [h.1]; exact hj
    simp [List.getD_eq_getElem?_getD, this]
theorem Flat.form {w : World} {v : Value} {n s : Nat} {xs : List Value} (h : Flat w v n s xs) : ∃ A c, v = .slice A n c ∧ n ≤ c ∧ c ≤ 9223372036854775807 := by
  obtain ⟨A, c, h1, h2, h3, _⟩ := h
  exact ⟨A, c, h1, h2, h3⟩
theorem Flat.at_ {w : World} {A : Option Addr} {n s c : Nat} {xs : List Value} (h : Flat w (.slice A n c) n s xs) (hn : 0 < n) : ∃ b o, A = some ⟨b, o, none⟩ ∧ b < w.heap.size ∧ ∀ j, j < n * s → w.cell? ⟨b, o + j, none⟩ = some (xs.getD j undef) := by
  obtain ⟨A', c', hv, _, _, h4⟩ := h
  injection hv with e1 e2 e3
  subst e1
  exact h4 hn
end Go.Proofs.Ytkolnakcgjlcgaa

namespace Go.Proofs.Ytkolnakcgjlcgaa
open Go.RowKit

def noLS : LS := ⟨fun _ _ => 0, fun _ => 0, [], [], 0⟩
open Classical in
noncomputable def lockA (cs : List Cd) (a : Int) (mem : List Int) : LS := if RunOk cs a mem then lockOf cs a.toNat mem else noLS
theorem lockA_ok {cs : List Cd} {n : Nat} {mem : List Int} (h : RunOk cs n mem) : lockA cs n mem = lockOf cs n mem := by
  unfold lockA; rw [if_pos h]; rfl
end Go.Proofs.Ytkolnakcgjlcgaa

namespace Go.Proofs.Ytkolnakcgjlcgaa

theorem one_ok {cs : List Cd} {n : Nat} {mem : List Int} (hok : RunOk cs n mem) : RunOk cs (1 : Nat) mem := ⟨hok.1, ⟨by decide, by decide⟩, hok.2.2⟩
theorem one_nosp {cs : List Cd} {mem : List Int} (hok : RunOk cs (1 : Nat) mem) : NoSp cs 1 (lockOf cs 1 mem).H := by
  intro x hx _
  obtain ⟨_, _, h3, h4⟩ := lockOf_in hok.1 x hx
  omega
end Go.Proofs.Ytkolnakcgjlcgaa

namespace Go.Proofs.Ytkolnakcgjlcgaa

/-- A lane somewhere on its way, which is at most w steps and b barriers long. -/
def OnWB (cs : List Cd) (l : Ln) (w b : Nat) : Prop := ∃ u F, At cs l u F ∧ u.way + wayF F ≤ w ∧ u.bar + barF F ≤ b
theorem OnWB.on {cs : List Cd} {l : Ln} {w b : Nat} (h : OnWB cs l w b) : OnWay cs l w := by
  obtain ⟨u, F, h1, h2, _⟩ := h
  exact ⟨u, F, h1, h2⟩
theorem OnWB.pass {cs : List Cd} {l : Ln} {w b : Nat} (h : OnWB cs l w b) (W : Bool) : OnWB cs { l with W := W } w b := by
  obtain ⟨u, F, h1, h2⟩ := h
  exact ⟨u, F, ⟨h1.seg, h1.ok, h1.ctx, h1.t⟩, h2⟩
theorem OnWB.step {cs : List Cd} {l : Ln} {w b m id : Nat} {M : Nat → Int} (h : OnWB cs l w b) (hl : l.at_ < cs.length) :
    1 ≤ w ∧ OnWB cs (lnStep cs m id l M) (w - 1) (b - (if (cs.getD l.at_ default).op = 10 then 1 else 0)) ∧ ((cs.getD l.at_ default).op = 10 → 1 ≤ b) := by
  obtain ⟨u, F, h1, h2, h3⟩ := h
  obtain ⟨u', F', g1, g2, g3⟩ := h1.bars (m := m) (id := id) (M := M) hl
  refine ⟨by omega, ⟨u', F', g1, by omega, ?_⟩, fun h10 => ?_⟩
  · split <;> rename_i h10
    · rw [if_pos h10] at g3; omega
    · rw [if_neg h10] at g3; omega
  · rw [if_pos h10] at g3; omega
theorem OnWB.lane {cs : List Cd} {l : Ln} {w b : Nat} (hv : PValid cs) (h : OnWB cs l w b) (hw : WOk cs l) (hg : ∀ r, Word (l.R r)) : LaneOk cs (lxL l) := by
  obtain ⟨u, F, h1, _⟩ := h
  exact h1.lane hv hw hg
theorem start_wb {cs : List Cd} (hv : PValid cs) : OnWB cs ln0 5000 2560 := by
  obtain ⟨t, h1, h2, h3⟩ := hv.tree
  have hl : t.len ≤ 40 := by have := hv.2.1; rw [h1] at this; exact this
  have hw := way_le t h2 3 h3
  have hb := bar_le t h2 3 h3
  refine ⟨t, [], ⟨Seg.whole h1, h2, ?_, rfl⟩, ?_, ?_⟩
  · show 0 + t.len = cs.length
    rw [h1]; unfold Tr.len; omega
  · simp only [wayF]; omega
  · simp only [barF]; omega
theorem lnStep_W {cs : List Cd} {m id : Nat} {l : Ln} {M : Nat → Int} (h : l.W = false) : (lnStep cs m id l M).W = decide ((cs.getD l.at_ default).op = 10) ∧ ((cs.getD l.at_ default).op = 10 → (lnStep cs m id l M).at_ = l.at_ + 1) := by
  unfold lnStep
  simp only []
  by_cases h10 : (cs.getD l.at_ default).op = 10
  · rw [if_pos h10]
    exact ⟨(decide_eq_true h10).symm, fun _ => rfl⟩
  · rw [if_neg h10]
    refine ⟨?_, fun e => absurd e h10⟩
    rw [decide_eq_false h10]
    repeat (first | exact h | split)
theorem lnStep_wok {cs : List Cd} {m id : Nat} {l : Ln} {M : Nat → Int} (h : l.W = false) : WOk cs (lnStep cs m id l M) := by
  intro hw
  obtain ⟨h1, h2⟩ := lnStep_W (cs := cs) (m := m) (id := id) (M := M) h
  rw [h1] at hw
  have h10 : (cs.getD l.at_ default).op = 10 := by simpa using hw
  rw [h2 h10]
  exact ⟨by omega, by simpa using h10⟩

/-- A leg: a lane that did not wait has come to where it is, with k barriers less. -/
def LegTo (cs : List Cd) (b : Nat) (l : Ln) : Prop := ∃ w b', OnWB cs l w b' ∧ WOk cs l ∧ (l.W = true → b' + 1 ≤ b) ∧ (l.W = false → b' ≤ b)
theorem LegTo.start {cs : List Cd} {l : Ln} {w b : Nat} (h : OnWB cs l w b) (hw : l.W = false) : LegTo cs b l :=
  ⟨w, b, h, (fun e => by rw [hw] at e; cases e), (fun e => by rw [hw] at e; cases e), fun _ => Nat.le_refl _⟩
theorem LegTo.step {cs : List Cd} {b m id : Nat} {l : Ln} {M : Nat → Int} (h : LegTo cs b l) (hg : goesL cs.length l = true) : LegTo cs b (lnStep cs m id l M) := by
  obtain ⟨w, b', h1, h2, h3, h4⟩ := h
  obtain ⟨hw, hlt⟩ := goes_iff.1 hg
  obtain ⟨_, g2, g3⟩ := h1.step (m := m) (id := id) (M := M) hlt
  have hb := h4 hw
  obtain ⟨e1, e2⟩ := lnStep_W (cs := cs) (m := m) (id := id) (M := M) hw
  refine ⟨_, _, g2, lnStep_wok hw, fun hW => ?_, fun hW => ?_⟩
  · rw [e1] at hW
    have h10 : (cs.getD l.at_ default).op = 10 := by simpa using hW
    have := g3 h10
    rw [if_pos h10]; omega
  · split <;> omega

/-- One lane alone is one lane by the least places. -/
def Lone (cs : List Cd) (mem : List Int) (l : Ln) (M : Nat → Int) : Prop :=
  ∃ j, (lIter cs 1 mem.length j (startCS mem)).L 0 = { l with W := false } ∧ (lIter cs 1 mem.length j (startCS mem)).M = M
theorem Lone.start (cs : List Cd) (mem : List Int) : Lone cs mem ln0 (fun j => mem.getD j 0) := ⟨0, rfl, rfl⟩
theorem Lone.pass {cs : List Cd} {mem : List Int} {l : Ln} {M : Nat → Int} (h : Lone cs mem l M) (W : Bool) : Lone cs mem { l with W := W } M := h
theorem lone_step {cs : List Cd} {m : Nat} {s : CS} (hW : (s.L 0).W = false) (hlt : (s.L 0).at_ < cs.length) :
    (leastStep cs 1 m s).L 0 = { lnStep cs m 0 (s.L 0) s.M with W := false } ∧ (leastStep cs 1 m s).M = lnMem cs m (s.L 0) s.M := by
  have hgo : goesL cs.length (s.L 0) = true := goes_iff.2 ⟨hW, hlt⟩
  have hd : ¬ DoneL cs 1 s.L := fun h => by have := (h 0 (by omega)).2; omega
  have hl : leastTo cs s.L 1 = (1, (s.L 0).at_) := by
    show (let r := leastTo cs s.L 0; if goesL cs.length (s.L 0) = true then (if (s.L 0).at_ < r.2 then (2 ^ 0, (s.L 0).at_) else if (s.L 0).at_ = r.2 then (r.1 ||| 2 ^ 0, r.2) else r) else r) = _
    simp only []
    rw [if_pos hgo, if_pos (by show (s.L 0).at_ < cs.length; exact hlt)]
  unfold leastStep
  rw [if_neg hd, hl]
  have hst : stepTo cs m 1 1 (noteC cs (s.L 0).at_ 1 s) = laneS cs m 0 (noteC cs (s.L 0).at_ 1 s) := rfl
  show (passS cs 1 (stepTo cs m 1 1 (noteC cs (s.L 0).at_ 1 s))).L 0 = _ ∧ (passS cs 1 (stepTo cs m 1 1 (noteC cs (s.L 0).at_ 1 s))).M = _
  rw [hst]
  refine ⟨?_, by rw [pass_M]; rfl⟩
  rw [pass_L]
  have e0 : (laneS cs m 0 (noteC cs (s.L 0).at_ 1 s)).L 0 = lnStep cs m 0 (s.L 0) s.M := by
    show (if 0 = 0 then lnStep cs m 0 (s.L 0) s.M else s.L 0) = _
    rw [if_pos rfl]
  split
  · rename_i ha
    rw [e0]
    obtain ⟨l, hl0, hg⟩ := anyGo_iff.1 ha
    have : l = 0 := by omega
    subst this
    rw [e0] at hg
    have hw := (goes_iff.1 hg).1
    show lnStep cs m 0 (s.L 0) s.M = _
    generalize lnStep cs m 0 (s.L 0) s.M = q at hw ⊢
    cases q
    simp only at hw
    rw [hw]
  · show (if 0 < 1 then { (laneS cs m 0 (noteC cs (s.L 0).at_ 1 s)).L 0 with W := false } else _) = _
    rw [if_pos (by omega), e0]
theorem Lone.step {cs : List Cd} {mem : List Int} {l : Ln} {M : Nat → Int} (h : Lone cs mem l M) (hg : goesL cs.length l = true) : Lone cs mem (lnStep cs mem.length 0 l M) (lnMem cs mem.length l M) := by
  obtain ⟨j, h1, h2⟩ := h
  obtain ⟨hw, hlt⟩ := goes_iff.1 hg
  have e : ({ l with W := false } : Ln) = l := by
    cases l
    simp only at hw
    rw [hw]
  rw [e] at h1
  have hs := lone_step (cs := cs) (m := mem.length) (s := lIter cs 1 mem.length j (startCS mem)) (by rw [h1]; exact hw) (by rw [h1]; exact hlt)
  rw [h1, h2] at hs
  exact ⟨j + 1, hs.1, hs.2⟩
/-- At the end its registers are those of lockstep. -/
theorem Lone.fin {cs : List Cd} {mem : List Int} {l : Ln} {M : Nat → Int} (h : Lone cs mem l M) (hok : RunOk cs (1 : Nat) mem) (hl : cs.length ≤ l.at_) : l.R = (lockOf cs 1 mem).R 0 := by
  obtain ⟨j, h1, _⟩ := h
  obtain ⟨c, g1, g2, g3⟩ := lock_sync hok (one_nosp hok)
  have hd : DoneL cs 1 (lIter cs 1 mem.length j (startCS mem)).L := by
    intro k hk
    have : k = 0 := by omega
    subst this
    rw [h1]
    exact ⟨rfl, hl⟩
  have e := g1.done_unique g2 hd
  have hr := (g3.all 0 (by omega)).1
  rw [← e, h1] at hr
  exact hr

end Go.Proofs.Ytkolnakcgjlcgaa

namespace Go.Proofs.Ytkolnakcgjlcgaa

theorem lpsOp13 (cs : List Cd) (k : Nat) : ∀ i, ∀ x ∈ lpsTo cs k i, (cs.getD x default).op = 13
  | 0, x, hx => by simp [lpsTo] at hx
  | i + 1, x, hx => by
    unfold lpsTo at hx
    split at hx
    · rename_i h
      rcases List.mem_cons.1 hx with rfl | hx
      · exact h
      · exact lpsOp13 cs k i x hx
    · exact lpsOp13 cs k i x hx
section
variable {cs : List Cd} {l : Lx}
theorem LaneOk.short (h : LaneOk cs l) : l.ts.length ≤ 3 := by
  have h1 := h.tl
  have h2 := lpsTo_len cs l.at_.toNat (stkOf cs l.at_.toNat).length
  have h3 := stkOf_len h.p (k := l.at_.toNat) (by have := h.a1; have := h.a0; omega)
  unfold lps at h1
  omega
theorem LaneOk.turns (h : LaneOk cs l) : ∀ x ∈ l.ts, (0 : Int) ≤ x ∧ x ≤ 3 := by
  intro x hx
  obtain ⟨k, hk, rfl⟩ := List.getElem_of_mem hx
  have ht := h.t k hk
  have e : l.ts.getD k 0 = l.ts[k] := by simp [List.getD_eq_getElem?_getD, hk]
  rw [e] at ht
  have hkl : k < (lps cs l.at_.toNat).length := by rw [h.tl]; exact hk
  have e2 : (lps cs l.at_.toNat).getD k 0 = (lps cs l.at_.toNat)[k] := by simp [List.getD_eq_getElem?_getD, hkl]
  rw [e2] at ht
  have hm : (lps cs l.at_.toNat)[k] ∈ lps cs l.at_.toNat := List.getElem_mem hkl
  have hop := lpsOp13 cs l.at_.toNat _ _ hm
  have hlt := lpsTo_lt h.p (k := l.at_.toNat) (by have := h.a1; have := h.a0; omega) _ (Nat.le_refl _) _ hm
  have hc : CdOk (cs.getD (lps cs l.at_.toNat)[k] default) := h.p.1 _ (cdOk_mem (by have := h.a1; have := h.a0; omega))
  have hb : (cs.getD (lps cs l.at_.toNat)[k] default).b ≤ 4 := by
    unfold CdOk at hc
    rcases hc with hc | hc | hc | hc | hc | hc
    · omega
    · omega
    · omega
    · omega
    · exact hc.2.2.1.2
    · omega
  omega
end
end Go.Proofs.Ytkolnakcgjlcgaa
