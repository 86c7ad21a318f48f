/- Instructions and programs, plainly: which are valid, where blocks end, which block is around a place. No program in sight. -/
import Derived.Test.YtokdfgodmhekmaaBase
namespace Go.Proofs.Ytokdfgodmhekmaa

structure Cd where
  op : Int
  a : Int
  b : Int
  c : Int
deriving DecidableEq, Inhabited

def Reg (x : Int) : Prop := 0 ≤ x ∧ x ≤ 3
def Word (x : Int) : Prop := 0 ≤ x ∧ x ≤ 255
def CdOk (c : Cd) : Prop :=
  (c.op = 1 ∧ Reg c.a ∧ Word c.b ∧ c.c = 0) ∨ ((c.op = 2 ∨ c.op = 11) ∧ Reg c.a ∧ c.b = 0 ∧ c.c = 0) ∨
  ((c.op = 3 ∨ c.op = 4 ∨ c.op = 5 ∨ c.op = 8 ∨ c.op = 9) ∧ Reg c.a ∧ Reg c.b ∧ c.c = 0) ∨
  ((c.op = 6 ∨ c.op = 7) ∧ Reg c.a ∧ Reg c.b ∧ Reg c.c) ∨ (c.op = 13 ∧ Reg c.a ∧ (1 ≤ c.b ∧ c.b ≤ 4) ∧ c.c = 0) ∨
  ((c.op = 10 ∨ c.op = 12 ∨ c.op = 14) ∧ c.a = 0 ∧ c.b = 0 ∧ c.c = 0)
def Opens (c : Cd) : Prop := c.op = 11 ∨ c.op = 13
instance (c : Cd) : Decidable (Opens c) := by unfold Opens; infer_instance

/-- A step of the scan: the open blocks, the innermost one first: its place, and 11 (an if), 12 (an if behind its else) or 13 (a loop). -/
def sstep (st : List (Nat × Int)) (k : Nat) (c : Cd) : Option (List (Nat × Int)) :=
  if c.op = 11 ∨ c.op = 13 then (if st.length < 3 then some ((k, c.op) :: st) else none)
  else if c.op = 12 then (match st with | (p, m) :: r => if m = 11 then some ((p, 12) :: r) else none | [] => none)
  else if c.op = 14 then (match st with | _ :: r => some r | [] => none)
  else some st
theorem sstep_open {st : List (Nat × Int)} {k : Nat} {c : Cd} (h : Opens c) : sstep st k c = if st.length < 3 then some ((k, c.op) :: st) else none := by
  unfold sstep; exact if_pos h
theorem sstep_else {st : List (Nat × Int)} {k : Nat} {c : Cd} (h : c.op = 12) : sstep st k c = (match st with | (p, m) :: r => if m = 11 then some ((p, 12) :: r) else none | [] => none) := by
  unfold sstep; rw [if_neg (by omega), if_pos h]
theorem sstep_end {st : List (Nat × Int)} {k : Nat} {c : Cd} (h : c.op = 14) : sstep st k c = (match st with | _ :: r => some r | [] => none) := by
  unfold sstep; rw [if_neg (by omega), if_neg (by omega), if_pos h]
theorem sstep_other {st : List (Nat × Int)} {k : Nat} {c : Cd} (h1 : ¬ Opens c) (h2 : c.op ≠ 12) (h3 : c.op ≠ 14) : sstep st k c = some st := by
  unfold Opens at h1
  unfold sstep; rw [if_neg h1, if_neg h2, if_neg h3]
def sscan : List Cd → Nat → List (Nat × Int) → Option (List (Nat × Int))
  | [], _, st => some st
  | c :: r, k, st => (sstep st k c).bind (sscan r (k + 1))
theorem sscan_append (l m : List Cd) (k : Nat) (st : List (Nat × Int)) : sscan (l ++ m) k st = (sscan l k st).bind (sscan m (k + l.length)) := by
  induction l generalizing k st with
  | nil => simp [sscan]
  | cons c r ih =>
    simp only [List.cons_append, sscan, List.length_cons]
    cases sstep st k c with
    | none => rfl
    | some st' => simp only [Option.bind_some]; rw [ih, show k + 1 + r.length = k + (r.length + 1) by omega]
theorem sscan_take {cs : List Cd} {k : Nat} (hk : k < cs.length) {st : List (Nat × Int)} (h : sscan (cs.take k) 0 [] = some st) : sscan (cs.take (k + 1)) 0 [] = sstep st k (cs.getD k default) := by
  rw [List.take_succ_eq_append_getElem hk, sscan_append, h]
  simp only [Option.bind_some, List.length_take, sscan, List.getD_eq_getElem?_getD, List.getElem?_eq_getElem hk, Option.getD_some]
  rw [show 0 + min k cs.length = k by omega]
  cases sstep st k cs[k] <;> rfl
theorem sscan_none {cs : List Cd} {k : Nat} (h : sscan (cs.take k) 0 [] = none) : sscan cs 0 [] = none := by
  have := sscan_append (cs.take k) (cs.drop k) 0 []
  rw [List.take_append_drop] at this
  rw [this, h]; rfl

theorem sscan_lt' : ∀ (l : List Cd) (k : Nat) (st st' : List (Nat × Int)), (∀ x ∈ st, x.1 < k) → sscan l k st = some st' → ∀ x ∈ st', x.1 < k + l.length
  | [], k, st, st', h, hs => by
    simp only [sscan, Option.some.injEq] at hs
    subst hs
    simpa using h
  | c :: r, k, st, st', h, hs => by
    simp only [sscan] at hs
    cases hc : sstep st k c with
    | none => rw [hc] at hs; cases hs
    | some st1 =>
      rw [hc] at hs
      have h1 : ∀ x ∈ st1, x.1 < k + 1 := by
        unfold sstep at hc
        split at hc
        · split at hc
          · injection hc with hc; subst hc
            intro x hx
            rcases List.mem_cons.1 hx with rfl | hx
            · simp
            · have := h x hx; omega
          · cases hc
        · split at hc
          · split at hc
            · rename_i p m r'
              split at hc
              · injection hc with hc; subst hc
                intro x hx
                rcases List.mem_cons.1 hx with rfl | hx
                · have := h (p, m) (by simp); simp at this ⊢; omega
                · have := h x (by simp [hx]); omega
              · cases hc
            · cases hc
          · split at hc
            · split at hc
              · injection hc with hc; subst hc
                intro x hx
                have := h x (by simp [hx]); omega
              · cases hc
            · injection hc with hc; subst hc
              intro x hx
              have := h x hx; omega
      have := sscan_lt' r (k + 1) st1 st' h1 hs
      intro x hx
      have := this x hx
      simp only [List.length_cons]; omega
theorem sscan_lt {l : List Cd} {st : List (Nat × Int)} (h : sscan l 0 [] = some st) : ∀ x ∈ st, x.1 < l.length := by
  intro x hx
  have := sscan_lt' l 0 [] st (by simp) h x hx
  omega
def PValid (cs : List Cd) : Prop := (∀ c ∈ cs, CdOk c) ∧ cs.length ≤ 40 ∧ sscan cs 0 [] = some []

/-- Where the block ends whose instructions follow, and where it is divided. -/
def eScan : List Cd → Nat → Nat → Int → Int × Int
  | [], _, _, o => (-1, o)
  | c :: r, k, d, o =>
    if Opens c then eScan r (k + 1) (d + 1) o
    else if c.op = 12 ∧ d = 0 then eScan r (k + 1) d k
    else if c.op = 14 ∧ d = 0 then (k, o)
    else if c.op = 14 then eScan r (k + 1) (d - 1) o
    else eScan r (k + 1) d o
theorem eScan_cons (c : Cd) (r : List Cd) (k d : Nat) (o : Int) : eScan (c :: r) k d o =
    if Opens c then eScan r (k + 1) (d + 1) o
    else if c.op = 12 ∧ d = 0 then eScan r (k + 1) d k
    else if c.op = 14 ∧ d = 0 then (k, o)
    else if c.op = 14 then eScan r (k + 1) (d - 1) o
    else eScan r (k + 1) d o := rfl
def endAt (cs : List Cd) (p : Nat) : Int × Int := eScan (cs.drop (p + 1)) (p + 1) 0 (-1)

/-- The place that opens the innermost block around place k, but for d blocks within. -/
def bScan (cs : List Cd) : Nat → Nat → Int
  | 0, _ => -1
  | k + 1, d =>
    if (cs.getD k default).op = 14 then bScan cs k (d + 1)
    else if Opens (cs.getD k default) then (if d = 0 then (k : Int) else bScan cs k (d - 1))
    else bScan cs k d
def aroundAt (cs : List Cd) (k : Nat) : Int := bScan cs k 0

/-- What the scan's stack knows of the blocks that are open at place k. -/
structure Stk (cs : List Cd) (k : Nat) (st : List (Nat × Int)) : Prop where
  len : st.length ≤ 3
  lt : ∀ i (h : i < st.length), (st[i]).1 < k
  mono : st.Pairwise (fun x y => y.1 < x.1)
  around : ∀ i, bScan cs k i = (match st[i]? with | some x => (x.1 : Int) | none => -1)
  ends : ∀ i (h : i < st.length), ∃ o : Int, endAt cs (st[i]).1 = eScan (cs.drop k) k i o ∧
    ((st[i].2 = 11 ∧ (cs.getD st[i].1 default).op = 11 ∧ o = -1) ∨ (st[i].2 = 12 ∧ (cs.getD st[i].1 default).op = 11 ∧ (st[i].1 : Int) < o ∧ o < k) ∨ (st[i].2 = 13 ∧ (cs.getD st[i].1 default).op = 13 ∧ o = -1))

theorem Stk.nil (cs : List Cd) : Stk cs 0 [] := ⟨by simp, by simp, .nil, fun i => by simp [bScan], by simp⟩

theorem drop_cons {cs : List Cd} {k : Nat} (hk : k < cs.length) : cs.drop k = cs.getD k default :: cs.drop (k + 1) := by
  rw [List.drop_eq_getElem_cons hk]; simp [List.getD_eq_getElem?_getD, hk]

theorem Stk.step {cs : List Cd} {k : Nat} {st st' : List (Nat × Int)} (h : Stk cs k st) (hk : k < cs.length) (hs : sstep st k (cs.getD k default) = some st') : Stk cs (k + 1) st' := by
  have hd := drop_cons hk
  generalize hc : cs.getD k default = c at hs hd
  unfold sstep at hs
  by_cases h1 : c.op = 11 ∨ c.op = 13
  · rw [if_pos h1] at hs
    by_cases h3 : st.length < 3
    · rw [if_pos h3] at hs
      injection hs with hs
      subst hs
      have hop : Opens c := h1
      have h14 : c.op ≠ 14 := by rcases h1 with h | h <;> omega
      refine ⟨by simp; omega, ?_, ?_, ?_, ?_⟩
      · intro i hi
        cases i with
        | zero => simp
        | succ i => have := h.lt i (by simpa using hi); simp; omega
      · refine List.pairwise_cons.2 ⟨fun x hx => ?_, h.mono⟩
        obtain ⟨i, hi, e⟩ := List.mem_iff_getElem.1 hx
        have := h.lt i hi
        rw [e] at this
        exact this
      · intro i
        simp only [bScan, hc, if_neg h14, if_pos hop]
        cases i with
        | zero => simp
        | succ i => simp [h.around i]
      · intro i hi
        cases i with
        | zero =>
          refine ⟨-1, rfl, ?_⟩
          simp only [List.getElem_cons_zero, hc]
          rcases h1 with h1 | h1
          · exact .inl ⟨h1, h1, by trivial⟩
          · exact .inr (.inr ⟨h1, h1, by trivial⟩)
        | succ i =>
          obtain ⟨o, e, hm⟩ := h.ends i (by simpa using hi)
          refine ⟨o, ?_, ?_⟩
          · simp only [List.getElem_cons_succ]
            rw [e, hd]
            simp only [eScan, if_pos hop]
          · simp only [List.getElem_cons_succ]
            rcases hm with hm | ⟨a, b, c, d⟩ | hm
            · exact .inl hm
            · exact .inr (.inl ⟨a, b, c, by omega⟩)
            · exact .inr (.inr hm)
    · rw [if_neg h3] at hs; cases hs
  · rw [if_neg h1] at hs
    have hop : ¬ Opens c := h1
    by_cases h2 : c.op = 12
    · rw [if_pos h2] at hs
      have h14 : c.op ≠ 14 := by omega
      cases st with
      | nil => cases hs
      | cons x r =>
        obtain ⟨p, m⟩ := x
        simp only at hs
        by_cases hm : m = 11
        · rw [if_pos hm] at hs
          injection hs with hs
          subst hs hm
          refine ⟨by simpa using h.len, ?_, ?_, ?_, ?_⟩
          · intro i hi
            cases i with
            | zero => have := h.lt 0 (by simp); simp at this ⊢; omega
            | succ i => have := h.lt (i + 1) (by simpa using hi); simp at this ⊢; omega
          · have := List.pairwise_cons.1 h.mono
            exact List.pairwise_cons.2 ⟨this.1, this.2⟩
          · intro i
            simp only [bScan, hc, if_neg h14, if_neg hop]
            rw [h.around i]
            cases i <;> simp
          · intro i hi
            cases i with
            | zero =>
              obtain ⟨o, e, hm⟩ := h.ends 0 (by simp)
              have hlt := h.lt 0 (by simp)
              simp only [List.getElem_cons_zero] at e hm hlt ⊢
              refine ⟨k, ?_, ?_⟩
              · rw [e, hd]
                simp only [eScan, if_neg hop, h2, true_and, if_true]
              · rcases hm with hm | hm | hm
                · exact .inr (.inl ⟨by trivial, hm.2.1, by omega, by omega⟩)
                · omega
                · omega
            | succ i =>
              obtain ⟨o, e, hm⟩ := h.ends (i + 1) (by simpa using hi)
              simp only [List.getElem_cons_succ] at e hm ⊢
              refine ⟨o, ?_, ?_⟩
              · rw [e, hd]
                simp only [eScan, if_neg hop, h2]
                simp
              · rcases hm with hm | ⟨a, b, c, d⟩ | hm
                · exact .inl hm
                · exact .inr (.inl ⟨a, b, c, by omega⟩)
                · exact .inr (.inr hm)
        · rw [if_neg hm] at hs; cases hs
    · rw [if_neg h2] at hs
      by_cases h4 : c.op = 14
      · rw [if_pos h4] at hs
        cases st with
        | nil => cases hs
        | cons x r =>
          simp only at hs
          injection hs with hs
          subst hs
          refine ⟨by have := h.len; simp at this; omega, ?_, (List.pairwise_cons.1 h.mono).2, ?_, ?_⟩
          · intro i hi
            have := h.lt (i + 1) (by simpa using hi)
            simp at this ⊢; omega
          · intro i
            simp only [bScan, hc, if_pos h4]
            rw [h.around (i + 1)]
            simp
          · intro i hi
            obtain ⟨o, e, hm⟩ := h.ends (i + 1) (by simpa using hi)
            simp only [List.getElem_cons_succ] at e hm
            refine ⟨o, ?_, ?_⟩
            · rw [e, hd]
              simp only [eScan, if_neg hop, h4]
              simp
            · rcases hm with hm | ⟨a, b, c, d⟩ | hm
              · exact .inl hm
              · exact .inr (.inl ⟨a, b, c, by omega⟩)
              · exact .inr (.inr hm)
      · rw [if_neg h4] at hs
        injection hs with hs
        subst hs
        refine ⟨h.len, ?_, h.mono, ?_, ?_⟩
        · intro i hi
          have := h.lt i hi
          omega
        · intro i
          simp only [bScan, hc, if_neg h4, if_neg hop]
          exact h.around i
        · intro i hi
          obtain ⟨o, e, hm⟩ := h.ends i hi
          refine ⟨o, ?_, ?_⟩
          · rw [e, hd]
            simp only [eScan, if_neg hop, h2, h4, false_and, if_false]
          · rcases hm with hm | ⟨a, b, c, d⟩ | hm
            · exact .inl hm
            · exact .inr (.inl ⟨a, b, c, by omega⟩)
            · exact .inr (.inr hm)

end Go.Proofs.Ytokdfgodmhekmaa
