/- Valid programs are trees of blocks; where blocks end and which block is around a place, told by the tree. No program in sight. -/
import Derived.Test.YtokdfgodmhekmaaCd
namespace Go.Proofs.Ytokdfgodmhekmaa

inductive Tr where
  | nil
  | op (c : Cd) (k : Tr)
  | ite (a : Int) (t k : Tr)
  | itee (a : Int) (t e k : Tr)
  | loop (a b : Int) (t k : Tr)

def cIf (a : Int) : Cd := ⟨11, a, 0, 0⟩
def cElse : Cd := ⟨12, 0, 0, 0⟩
def cEnd : Cd := ⟨14, 0, 0, 0⟩
def cLoop (a b : Int) : Cd := ⟨13, a, b, 0⟩

def Tr.flat : Tr → List Cd
  | .nil => []
  | .op c k => c :: k.flat
  | .ite a t k => cIf a :: (t.flat ++ cEnd :: k.flat)
  | .itee a t e k => cIf a :: (t.flat ++ cElse :: (e.flat ++ cEnd :: k.flat))
  | .loop a b t k => cLoop a b :: (t.flat ++ cEnd :: k.flat)
def Tr.len (t : Tr) : Nat := t.flat.length
def Tr.depth : Tr → Nat
  | .nil => 0
  | .op _ k => k.depth
  | .ite _ t k => max (t.depth + 1) k.depth
  | .itee _ t e k => max (max (t.depth + 1) (e.depth + 1)) k.depth
  | .loop _ _ t k => max (t.depth + 1) k.depth
def Plain (c : Cd) : Prop := CdOk c ∧ c.op ≠ 11 ∧ c.op ≠ 12 ∧ c.op ≠ 13 ∧ c.op ≠ 14
def Tr.Ok : Tr → Prop
  | .nil => True
  | .op c k => Plain c ∧ k.Ok
  | .ite a t k => Reg a ∧ t.Ok ∧ k.Ok
  | .itee a t e k => Reg a ∧ t.Ok ∧ e.Ok ∧ k.Ok
  | .loop a b t k => Reg a ∧ (1 ≤ b ∧ b ≤ 4) ∧ t.Ok ∧ k.Ok

/-- What is still to come, with some blocks open. -/
def Rest : Nat → List (Nat × Int) → List Cd → Prop
  | d, [], cs => ∃ t : Tr, cs = t.flat ∧ t.Ok ∧ t.depth + d ≤ 3
  | d, (_, m) :: st, cs =>
    (∃ (t : Tr) (r : List Cd), cs = t.flat ++ cEnd :: r ∧ t.Ok ∧ t.depth + (d + st.length + 1) ≤ 3 ∧ Rest d st r) ∨
    (m = 11 ∧ ∃ (t e : Tr) (r : List Cd), cs = t.flat ++ cElse :: (e.flat ++ cEnd :: r) ∧ t.Ok ∧ e.Ok ∧ t.depth + (d + st.length + 1) ≤ 3 ∧ e.depth + (d + st.length + 1) ≤ 3 ∧ Rest d st r)

theorem Rest.cons {d : Nat} {st : List (Nat × Int)} {cs pre : List Cd} (N : Tr → Tr) (h : Rest d st cs) (hf : ∀ t, (N t).flat = pre ++ t.flat) (hok : ∀ t, t.Ok → (N t).Ok) (hd : ∀ t, t.depth + (d + st.length) ≤ 3 → (N t).depth + (d + st.length) ≤ 3) : Rest d st (pre ++ cs) := by
  cases st with
  | nil =>
    obtain ⟨t, rfl, h1, h2⟩ := h
    exact ⟨N t, (hf t).symm, hok t h1, by have := hd t (by simpa using h2); simpa using this⟩
  | cons x st =>
    obtain ⟨p, m⟩ := x
    have hl : d + ((p, m) :: st).length = d + st.length + 1 := by simp; omega
    rcases h with ⟨t, r, rfl, h1, h2, h3⟩ | ⟨hm, t, e, r, rfl, h1, h2, h3, h4, h5⟩
    · exact .inl ⟨N t, r, by rw [hf]; simp, hok t h1, by have := hd t (by omega); omega, h3⟩
    · exact .inr ⟨hm, N t, e, r, by rw [hf]; simp, hok t h1, h2, by have := hd t (by omega); omega, h4, h5⟩

theorem code_end {c : Cd} (h : CdOk c) (ho : c.op = 14) : c = cEnd := by
  obtain ⟨o, a, b, c⟩ := c
  unfold CdOk at h
  simp only at h ho
  subst ho
  have : a = 0 ∧ b = 0 ∧ c = 0 := by omega
  simp [cEnd, this]
theorem code_else {c : Cd} (h : CdOk c) (ho : c.op = 12) : c = cElse := by
  obtain ⟨o, a, b, c⟩ := c
  unfold CdOk at h
  simp only at h ho
  subst ho
  have : a = 0 ∧ b = 0 ∧ c = 0 := by omega
  simp [cElse, this]
theorem code_if {c : Cd} (h : CdOk c) (ho : c.op = 11) : c = cIf c.a ∧ Reg c.a := by
  obtain ⟨o, a, b, c⟩ := c
  unfold CdOk at h
  simp only at h ho
  subst ho
  have : Reg a ∧ b = 0 ∧ c = 0 := by
    rcases h with h | h | h | h | h | h
    · omega
    · exact h.2
    · omega
    · omega
    · omega
    · omega
  simp [cIf, this]
theorem code_loop {c : Cd} (h : CdOk c) (ho : c.op = 13) : c = cLoop c.a c.b ∧ Reg c.a ∧ (1 ≤ c.b ∧ c.b ≤ 4) := by
  obtain ⟨o, a, b, c⟩ := c
  unfold CdOk at h
  simp only at h ho
  subst ho
  have : Reg a ∧ (1 ≤ b ∧ b ≤ 4) ∧ c = 0 := by
    rcases h with h | h | h | h | h | h
    · omega
    · omega
    · omega
    · omega
    · exact h.2
    · omega
  simp [cLoop, this]

theorem rest_of_scan : ∀ (cs : List Cd) (k : Nat) (st : List (Nat × Int)), (∀ c ∈ cs, CdOk c) → st.length ≤ 3 → sscan cs k st = some [] → Rest 0 st cs
  | [], k, st, _, _, h => by
    simp only [sscan, Option.some.injEq] at h
    subst h
    exact ⟨.nil, rfl, trivial, by simp [Tr.depth]⟩
  | c :: cs, k, st, hok, hl, h => by
    have hc := hok c (by simp)
    have hcs : ∀ c ∈ cs, CdOk c := fun x hx => hok x (by simp [hx])
    simp only [sscan] at h
    by_cases h1 : Opens c
    · rw [sstep_open h1] at h
      by_cases h3 : st.length < 3
      · rw [if_pos h3] at h
        have ih := rest_of_scan cs (k + 1) ((k, c.op) :: st) hcs (by simp; omega) h
        rcases ih with ⟨t, r, rfl, h4, h5, h6⟩ | ⟨hm, t, e, r, rfl, h4, h5, h6, h7, h8⟩
        · rcases h1 with h1 | h1
          · obtain ⟨e1, e2⟩ := code_if hc h1
            have := Rest.cons (pre := cIf c.a :: (t.flat ++ [cEnd])) (fun k => .ite c.a t k) h6 (fun k => by simp [Tr.flat]) (fun k hk => ⟨e2, h4, hk⟩) (fun k hk => by simp only [Tr.depth]; omega)
            rw [e1]
            simpa [cIf] using this
          · obtain ⟨e1, e2, e3⟩ := code_loop hc h1
            have := Rest.cons (pre := cLoop c.a c.b :: (t.flat ++ [cEnd])) (fun k => .loop c.a c.b t k) h6 (fun k => by simp [Tr.flat]) (fun k hk => ⟨e2, e3, h4, hk⟩) (fun k hk => by simp only [Tr.depth]; omega)
            rw [e1]
            simpa [cLoop] using this
        · have h1 : c.op = 11 := hm
          obtain ⟨e1, e2⟩ := code_if hc h1
          have := Rest.cons (pre := cIf c.a :: (t.flat ++ cElse :: (e.flat ++ [cEnd]))) (fun k => .itee c.a t e k) h8 (fun k => by simp [Tr.flat]) (fun k hk => ⟨e2, h4, h5, hk⟩) (fun k hk => by simp only [Tr.depth]; omega)
          rw [e1]
          simpa [cIf] using this
      · rw [if_neg h3] at h; cases h
    · by_cases h2 : c.op = 12
      · rw [sstep_else h2] at h
        cases st with
        | nil => cases h
        | cons x st =>
          obtain ⟨p, m⟩ := x
          simp only at h
          by_cases hm : m = 11
          · rw [if_pos hm] at h
            have ih := rest_of_scan cs (k + 1) ((p, 12) :: st) hcs (by simpa using hl) h
            rw [code_else hc h2]
            rcases ih with ⟨t, r, rfl, h4, h5, h6⟩ | ⟨hm2, _⟩
            · exact .inr ⟨hm, .nil, t, r, by simp [Tr.flat], trivial, h4, by simp [Tr.depth] at hl ⊢; omega, h5, h6⟩
            · omega
          · rw [if_neg hm] at h; cases h
      · by_cases h4 : c.op = 14
        · rw [sstep_end h4] at h
          cases st with
          | nil => cases h
          | cons x st =>
            obtain ⟨p, m⟩ := x
            have ih := rest_of_scan cs (k + 1) st hcs (by simp at hl; omega) h
            rw [code_end hc h4]
            exact .inl ⟨.nil, cs, by simp [Tr.flat], trivial, by simp [Tr.depth] at hl ⊢; omega, ih⟩
        · rw [sstep_other h1 h2 h4] at h
          have ih := rest_of_scan cs (k + 1) st hcs hl h
          have := Rest.cons (pre := [c]) (fun k => .op c k) ih (fun k => by simp [Tr.flat]) (fun k hk => ⟨⟨hc, fun e => h1 (.inl e), h2, fun e => h1 (.inr e), h4⟩, hk⟩) (fun k hk => by simpa [Tr.depth] using hk)
          simpa using this

theorem PValid.tree {cs : List Cd} (h : PValid cs) : ∃ t : Tr, cs = t.flat ∧ t.Ok ∧ t.depth ≤ 3 := by
  obtain ⟨t, h1, h2, h3⟩ := rest_of_scan cs 0 [] h.1 (by simp) h.2.2
  exact ⟨t, h1, h2, by omega⟩

/-- The tree t lies in the program from place i on. -/
def Seg (cs : List Cd) (i : Nat) (t : Tr) : Prop := ∃ post, cs.drop i = t.flat ++ post
theorem Seg.whole {cs : List Cd} {t : Tr} (h : cs = t.flat) : Seg cs 0 t := ⟨[], by simp [h]⟩

theorem drop_at {cs pre post : List Cd} {i : Nat} (h : cs.drop i = pre ++ post) : cs.drop (i + pre.length) = post := by
  rw [← List.drop_drop, h]; simp
theorem getD_at {cs post : List Cd} {c : Cd} {i : Nat} (h : cs.drop i = c :: post) : cs.getD i default = c ∧ i < cs.length := by
  have h1 : (cs.drop i)[0]? = some c := by rw [h]; rfl
  rw [List.getElem?_drop, Nat.add_zero] at h1
  refine ⟨by simp [List.getD_eq_getElem?_getD, h1], ?_⟩
  exact (List.getElem?_eq_some_iff.1 h1).1

section
variable {cs : List Cd} {i : Nat}
theorem Seg.op {c : Cd} {k : Tr} (h : Seg cs i (.op c k)) : cs.getD i default = c ∧ i < cs.length ∧ Seg cs (i + 1) k := by
  obtain ⟨post, h⟩ := h
  have h1 := getD_at (c := c) (post := k.flat ++ post) (by simpa [Tr.flat] using h)
  exact ⟨h1.1, h1.2, post, drop_at (pre := [c]) (by simpa [Tr.flat] using h)⟩
theorem Seg.ite {a : Int} {t k : Tr} (h : Seg cs i (.ite a t k)) : cs.getD i default = cIf a ∧ Seg cs (i + 1) t ∧ cs.getD (i + 1 + t.len) default = cEnd ∧ i + 1 + t.len < cs.length ∧ Seg cs (i + 1 + t.len + 1) k := by
  obtain ⟨post, h⟩ := h
  have h1 : cs.drop (i + 1) = t.flat ++ (cEnd :: (k.flat ++ post)) := drop_at (pre := [cIf a]) (by simpa [Tr.flat] using h)
  have h2 := drop_at h1
  have h3 := getD_at h2
  exact ⟨(getD_at (c := cIf a) (post := t.flat ++ (cEnd :: (k.flat ++ post))) (by simpa [Tr.flat] using h)).1, ⟨_, h1⟩, h3.1, h3.2, post, drop_at (pre := [cEnd]) (show cs.drop (i + 1 + t.len) = [cEnd] ++ (k.flat ++ post) from h2)⟩
theorem Seg.itee {a : Int} {t e k : Tr} (h : Seg cs i (.itee a t e k)) : cs.getD i default = cIf a ∧ Seg cs (i + 1) t ∧ cs.getD (i + 1 + t.len) default = cElse ∧ Seg cs (i + 1 + t.len + 1) e ∧ cs.getD (i + 1 + t.len + 1 + e.len) default = cEnd ∧ i + 1 + t.len + 1 + e.len < cs.length ∧ Seg cs (i + 1 + t.len + 1 + e.len + 1) k := by
  obtain ⟨post, h⟩ := h
  have h1 : cs.drop (i + 1) = t.flat ++ (cElse :: (e.flat ++ (cEnd :: (k.flat ++ post)))) := drop_at (pre := [cIf a]) (by simpa [Tr.flat] using h)
  have h2 := drop_at h1
  have h3 := getD_at h2
  have h4 : cs.drop (i + 1 + t.flat.length + 1) = e.flat ++ (cEnd :: (k.flat ++ post)) := drop_at (pre := [cElse]) (by simpa using h2)
  have h5 := drop_at h4
  have h6 := getD_at h5
  exact ⟨(getD_at (c := cIf a) (post := t.flat ++ (cElse :: (e.flat ++ (cEnd :: (k.flat ++ post))))) (by simpa [Tr.flat] using h)).1, ⟨_, h1⟩, h3.1, ⟨_, h4⟩, h6.1, h6.2, post, drop_at (pre := [cEnd]) (show cs.drop (i + 1 + t.len + 1 + e.len) = [cEnd] ++ (k.flat ++ post) from h5)⟩
theorem Seg.loop {a b : Int} {t k : Tr} (h : Seg cs i (.loop a b t k)) : cs.getD i default = cLoop a b ∧ Seg cs (i + 1) t ∧ cs.getD (i + 1 + t.len) default = cEnd ∧ i + 1 + t.len < cs.length ∧ Seg cs (i + 1 + t.len + 1) k := by
  obtain ⟨post, h⟩ := h
  have h1 : cs.drop (i + 1) = t.flat ++ (cEnd :: (k.flat ++ post)) := drop_at (pre := [cLoop a b]) (by simpa [Tr.flat] using h)
  have h2 := drop_at h1
  have h3 := getD_at h2
  exact ⟨(getD_at (c := cLoop a b) (post := t.flat ++ (cEnd :: (k.flat ++ post))) (by simpa [Tr.flat] using h)).1, ⟨_, h1⟩, h3.1, h3.2, post, drop_at (pre := [cEnd]) (show cs.drop (i + 1 + t.len) = [cEnd] ++ (k.flat ++ post) from h2)⟩
end

theorem Tr.len_op (c : Cd) (k : Tr) : (Tr.op c k).len = k.len + 1 := by simp [Tr.len, Tr.flat]
theorem Tr.len_ite (a : Int) (t k : Tr) : (Tr.ite a t k).len = 1 + t.len + 1 + k.len := by simp [Tr.len, Tr.flat]; omega
theorem Tr.len_itee (a : Int) (t e k : Tr) : (Tr.itee a t e k).len = 1 + t.len + 1 + e.len + 1 + k.len := by simp [Tr.len, Tr.flat]; omega
theorem Tr.len_loop (a b : Int) (t k : Tr) : (Tr.loop a b t k).len = 1 + t.len + 1 + k.len := by simp [Tr.len, Tr.flat]; omega

theorem opens_if (a : Int) : Opens (cIf a) := .inl rfl
theorem opens_loop (a b : Int) : Opens (cLoop a b) := .inr rfl
theorem opens_else : ¬ Opens cElse := by unfold Opens cElse; simp
theorem opens_end : ¬ Opens cEnd := by unfold Opens cEnd; simp

theorem eScan_flat : ∀ (t : Tr) (r : List Cd) (k d : Nat) (o : Int), t.Ok → eScan (t.flat ++ r) k d o = eScan r (k + t.len) d o
  | .nil, r, k, d, o, _ => by simp [Tr.flat, Tr.len]
  | .op c t, r, k, d, o, h => by
    obtain ⟨⟨_, h1, h2, h3, h4⟩, h5⟩ := h
    simp only [Tr.flat, List.cons_append]
    rw [eScan_cons, if_neg (by unfold Opens; omega), if_neg (fun h => h2 h.1), if_neg (fun h => h4 h.1), if_neg h4, eScan_flat t r _ _ _ h5, Tr.len_op]
    congr 1; omega
  | .ite a t k, r, p, d, o, h => by
    obtain ⟨_, h1, h2⟩ := h
    simp only [Tr.flat, List.cons_append, List.append_assoc]
    rw [eScan_cons, if_pos (opens_if a), eScan_flat t _ _ _ _ h1, eScan_cons, if_neg opens_end, if_neg (fun h => by cases h.2), if_neg (fun h => by cases h.2), if_pos (show cEnd.op = 14 from rfl), Nat.add_sub_cancel, eScan_flat k _ _ _ _ h2, Tr.len_ite]
    congr 1; omega
  | .itee a t e k, r, p, d, o, h => by
    obtain ⟨_, h1, h2, h3⟩ := h
    simp only [Tr.flat, List.cons_append, List.append_assoc]
    rw [eScan_cons, if_pos (opens_if a), eScan_flat t _ _ _ _ h1, eScan_cons, if_neg opens_else, if_neg (fun h => by cases h.2), if_neg (fun h => by cases h.2), if_neg (by simp [cElse]), eScan_flat e _ _ _ _ h2, eScan_cons, if_neg opens_end, if_neg (fun h => by cases h.2), if_neg (fun h => by cases h.2), if_pos (show cEnd.op = 14 from rfl), Nat.add_sub_cancel, eScan_flat k _ _ _ _ h3, Tr.len_itee]
    congr 1; omega
  | .loop a b t k, r, p, d, o, h => by
    obtain ⟨_, _, h1, h2⟩ := h
    simp only [Tr.flat, List.cons_append, List.append_assoc]
    rw [eScan_cons, if_pos (opens_loop a b), eScan_flat t _ _ _ _ h1, eScan_cons, if_neg opens_end, if_neg (fun h => by cases h.2), if_neg (fun h => by cases h.2), if_pos (show cEnd.op = 14 from rfl), Nat.add_sub_cancel, eScan_flat k _ _ _ _ h2, Tr.len_loop]
    congr 1; omega

theorem bScan_succ (cs : List Cd) (k d : Nat) : bScan cs (k + 1) d = if (cs.getD k default).op = 14 then bScan cs k (d + 1) else if Opens (cs.getD k default) then (if d = 0 then (k : Int) else bScan cs k (d - 1)) else bScan cs k d := rfl

theorem bScan_flat {cs : List Cd} : ∀ (t : Tr) (i d : Nat), t.Ok → Seg cs i t → bScan cs (i + t.len) d = bScan cs i d
  | .nil, i, d, _, _ => by simp [Tr.flat, Tr.len]
  | .op c k, i, d, h, hs => by
    obtain ⟨⟨_, h1, h2, h3, h4⟩, h5⟩ := h
    obtain ⟨e1, _, e2⟩ := hs.op
    rw [Tr.len_op, show i + (k.len + 1) = (i + 1) + k.len by omega, bScan_flat k _ _ h5 e2, bScan_succ, e1, if_neg h4, if_neg (by unfold Opens; omega)]
  | .ite a t k, i, d, h, hs => by
    obtain ⟨_, h1, h2⟩ := h
    obtain ⟨e1, e2, e3, _, e4⟩ := hs.ite
    rw [Tr.len_ite, show i + (1 + t.len + 1 + k.len) = (i + 1 + t.len + 1) + k.len by omega, bScan_flat k _ _ h2 e4, bScan_succ, e3, if_pos (show cEnd.op = 14 from rfl), bScan_flat t _ _ h1 e2, bScan_succ, e1, if_neg (by simp [cIf]), if_pos (opens_if a), if_neg (by omega), Nat.add_sub_cancel]
  | .itee a t e k, i, d, h, hs => by
    obtain ⟨_, h1, h2, h3⟩ := h
    obtain ⟨e1, e2, e3, e4, e5, _, e6⟩ := hs.itee
    rw [Tr.len_itee, show i + (1 + t.len + 1 + e.len + 1 + k.len) = (i + 1 + t.len + 1 + e.len + 1) + k.len by omega, bScan_flat k _ _ h3 e6, bScan_succ, e5, if_pos (show cEnd.op = 14 from rfl), bScan_flat e _ _ h2 e4, bScan_succ, e3, if_neg (by simp [cElse]), if_neg opens_else, bScan_flat t _ _ h1 e2, bScan_succ, e1, if_neg (by simp [cIf]), if_pos (opens_if a), if_neg (by omega), Nat.add_sub_cancel]
  | .loop a b t k, i, d, h, hs => by
    obtain ⟨_, _, h1, h2⟩ := h
    obtain ⟨e1, e2, e3, _, e4⟩ := hs.loop
    rw [Tr.len_loop, show i + (1 + t.len + 1 + k.len) = (i + 1 + t.len + 1) + k.len by omega, bScan_flat k _ _ h2 e4, bScan_succ, e3, if_pos (show cEnd.op = 14 from rfl), bScan_flat t _ _ h1 e2, bScan_succ, e1, if_neg (by simp [cLoop]), if_pos (opens_loop a b), if_neg (by omega), Nat.add_sub_cancel]

/-- What the tree tells of a block that opens at place i. -/
theorem end_ite {cs : List Cd} {i : Nat} {a : Int} {t k : Tr} (h : (Tr.ite a t k).Ok) (hs : Seg cs i (.ite a t k)) : endAt cs i = (((i + 1 + t.len : Nat) : Int), -1) ∧ aroundAt cs (i + 1 + t.len) = i := by
  obtain ⟨_, h1, h2⟩ := h
  obtain ⟨e1, e2, e3, _, e4⟩ := hs.ite
  obtain ⟨post, hp⟩ := hs
  have h3 : cs.drop (i + 1) = t.flat ++ (cEnd :: (k.flat ++ post)) := drop_at (pre := [cIf a]) (by simpa [Tr.flat] using hp)
  constructor
  · unfold endAt; rw [h3, eScan_flat t _ _ _ _ h1, eScan_cons, if_neg opens_end, if_neg (fun h => by simp [cEnd] at h), if_pos ⟨rfl, rfl⟩]
  · unfold aroundAt; rw [bScan_flat t _ _ h1 e2, bScan_succ, e1, if_neg (by simp [cIf]), if_pos (opens_if a), if_pos rfl]
theorem end_itee {cs : List Cd} {i : Nat} {a : Int} {t e k : Tr} (h : (Tr.itee a t e k).Ok) (hs : Seg cs i (.itee a t e k)) :
    endAt cs i = (((i + 1 + t.len + 1 + e.len : Nat) : Int), ((i + 1 + t.len : Nat) : Int)) ∧ aroundAt cs (i + 1 + t.len) = i ∧ aroundAt cs (i + 1 + t.len + 1 + e.len) = i := by
  obtain ⟨_, h1, h2, h3⟩ := h
  obtain ⟨e1, e2, e3, e4, e5, _, e6⟩ := hs.itee
  obtain ⟨post, hp⟩ := hs
  have h4 : cs.drop (i + 1) = t.flat ++ (cElse :: (e.flat ++ (cEnd :: (k.flat ++ post)))) := drop_at (pre := [cIf a]) (by simpa [Tr.flat] using hp)
  refine ⟨?_, ?_, ?_⟩
  · unfold endAt; rw [h4, eScan_flat t _ _ _ _ h1, eScan_cons, if_neg opens_else, if_pos ⟨rfl, rfl⟩, eScan_flat e _ _ _ _ h2, eScan_cons, if_neg opens_end, if_neg (fun h => by simp [cEnd] at h), if_pos ⟨rfl, rfl⟩]
  · unfold aroundAt; rw [bScan_flat t _ _ h1 e2, bScan_succ, e1, if_neg (by simp [cIf]), if_pos (opens_if a), if_pos rfl]
  · unfold aroundAt; rw [bScan_flat e _ _ h2 e4, bScan_succ, e3, if_neg (by simp [cElse]), if_neg opens_else, bScan_flat t _ _ h1 e2, bScan_succ, e1, if_neg (by simp [cIf]), if_pos (opens_if a), if_pos rfl]
theorem end_loop {cs : List Cd} {i : Nat} {a b : Int} {t k : Tr} (h : (Tr.loop a b t k).Ok) (hs : Seg cs i (.loop a b t k)) : endAt cs i = (((i + 1 + t.len : Nat) : Int), -1) ∧ aroundAt cs (i + 1 + t.len) = i := by
  obtain ⟨_, _, h1, h2⟩ := h
  obtain ⟨e1, e2, e3, _, e4⟩ := hs.loop
  obtain ⟨post, hp⟩ := hs
  have h3 : cs.drop (i + 1) = t.flat ++ (cEnd :: (k.flat ++ post)) := drop_at (pre := [cLoop a b]) (by simpa [Tr.flat] using hp)
  constructor
  · unfold endAt; rw [h3, eScan_flat t _ _ _ _ h1, eScan_cons, if_neg opens_end, if_neg (fun h => by simp [cEnd] at h), if_pos ⟨rfl, rfl⟩]
  · unfold aroundAt; rw [bScan_flat t _ _ h1 e2, bScan_succ, e1, if_neg (by simp [cLoop]), if_pos (opens_loop a b), if_pos rfl]

end Go.Proofs.Ytokdfgodmhekmaa
