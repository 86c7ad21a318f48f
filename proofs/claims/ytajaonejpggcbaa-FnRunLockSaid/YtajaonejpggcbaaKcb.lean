/- A program is the tree of one way of reading it alone; trees behind each other. No program in sight. A tree of blocks does the same wherever it begins and whatever was noted before. Inductions over a run in lockstep: what every step keeps, the run keeps; and two runs that go side by side. No program in sight. Programs with an instruction more: a barrier at a place in no block, any plain instruction at the end; what the run in lockstep does then. No program in sight. No condition. -/
import Derived.Test.YtajaonejpggcbaaKbd
import Derived.Test.YtajaonejpggcbaaKca

namespace Go.Proofs.Ytajaonejpggcbaa

theorem eScan_end (r : List Cd) (k : Nat) (o : Int) : eScan (cEnd :: r) k 0 o = ((k : Int), o) := by
  rw [eScan_cons]; rfl
theorem eScan_else (r : List Cd) (k : Nat) (o : Int) : eScan (cElse :: r) k 0 o = eScan r (k + 1) 0 k := by
  rw [eScan_cons]; rfl
theorem scan_ite {t : Tr} (h : t.Ok) (r : List Cd) : eScan (t.flat ++ cEnd :: r) 0 0 (-1) = ((t.len : Int), -1) := by
  rw [eScan_flat t _ 0 0 _ h, eScan_end]; simp
theorem scan_itee {t e : Tr} (h : t.Ok) (he : e.Ok) (r : List Cd) : eScan (t.flat ++ cElse :: (e.flat ++ cEnd :: r)) 0 0 (-1) = (((t.len + 1 + e.len : Nat) : Int), (t.len : Int)) := by
  rw [eScan_flat t _ 0 0 _ h, eScan_else, eScan_flat e _ _ _ _ he, eScan_end]; simp
theorem plain_no_if {c : Cd} {a : Int} (h : Plain c) : c ≠ cIf a := fun e => h.2.1 (by rw [e]; rfl)
theorem plain_no_loop {c : Cd} {a b : Int} (h : Plain c) : c ≠ cLoop a b := fun e => h.2.2.2.1 (by rw [e]; rfl)
theorem if_no_loop {a a' b : Int} : cIf a ≠ cLoop a' b := fun e => by have := congrArg Cd.op e; simp [cIf, cLoop] at this
theorem if_inj {a a' : Int} (h : cIf a = cIf a') : a = a' := by have := congrArg Cd.a h; simpa [cIf] using this
theorem loop_inj {a a' b b' : Int} (h : cLoop a b = cLoop a' b') : a = a' ∧ b = b' := by
  have h1 := congrArg Cd.a h; have h2 := congrArg Cd.b h; exact ⟨by simpa [cLoop] using h1, by simpa [cLoop] using h2⟩
theorem split_ite {t t' : Tr} {r r' : List Cd} (h : t.Ok) (h' : t'.Ok) (e : t.flat ++ cEnd :: r = t'.flat ++ cEnd :: r') : t.flat = t'.flat ∧ r = r' := by
  have h1 := scan_ite h r
  rw [e, scan_ite h' r'] at h1
  simp at h1
  have h2 := List.append_inj e (by unfold Tr.len at h1; omega)
  exact ⟨h2.1, by simpa using h2.2⟩
theorem split_no {t t' e' : Tr} {r r' : List Cd} (h : t.Ok) (h' : t'.Ok) (he' : e'.Ok) (e : t.flat ++ cEnd :: r = t'.flat ++ cElse :: (e'.flat ++ cEnd :: r')) : False := by
  have h1 := scan_ite h r
  rw [e, scan_itee h' he' r'] at h1
  simp at h1
theorem split_itee {t t' e e' : Tr} {r r' : List Cd} (h : t.Ok) (h' : t'.Ok) (he : e.Ok) (he' : e'.Ok) (q : t.flat ++ cElse :: (e.flat ++ cEnd :: r) = t'.flat ++ cElse :: (e'.flat ++ cEnd :: r')) : t.flat = t'.flat ∧ e.flat = e'.flat ∧ r = r' := by
  have h1 := scan_itee h he r
  rw [q, scan_itee h' he' r'] at h1
  simp at h1
  have h2 := List.append_inj q (by have := h1.2; unfold Tr.len at this; omega)
  have h3 : e.flat ++ cEnd :: r = e'.flat ++ cEnd :: r' := by simpa using h2.2
  obtain ⟨h4, h5⟩ := split_ite he he' h3
  exact ⟨h2.1, h4, h5⟩
/-- Two trees of the same program are the same. -/
theorem flat_inj : ∀ (t t' : Tr), t.Ok → t'.Ok → t.flat = t'.flat → t = t'
  | .nil, t', _, _, h => by cases t' <;> simp [Tr.flat] at h; rfl
  | .op c k, t', ho, ho', h => by
    cases t' with
    | nil => simp [Tr.flat] at h
    | op c' k' =>
      simp only [Tr.flat, List.cons.injEq] at h
      rw [h.1, flat_inj k k' ho.2 ho'.2 h.2]
    | ite a t1 k' => simp only [Tr.flat, List.cons.injEq] at h; exact absurd h.1 (plain_no_if ho.1)
    | itee a t1 e1 k' => simp only [Tr.flat, List.cons.injEq] at h; exact absurd h.1 (plain_no_if ho.1)
    | loop a b t1 k' => simp only [Tr.flat, List.cons.injEq] at h; exact absurd h.1 (plain_no_loop ho.1)
  | .ite a t k, t', ho, ho', h => by
    cases t' with
    | nil => simp [Tr.flat] at h
    | op c' k' => simp only [Tr.flat, List.cons.injEq] at h; exact absurd h.1.symm (plain_no_if ho'.1)
    | ite a' t1 k' =>
      simp only [Tr.flat, List.cons.injEq] at h
      obtain ⟨h1, h2⟩ := split_ite ho.2.1 ho'.2.1 h.2
      rw [if_inj h.1, flat_inj t t1 ho.2.1 ho'.2.1 h1, flat_inj k k' ho.2.2 ho'.2.2 h2]
    | itee a' t1 e1 k' => simp only [Tr.flat, List.cons.injEq] at h; exact (split_no ho.2.1 ho'.2.1 ho'.2.2.1 h.2).elim
    | loop a' b t1 k' => simp only [Tr.flat, List.cons.injEq] at h; exact absurd h.1 if_no_loop
  | .itee a t e k, t', ho, ho', h => by
    cases t' with
    | nil => simp [Tr.flat] at h
    | op c' k' => simp only [Tr.flat, List.cons.injEq] at h; exact absurd h.1.symm (plain_no_if ho'.1)
    | ite a' t1 k' => simp only [Tr.flat, List.cons.injEq] at h; exact (split_no ho'.2.1 ho.2.1 ho.2.2.1 h.2.symm).elim
    | itee a' t1 e1 k' =>
      simp only [Tr.flat, List.cons.injEq] at h
      obtain ⟨h1, h2, h3⟩ := split_itee ho.2.1 ho'.2.1 ho.2.2.1 ho'.2.2.1 h.2
      rw [if_inj h.1, flat_inj t t1 ho.2.1 ho'.2.1 h1, flat_inj e e1 ho.2.2.1 ho'.2.2.1 h2, flat_inj k k' ho.2.2.2 ho'.2.2.2 h3]
    | loop a' b t1 k' => simp only [Tr.flat, List.cons.injEq] at h; exact absurd h.1 if_no_loop
  | .loop a b t k, t', ho, ho', h => by
    cases t' with
    | nil => simp [Tr.flat] at h
    | op c' k' => simp only [Tr.flat, List.cons.injEq] at h; exact absurd h.1.symm (plain_no_loop ho'.1)
    | ite a' t1 k' => simp only [Tr.flat, List.cons.injEq] at h; exact absurd h.1.symm if_no_loop
    | itee a' t1 e1 k' => simp only [Tr.flat, List.cons.injEq] at h; exact absurd h.1.symm if_no_loop
    | loop a' b' t1 k' =>
      simp only [Tr.flat, List.cons.injEq] at h
      obtain ⟨h1, h2⟩ := split_ite ho.2.2.1 ho'.2.2.1 h.2
      obtain ⟨ha, hb⟩ := loop_inj h.1
      rw [ha, hb, flat_inj t t1 ho.2.2.1 ho'.2.2.1 h1, flat_inj k k' ho.2.2.2 ho'.2.2.2 h2]

/-- Trees are valid programs, if they are short and not deep. -/
theorem sscan_flat : ∀ (t : Tr) (k : Nat) (st : List (Nat × Int)), t.Ok → t.depth + st.length ≤ 3 → sscan t.flat k st = some st
  | .nil, _, _, _, _ => rfl
  | .op c r, k, st, ho, hd => by
    have h1 : sstep st k c = some st := sstep_other (by have := ho.1; unfold Plain at this; unfold Opens; omega) ho.1.2.2.1 ho.1.2.2.2.2
    show (sstep st k c).bind _ = _
    rw [h1]
    exact sscan_flat r (k + 1) st ho.2 hd
  | .ite a t r, k, st, ho, hd => by
    have hd' : (t.depth + 1) + st.length ≤ 3 ∧ r.depth + st.length ≤ 3 := by
      have h1 := Nat.le_max_left (t.depth + 1) r.depth
      have h2 := Nat.le_max_right (t.depth + 1) r.depth
      have : (Tr.ite a t r).depth = max (t.depth + 1) r.depth := rfl
      omega
    have h1 : sstep st k (cIf a) = some ((k, 11) :: st) := by rw [sstep_open (opens_if a), if_pos (by omega)]; rfl
    show (sstep st k (cIf a)).bind _ = _
    rw [h1]
    show sscan (t.flat ++ cEnd :: r.flat) (k + 1) ((k, 11) :: st) = _
    rw [sscan_append, sscan_flat t _ _ ho.2.1 (by simp; omega)]
    show (sstep ((k, 11) :: st) (k + 1 + t.flat.length) cEnd).bind _ = _
    rw [sstep_end (c := cEnd) rfl]
    exact sscan_flat r _ st ho.2.2 hd'.2
  | .itee a t e r, k, st, ho, hd => by
    have hd' : (t.depth + 1) + st.length ≤ 3 ∧ (e.depth + 1) + st.length ≤ 3 ∧ r.depth + st.length ≤ 3 := by
      have h1 := Nat.le_max_left (max (t.depth + 1) (e.depth + 1)) r.depth
      have h2 := Nat.le_max_right (max (t.depth + 1) (e.depth + 1)) r.depth
      have h3 := Nat.le_max_left (t.depth + 1) (e.depth + 1)
      have h4 := Nat.le_max_right (t.depth + 1) (e.depth + 1)
      have : (Tr.itee a t e r).depth = max (max (t.depth + 1) (e.depth + 1)) r.depth := rfl
      omega
    have h1 : sstep st k (cIf a) = some ((k, 11) :: st) := by rw [sstep_open (opens_if a), if_pos (by omega)]; rfl
    show (sstep st k (cIf a)).bind _ = _
    rw [h1]
    show sscan (t.flat ++ cElse :: (e.flat ++ cEnd :: r.flat)) (k + 1) ((k, 11) :: st) = _
    rw [sscan_append, sscan_flat t _ _ ho.2.1 (by simp; omega)]
    show (sstep ((k, 11) :: st) (k + 1 + t.flat.length) cElse).bind _ = _
    rw [sstep_else (c := cElse) rfl]
    show sscan (e.flat ++ cEnd :: r.flat) _ ((k, 12) :: st) = _
    rw [sscan_append, sscan_flat e _ _ ho.2.2.1 (by simp; omega)]
    show (sstep ((k, 12) :: st) (k + 1 + t.flat.length + 1 + e.flat.length) cEnd).bind _ = _
    rw [sstep_end (c := cEnd) rfl]
    exact sscan_flat r _ st ho.2.2.2 hd'.2.2
  | .loop a b t r, k, st, ho, hd => by
    have hd' : (t.depth + 1) + st.length ≤ 3 ∧ r.depth + st.length ≤ 3 := by
      have h1 := Nat.le_max_left (t.depth + 1) r.depth
      have h2 := Nat.le_max_right (t.depth + 1) r.depth
      have : (Tr.loop a b t r).depth = max (t.depth + 1) r.depth := rfl
      omega
    have h1 : sstep st k (cLoop a b) = some ((k, 13) :: st) := by rw [sstep_open (opens_loop a b), if_pos (by omega)]; rfl
    show (sstep st k (cLoop a b)).bind _ = _
    rw [h1]
    show sscan (t.flat ++ cEnd :: r.flat) (k + 1) ((k, 13) :: st) = _
    rw [sscan_append, sscan_flat t _ _ ho.2.2.1 (by simp; omega)]
    show (sstep ((k, 13) :: st) (k + 1 + t.flat.length) cEnd).bind _ = _
    rw [sstep_end (c := cEnd) rfl]
    exact sscan_flat r _ st ho.2.2.2 hd'.2
theorem ok_codes : ∀ (t : Tr), t.Ok → ∀ c ∈ t.flat, CdOk c
  | .nil, _, c, h => by simp [Tr.flat] at h
  | .op d k, ho, c, h => by
    simp only [Tr.flat, List.mem_cons] at h
    rcases h with rfl | h
    · exact ho.1.1
    · exact ok_codes k ho.2 c h
  | .ite a t k, ho, c, h => by
    simp only [Tr.flat, List.mem_cons, List.mem_append] at h
    rcases h with rfl | h | rfl | h
    · exact .inr (.inl ⟨.inr rfl, ho.1, rfl, rfl⟩)
    · exact ok_codes t ho.2.1 c h
    · unfold CdOk cEnd; simp
    · exact ok_codes k ho.2.2 c h
  | .itee a t e k, ho, c, h => by
    simp only [Tr.flat, List.mem_cons, List.mem_append] at h
    rcases h with rfl | h | rfl | h | rfl | h
    · exact .inr (.inl ⟨.inr rfl, ho.1, rfl, rfl⟩)
    · exact ok_codes t ho.2.1 c h
    · unfold CdOk cElse; simp
    · exact ok_codes e ho.2.2.1 c h
    · unfold CdOk cEnd; simp
    · exact ok_codes k ho.2.2.2 c h
  | .loop a b t k, ho, c, h => by
    simp only [Tr.flat, List.mem_cons, List.mem_append] at h
    rcases h with rfl | h | rfl | h
    · exact .inr (.inr (.inr (.inr (.inl ⟨rfl, ho.1, ho.2.1, rfl⟩))))
    · exact ok_codes t ho.2.2.1 c h
    · unfold CdOk cEnd; simp
    · exact ok_codes k ho.2.2.2 c h
theorem valid_of_tree {t : Tr} (ho : t.Ok) (hd : t.depth ≤ 3) (hl : t.len ≤ 40) : PValid t.flat := ⟨ok_codes t ho, hl, sscan_flat t 0 [] ho (by simpa using hd)⟩
/-- The tree of a valid program is the one that is known. -/
theorem treeOf_eq {cs : List Cd} {t : Tr} (hv : PValid cs) (h : cs = t.flat) (ho : t.Ok) : treeOf cs = t := by
  obtain ⟨h1, h2, _⟩ := treeOf_spec hv
  exact flat_inj _ _ h2 ho (h1.symm.trans h)

/-- One tree behind another. -/
def Tr.app : Tr → Tr → Tr
  | .nil, u => u
  | .op c k, u => .op c (k.app u)
  | .ite a t k, u => .ite a t (k.app u)
  | .itee a t e k, u => .itee a t e (k.app u)
  | .loop a b t k, u => .loop a b t (k.app u)
theorem app_flat : ∀ (t u : Tr), (t.app u).flat = t.flat ++ u.flat
  | .nil, u => rfl
  | .op c k, u => by simp [Tr.app, Tr.flat, app_flat k u]
  | .ite a t k, u => by simp [Tr.app, Tr.flat, app_flat k u]
  | .itee a t e k, u => by simp [Tr.app, Tr.flat, app_flat k u]
  | .loop a b t k, u => by simp [Tr.app, Tr.flat, app_flat k u]
theorem app_ok : ∀ {t u : Tr}, t.Ok → u.Ok → (t.app u).Ok
  | .nil, _u, _, h => h
  | .op _c _k, _u, h, h' => ⟨h.1, app_ok h.2 h'⟩
  | .ite _a _t _k, _u, h, h' => ⟨h.1, h.2.1, app_ok h.2.2 h'⟩
  | .itee _a _t _e _k, _u, h, h' => ⟨h.1, h.2.1, h.2.2.1, app_ok h.2.2.2 h'⟩
  | .loop _a _b _t _k, _u, h, h' => ⟨h.1, h.2.1, h.2.2.1, app_ok h.2.2.2 h'⟩
theorem app_depth : ∀ {t u : Tr} {d : Nat}, t.depth ≤ d → u.depth ≤ d → (t.app u).depth ≤ d
  | .nil, _u, _d, _, h => h
  | .op _c k, _u, _d, h, h' => app_depth (t := k) h h'
  | .ite _a _t _k, _u, _d, h, h' => Nat.max_le.2 ⟨(Nat.max_le.1 h).1, app_depth (Nat.max_le.1 h).2 h'⟩
  | .itee _a _t _e _k, _u, _d, h, h' => Nat.max_le.2 ⟨(Nat.max_le.1 h).1, app_depth (Nat.max_le.1 h).2 h'⟩
  | .loop _a _b _t _k, _u, _d, h, h' => Nat.max_le.2 ⟨(Nat.max_le.1 h).1, app_depth (Nat.max_le.1 h).2 h'⟩
theorem run_app (n m : Nat) : ∀ (t u : Tr) (i mask : Nat) (s : LS), run n m (t.app u) i mask s = run n m u (i + t.len) mask (run n m t i mask s)
  | .nil, u, i, mask, s => rfl
  | .op c k, u, i, mask, s => by
    by_cases h0 : mask = 0
    · subst h0; rw [run_zero, run_zero, run_zero]
    · rw [Tr.len_op]
      show (if mask = 0 then s else run n m (k.app u) (i + 1) mask (exec c n m i mask s)) = run n m u (i + (k.len + 1)) mask (if mask = 0 then s else run n m k (i + 1) mask (exec c n m i mask s))
      rw [if_neg h0, if_neg h0, run_app n m k u, show i + 1 + k.len = i + (k.len + 1) by omega]
  | .ite a t k, u, i, mask, s => by
    by_cases h0 : mask = 0
    · subst h0; rw [run_zero, run_zero, run_zero]
    · rw [Tr.len_ite]
      show (if mask = 0 then s else run n m (k.app u) (i + 1 + t.len + 1) mask _) = run n m u _ mask (if mask = 0 then s else run n m k (i + 1 + t.len + 1) mask _)
      rw [if_neg h0, if_neg h0, run_app n m k u, show i + 1 + t.len + 1 + k.len = i + (1 + t.len + 1 + k.len) by omega]
  | .itee a t e k, u, i, mask, s => by
    by_cases h0 : mask = 0
    · subst h0; rw [run_zero, run_zero, run_zero]
    · rw [Tr.len_itee]
      show (if mask = 0 then s else run n m (k.app u) (i + 1 + t.len + 1 + e.len + 1) mask _) = run n m u _ mask (if mask = 0 then s else run n m k (i + 1 + t.len + 1 + e.len + 1) mask _)
      rw [if_neg h0, if_neg h0, run_app n m k u, show i + 1 + t.len + 1 + e.len + 1 + k.len = i + (1 + t.len + 1 + e.len + 1 + k.len) by omega]
  | .loop a b t k, u, i, mask, s => by
    by_cases h0 : mask = 0
    · subst h0; rw [run_zero, run_zero, run_zero]
    · rw [Tr.len_loop]
      show (if mask = 0 then s else run n m (k.app u) (i + 1 + t.len + 1) mask _) = run n m u _ mask (if mask = 0 then s else run n m k (i + 1 + t.len + 1) mask _)
      rw [if_neg h0, if_neg h0, run_app n m k u, show i + 1 + t.len + 1 + k.len = i + (1 + t.len + 1 + k.len) by omega]

end Go.Proofs.Ytajaonejpggcbaa

namespace Go.Proofs.Ytajaonejpggcbaa
open Go.RowKit

structure Alike (s s' : LS) : Prop where
  r : s.R = s'.R
  m : s.M = s'.M
  a : s.A = s'.A
  p : s.P = s'.P
theorem Alike.refl (s : LS) : Alike s s := ⟨rfl, rfl, rfl, rfl⟩
theorem Alike.beat {s s' : LS} (h : Alike s s') (i j mask mask' : Nat) : Alike (beat i mask s) (beat j mask' s') := ⟨h.r, h.m, h.a, h.p⟩
theorem Alike.lane1 {s s' : LS} (h : Alike s s') (c : Cd) (m k : Nat) : Alike (lane1 c m k s) (lane1 c m k s') := by
  obtain ⟨R, M, H, A, P⟩ := s
  obtain ⟨R', M', H', A', P'⟩ := s'
  obtain ⟨h1, h2, h3, h4⟩ := h
  cases h1; cases h2; cases h3; cases h4
  exact ⟨rfl, rfl, rfl, rfl⟩
theorem Alike.lanesTo {s s' : LS} (h : Alike s s') (c : Cd) (m mask : Nat) : ∀ j, Alike (lanesTo c m mask j s) (lanesTo c m mask j s')
  | 0 => h
  | j + 1 => by
    have ih := h.lanesTo c m mask j
    unfold Go.Proofs.Ytajaonejpggcbaa.lanesTo
    split
    · exact ih.lane1 c m j
    · exact ih
theorem Alike.exec {s s' : LS} (h : Alike s s') (c : Cd) (n m i j mask : Nat) : Alike (exec c n m i mask s) (exec c n m j mask s') := by
  have h1 := (h.beat i j mask mask).lanesTo c m mask n
  unfold Go.Proofs.Ytajaonejpggcbaa.exec
  simp only
  split
  · exact ⟨h1.r, h1.m, h1.a, by rw [h1.p]⟩
  · exact h1
theorem Alike.turns {F G : Nat → LS → LS} (hF : ∀ y s s', Alike s s' → Alike (F y s) (G y s')) (n a : Nat) : ∀ (b y : Nat) {s s' : LS}, Alike s s' → Alike (turns F n a b y s) (turns G n a b y s')
  | 0, _, _, _, h => h
  | b + 1, y, s, s', h => by
    unfold Go.Proofs.Ytajaonejpggcbaa.turns
    rw [h.r]
    exact Alike.turns hF n a b _ (hF _ _ _ h)
theorem Alike.run (n m : Nat) : ∀ (t : Tr) (i j mask : Nat) {s s' : LS}, Alike s s' → Alike (run n m t i mask s) (run n m t j mask s')
  | .nil, _, _, _, _, _, h => h
  | .op c k, i, j, mask, s, s', h => by
    by_cases h0 : mask = 0
    · subst h0; rw [run_zero, run_zero]; exact h
    · simp only [Go.Proofs.Ytajaonejpggcbaa.run, if_neg h0]
      exact Alike.run n m k _ _ mask (h.exec c n m i j mask)
  | .ite a t k, i, j, mask, s, s', h => by
    by_cases h0 : mask = 0
    · subst h0; rw [run_zero, run_zero]; exact h
    · simp only [Go.Proofs.Ytajaonejpggcbaa.run, if_neg h0]
      rw [h.r]
      exact Alike.run n m k _ _ mask (Alike.run n m t _ _ _ (h.beat i j mask mask))
  | .itee a t e k, i, j, mask, s, s', h => by
    by_cases h0 : mask = 0
    · subst h0; rw [run_zero, run_zero]; exact h
    · simp only [Go.Proofs.Ytajaonejpggcbaa.run, if_neg h0]
      rw [h.r]
      exact Alike.run n m k _ _ mask (Alike.run n m e _ _ _ (Alike.run n m t _ _ _ (h.beat i j mask mask)))
  | .loop a b t k, i, j, mask, s, s', h => by
    by_cases h0 : mask = 0
    · subst h0; rw [run_zero, run_zero]; exact h
    · simp only [Go.Proofs.Ytajaonejpggcbaa.run, if_neg h0]
      exact Alike.run n m k _ _ mask (Alike.turns (fun y _ _ hy => Alike.run n m t _ _ y hy) n a.toNat b.toNat mask (h.beat i j mask mask))

/-- Nobody takes a branch on a register that is 0 everywhere. -/
theorem onesTo_zero {R : Nat → Nat → Int} {a : Nat} (h : ∀ l, R l a = 0) (mask : Nat) : ∀ n, onesTo R mask a n = 0
  | 0 => rfl
  | n + 1 => by
    unfold onesTo
    rw [h n, onesTo_zero h mask n]
    simp
theorem del_none (mask : Nat) : del mask 0 = mask := by unfold del; simp

/-- A program in the else of a branch that nobody takes leaves the memory that it leaves alone. -/
theorem else_mem {cs : List Cd} {c : Cd} {mem : List Int} {n : Nat} (hn : 1 ≤ n) (hv : PValid cs) (hc : Plain c) (hw : PValid (cIf 0 :: c :: cElse :: (cs ++ [cEnd]))) :
    (lockOf (cIf 0 :: c :: cElse :: (cs ++ [cEnd])) n mem).M = (lockOf cs n mem).M := by
  obtain ⟨h1, h2, _⟩ := treeOf_spec hv
  have hok : (Tr.itee 0 (.op c .nil) (treeOf cs) .nil).Ok := ⟨by unfold Reg; omega, ⟨hc, trivial⟩, h2, trivial⟩
  have e := treeOf_eq hw (t := Tr.itee 0 (.op c .nil) (treeOf cs) .nil) (by simp [Tr.flat]; exact h1) hok
  unfold lockOf
  rw [e]
  have hm : (2 ^ n - 1 : Nat) ≠ 0 := by have := Nat.pow_le_pow_right (show 0 < 2 by decide) hn; omega
  have ho : onesTo (startLS mem).R (2 ^ n - 1) (Int.toNat 0) n = 0 := onesTo_zero (R := (startLS mem).R) (fun _ => rfl) _ _
  simp only [run, if_neg hm, ho, del_none]
  exact (Alike.run n mem.length (treeOf cs) _ _ _ (show Alike (beat 0 (2 ^ n - 1) (startLS mem)) (startLS mem) from ⟨rfl, rfl, rfl, rfl⟩)).m

theorem lanesTo_hist (c : Cd) (m mask : Nat) (s : LS) : ∀ j, (lanesTo c m mask j s).H = s.H
  | 0 => rfl
  | j + 1 => by
    unfold lanesTo
    split
    · exact lanesTo_hist c m mask s j
    · exact lanesTo_hist c m mask s j
theorem exec_hist (c : Cd) (n m i mask : Nat) (s : LS) : (exec c n m i mask s).H = s.H ++ [(i, mask, s.R)] := by
  have h := lanesTo_hist c m mask (beat i mask s) n
  unfold exec
  simp only
  split
  · exact h
  · exact h
/-- What is noted behind X and Y is the same but for the places, which lie d further. -/
structure AlikeH (d : Nat) (X Y : List (Nat × Nat × (Nat → Nat → Int))) (s s' : LS) : Prop where
  al : Alike s s'
  h : ∃ L, s.H = X ++ L ∧ s'.H = Y ++ L.map (fun x => (x.1 + d, x.2))
section
variable {d : Nat} {X Y : List (Nat × Nat × (Nat → Nat → Int))}
theorem AlikeH.more {s s' u u' : LS} (h : AlikeH d X Y s s') (ha : Alike u u') (i mask : Nat) (h1 : u.H = s.H ++ [(i, mask, s.R)]) (h2 : u'.H = s'.H ++ [(i + d, mask, s'.R)]) : AlikeH d X Y u u' := by
  obtain ⟨L, e1, e2⟩ := h.h
  refine ⟨ha, L ++ [(i, mask, s.R)], by rw [h1, e1, List.append_assoc], ?_⟩
  rw [h2, e2, List.map_append, List.append_assoc, h.al.r]
  rfl
theorem AlikeH.beat {s s' : LS} (h : AlikeH d X Y s s') (i mask : Nat) : AlikeH d X Y (beat i mask s) (beat (i + d) mask s') := h.more (h.al.beat _ _ _ _) i mask rfl rfl
theorem AlikeH.exec {s s' : LS} (h : AlikeH d X Y s s') (c : Cd) (n m i mask : Nat) : AlikeH d X Y (exec c n m i mask s) (exec c n m (i + d) mask s') :=
  h.more (h.al.exec c n m i (i + d) mask) i mask (exec_hist _ _ _ _ _ _) (exec_hist _ _ _ _ _ _)
theorem AlikeH.turns {F G : Nat → LS → LS} (hF : ∀ y s s', AlikeH d X Y s s' → AlikeH d X Y (F y s) (G y s')) (n a : Nat) : ∀ (b y : Nat) {s s' : LS}, AlikeH d X Y s s' → AlikeH d X Y (turns F n a b y s) (turns G n a b y s')
  | 0, _, _, _, h => h
  | b + 1, y, s, s', h => by
    unfold Go.Proofs.Ytajaonejpggcbaa.turns
    rw [h.al.r]
    exact AlikeH.turns hF n a b _ (hF _ _ _ h)
theorem AlikeH.run (n m : Nat) : ∀ (t : Tr) (i j mask : Nat) {s s' : LS}, j = i + d → AlikeH d X Y s s' → AlikeH d X Y (run n m t i mask s) (run n m t j mask s')
  | .nil, _, _, _, _, _, _, h => h
  | .op c k, i, j, mask, s, s', e, h => by
    subst e
    by_cases h0 : mask = 0
    · subst h0; rw [run_zero, run_zero]; exact h
    · simp only [Go.Proofs.Ytajaonejpggcbaa.run, if_neg h0]
      exact AlikeH.run n m k _ _ mask (by omega) (h.exec c n m i mask)
  | .ite a t k, i, j, mask, s, s', e, h => by
    subst e
    by_cases h0 : mask = 0
    · subst h0; rw [run_zero, run_zero]; exact h
    · simp only [Go.Proofs.Ytajaonejpggcbaa.run, if_neg h0]
      rw [h.al.r]
      exact AlikeH.run n m k _ _ mask (by omega) (AlikeH.run n m t _ _ _ (by omega) (h.beat i mask))
  | .itee a t e k, i, j, mask, s, s', ej, h => by
    subst ej
    by_cases h0 : mask = 0
    · subst h0; rw [run_zero, run_zero]; exact h
    · simp only [Go.Proofs.Ytajaonejpggcbaa.run, if_neg h0]
      rw [h.al.r]
      exact AlikeH.run n m k _ _ mask (by omega) (AlikeH.run n m e _ _ _ (by omega) (AlikeH.run n m t _ _ _ (by omega) (h.beat i mask)))
  | .loop a b t k, i, j, mask, s, s', e, h => by
    subst e
    by_cases h0 : mask = 0
    · subst h0; rw [run_zero, run_zero]; exact h
    · simp only [Go.Proofs.Ytajaonejpggcbaa.run, if_neg h0]
      exact AlikeH.run n m k _ _ mask (by omega) (AlikeH.turns (fun y _ _ hy => AlikeH.run n m t _ _ y (by omega) hy) n a.toNat b.toNat mask (h.beat i mask))
end

/-- The wrapped run's steps: one, and then those of the program alone, three places on. -/
theorem else_hist {cs : List Cd} {c : Cd} {mem : List Int} {n : Nat} (hn : 1 ≤ n) (hv : PValid cs) (hc : Plain c) (hw : PValid (cIf 0 :: c :: cElse :: (cs ++ [cEnd]))) :
    ∃ R, (lockOf (cIf 0 :: c :: cElse :: (cs ++ [cEnd])) n mem).H = (0, 2 ^ n - 1, R) :: (lockOf cs n mem).H.map (fun x => (x.1 + 3, x.2)) := by
  obtain ⟨h1, h2, _⟩ := treeOf_spec hv
  have hok : (Tr.itee 0 (.op c .nil) (treeOf cs) .nil).Ok := ⟨by unfold Reg; omega, ⟨hc, trivial⟩, h2, trivial⟩
  have e := treeOf_eq hw (t := Tr.itee 0 (.op c .nil) (treeOf cs) .nil) (by simp [Tr.flat]; exact h1) hok
  unfold lockOf
  rw [e]
  have hm : (2 ^ n - 1 : Nat) ≠ 0 := by have := Nat.pow_le_pow_right (show 0 < 2 by decide) hn; omega
  have ho : onesTo (startLS mem).R (2 ^ n - 1) (Int.toNat 0) n = 0 := onesTo_zero (R := (startLS mem).R) (fun _ => rfl) _ _
  simp only [run, if_neg hm, ho, del_none, if_true]
  have h := AlikeH.run (d := 3) (X := []) (Y := [(0, 2 ^ n - 1, (startLS mem).R)]) n mem.length (treeOf cs) 0 (0 + 1 + (Tr.op c .nil).len + 1) (2 ^ n - 1) (by simp [Tr.len, Tr.flat])
    (show AlikeH 3 [] _ (startLS mem) (beat 0 (2 ^ n - 1) (startLS mem)) from ⟨⟨rfl, rfl, rfl, rfl⟩, [], rfl, rfl⟩)
  obtain ⟨L, e1, e2⟩ := h.h
  refine ⟨(startLS mem).R, ?_⟩
  rw [e2, e1]
  rfl
theorem else_split {cs : List Cd} {c : Cd} {mem : List Int} {n : Nat} (hn : 1 ≤ n) (hv : PValid cs) (hc : Plain c) (hw : PValid (cIf 0 :: c :: cElse :: (cs ++ [cEnd]))) :
    splitH (cIf 0 :: c :: cElse :: (cs ++ [cEnd])) n (lockOf (cIf 0 :: c :: cElse :: (cs ++ [cEnd])) n mem).H = splitH cs n (lockOf cs n mem).H := by
  obtain ⟨R, e⟩ := else_hist (mem := mem) hn hv hc hw
  rw [e]
  have hin := lockOf_in (n := n) (mem := mem) hv
  unfold splitH
  rw [List.any_cons, List.any_map]
  have h0 : (decide (((cIf 0 :: c :: cElse :: (cs ++ [cEnd])).getD 0 default).op = 10) && !decide (2 ^ n - 1 = 2 ^ n - 1)) = false := by simp
  show (_ && _ || _) = _
  rw [h0, Bool.false_or, Bool.eq_iff_iff, List.any_eq_true, List.any_eq_true]
  have key : ∀ x ∈ (lockOf cs n mem).H, (cIf 0 :: c :: cElse :: (cs ++ [cEnd])).getD (x.1 + 3) default = cs.getD x.1 default := fun x hx => by
    have hl := (hin x hx).2.1
    have hl' : x.1 < cs.length := by omega
    simp [List.getD_eq_getElem?_getD, hl', List.getElem?_append_left hl']
  constructor
  · rintro ⟨x, hx, hb⟩
    exact ⟨x, hx, by rw [← key x hx]; exact hb⟩
  · rintro ⟨x, hx, hb⟩
    exact ⟨x, hx, by show (_ && _) = true; rw [key x hx]; exact hb⟩

end Go.Proofs.Ytajaonejpggcbaa

namespace Go.Proofs.Ytajaonejpggcbaa

theorem turns_keep {n : Nat} {F : Nat → LS → LS} {Q : LS → Prop} (hF : ∀ y s, y < 2 ^ n → Q s → Q (F y s)) (a : Nat) : ∀ (b y : Nat) (s : LS), Q s → Q (turns F n a b y s)
  | 0, _, _, h => h
  | b + 1, _, _, h => turns_keep hF a b _ _ (hF _ _ (onesTo_lt _ _ _ _) h)
/-- What every step keeps, the run keeps. -/
theorem run_keep {cs : List Cd} (n m : Nat) (Q : LS → Prop)
    (hb : ∀ s i mask, Opens (cs.getD i default) → i < cs.length → mask ≠ 0 → mask < 2 ^ n → Q s → Q (beat i mask s))
    (he : ∀ s i mask, Plain (cs.getD i default) → i < cs.length → mask ≠ 0 → mask < 2 ^ n → Q s → Q (exec (cs.getD i default) n m i mask s)) :
    ∀ (t : Tr) (i mask : Nat) (s : LS), t.Ok → Seg cs i t → mask < 2 ^ n → Q s → Q (run n m t i mask s)
  | .nil, _, _, _, _, _, _, h => h
  | .op c k, i, mask, s, ho, hs, hm, h => by
    obtain ⟨e1, e2, e3⟩ := hs.op
    show Q (if _ then _ else _)
    split
    · exact h
    · rename_i h0
      refine run_keep n m Q hb he k _ _ _ ho.2 e3 hm ?_
      have := he s i mask (by rw [e1]; exact ho.1) e2 h0 hm h
      rwa [e1] at this
  | .ite a t k, i, mask, s, ho, hs, hm, h => by
    obtain ⟨e1, e2, e3, e4, e5⟩ := hs.ite
    show Q (if _ then _ else _)
    split
    · exact h
    · rename_i h0
      refine run_keep n m Q hb he k _ _ _ ho.2.2 e5 hm (run_keep n m Q hb he t _ _ _ ho.2.1 e2 (onesTo_lt _ _ _ _) (hb s i mask (by rw [e1]; exact opens_if a) (by omega) h0 hm h))
  | .itee a t e k, i, mask, s, ho, hs, hm, h => by
    obtain ⟨e1, e2, e3, e4, e5, e6, e7⟩ := hs.itee
    show Q (if _ then _ else _)
    split
    · exact h
    · rename_i h0
      refine run_keep n m Q hb he k _ _ _ ho.2.2.2 e7 hm (run_keep n m Q hb he e _ _ _ ho.2.2.1 e4 (del_lt2 _ hm) (run_keep n m Q hb he t _ _ _ ho.2.1 e2 (onesTo_lt _ _ _ _) (hb s i mask (by rw [e1]; exact opens_if a) (by omega) h0 hm h)))
  | .loop a b t k, i, mask, s, ho, hs, hm, h => by
    obtain ⟨e1, e2, e3, e4, e5⟩ := hs.loop
    show Q (if _ then _ else _)
    split
    · exact h
    · rename_i h0
      exact run_keep n m Q hb he k _ _ _ ho.2.2.2 e5 hm (turns_keep (fun _ _ hy hq => run_keep n m Q hb he t _ _ _ ho.2.2.1 e2 hy hq) _ _ _ _ (hb s i mask (by rw [e1]; exact opens_loop a b) (by omega) h0 hm h))
theorem turns_sim {n : Nat} {F G : Nat → LS → LS} {Rel : LS → LS → Prop} (hR : ∀ s s', Rel s s' → s.R = s'.R) (hF : ∀ y s s', Rel s s' → Rel (F y s) (G y s')) (a : Nat) : ∀ (b y : Nat) (s s' : LS), Rel s s' → Rel (turns F n a b y s) (turns G n a b y s')
  | 0, _, _, _, h => h
  | b + 1, y, s, s', h => by
    show Rel (turns F n a b (onesTo s.R y a n) (F (onesTo s.R y a n) s)) (turns G n a b (onesTo s'.R y a n) (G (onesTo s'.R y a n) s'))
    rw [hR s s' h]
    exact turns_sim hR hF a b _ _ _ (hF _ _ _ h)
/-- Two runs of the same tree, at places that differ by d, keep side by side. -/
theorem run_sim (n m d : Nat) (Rel : LS → LS → Prop) (hR : ∀ s s', Rel s s' → s.R = s'.R)
    (hb : ∀ s s' i mask, Rel s s' → Rel (beat i mask s) (beat (i + d) mask s'))
    (he : ∀ c s s' i mask, Plain c → Rel s s' → Rel (exec c n m i mask s) (exec c n m (i + d) mask s')) :
    ∀ (t : Tr) (i j mask : Nat) (s s' : LS), t.Ok → j = i + d → Rel s s' → Rel (run n m t i mask s) (run n m t j mask s')
  | .nil, _, _, _, _, _, _, _, h => h
  | .op c k, i, j, mask, s, s', ho, hj, h => by
    subst hj
    show Rel (if _ then _ else _) (if _ then _ else _)
    split
    · exact h
    · exact run_sim n m d Rel hR hb he k _ _ _ _ _ ho.2 (by omega) (he c s s' i mask ho.1 h)
  | .ite a t k, i, j, mask, s, s', ho, hj, h => by
    subst hj
    show Rel (if _ then _ else _) (if _ then _ else _)
    split
    · exact h
    · rw [← hR s s' h]
      exact run_sim n m d Rel hR hb he k _ _ _ _ _ ho.2.2 (by omega) (run_sim n m d Rel hR hb he t _ _ _ _ _ ho.2.1 (by omega) (hb s s' i mask h))
  | .itee a t e k, i, j, mask, s, s', ho, hj, h => by
    subst hj
    show Rel (if _ then _ else _) (if _ then _ else _)
    split
    · exact h
    · rw [← hR s s' h]
      exact run_sim n m d Rel hR hb he k _ _ _ _ _ ho.2.2.2 (by omega) (run_sim n m d Rel hR hb he e _ _ _ _ _ ho.2.2.1 (by omega) (run_sim n m d Rel hR hb he t _ _ _ _ _ ho.2.1 (by omega) (hb s s' i mask h)))
  | .loop a b t k, i, j, mask, s, s', ho, hj, h => by
    subst hj
    show Rel (if _ then _ else _) (if _ then _ else _)
    split
    · exact h
    · exact run_sim n m d Rel hR hb he k _ _ _ _ _ ho.2.2.2 (by omega) (turns_sim hR (fun y s s' hq => run_sim n m d Rel hR hb he t (i + 1) (i + d + 1) y s s' ho.2.2.1 (by omega) hq) _ _ _ _ _ (hb s s' i mask h))

/-- The accesses of a run, when it begins in another phase. -/
def acUp (e : Nat) (x : Ac) : Ac := { x with ph := x.ph + e }
structure AlikeA (e : Nat) (X Y : List Ac) (s s' : LS) : Prop where
  r : s.R = s'.R
  m : s.M = s'.M
  p : s'.P = s.P + e
  a : ∃ L, s.A = X ++ L ∧ s'.A = Y ++ L.map (acUp e)
theorem AlikeA.beat {e : Nat} {X Y : List Ac} {s s' : LS} (h : AlikeA e X Y s s') (i j mask mask' : Nat) : AlikeA e X Y (beat i mask s) (beat j mask' s') := ⟨h.r, h.m, h.p, h.a⟩
theorem AlikeA.lane1 {e : Nat} {X Y : List Ac} {s s' : LS} (h : AlikeA e X Y s s') (c : Cd) (m k : Nat) : AlikeA e X Y (lane1 c m k s) (lane1 c m k s') := by
  obtain ⟨L, h1, h2⟩ := h.a
  refine ⟨?_, ?_, h.p, ?_⟩
  · show (fun l => if l = k then simR c k m (s.R k) s.M else s.R l) = fun l => if l = k then simR c k m (s'.R k) s'.M else s'.R l
    rw [h.r, h.m]
  · show simM c m (s.R k) s.M = simM c m (s'.R k) s'.M
    rw [h.r, h.m]
  · by_cases ho : c.op = 8 ∨ c.op = 9
    · refine ⟨L ++ [⟨k, cellOf c m (s.R k), decide (c.op = 9), s.P⟩], ?_, ?_⟩
      · show (if c.op = 8 ∨ c.op = 9 then s.A ++ _ else s.A) = _
        rw [if_pos ho, h1, List.append_assoc]
      · show (if c.op = 8 ∨ c.op = 9 then s'.A ++ [⟨k, cellOf c m (s'.R k), decide (c.op = 9), s'.P⟩] else s'.A) = _
        rw [if_pos ho, h2, h.p, h.r]
        simp [acUp]
    · refine ⟨L, ?_, ?_⟩
      · show (if c.op = 8 ∨ c.op = 9 then s.A ++ _ else s.A) = _
        rw [if_neg ho, h1]
      · show (if c.op = 8 ∨ c.op = 9 then s'.A ++ _ else s'.A) = _
        rw [if_neg ho, h2]
theorem AlikeA.lanesTo {e : Nat} {X Y : List Ac} {s s' : LS} (h : AlikeA e X Y s s') (c : Cd) (m mask : Nat) : ∀ j, AlikeA e X Y (lanesTo c m mask j s) (lanesTo c m mask j s')
  | 0 => h
  | j + 1 => by
    show AlikeA e X Y (if _ then _ else _) (if _ then _ else _)
    split
    · exact (AlikeA.lanesTo h c m mask j).lane1 c m j
    · exact AlikeA.lanesTo h c m mask j
theorem AlikeA.exec {e : Nat} {X Y : List Ac} {s s' : LS} (h : AlikeA e X Y s s') (c : Cd) (n m i j mask : Nat) : AlikeA e X Y (exec c n m i mask s) (exec c n m j mask s') := by
  have h1 := (h.beat i j mask mask).lanesTo c m mask n
  unfold Proofs.Ytajaonejpggcbaa.exec
  simp only
  split
  · exact ⟨h1.r, h1.m, by show (Proofs.Ytajaonejpggcbaa.lanesTo _ _ _ _ _).P + 1 = _; rw [h1.p]; show _ = (Proofs.Ytajaonejpggcbaa.lanesTo _ _ _ _ _).P + 1 + e; omega, h1.a⟩
  · exact h1
theorem AlikeA.run {e : Nat} {X Y : List Ac} (n m d : Nat) {t : Tr} (ho : t.Ok) {i j mask : Nat} {s s' : LS} (hj : j = i + d) (h : AlikeA e X Y s s') : AlikeA e X Y (run n m t i mask s) (run n m t j mask s') :=
  run_sim n m d (AlikeA e X Y) (fun _ _ h => h.r) (fun _ _ _ _ h => h.beat _ _ _ _) (fun c _ _ _ _ _ h => h.exec c _ _ _ _ _) t i j mask s s' ho hj h
theorem AlikeA.start {e : Nat} {s s' : LS} (h1 : s.R = s'.R) (h2 : s.M = s'.M) (h3 : s'.P = s.P + e) : AlikeA e s.A s'.A s s' := ⟨h1, h2, h3, [], by simp, by simp⟩

end Go.Proofs.Ytajaonejpggcbaa

namespace Go.Proofs.Ytajaonejpggcbaa

/-- Two runs side by side: the same registers and cells, places that differ by d, phases that differ by e. -/
structure Side (d e : Nat) (X Y : List Ac) (U V : List (Nat × Nat × (Nat → Nat → Int))) (s s' : LS) : Prop where
  a : AlikeA e X Y s s'
  h : ∃ L, s.H = U ++ L ∧ s'.H = V ++ L.map (fun x => (x.1 + d, x.2))
section
variable {d e : Nat} {X Y : List Ac} {U V : List (Nat × Nat × (Nat → Nat → Int))}
theorem Side.more {s s' u u' : LS} (h : Side d e X Y U V s s') (ha : AlikeA e X Y u u') (i mask : Nat) (h1 : u.H = s.H ++ [(i, mask, s.R)]) (h2 : u'.H = s'.H ++ [(i + d, mask, s'.R)]) : Side d e X Y U V u u' := by
  obtain ⟨L, e1, e2⟩ := h.h
  refine ⟨ha, L ++ [(i, mask, s.R)], by rw [h1, e1, List.append_assoc], ?_⟩
  rw [h2, e2, List.map_append, List.append_assoc, h.a.r]
  rfl
theorem Side.run (n m : Nat) {t : Tr} (ho : t.Ok) {i j mask : Nat} {s s' : LS} (hj : j = i + d) (h : Side d e X Y U V s s') : Side d e X Y U V (run n m t i mask s) (run n m t j mask s') :=
  run_sim n m d (Side d e X Y U V) (fun _ _ h => h.a.r) (fun _ _ i mask h => h.more (h.a.beat _ _ _ _) i mask rfl rfl) (fun c _ _ i mask _ h => h.more (h.a.exec c n m i (i + d) mask) i mask (exec_hist _ _ _ _ _ _) (exec_hist _ _ _ _ _ _)) t i j mask s s' ho hj h
theorem Side.start {s s' : LS} (h1 : s.R = s'.R) (h2 : s.M = s'.M) (h3 : s'.P = s.P + e) : Side d e s.A s'.A s.H s'.H s s' := ⟨AlikeA.start h1 h2 h3, [], by simp, by simp⟩
end

def cBar : Cd := ⟨10, 0, 0, 0⟩
theorem cbar_plain : Plain cBar := by simp [Plain, cBar, CdOk, Reg, Word]

/-- Inside of a tree one is around what is around its first place, or further in. -/
theorem around_in {cs : List Cd} : ∀ (t : Tr) (i j : Nat), t.Ok → Seg cs i t → i ≤ j → j ≤ i + t.len → aroundAt cs j = aroundAt cs i ∨ (i : Int) ≤ aroundAt cs j
  | .nil, i, j, _, _, h1, h2 => by
    have h0 : Tr.nil.len = 0 := rfl
    have : j = i := by omega
    subst this; exact .inl rfl
  | .op c k, i, j, ho, hs, h1, h2 => by
    obtain ⟨e1, e2, e3⟩ := hs.op
    rw [Tr.len_op] at h2
    by_cases hj : j = i
    · subst hj; exact .inl rfl
    · have ha : aroundAt cs (i + 1) = aroundAt cs i := around_op (by rw [e1]; rintro (h | h); exact ho.1.2.1 h; exact ho.1.2.2.2.1 h) (by rw [e1]; exact ho.1.2.2.2.2)
      rcases around_in k (i + 1) j ho.2 e3 (by omega) (by omega) with h | h
      · rw [h, ha]; exact .inl rfl
      · exact .inr (by omega)
  | .ite a t k, i, j, ho, hs, h1, h2 => by
    obtain ⟨e1, e2, e3, e4, e5⟩ := hs.ite
    rw [Tr.len_ite] at h2
    by_cases hj : j = i
    · subst hj; exact .inl rfl
    by_cases hj2 : j ≤ i + 1 + t.len
    · have ha := around_open (cs := cs) (i := i) (by rw [e1]; exact opens_if a)
      rcases around_in t (i + 1) j ho.2.1 e2 (by omega) (by omega) with h | h
      · rw [h, ha]; exact .inr (Int.le_refl _)
      · exact .inr (by omega)
    · have ha := around_behind ho.2.1 e2 (by rw [e1]; exact opens_if a) e3
      rcases around_in k (i + 1 + t.len + 1) j ho.2.2 e5 (by omega) (by omega) with h | h
      · rw [h, ha]; exact .inl rfl
      · exact .inr (by omega)
  | .itee a t e k, i, j, ho, hs, h1, h2 => by
    obtain ⟨e1, e2, e3, e4, e5, e6, e7⟩ := hs.itee
    rw [Tr.len_itee] at h2
    have hab := around_behind2 ho.2.1 e2 (by rw [e1]; exact opens_if a) e3 ho.2.2.1 e4 e5
    by_cases hj : j = i
    · subst hj; exact .inl rfl
    by_cases hj2 : j ≤ i + 1 + t.len
    · have ha := around_open (cs := cs) (i := i) (by rw [e1]; exact opens_if a)
      rcases around_in t (i + 1) j ho.2.1 e2 (by omega) (by omega) with h | h
      · rw [h, ha]; exact .inr (Int.le_refl _)
      · exact .inr (by omega)
    by_cases hj3 : j ≤ i + 1 + t.len + 1 + e.len
    · rcases around_in e (i + 1 + t.len + 1) j ho.2.2.1 e4 (by omega) (by omega) with h | h
      · rw [h, hab.2]; exact .inr (Int.le_refl _)
      · exact .inr (by omega)
    · rcases around_in k (i + 1 + t.len + 1 + e.len + 1) j ho.2.2.2 e7 (by omega) (by omega) with h | h
      · rw [h, hab.1]; exact .inl rfl
      · exact .inr (by omega)
  | .loop a b t k, i, j, ho, hs, h1, h2 => by
    obtain ⟨e1, e2, e3, e4, e5⟩ := hs.loop
    rw [Tr.len_loop] at h2
    by_cases hj : j = i
    · subst hj; exact .inl rfl
    by_cases hj2 : j ≤ i + 1 + t.len
    · have ha := around_open (cs := cs) (i := i) (by rw [e1]; exact opens_loop a b)
      rcases around_in t (i + 1) j ho.2.2.1 e2 (by omega) (by omega) with h | h
      · rw [h, ha]; exact .inr (Int.le_refl _)
      · exact .inr (by omega)
    · have ha := around_behind ho.2.2.1 e2 (by rw [e1]; exact opens_loop a b) e3
      rcases around_in k (i + 1 + t.len + 1) j ho.2.2.2 e5 (by omega) (by omega) with h | h
      · rw [h, ha]; exact .inl rfl
      · exact .inr (by omega)

/-- A place in no block parts the tree. -/
theorem part_at {cs : List Cd} : ∀ (t : Tr) (i j : Nat), t.Ok → Seg cs i t → i ≤ j → j ≤ i + t.len → aroundAt cs i = -1 → aroundAt cs j = -1 → ∃ u v : Tr, u.Ok ∧ v.Ok ∧ t = u.app v ∧ i + u.len = j
  | .nil, i, j, _, _, h1, h2, _, _ => by
    have h0 : Tr.nil.len = 0 := rfl
    exact ⟨.nil, .nil, trivial, trivial, rfl, by omega⟩
  | .op c k, i, j, ho, hs, h1, h2, hi, hj' => by
    obtain ⟨e1, e2, e3⟩ := hs.op
    rw [Tr.len_op] at h2
    by_cases hj : j = i
    · subst hj; exact ⟨.nil, .op c k, trivial, ho, rfl, by have h0 : Tr.nil.len = 0 := rfl; omega⟩
    · have ha : aroundAt cs (i + 1) = aroundAt cs i := around_op (by rw [e1]; rintro (h | h); exact ho.1.2.1 h; exact ho.1.2.2.2.1 h) (by rw [e1]; exact ho.1.2.2.2.2)
      obtain ⟨u, v, hu, hv, e, hl⟩ := part_at k (i + 1) j ho.2 e3 (by omega) (by omega) (by rw [ha, hi]) hj'
      exact ⟨.op c u, v, ⟨ho.1, hu⟩, hv, by rw [e]; rfl, by rw [Tr.len_op]; omega⟩
  | .ite a t k, i, j, ho, hs, h1, h2, hi, hj' => by
    obtain ⟨e1, e2, e3, e4, e5⟩ := hs.ite
    rw [Tr.len_ite] at h2
    by_cases hj : j = i
    · subst hj; exact ⟨.nil, .ite a t k, trivial, ho, rfl, by have h0 : Tr.nil.len = 0 := rfl; omega⟩
    by_cases hj2 : j ≤ i + 1 + t.len
    · have ha := around_open (cs := cs) (i := i) (by rw [e1]; exact opens_if a)
      rcases around_in t (i + 1) j ho.2.1 e2 (by omega) (by omega) with h | h
      · omega
      · omega
    · have ha := around_behind ho.2.1 e2 (by rw [e1]; exact opens_if a) e3
      obtain ⟨u, v, hu, hv, e, hl⟩ := part_at k (i + 1 + t.len + 1) j ho.2.2 e5 (by omega) (by omega) (by rw [ha, hi]) hj'
      exact ⟨.ite a t u, v, ⟨ho.1, ho.2.1, hu⟩, hv, by rw [e]; rfl, by rw [Tr.len_ite]; omega⟩
  | .itee a t e k, i, j, ho, hs, h1, h2, hi, hj' => by
    obtain ⟨e1, e2, e3, e4, e5, e6, e7⟩ := hs.itee
    rw [Tr.len_itee] at h2
    have hab := around_behind2 ho.2.1 e2 (by rw [e1]; exact opens_if a) e3 ho.2.2.1 e4 e5
    by_cases hj : j = i
    · subst hj; exact ⟨.nil, .itee a t e k, trivial, ho, rfl, by have h0 : Tr.nil.len = 0 := rfl; omega⟩
    by_cases hj2 : j ≤ i + 1 + t.len
    · have ha := around_open (cs := cs) (i := i) (by rw [e1]; exact opens_if a)
      rcases around_in t (i + 1) j ho.2.1 e2 (by omega) (by omega) with h | h
      · omega
      · omega
    by_cases hj3 : j ≤ i + 1 + t.len + 1 + e.len
    · rcases around_in e (i + 1 + t.len + 1) j ho.2.2.1 e4 (by omega) (by omega) with h | h
      · omega
      · omega
    · obtain ⟨u, v, hu, hv, e', hl⟩ := part_at k (i + 1 + t.len + 1 + e.len + 1) j ho.2.2.2 e7 (by omega) (by omega) (by rw [hab.1, hi]) hj'
      exact ⟨.itee a t e u, v, ⟨ho.1, ho.2.1, ho.2.2.1, hu⟩, hv, by rw [e']; rfl, by rw [Tr.len_itee]; omega⟩
  | .loop a b t k, i, j, ho, hs, h1, h2, hi, hj' => by
    obtain ⟨e1, e2, e3, e4, e5⟩ := hs.loop
    rw [Tr.len_loop] at h2
    by_cases hj : j = i
    · subst hj; exact ⟨.nil, .loop a b t k, trivial, ho, rfl, by have h0 : Tr.nil.len = 0 := rfl; omega⟩
    by_cases hj2 : j ≤ i + 1 + t.len
    · have ha := around_open (cs := cs) (i := i) (by rw [e1]; exact opens_loop a b)
      rcases around_in t (i + 1) j ho.2.2.1 e2 (by omega) (by omega) with h | h
      · omega
      · omega
    · have ha := around_behind ho.2.2.1 e2 (by rw [e1]; exact opens_loop a b) e3
      obtain ⟨u, v, hu, hv, e, hl⟩ := part_at k (i + 1 + t.len + 1) j ho.2.2.2 e5 (by omega) (by omega) (by rw [ha, hi]) hj'
      exact ⟨.loop a b t u, v, ⟨ho.1, ho.2.1, ho.2.2.1, hu⟩, hv, by rw [e]; rfl, by rw [Tr.len_loop]; omega⟩

theorem app_len (u v : Tr) : (u.app v).len = u.len + v.len := by unfold Tr.len; rw [app_flat, List.length_append]
theorem app_depth_le : ∀ (u v : Tr), u.depth ≤ (u.app v).depth ∧ v.depth ≤ (u.app v).depth
  | .nil, v => ⟨Nat.zero_le _, Nat.le_refl _⟩
  | .op c k, v => app_depth_le k v
  | .ite a t k, v => by have := app_depth_le k v; simp only [Tr.app, Tr.depth]; omega
  | .itee a t e k, v => by have := app_depth_le k v; simp only [Tr.app, Tr.depth]; omega
  | .loop a b t k, v => by have := app_depth_le k v; simp only [Tr.app, Tr.depth]; omega
theorem ext_parts {s s' : LS} (h : Ext s s') : ∃ X, s'.H = s.H ++ X := h

/-- A program with a barrier more. -/
def insC (cs : List Cd) (at_ : Nat) : List Cd := cs.take at_ ++ cBar :: cs.drop at_
/-- The parts of a program before and behind a place in no block. -/
theorem parts_of {cs : List Cd} {at_ : Nat} (hv : PValid cs) (h : at_ = 0 ∨ (at_ ≤ cs.length ∧ aroundAt cs at_ = -1)) :
    ∃ u v : Tr, u.Ok ∧ v.Ok ∧ treeOf cs = u.app v ∧ u.len = at_ ∧ u.flat = cs.take at_ ∧ v.flat = cs.drop at_ := by
  obtain ⟨h1, h2, h3⟩ := treeOf_spec hv
  have hlen : (treeOf cs).len = cs.length := (congrArg List.length h1).symm
  obtain ⟨u, v, hu, hv', e, hl⟩ : ∃ u v : Tr, u.Ok ∧ v.Ok ∧ treeOf cs = u.app v ∧ u.len = at_ := by
    rcases h with rfl | ⟨h4, h5⟩
    · exact ⟨.nil, treeOf cs, trivial, h2, rfl, rfl⟩
    · obtain ⟨u, v, hu, hv', e, hl⟩ := part_at (treeOf cs) 0 at_ h2 (Seg.whole h1) (by omega) (by omega) (around_0 cs) h5
      exact ⟨u, v, hu, hv', e, by omega⟩
  have hf : cs = u.flat ++ v.flat := by rw [← app_flat, ← e]; exact h1
  refine ⟨u, v, hu, hv', e, hl, ?_, ?_⟩
  · rw [hf, ← hl]; exact (List.take_left (l₁ := u.flat)).symm
  · rw [hf, ← hl]; exact (List.drop_left (l₁ := u.flat)).symm
/-- A tree with an instruction in between is a valid program. -/
theorem put_valid {cs : List Cd} {u v : Tr} {c : Cd} (hv : PValid cs) (hu : u.Ok) (hv' : v.Ok) (e : treeOf cs = u.app v) (hc : Plain c) (h40 : cs.length + 1 ≤ 40) :
    PValid (u.app (.op c v)).flat ∧ treeOf (u.app (.op c v)).flat = u.app (.op c v) := by
  obtain ⟨h1, h2, h3⟩ := treeOf_spec hv
  have hlen : (treeOf cs).len = cs.length := (congrArg List.length h1).symm
  rw [e, app_len] at hlen
  have hd := app_depth_le u v
  rw [e] at h3
  have hok : (u.app (.op c v)).Ok := app_ok hu ⟨hc, hv'⟩
  have hdd : (u.app (.op c v)).depth ≤ 3 := app_depth (by omega) (by show v.depth ≤ 3; omega)
  have hp := valid_of_tree hok hdd (by rw [app_len, Tr.len_op]; omega)
  exact ⟨hp, treeOf_eq hp rfl hok⟩
theorem put_flat (u v : Tr) (c : Cd) : (u.app (.op c v)).flat = u.flat ++ c :: v.flat := by rw [app_flat]; rfl
theorem full_ne {n : Nat} (hn : 1 ≤ n) : (2 ^ n - 1 : Nat) ≠ 0 := by have := Nat.pow_le_pow_right (show 0 < 2 by decide) hn; omega
theorem full_lt (n : Nat) : (2 ^ n - 1 : Nat) < 2 ^ n := Nat.sub_lt (Nat.two_pow_pos n) (by decide)

/-- The phases of accesses are at most the phase at the end. -/
theorem phase_le {cs : List Cd} (n m : Nat) {t : Tr} {i mask : Nat} {s : LS} (ho : t.Ok) (hs : Seg cs i t) (hm : mask < 2 ^ n) (h : ∀ x ∈ s.A, x.ph ≤ s.P) : ∀ x ∈ (run n m t i mask s).A, x.ph ≤ (run n m t i mask s).P := by
  refine run_keep (cs := cs) n m (fun s => ∀ x ∈ s.A, x.ph ≤ s.P) (fun s i mask _ _ _ _ h => h) (fun s i mask _ _ _ _ h => ?_) t i mask s ho hs hm h
  have hl : ∀ (c : Cd) (s : LS), (∀ x ∈ s.A, x.ph ≤ s.P) → ∀ j, ∀ x ∈ (lanesTo c m mask j s).A, x.ph ≤ (lanesTo c m mask j s).P := by
    intro c s h j
    induction j with
    | zero => exact h
    | succ j ih =>
      unfold lanesTo
      split
      · intro x hx
        have hx : x ∈ (if c.op = 8 ∨ c.op = 9 then (lanesTo c m mask j s).A ++ _ else (lanesTo c m mask j s).A : List Ac) := hx
        show x.ph ≤ (lanesTo c m mask j s).P
        split at hx
        · rcases List.mem_append.1 hx with h1 | h1
          · exact ih x h1
          · simp at h1; rw [h1]; exact Nat.le_refl _
        · exact ih x hx
      · exact ih
  have h2 := hl (cs.getD i default) (beat i mask s) h n
  unfold exec
  simp only
  split
  · exact fun x hx => Nat.le_succ_of_le (h2 x hx)
  · exact h2

theorem lanes_calm {c : Cd} (h8 : c.op ≠ 8) (h9 : c.op ≠ 9) (m mask : Nat) (s : LS) : ∀ j, (lanesTo c m mask j s).M = s.M ∧ (lanesTo c m mask j s).A = s.A
  | 0 => ⟨rfl, rfl⟩
  | j + 1 => by
    have ih := lanes_calm h8 h9 m mask s j
    unfold lanesTo
    split
    · constructor
      · show simM c m _ (lanesTo c m mask j s).M = _
        unfold simM; rw [if_neg h9]; exact ih.1
      · show (if c.op = 8 ∨ c.op = 9 then _ else (lanesTo c m mask j s).A) = _
        rw [if_neg (by rintro (h | h); exact h8 h; exact h9 h)]; exact ih.2
    · exact ih
theorem lanes_bar (m mask : Nat) (s : LS) : ∀ j, (lanesTo cBar m mask j s).R = s.R
  | 0 => rfl
  | j + 1 => by
    have ih := lanes_bar m mask s j
    unfold lanesTo
    split
    · show (fun l => if l = j then simR cBar j m ((lanesTo cBar m mask j s).R j) (lanesTo cBar m mask j s).M else (lanesTo cBar m mask j s).R l) = _
      funext l
      have e : simR cBar j m ((lanesTo cBar m mask j s).R j) (lanesTo cBar m mask j s).M = (lanesTo cBar m mask j s).R j := rfl
      rw [e, ih]
      split
      · rename_i hl; rw [hl]
      · rfl
    · exact ih
/-- A barrier changes nothing but the phase. -/
theorem exec_bar (n m i mask : Nat) (s : LS) : (exec cBar n m i mask s).R = s.R ∧ (exec cBar n m i mask s).M = s.M ∧ (exec cBar n m i mask s).A = s.A ∧ (exec cBar n m i mask s).P = s.P + 1 ∧ (exec cBar n m i mask s).H = s.H ++ [(i, mask, s.R)] := by
  have h1 := lanes_calm (c := cBar) (by decide) (by decide) m mask (beat i mask s) n
  have h2 := lanes_bar m mask (beat i mask s) n
  have h3 : (lanesTo cBar m mask n (beat i mask s)).P = s.P := by
    have : ∀ j, (lanesTo cBar m mask j (beat i mask s)).P = s.P := by
      intro j
      induction j with
      | zero => rfl
      | succ j ih => unfold lanesTo; split <;> exact ih
    exact this n
  refine ⟨?_, ?_, ?_, ?_, exec_hist _ _ _ _ _ _⟩
  · exact h2
  · exact h1.1
  · exact h1.2
  · show (lanesTo cBar m mask n (beat i mask s)).P + 1 = _
    rw [h3]

theorem lockOf_app {cs : List Cd} {u v : Tr} {n : Nat} {mem : List Int} (e : treeOf cs = u.app v) : lockOf cs n mem = run n mem.length v u.len (2 ^ n - 1) (run n mem.length u 0 (2 ^ n - 1) (startLS mem)) := by
  unfold lockOf; rw [e, run_app]; simp
theorem getD_left {a b : List Cd} {i : Nat} (h : i < a.length) : (a ++ b).getD i default = a.getD i default := by
  simp [List.getD_eq_getElem?_getD, List.getElem?_append_left h]
theorem getD_right {a b : List Cd} {i : Nat} (h : a.length ≤ i) : (a ++ b).getD i default = b.getD (i - a.length) default := by
  simp [List.getD_eq_getElem?_getD, List.getElem?_append_right h]

/-- What a run with a barrier more does. -/
theorem ins_lock {cs : List Cd} {at_ n : Nat} {mem : List Int} (hn : 1 ≤ n) (hv : PValid cs) (h40 : cs.length + 1 ≤ 40) (h : at_ = 0 ∨ (at_ ≤ cs.length ∧ aroundAt cs at_ = -1)) :
    PValid (insC cs at_) ∧ (lockOf (insC cs at_) n mem).M = (lockOf cs n mem).M ∧ splitH (insC cs at_) n (lockOf (insC cs at_) n mem).H = splitH cs n (lockOf cs n mem).H ∧
    (∃ X L p, (lockOf cs n mem).A = X ++ L ∧ (lockOf (insC cs at_) n mem).A = X ++ L.map (acUp 1) ∧ (∀ x ∈ X, x.ph ≤ p) ∧ (∀ x ∈ L, p ≤ x.ph) ∧ (at_ = 0 → X = [])) := by
  obtain ⟨u, v, hu, hv', e, hl, hf1, hf2⟩ := parts_of hv h
  obtain ⟨h1, h2, h3⟩ := treeOf_spec hv
  obtain ⟨hp, ht⟩ := put_valid hv hu hv' e cbar_plain h40
  have hins : insC cs at_ = (u.app (.op cBar v)).flat := by rw [put_flat, hf1, hf2]; rfl
  have hcs : cs = u.flat ++ v.flat := by rw [← app_flat, ← e]; exact h1
  rw [hins]
  have hm := full_ne hn
  obtain ⟨S, hS⟩ : ∃ S, run n mem.length u 0 (2 ^ n - 1) (startLS mem) = S := ⟨_, rfl⟩
  have e1 : lockOf cs n mem = run n mem.length v u.len (2 ^ n - 1) S := by rw [lockOf_app e, hS]
  have e2 : lockOf (u.app (.op cBar v)).flat n mem = run n mem.length v (u.len + 1) (2 ^ n - 1) (exec cBar n mem.length u.len (2 ^ n - 1) S) := by
    rw [lockOf_app ht, hS]
    show (if (2 ^ n - 1 : Nat) = 0 then S else _ : LS) = _
    rw [if_neg hm]
  obtain ⟨b1, b2, b3, b4, b5⟩ := exec_bar n mem.length u.len (2 ^ n - 1) S
  have hside := Side.run (d := 1) (e := 1) n mem.length (mask := 2 ^ n - 1) (i := u.len) (j := u.len + 1) hv' rfl (Side.start (d := 1) (e := 1) (s := S) (s' := exec cBar n mem.length u.len (2 ^ n - 1) S) b1.symm b2.symm b4)
  -- the accesses behind the place, from a fresh begin
  have hfresh := AlikeA.run n mem.length 0 (mask := 2 ^ n - 1) (i := u.len) (j := u.len) (e := S.P) hv' rfl (AlikeA.start (e := S.P) (s := { S with A := [], P := 0 }) (s' := S) rfl rfl (by simp))
  obtain ⟨LA, a1, a2⟩ := hside.a.a
  obtain ⟨LF, f1, f2⟩ := hfresh.a
  rw [f2] at a1
  have hLA : LA = LF.map (acUp S.P) := (List.append_cancel_left a1).symm
  obtain ⟨LH, g1, g2⟩ := hside.h
  rw [b3] at a2
  have hXu : Seg (u.flat ++ v.flat) 0 u := ⟨v.flat, by simp⟩
  have hph : ∀ x ∈ S.A, x.ph ≤ S.P := by
    rw [← hS]; exact phase_le n mem.length hu hXu (full_lt n) (fun x hx => absurd hx (by simp [startLS]))
  refine ⟨hp, ?_, ?_, S.A, LA, S.P, ?_, ?_, hph, ?_, ?_⟩
  · rw [e1, e2]; exact hside.a.m.symm
  · rw [e1, e2, g1, g2, b5]
    have hUH : ∀ x ∈ S.H, x.1 < u.len := by
      intro x hx
      rw [← hS] at hx
      rcases runStepIn n mem.length u 0 (2 ^ n - 1) (startLS mem) x (full_lt n) hx with h | h
      · exact absurd h (by simp [startLS])
      · have := h.2.1; omega
    have hLH : ∀ x ∈ LH, u.len ≤ x.1 := by
      intro x hx
      have hx2 : x ∈ (run n mem.length v u.len (2 ^ n - 1) { S with H := [] }).H := by
        have hq := Side.run (d := 0) (e := 0) n mem.length (mask := 2 ^ n - 1) (i := u.len) (j := u.len) hv' rfl (Side.start (d := 0) (e := 0) (s := { S with H := [] }) (s' := S) rfl rfl (by simp))
        obtain ⟨L0, q1, q2⟩ := hq.h
        have q2' : (run n mem.length v u.len (2 ^ n - 1) S).H = S.H ++ L0 := by rw [q2]; congr 1; simp
        rw [g1] at q2'
        have := List.append_cancel_left q2'
        rw [q1, ← this]; simpa using hx
      rcases runStepIn n mem.length v u.len (2 ^ n - 1) _ x (full_lt n) hx2 with h | h
      · exact absurd h (by simp)
      · exact h.1
    unfold splitH
    rw [List.any_append, List.any_append, List.any_append, put_flat]
    have hb : (List.any [(u.len, 2 ^ n - 1, S.R)] fun x => decide (((u.flat ++ cBar :: v.flat).getD x.1 default).op = 10) && !decide (x.2.1 = 2 ^ n - 1)) = false := by simp
    rw [hb, Bool.or_false]
    congr 1
    · rw [Bool.eq_iff_iff, List.any_eq_true, List.any_eq_true]
      constructor
      · rintro ⟨x, hx, hq⟩
        refine ⟨x, hx, ?_⟩
        rw [getD_left (show x.1 < u.flat.length from hUH x hx)] at hq
        rw [hcs, getD_left (show x.1 < u.flat.length from hUH x hx)]; exact hq
      · rintro ⟨x, hx, hq⟩
        refine ⟨x, hx, ?_⟩
        rw [hcs, getD_left (show x.1 < u.flat.length from hUH x hx)] at hq
        rw [getD_left (show x.1 < u.flat.length from hUH x hx)]; exact hq
    · rw [List.any_map, Bool.eq_iff_iff, List.any_eq_true, List.any_eq_true]
      have hget : ∀ x ∈ LH, (u.flat ++ cBar :: v.flat).getD (x.1 + 1) default = cs.getD x.1 default := by
        intro x hx
        have h0 : u.flat.length ≤ x.1 := hLH x hx
        rw [hcs, getD_right (show u.flat.length ≤ x.1 + 1 by omega), getD_right h0, show x.1 + 1 - u.flat.length = (x.1 - u.flat.length) + 1 by omega]
        simp
      constructor
      · rintro ⟨x, hx, hq⟩
        refine ⟨x, hx, ?_⟩
        simp only [Function.comp] at hq
        rw [hget x hx] at hq; exact hq
      · rintro ⟨x, hx, hq⟩
        refine ⟨x, hx, ?_⟩
        simp only [Function.comp]
        rw [hget x hx]; exact hq
  · rw [e1, f2, hLA]
  · rw [e2, a2]
  · rw [hLA]
    intro x hx
    obtain ⟨y, _, rfl⟩ := List.mem_map.1 hx
    show S.P ≤ y.ph + S.P
    omega
  · intro h0
    have hu0 : u = .nil := Tr.len_zero (by omega)
    rw [← hS, hu0]; rfl

/-- What a run with an instruction more at the end does. -/
theorem snoc_lock {cs : List Cd} {c : Cd} {n : Nat} {mem : List Int} (hn : 1 ≤ n) (hv : PValid cs) (hc : Plain c) (h40 : cs.length + 1 ≤ 40) :
    PValid (cs ++ [c]) ∧ lockOf (cs ++ [c]) n mem = exec c n mem.length cs.length (2 ^ n - 1) (lockOf cs n mem) := by
  obtain ⟨h1, h2, h3⟩ := treeOf_spec hv
  have e : treeOf cs = (treeOf cs).app .nil := by
    have : ∀ t : Tr, t.app .nil = t := by
      intro t
      induction t with
      | nil => rfl
      | op c k ih => simp only [Tr.app, ih]
      | ite a t k _ ih => simp only [Tr.app, ih]
      | itee a t e k _ _ ih => simp only [Tr.app, ih]
      | loop a b t k _ ih => simp only [Tr.app, ih]
    rw [this]
  obtain ⟨hp, ht⟩ := put_valid hv h2 (v := .nil) trivial e hc h40
  have hf : ((treeOf cs).app (.op c .nil)).flat = cs ++ [c] := by rw [put_flat, ← h1]; rfl
  rw [hf] at hp ht
  refine ⟨hp, ?_⟩
  rw [lockOf_app ht]
  have hlen : (treeOf cs).len = cs.length := (congrArg List.length h1).symm
  show (if (2 ^ n - 1 : Nat) = 0 then _ else _ : LS) = _
  rw [if_neg (full_ne hn), hlen]
  rfl

end Go.Proofs.Ytajaonejpggcbaa
