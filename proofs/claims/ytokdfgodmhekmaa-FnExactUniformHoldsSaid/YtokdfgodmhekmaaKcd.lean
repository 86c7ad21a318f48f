/- The blocks whose register is uniform: the reference's and the program's. A program is the tree of one way of reading it alone; trees behind each other. No program in sight. Uniform registers: smaller beginnings lead to smaller sets; what the sets are at OpElse and OpEnd, at the beginning, and without OpLane. No program in sight. No condition. -/
import Derived.Test.YtokdfgodmhekmaaKah
import Derived.Test.YtokdfgodmhekmaaKcc

namespace Go.Proofs.Ytokdfgodmhekmaa
open Go.RowKit

theorem uni_mem_lt : ∀ (t : Tr) (u : Nat), t.Ok → u < 16 → ∀ x ∈ (uni t u).2, x < 16
  | .nil, _, _, _ => fun x hx => by simp [uni_nil] at hx
  | .op c k, u, h, hu => fun x hx => by
    rw [uni_op] at hx
    rcases List.mem_cons.1 hx with rfl | hx
    · exact hu
    · exact uni_mem_lt k _ h.2 (uCode_lt h.1.1 hu) x hx
  | .ite a t k, u, h, hu => fun x hx => by
    rw [uni_ite] at hx
    have hv : uIf a t u < 16 := by unfold uIf; split; exact and_lt16 hu; exact del_lt' hu
    rcases List.mem_cons.1 hx with rfl | hx
    · exact hu
    rcases List.mem_append.1 hx with hx | hx
    · exact uni_mem_lt t u h.2.1 hu x hx
    rcases List.mem_cons.1 hx with rfl | hx
    · decide
    · exact uni_mem_lt k _ h.2.2 hv x hx
  | .itee a t e k, u, h, hu => fun x hx => by
    rw [uni_itee] at hx
    have hv : uIfe a t e u < 16 := by unfold uIfe; split; exact and_lt16 (uni_lt t u h.2.1 hu); exact del_lt' hu
    rcases List.mem_cons.1 hx with rfl | hx
    · exact hu
    rcases List.mem_append.1 hx with hx | hx
    · exact uni_mem_lt t u h.2.1 hu x hx
    rcases List.mem_cons.1 hx with rfl | hx
    · decide
    rcases List.mem_append.1 hx with hx | hx
    · exact uni_mem_lt e u h.2.2.1 hu x hx
    rcases List.mem_cons.1 hx with rfl | hx
    · decide
    · exact uni_mem_lt k _ h.2.2.2 hv x hx
  | .loop a b t k, u, h, hu => fun x hx => by
    rw [uni_loop] at hx
    have hh : uHead t u < 16 := Nat.lt_of_le_of_lt (uHead_le t u) hu
    have hv : uLoop a t u < 16 := by unfold uLoop; split; exact hh; exact del_lt' hu
    rcases List.mem_cons.1 hx with rfl | hx
    · exact hu
    rcases List.mem_append.1 hx with hx | hx
    · exact uni_mem_lt t _ h.2.2.1 hh x hx
    rcases List.mem_cons.1 hx with rfl | hx
    · decide
    · exact uni_mem_lt k _ h.2.2.2 hv x hx
/-- The set at a place. -/
def usL (cs : List Cd) (t : Tr) (j : Nat) : Nat := lay cs (fun _ => 0) 0 (uni t 15).2 j
theorem usL_lt {cs : List Cd} {t : Tr} (h : t.Ok) (j : Nat) : usL cs t j < 16 := by
  unfold usL lay
  split
  · rename_i hj
    rw [Nat.sub_zero, List.getD_eq_getElem?_getD, List.getElem?_eq_getElem (by omega)]
    exact uni_mem_lt t 15 h (by omega) _ (List.getElem_mem _)
  · show 0 < 16
    decide
def isUB (cs : List Cd) (t : Tr) (k : Nat) : Bool := decide (Opens (cs.getD k default)) && (usL cs t k).testBit (cs.getD k default).a.toNat
def ubs (cs : List Cd) (t : Tr) : Nat → List Int
  | 0 => []
  | k + 1 => if isUB cs t k then ubs cs t k ++ [(k : Int)] else ubs cs t k
theorem ubs_len (cs : List Cd) (t : Tr) : ∀ n, (ubs cs t n).length ≤ n
  | 0 => Nat.le_refl _
  | n + 1 => by
    have := ubs_len cs t n
    show (if isUB cs t n then ubs cs t n ++ [(n : Int)] else ubs cs t n).length ≤ n + 1
    split
    · simp; omega
    · omega
def UbP (cs : List Cd) (xs : List Int) : Prop := (∀ hv : PValid cs, xs = ubs cs hv.tree.choose cs.length) ∧ (¬ PValid cs → xs = [])
theorem UbP.unique {cs : List Cd} {xs ys : List Int} (h : UbP cs xs) (k : UbP cs ys) : xs = ys := by
  by_cases hv : PValid cs
  · rw [h.1 hv, k.1 hv]
  · rw [h.2 hv, k.2 hv]
theorem us_sets {w : World} {B : Nat} {v : Value} {cs : List Cd} {t : Tr} {n : Nat} (hn : n = cs.length) (h : OwnO w B 3 1 v n ((usOf cs t).map (.int .i64))) : Cells w v n 1 (fun j => .int .i64 (usL cs t j : Nat)) := by
  refine Cells.of_ownO h fun j hj => ?_
  rw [us_val]
  have : j < cs.length := by omega
  simp [this, usL]

end Go.Proofs.Ytokdfgodmhekmaa

namespace Go.Proofs.Ytokdfgodmhekmaa

theorem eScan_end (r : List Cd) (k : Nat) (o : Int) : eScan (cEnd :: r) k 0 o = ((k : Int), o) := by
  rw [eScan_cons]; rfl
theorem eScan_else (r : List Cd) (k : Nat) (o : Int) : eScan (cElse :: r) k 0 o = eScan r (k + 1) 0 k := by
  rw [eScan_cons]; rfl
theorem scan_ite {t : Tr} (h : t.Ok) (r : List Cd) : eScan (t.flat ++ cEnd :: r) 0 0 (-1) = ((t.len : Int), -1) := by
  rw [eScan_flat t _ 0 0 _ h, eScan_end]; simp
theorem scan_itee {t e : Tr} (h : t.Ok) (he : e.Ok) (r : List Cd) : eScan (t.flat ++ cElse :: (e.flat ++ cEnd :: r)) 0 0 (-1) = (((t.len + 1 + e.len : Nat) : Int), (t.len : Int)) := by
  rw [eScan_flat t _ 0 0 _ h, eScan_else, eScan_flat e _ _ _ _ he, eScan_end]; simp
theorem plain_no_if {c : Cd} {a : Int} (h : Plain c) : c ≠ cIf a := fun e => h.2.1 (by rw [e]; rfl)
theorem plain_no_loop {c : Cd} {a b : Int} (h : Plain c) : c ≠ cLoop a b := fun e => h.2.2.2.1 (by rw [e]; rfl)
theorem if_no_loop {a a' b : Int} : cIf a ≠ cLoop a' b := fun e => by have := congrArg Cd.op e; simp [cIf, cLoop] at this
theorem if_inj {a a' : Int} (h : cIf a = cIf a') : a = a' := by have := congrArg Cd.a h; simpa [cIf] using this
theorem loop_inj {a a' b b' : Int} (h : cLoop a b = cLoop a' b') : a = a' ∧ b = b' := by
  have h1 := congrArg Cd.a h; have h2 := congrArg Cd.b h; exact ⟨by simpa [cLoop] using h1, by simpa [cLoop] using h2⟩
theorem split_ite {t t' : Tr} {r r' : List Cd} (h : t.Ok) (h' : t'.Ok) (e : t.flat ++ cEnd :: r = t'.flat ++ cEnd :: r') : t.flat = t'.flat ∧ r = r' := by
  have h1 := scan_ite h r
  rw [e, scan_ite h' r'] at h1
  simp at h1
  have h2 := List.append_inj e (by unfold Tr.len at h1; omega)
  exact ⟨h2.1, by simpa using h2.2⟩
theorem split_no {t t' e' : Tr} {r r' : List Cd} (h : t.Ok) (h' : t'.Ok) (he' : e'.Ok) (e : t.flat ++ cEnd :: r = t'.flat ++ cElse :: (e'.flat ++ cEnd :: r')) : False := by
  have h1 := scan_ite h r
  rw [e, scan_itee h' he' r'] at h1
  simp at h1
theorem split_itee {t t' e e' : Tr} {r r' : List Cd} (h : t.Ok) (h' : t'.Ok) (he : e.Ok) (he' : e'.Ok) (q : t.flat ++ cElse :: (e.flat ++ cEnd :: r) = t'.flat ++ cElse :: (e'.flat ++ cEnd :: r')) : t.flat = t'.flat ∧ e.flat = e'.flat ∧ r = r' := by
  have h1 := scan_itee h he r
  rw [q, scan_itee h' he' r'] at h1
  simp at h1
  have h2 := List.append_inj q (by have := h1.2; unfold Tr.len at this; omega)
  have h3 : e.flat ++ cEnd :: r = e'.flat ++ cEnd :: r' := by simpa using h2.2
  obtain ⟨h4, h5⟩ := split_ite he he' h3
  exact ⟨h2.1, h4, h5⟩
/-- Two trees of the same program are the same. -/
theorem flat_inj : ∀ (t t' : Tr), t.Ok → t'.Ok → t.flat = t'.flat → t = t'
  | .nil, t', _, _, h => by cases t' <;> simp [Tr.flat] at h; rfl
  | .op c k, t', ho, ho', h => by
    cases t' with
    | nil => simp [Tr.flat] at h
    | op c' k' =>
      simp only [Tr.flat, List.cons.injEq] at h
      rw [h.1, flat_inj k k' ho.2 ho'.2 h.2]
    | ite a t1 k' => simp only [Tr.flat, List.cons.injEq] at h; exact absurd h.1 (plain_no_if ho.1)
    | itee a t1 e1 k' => simp only [Tr.flat, List.cons.injEq] at h; exact absurd h.1 (plain_no_if ho.1)
    | loop a b t1 k' => simp only [Tr.flat, List.cons.injEq] at h; exact absurd h.1 (plain_no_loop ho.1)
  | .ite a t k, t', ho, ho', h => by
    cases t' with
    | nil => simp [Tr.flat] at h
    | op c' k' => simp only [Tr.flat, List.cons.injEq] at h; exact absurd h.1.symm (plain_no_if ho'.1)
    | ite a' t1 k' =>
      simp only [Tr.flat, List.cons.injEq] at h
      obtain ⟨h1, h2⟩ := split_ite ho.2.1 ho'.2.1 h.2
      rw [if_inj h.1, flat_inj t t1 ho.2.1 ho'.2.1 h1, flat_inj k k' ho.2.2 ho'.2.2 h2]
    | itee a' t1 e1 k' => simp only [Tr.flat, List.cons.injEq] at h; exact (split_no ho.2.1 ho'.2.1 ho'.2.2.1 h.2).elim
    | loop a' b t1 k' => simp only [Tr.flat, List.cons.injEq] at h; exact absurd h.1 if_no_loop
  | .itee a t e k, t', ho, ho', h => by
    cases t' with
    | nil => simp [Tr.flat] at h
    | op c' k' => simp only [Tr.flat, List.cons.injEq] at h; exact absurd h.1.symm (plain_no_if ho'.1)
    | ite a' t1 k' => simp only [Tr.flat, List.cons.injEq] at h; exact (split_no ho'.2.1 ho.2.1 ho.2.2.1 h.2.symm).elim
    | itee a' t1 e1 k' =>
      simp only [Tr.flat, List.cons.injEq] at h
      obtain ⟨h1, h2, h3⟩ := split_itee ho.2.1 ho'.2.1 ho.2.2.1 ho'.2.2.1 h.2
      rw [if_inj h.1, flat_inj t t1 ho.2.1 ho'.2.1 h1, flat_inj e e1 ho.2.2.1 ho'.2.2.1 h2, flat_inj k k' ho.2.2.2 ho'.2.2.2 h3]
    | loop a' b t1 k' => simp only [Tr.flat, List.cons.injEq] at h; exact absurd h.1 if_no_loop
  | .loop a b t k, t', ho, ho', h => by
    cases t' with
    | nil => simp [Tr.flat] at h
    | op c' k' => simp only [Tr.flat, List.cons.injEq] at h; exact absurd h.1.symm (plain_no_loop ho'.1)
    | ite a' t1 k' => simp only [Tr.flat, List.cons.injEq] at h; exact absurd h.1.symm if_no_loop
    | itee a' t1 e1 k' => simp only [Tr.flat, List.cons.injEq] at h; exact absurd h.1.symm if_no_loop
    | loop a' b' t1 k' =>
      simp only [Tr.flat, List.cons.injEq] at h
      obtain ⟨h1, h2⟩ := split_ite ho.2.2.1 ho'.2.2.1 h.2
      obtain ⟨ha, hb⟩ := loop_inj h.1
      rw [ha, hb, flat_inj t t1 ho.2.2.1 ho'.2.2.1 h1, flat_inj k k' ho.2.2.2 ho'.2.2.2 h2]

/-- Trees are valid programs, if they are short and not deep. -/
theorem sscan_flat : ∀ (t : Tr) (k : Nat) (st : List (Nat × Int)), t.Ok → t.depth + st.length ≤ 3 → sscan t.flat k st = some st
  | .nil, _, _, _, _ => rfl
  | .op c r, k, st, ho, hd => by
    have h1 : sstep st k c = some st := sstep_other (by have := ho.1; unfold Plain at this; unfold Opens; omega) ho.1.2.2.1 ho.1.2.2.2.2
    show (sstep st k c).bind _ = _
    rw [h1]
    exact sscan_flat r (k + 1) st ho.2 hd
  | .ite a t r, k, st, ho, hd => by
    have hd' : (t.depth + 1) + st.length ≤ 3 ∧ r.depth + st.length ≤ 3 := by
      have h1 := Nat.le_max_left (t.depth + 1) r.depth
      have h2 := Nat.le_max_right (t.depth + 1) r.depth
      have : (Tr.ite a t r).depth = max (t.depth + 1) r.depth := rfl
      omega
    have h1 : sstep st k (cIf a) = some ((k, 11) :: st) := by rw [sstep_open (opens_if a), if_pos (by omega)]; rfl
    show (sstep st k (cIf a)).bind _ = _
    rw [h1]
    show sscan (t.flat ++ cEnd :: r.flat) (k + 1) ((k, 11) :: st) = _
    rw [sscan_append, sscan_flat t _ _ ho.2.1 (by simp; omega)]
    show (sstep ((k, 11) :: st) (k + 1 + t.flat.length) cEnd).bind _ = _
    rw [sstep_end (c := cEnd) rfl]
    exact sscan_flat r _ st ho.2.2 hd'.2
  | .itee a t e r, k, st, ho, hd => by
    have hd' : (t.depth + 1) + st.length ≤ 3 ∧ (e.depth + 1) + st.length ≤ 3 ∧ r.depth + st.length ≤ 3 := by
      have h1 := Nat.le_max_left (max (t.depth + 1) (e.depth + 1)) r.depth
      have h2 := Nat.le_max_right (max (t.depth + 1) (e.depth + 1)) r.depth
      have h3 := Nat.le_max_left (t.depth + 1) (e.depth + 1)
      have h4 := Nat.le_max_right (t.depth + 1) (e.depth + 1)
      have : (Tr.itee a t e r).depth = max (max (t.depth + 1) (e.depth + 1)) r.depth := rfl
      omega
    have h1 : sstep st k (cIf a) = some ((k, 11) :: st) := by rw [sstep_open (opens_if a), if_pos (by omega)]; rfl
    show (sstep st k (cIf a)).bind _ = _
    rw [h1]
    show sscan (t.flat ++ cElse :: (e.flat ++ cEnd :: r.flat)) (k + 1) ((k, 11) :: st) = _
    rw [sscan_append, sscan_flat t _ _ ho.2.1 (by simp; omega)]
    show (sstep ((k, 11) :: st) (k + 1 + t.flat.length) cElse).bind _ = _
    rw [sstep_else (c := cElse) rfl]
    show sscan (e.flat ++ cEnd :: r.flat) _ ((k, 12) :: st) = _
    rw [sscan_append, sscan_flat e _ _ ho.2.2.1 (by simp; omega)]
    show (sstep ((k, 12) :: st) (k + 1 + t.flat.length + 1 + e.flat.length) cEnd).bind _ = _
    rw [sstep_end (c := cEnd) rfl]
    exact sscan_flat r _ st ho.2.2.2 hd'.2.2
  | .loop a b t r, k, st, ho, hd => by
    have hd' : (t.depth + 1) + st.length ≤ 3 ∧ r.depth + st.length ≤ 3 := by
      have h1 := Nat.le_max_left (t.depth + 1) r.depth
      have h2 := Nat.le_max_right (t.depth + 1) r.depth
      have : (Tr.loop a b t r).depth = max (t.depth + 1) r.depth := rfl
      omega
    have h1 : sstep st k (cLoop a b) = some ((k, 13) :: st) := by rw [sstep_open (opens_loop a b), if_pos (by omega)]; rfl
    show (sstep st k (cLoop a b)).bind _ = _
    rw [h1]
    show sscan (t.flat ++ cEnd :: r.flat) (k + 1) ((k, 13) :: st) = _
    rw [sscan_append, sscan_flat t _ _ ho.2.2.1 (by simp; omega)]
    show (sstep ((k, 13) :: st) (k + 1 + t.flat.length) cEnd).bind _ = _
    rw [sstep_end (c := cEnd) rfl]
    exact sscan_flat r _ st ho.2.2.2 hd'.2
theorem ok_codes : ∀ (t : Tr), t.Ok → ∀ c ∈ t.flat, CdOk c
  | .nil, _, c, h => by simp [Tr.flat] at h
  | .op d k, ho, c, h => by
    simp only [Tr.flat, List.mem_cons] at h
    rcases h with rfl | h
    · exact ho.1.1
    · exact ok_codes k ho.2 c h
  | .ite a t k, ho, c, h => by
    simp only [Tr.flat, List.mem_cons, List.mem_append] at h
    rcases h with rfl | h | rfl | h
    · exact .inr (.inl ⟨.inr rfl, ho.1, rfl, rfl⟩)
    · exact ok_codes t ho.2.1 c h
    · unfold CdOk cEnd; simp
    · exact ok_codes k ho.2.2 c h
  | .itee a t e k, ho, c, h => by
    simp only [Tr.flat, List.mem_cons, List.mem_append] at h
    rcases h with rfl | h | rfl | h | rfl | h
    · exact .inr (.inl ⟨.inr rfl, ho.1, rfl, rfl⟩)
    · exact ok_codes t ho.2.1 c h
    · unfold CdOk cElse; simp
    · exact ok_codes e ho.2.2.1 c h
    · unfold CdOk cEnd; simp
    · exact ok_codes k ho.2.2.2 c h
  | .loop a b t k, ho, c, h => by
    simp only [Tr.flat, List.mem_cons, List.mem_append] at h
    rcases h with rfl | h | rfl | h
    · exact .inr (.inr (.inr (.inr (.inl ⟨rfl, ho.1, ho.2.1, rfl⟩))))
    · exact ok_codes t ho.2.2.1 c h
    · unfold CdOk cEnd; simp
    · exact ok_codes k ho.2.2.2 c h
theorem valid_of_tree {t : Tr} (ho : t.Ok) (hd : t.depth ≤ 3) (hl : t.len ≤ 40) : PValid t.flat := ⟨ok_codes t ho, hl, sscan_flat t 0 [] ho (by simpa using hd)⟩
/-- The tree of a valid program is the one that is known. -/
theorem treeOf_eq {cs : List Cd} {t : Tr} (hv : PValid cs) (h : cs = t.flat) (ho : t.Ok) : treeOf cs = t := by
  obtain ⟨h1, h2, _⟩ := treeOf_spec hv
  exact flat_inj _ _ h2 ho (h1.symm.trans h)

/-- One tree behind another. -/
def Tr.app : Tr → Tr → Tr
  | .nil, u => u
  | .op c k, u => .op c (k.app u)
  | .ite a t k, u => .ite a t (k.app u)
  | .itee a t e k, u => .itee a t e (k.app u)
  | .loop a b t k, u => .loop a b t (k.app u)
theorem app_flat : ∀ (t u : Tr), (t.app u).flat = t.flat ++ u.flat
  | .nil, u => rfl
  | .op c k, u => by simp [Tr.app, Tr.flat, app_flat k u]
  | .ite a t k, u => by simp [Tr.app, Tr.flat, app_flat k u]
  | .itee a t e k, u => by simp [Tr.app, Tr.flat, app_flat k u]
  | .loop a b t k, u => by simp [Tr.app, Tr.flat, app_flat k u]
theorem app_ok : ∀ {t u : Tr}, t.Ok → u.Ok → (t.app u).Ok
  | .nil, _u, _, h => h
  | .op _c _k, _u, h, h' => ⟨h.1, app_ok h.2 h'⟩
  | .ite _a _t _k, _u, h, h' => ⟨h.1, h.2.1, app_ok h.2.2 h'⟩
  | .itee _a _t _e _k, _u, h, h' => ⟨h.1, h.2.1, h.2.2.1, app_ok h.2.2.2 h'⟩
  | .loop _a _b _t _k, _u, h, h' => ⟨h.1, h.2.1, h.2.2.1, app_ok h.2.2.2 h'⟩
theorem app_depth : ∀ {t u : Tr} {d : Nat}, t.depth ≤ d → u.depth ≤ d → (t.app u).depth ≤ d
  | .nil, _u, _d, _, h => h
  | .op _c k, _u, _d, h, h' => app_depth (t := k) h h'
  | .ite _a _t _k, _u, _d, h, h' => Nat.max_le.2 ⟨(Nat.max_le.1 h).1, app_depth (Nat.max_le.1 h).2 h'⟩
  | .itee _a _t _e _k, _u, _d, h, h' => Nat.max_le.2 ⟨(Nat.max_le.1 h).1, app_depth (Nat.max_le.1 h).2 h'⟩
  | .loop _a _b _t _k, _u, _d, h, h' => Nat.max_le.2 ⟨(Nat.max_le.1 h).1, app_depth (Nat.max_le.1 h).2 h'⟩
theorem run_app (n m : Nat) : ∀ (t u : Tr) (i mask : Nat) (s : LS), run n m (t.app u) i mask s = run n m u (i + t.len) mask (run n m t i mask s)
  | .nil, u, i, mask, s => rfl
  | .op c k, u, i, mask, s => by
    by_cases h0 : mask = 0
    · subst h0; rw [run_zero, run_zero, run_zero]
    · rw [Tr.len_op]
      show (if mask = 0 then s else run n m (k.app u) (i + 1) mask (exec c n m i mask s)) = run n m u (i + (k.len + 1)) mask (if mask = 0 then s else run n m k (i + 1) mask (exec c n m i mask s))
      rw [if_neg h0, if_neg h0, run_app n m k u, show i + 1 + k.len = i + (k.len + 1) by omega]
  | .ite a t k, u, i, mask, s => by
    by_cases h0 : mask = 0
    · subst h0; rw [run_zero, run_zero, run_zero]
    · rw [Tr.len_ite]
      show (if mask = 0 then s else run n m (k.app u) (i + 1 + t.len + 1) mask _) = run n m u _ mask (if mask = 0 then s else run n m k (i + 1 + t.len + 1) mask _)
      rw [if_neg h0, if_neg h0, run_app n m k u, show i + 1 + t.len + 1 + k.len = i + (1 + t.len + 1 + k.len) by omega]
  | .itee a t e k, u, i, mask, s => by
    by_cases h0 : mask = 0
    · subst h0; rw [run_zero, run_zero, run_zero]
    · rw [Tr.len_itee]
      show (if mask = 0 then s else run n m (k.app u) (i + 1 + t.len + 1 + e.len + 1) mask _) = run n m u _ mask (if mask = 0 then s else run n m k (i + 1 + t.len + 1 + e.len + 1) mask _)
      rw [if_neg h0, if_neg h0, run_app n m k u, show i + 1 + t.len + 1 + e.len + 1 + k.len = i + (1 + t.len + 1 + e.len + 1 + k.len) by omega]
  | .loop a b t k, u, i, mask, s => by
    by_cases h0 : mask = 0
    · subst h0; rw [run_zero, run_zero, run_zero]
    · rw [Tr.len_loop]
      show (if mask = 0 then s else run n m (k.app u) (i + 1 + t.len + 1) mask _) = run n m u _ mask (if mask = 0 then s else run n m k (i + 1 + t.len + 1) mask _)
      rw [if_neg h0, if_neg h0, run_app n m k u, show i + 1 + t.len + 1 + k.len = i + (1 + t.len + 1 + k.len) by omega]

end Go.Proofs.Ytokdfgodmhekmaa

namespace Go.Proofs.Ytokdfgodmhekmaa

theorem lay_out {cs : List Cd} {live : Nat → Nat} {i j : Nat} {xs : List Nat} (h : j < i ∨ i + xs.length ≤ j) : lay cs live i xs j = live j := by
  unfold lay
  rw [if_neg]
  rintro ⟨⟨_, _⟩, _⟩
  omega
/-- Any tree of the program tells the sets. -/
theorem UsP.tree {cs : List Cd} {xs : List Int} {t : Tr} (h : UsP cs xs) (hv : PValid cs) (e : cs = t.flat) (ho : t.Ok) : xs = usOf cs t := by
  obtain ⟨q1, q2, _⟩ := hv.tree.choose_spec
  rw [h.1 hv, flat_inj _ t q2 ho (q1.symm.trans e)]
theorem usOf_len (cs : List Cd) (t : Tr) : (usOf cs t).length = cs.length := by simp [usOf]

theorem and15 : ∀ a : Fin 16, a.val &&& 15 = a.val := by decide
theorem or15 : ∀ a : Fin 16, 15 ||| a.val = 15 := by decide
theorem full_code {c : Cd} (h : CdOk c) (h2 : c.op ≠ 2) : uCode c 15 = 15 := by
  unfold uCode
  rw [if_neg]
  · exact or15 ⟨wst c, wr_lt h⟩
  · rintro (q | q)
    · exact h2 q
    · exact q (and15 ⟨rd c, rd_lt h⟩)
theorem bit15 {a : Int} (h : Reg a) : (15 : Nat).testBit a.toNat = true := by
  have h' : 0 ≤ a ∧ a ≤ 3 := h
  have : a = 0 ∨ a = 1 ∨ a = 2 ∨ a = 3 := by omega
  rcases this with rfl | rfl | rfl | rfl <;> rfl
theorem full_uni {cs : List Cd} (hl : ∀ j, (cs.getD j default).op ≠ 2) : ∀ (t : Tr) (i : Nat) (live : Nat → Nat), t.Ok → Seg cs i t →
    (uni t 15).1 = 15 ∧ ∀ j, i ≤ j → j < i + t.len → (cs.getD j default).op ≠ 12 → (cs.getD j default).op ≠ 14 → lay cs live i (uni t 15).2 j = 15
  | .nil, i, live, _, _ => ⟨rfl, fun j h1 h2 => by simp [Tr.len, Tr.flat] at h2; omega⟩
  | .op c k, i, live, ho, hs => by
    obtain ⟨h1, _, h3⟩ := hs.op
    have hc : uCode c 15 = 15 := full_code ho.1.1 (by rw [← h1]; exact hl i)
    obtain ⟨q1, q2⟩ := full_uni hl k (i + 1) (updL live i 15) ho.2 h3
    rw [uni_op, hc]
    refine ⟨q1, fun j h4 h5 h6 h7 => ?_⟩
    rw [Tr.len_op] at h5
    show lay cs live i (15 :: (uni k 15).2) j = 15
    rw [lay_cons (by rw [h1]; exact ho.1.2.2.1) (by rw [h1]; exact ho.1.2.2.2.2)]
    by_cases e : j = i
    · rw [lay_out (.inl (by omega)), e]; exact if_pos rfl
    · exact q2 j (by omega) (by omega) h6 h7
  | .ite a t k, i, live, ho, hs => by
    obtain ⟨h1, h2, h3, _, h5⟩ := hs.ite
    obtain ⟨p1, _⟩ := full_uni hl t (i + 1) (updL live i 15) ho.2.1 h2
    have hv : uIf a t 15 = 15 := by unfold uIf; rw [if_pos (bit15 ho.1), p1]; rfl
    obtain ⟨q1, _⟩ := full_uni hl k (i + 1 + t.len + 1) (updL live i 15) ho.2.2 h5
    rw [uni_ite, hv]
    refine ⟨q1, fun j h4 h6 h7 h8 => ?_⟩
    rw [Tr.len_ite] at h6
    show lay cs live i (15 :: ((uni t 15).2 ++ 0 :: (uni k 15).2)) j = 15
    rw [lay_if hs (uni_len t 15)]
    have e14 : (cs.getD (i + 1 + t.len) default).op = 14 := by rw [h3]; rfl
    by_cases e : i + 1 + t.len + 1 ≤ j
    · exact (full_uni hl k _ _ ho.2.2 h5).2 j e (by omega) h7 h8
    rw [lay_out (.inl (by omega))]
    by_cases e2 : i + 1 ≤ j
    · have : j ≠ i + 1 + t.len := fun q => h8 (by rw [q]; exact e14)
      exact (full_uni hl t (i + 1) _ ho.2.1 h2).2 j e2 (by omega) h7 h8
    · rw [lay_out (.inl (by omega))]
      exact if_pos (by omega)
  | .itee a t e k, i, live, ho, hs => by
    obtain ⟨h1, h2, h3, h4, h5, _, h7⟩ := hs.itee
    obtain ⟨p1, _⟩ := full_uni hl t (i + 1) (updL live i 15) ho.2.1 h2
    obtain ⟨p2, _⟩ := full_uni hl e (i + 1 + t.len + 1) (updL live i 15) ho.2.2.1 h4
    have hv : uIfe a t e 15 = 15 := by unfold uIfe; rw [if_pos (bit15 ho.1), p1, p2]; rfl
    obtain ⟨q1, _⟩ := full_uni hl k (i + 1 + t.len + 1 + e.len + 1) (updL live i 15) ho.2.2.2 h7
    rw [uni_itee, hv]
    refine ⟨q1, fun j g4 g6 g7 g8 => ?_⟩
    rw [Tr.len_itee] at g6
    show lay cs live i (15 :: ((uni t 15).2 ++ 0 :: ((uni e 15).2 ++ 0 :: (uni k 15).2))) j = 15
    rw [lay_ife hs (uni_len t 15) (uni_len e 15)]
    have e12 : (cs.getD (i + 1 + t.len) default).op = 12 := by rw [h3]; rfl
    have e14 : (cs.getD (i + 1 + t.len + 1 + e.len) default).op = 14 := by rw [h5]; rfl
    by_cases e1 : i + 1 + t.len + 1 + e.len + 1 ≤ j
    · exact (full_uni hl k _ _ ho.2.2.2 h7).2 j e1 (by omega) g7 g8
    rw [lay_out (.inl (by omega))]
    have n14 : j ≠ i + 1 + t.len + 1 + e.len := fun q => g8 (by rw [q]; exact e14)
    by_cases e2 : i + 1 + t.len + 1 ≤ j
    · exact (full_uni hl e _ _ ho.2.2.1 h4).2 j e2 (by omega) g7 g8
    rw [lay_out (.inl (by omega))]
    have n12 : j ≠ i + 1 + t.len := fun q => g7 (by rw [q]; exact e12)
    by_cases e3 : i + 1 ≤ j
    · exact (full_uni hl t (i + 1) _ ho.2.1 h2).2 j e3 (by omega) g7 g8
    · rw [lay_out (.inl (by omega))]
      exact if_pos (by omega)
  | .loop a b t k, i, live, ho, hs => by
    obtain ⟨h1, h2, h3, _, h5⟩ := hs.loop
    obtain ⟨p1, _⟩ := full_uni hl t (i + 1) (updL live i 15) ho.2.2.1 h2
    have hh : uHead t 15 = 15 := uHead_stop (by unfold uTurn; rw [p1]; rfl)
    have hv : uLoop a t 15 = 15 := by unfold uLoop; rw [hh, if_pos (bit15 ho.1)]
    obtain ⟨q1, _⟩ := full_uni hl k (i + 1 + t.len + 1) (updL live i 15) ho.2.2.2 h5
    rw [uni_loop, hv, hh]
    refine ⟨q1, fun j h4 h6 h7 h8 => ?_⟩
    rw [Tr.len_loop] at h6
    show lay cs live i (15 :: ((uni t 15).2 ++ 0 :: (uni k 15).2)) j = 15
    rw [lay_loop hs (uni_len t 15)]
    have e14 : (cs.getD (i + 1 + t.len) default).op = 14 := by rw [h3]; rfl
    by_cases e : i + 1 + t.len + 1 ≤ j
    · exact (full_uni hl k _ _ ho.2.2.2 h5).2 j e (by omega) h7 h8
    rw [lay_out (.inl (by omega))]
    by_cases e2 : i + 1 ≤ j
    · have : j ≠ i + 1 + t.len := fun q => h8 (by rw [q]; exact e14)
      exact (full_uni hl t (i + 1) _ ho.2.2.1 h2).2 j e2 (by omega) h7 h8
    · rw [lay_out (.inl (by omega))]
      exact if_pos (by omega)
/-- Without OpLane every set is whole; OpElse and OpEnd have none. -/
theorem usL_full {cs : List Cd} {t : Tr} (e : cs = t.flat) (ho : t.Ok) (hl : ∀ c ∈ cs, c.op ≠ 2) {j : Nat} (hj : j < cs.length) (h1 : (cs.getD j default).op ≠ 12) (h2 : (cs.getD j default).op ≠ 14) : usL cs t j = 15 := by
  refine (full_uni ?_ t 0 _ ho (Seg.whole e)).2 j (Nat.zero_le _) ?_ h1 h2
  · intro k
    by_cases hk : k < cs.length
    · have : cs.getD k default = cs[k] := by simp [List.getD_eq_getElem?_getD, hk]
      rw [this]
      exact hl _ (List.getElem_mem hk)
    · have : cs.getD k default = default := by simp [List.getD_eq_getElem?_getD, List.getElem?_eq_none (by omega : cs.length ≤ k)]
      rw [this]
      decide
  · rw [Nat.zero_add]
    have : t.len = cs.length := by rw [e]; rfl
    omega
theorem usL_none {cs : List Cd} {t : Tr} {j : Nat} (h : (cs.getD j default).op = 12 ∨ (cs.getD j default).op = 14) : usL cs t j = 0 := by
  unfold usL lay
  rw [if_neg]
  rintro ⟨_, h1, h2⟩
  rcases h with h | h
  · exact h1 h
  · exact h2 h

/-- What a tree does not write stays. -/
theorem iter_keep {f : Nat → Nat} {i : Nat} (hf : ∀ h, h.testBit i = true → (f h).testBit i = true) : ∀ n h, h.testBit i = true → (iter f n h).testBit i = true
  | 0, _, h => h
  | n + 1, u, h => iter_keep hf n (f u) (hf u h)
theorem uni_keep : ∀ (t : Tr) (u i : Nat), u.testBit i = true → (writ t).testBit i = false → (uni t u).1.testBit i = true
  | .nil, _, _, h, _ => h
  | .op c k, u, i, h, hw => by
    have hw' : (wst c ||| writ k).testBit i = false := hw
    rw [Nat.testBit_or, Bool.or_eq_false_iff] at hw'
    rw [uni_op]
    refine uni_keep k _ i ?_ hw'.2
    unfold uCode
    split
    · rw [del_bit, h, hw'.1]; rfl
    · rw [Nat.testBit_or, h]; rfl
  | .ite a t k, u, i, h, hw => by
    have hw' : (writ t ||| writ k).testBit i = false := hw
    rw [Nat.testBit_or, Bool.or_eq_false_iff] at hw'
    rw [uni_ite]
    refine uni_keep k _ i ?_ hw'.2
    unfold uIf
    split
    · rw [Nat.testBit_and, h, uni_keep t u i h hw'.1]; rfl
    · rw [del_bit, h, hw'.1]; rfl
  | .itee a t e k, u, i, h, hw => by
    have hw' : ((writ t ||| writ e) ||| writ k).testBit i = false := hw
    rw [Nat.testBit_or, Bool.or_eq_false_iff] at hw'
    have hw1 := hw'.1
    rw [Nat.testBit_or, Bool.or_eq_false_iff] at hw1
    rw [uni_itee]
    refine uni_keep k _ i ?_ hw'.2
    unfold uIfe
    split
    · rw [Nat.testBit_and, uni_keep t u i h hw1.1, uni_keep e u i h hw1.2]; rfl
    · rw [del_bit, h, hw'.1]; rfl
  | .loop a b t k, u, i, h, hw => by
    have hw' : (writ t ||| writ k).testBit i = false := hw
    rw [Nat.testBit_or, Bool.or_eq_false_iff] at hw'
    rw [uni_loop]
    refine uni_keep k _ i ?_ hw'.2
    have hh : (uHead t u).testBit i = true := iter_keep (fun x hx => by
      unfold uTurn
      rw [Nat.testBit_and, hx, uni_keep t x i hx hw'.1]; rfl) 16 u h
    unfold uLoop
    split
    · exact hh
    · rw [del_bit, h, hw'.1]; rfl
theorem head_keep {t : Tr} {u i : Nat} (h : u.testBit i = true) (hw : (writ t).testBit i = false) : (uHead t u).testBit i = true :=
  iter_keep (fun x hx => by
    unfold uTurn
    rw [Nat.testBit_and, hx, uni_keep t x i hx hw]; rfl) 16 u h

/-- Smaller sets before lead to smaller sets. -/
def SubL : List Nat → List Nat → Prop
  | [], [] => True
  | a :: r, b :: q => Sub a b ∧ SubL r q
  | _, _ => False
theorem SubL.app : ∀ {a b c d : List Nat}, SubL a b → SubL c d → SubL (a ++ c) (b ++ d)
  | [], [], _, _, _, h => h
  | _ :: _, _ :: _, _, _, h, k => ⟨h.1, SubL.app h.2 k⟩
  | [], _ :: _, _, _, h, _ => h.elim
  | _ :: _, [], _, _, h, _ => h.elim
theorem SubL.at_ : ∀ {a b : List Nat}, SubL a b → ∀ j, Sub (a.getD j 0) (b.getD j 0)
  | [], [], _, _ => Sub.refl _
  | _ :: _, _ :: _, h, 0 => h.1
  | _ :: r, _ :: q, h, j + 1 => SubL.at_ (a := r) (b := q) h.2 j
  | [], _ :: _, h, _ => h.elim
  | _ :: _, [], h, _ => h.elim
theorem Sub.del {a b w : Nat} (h : Sub a b) : Sub (del a w) (del b w) := fun i hi => by
  rw [del_bit] at hi ⊢
  simp only [Bool.and_eq_true] at hi
  rw [h i hi.1, hi.2]; rfl
theorem Sub.and {a b c d : Nat} (h : Sub a b) (k : Sub c d) : Sub (a &&& c) (b &&& d) := fun i hi => by
  rw [Nat.testBit_and, Bool.and_eq_true] at hi
  rw [Nat.testBit_and, h i hi.1, k i hi.2]; rfl
theorem Sub.and_eq {a b : Nat} (h : Sub a b) : a &&& b = a := by
  apply Nat.eq_of_testBit_eq
  intro i
  rw [Nat.testBit_and]
  cases ha : a.testBit i
  · rfl
  · rw [h i ha]; rfl
theorem Sub.of_and {a b : Nat} (h : a &&& b = a) : Sub a b := fun i hi => by
  rw [← h, Nat.testBit_and, Bool.and_eq_true] at hi
  exact hi.2
theorem uCode_mono {c : Cd} {u v : Nat} (h : Sub u v) : Sub (uCode c u) (uCode c v) := by
  by_cases hc : c.op = 2
  · rw [uCode, if_pos (.inl hc), uCode, if_pos (.inl hc)]; exact h.del
  by_cases hu : rd c &&& u = rd c
  · have hv : rd c &&& v = rd c := ((Sub.of_and hu).trans h).and_eq
    rw [uCode, if_neg (by rintro (q | q); exact hc q; exact q hu), uCode, if_neg (by rintro (q | q); exact hc q; exact q hv)]
    intro i hi
    rw [Nat.testBit_or, Bool.or_eq_true] at hi ⊢
    rcases hi with hi | hi
    · exact .inl (h i hi)
    · exact .inr hi
  · rw [uCode, if_pos (.inr hu)]
    by_cases hv : rd c &&& v = rd c
    · rw [uCode, if_neg (by rintro (q | q); exact hc q; exact q hv)]
      intro i hi
      rw [del_bit, Bool.and_eq_true] at hi
      rw [Nat.testBit_or, h i hi.1]; rfl
    · rw [uCode, if_pos (.inr hv)]; exact h.del
theorem iter_mono {f : Nat → Nat} (hf : ∀ u v, Sub u v → Sub (f u) (f v)) : ∀ n u v, Sub u v → Sub (iter f n u) (iter f n v)
  | 0, _, _, h => h
  | n + 1, u, v, h => iter_mono hf n (f u) (f v) (hf u v h)
theorem uni_mono : ∀ (t : Tr) (u v : Nat), Sub u v → Sub (uni t u).1 (uni t v).1 ∧ SubL (uni t u).2 (uni t v).2
  | .nil, _, _, h => ⟨h, trivial⟩
  | .op c k, u, v, h => by
    obtain ⟨q1, q2⟩ := uni_mono k _ _ (uCode_mono (c := c) h)
    rw [uni_op, uni_op]
    exact ⟨q1, h, q2⟩
  | .ite a t k, u, v, h => by
    obtain ⟨p1, p2⟩ := uni_mono t u v h
    have hm : Sub (uIf a t u) (uIf a t v) := by
      unfold uIf
      cases hu : u.testBit a.toNat
      · rw [if_neg (by simp)]
        cases hv : v.testBit a.toNat
        · rw [if_neg (by simp)]; exact h.del
        · rw [if_pos rfl]
          intro i hi
          rw [del_bit, Bool.and_eq_true, Bool.not_eq_true'] at hi
          rw [Nat.testBit_and, h i hi.1, uni_keep t v i (h i hi.1) hi.2]; rfl
      · rw [if_pos rfl, h _ hu, if_pos rfl]; exact h.and p1
    obtain ⟨q1, q2⟩ := uni_mono k _ _ hm
    rw [uni_ite, uni_ite]
    exact ⟨q1, h, p2.app ⟨Sub.refl _, q2⟩⟩
  | .itee a t e k, u, v, h => by
    obtain ⟨p1, p2⟩ := uni_mono t u v h
    obtain ⟨r1, r2⟩ := uni_mono e u v h
    have hm : Sub (uIfe a t e u) (uIfe a t e v) := by
      unfold uIfe
      cases hu : u.testBit a.toNat
      · rw [if_neg (by simp)]
        cases hv : v.testBit a.toNat
        · rw [if_neg (by simp)]; exact h.del
        · rw [if_pos rfl]
          intro i hi
          rw [del_bit, Bool.and_eq_true, Bool.not_eq_true', Nat.testBit_or, Bool.or_eq_false_iff] at hi
          rw [Nat.testBit_and, uni_keep t v i (h i hi.1) hi.2.1, uni_keep e v i (h i hi.1) hi.2.2]; rfl
      · rw [if_pos rfl, h _ hu, if_pos rfl]; exact p1.and r1
    obtain ⟨q1, q2⟩ := uni_mono k _ _ hm
    rw [uni_itee, uni_itee]
    exact ⟨q1, h, p2.app ⟨Sub.refl _, r2.app ⟨Sub.refl _, q2⟩⟩⟩
  | .loop a b t k, u, v, h => by
    have hh : Sub (uHead t u) (uHead t v) := iter_mono (fun x y hxy => by unfold uTurn; exact hxy.and (uni_mono t x y hxy).1) 16 u v h
    obtain ⟨_, p2⟩ := uni_mono t _ _ hh
    have hm : Sub (uLoop a t u) (uLoop a t v) := by
      unfold uLoop
      cases hu : (uHead t u).testBit a.toNat
      · rw [if_neg (by simp)]
        cases hv : (uHead t v).testBit a.toNat
        · rw [if_neg (by simp)]; exact h.del
        · rw [if_pos rfl]
          intro i hi
          rw [del_bit, Bool.and_eq_true, Bool.not_eq_true'] at hi
          exact head_keep (h i hi.1) hi.2
      · rw [if_pos rfl, hh _ hu, if_pos rfl]; exact hh
    obtain ⟨q1, q2⟩ := uni_mono k _ _ hm
    rw [uni_loop, uni_loop]
    exact ⟨q1, h, p2.app ⟨Sub.refl _, q2⟩⟩
theorem code_sub {c : Cd} (h : CdOk c) : Sub (uCode c 15) 15 := fun i hi => by
  have hlt := uCode_lt h (show 15 < 16 by omega)
  have hi4 : i < 4 := by
    refine Nat.lt_of_not_le fun h4 => ?_
    have : 2 ^ i ≤ uCode c 15 := Nat.ge_two_pow_of_testBit hi
    have h16 : 2 ^ 4 ≤ 2 ^ i := Nat.pow_le_pow_right (by omega) h4
    omega
  have : i = 0 ∨ i = 1 ∨ i = 2 ∨ i = 3 := by omega
  rcases this with rfl | rfl | rfl | rfl <;> rfl
/-- With an instruction at the beginning no set is larger. -/
theorem less_sub {cs : List Cd} {t : Tr} {c : Cd} (hc : CdOk c) (k : Nat) : usL (c :: cs) (.op c t) (k + 1) &&& usL cs t k = usL (c :: cs) (.op c t) (k + 1) := by
  refine Sub.and_eq ?_
  have hm := (uni_mono t _ _ (code_sub hc)).2
  have hat := hm.at_ k
  unfold usL
  rw [uni_op]
  unfold lay
  have hg : (c :: cs).getD (k + 1) default = cs.getD k default := by simp [List.getD_eq_getElem?_getD]
  rw [hg]
  have l1 : (uni t (uCode c 15)).2.length = t.len := uni_len t _
  have l2 : (uni t 15).2.length = t.len := uni_len t _
  by_cases h : (0 ≤ k ∧ k < 0 + (uni t 15).2.length) ∧ (cs.getD k default).op ≠ 12 ∧ (cs.getD k default).op ≠ 14
  · rw [if_pos h, if_pos ⟨⟨Nat.zero_le _, by simp; omega⟩, h.2⟩]
    exact hat
  · rw [if_neg h, if_neg (by rintro ⟨⟨_, q⟩, q2⟩; simp at q; exact h ⟨⟨Nat.zero_le _, by omega⟩, q2⟩)]
    exact Sub.refl _

/-- The program with three instructions before it. -/
def ulC (r : Int) (cs : List Cd) : List Cd := ⟨2, r, 0, 0⟩ :: ⟨1, r, 7, 0⟩ :: ⟨10, 0, 0, 0⟩ :: cs
def ulT (r : Int) (t : Tr) : Tr := .op ⟨2, r, 0, 0⟩ (.op ⟨1, r, 7, 0⟩ (.op ⟨10, 0, 0, 0⟩ t))
theorem ul_ok {r : Int} {t : Tr} (hr : Reg r) (h : t.Ok) : (ulT r t).Ok := by
  have hr' : 0 ≤ r ∧ r ≤ 3 := hr
  refine ⟨?_, ?_, ?_, h⟩ <;> simp [Plain, CdOk, Reg, Word] <;> omega
theorem ul_flat {r : Int} {t : Tr} {cs : List Cd} (h : cs = t.flat) : ulC r cs = (ulT r t).flat := by
  unfold ulC ulT
  rw [h]; rfl
theorem ul_valid {r : Int} {cs : List Cd} (hr : Reg r) (hv : PValid cs) (hl : cs.length + 3 ≤ 40) : PValid (ulC r cs) := by
  obtain ⟨h1, h2, h3⟩ := treeOf_spec hv
  rw [ul_flat h1]
  refine valid_of_tree (ul_ok hr h2) h3 ?_
  show (ulT r (treeOf cs)).flat.length ≤ 40
  rw [← ul_flat h1]
  simp [ulC]; omega
theorem ul_sets {r : Int} {cs : List Cd} {t : Tr} (hr : Reg r) : usL (ulC r cs) (ulT r t) 0 = 15 ∧ usL (ulC r cs) (ulT r t) 1 = 15 - 2 ^ r.toNat ∧ usL (ulC r cs) (ulT r t) 2 = 15 := by
  have hr' : 0 ≤ r ∧ r ≤ 3 := hr
  have h4 : r = 0 ∨ r = 1 ∨ r = 2 ∨ r = 3 := by omega
  unfold usL ulT
  rw [uni_op, uni_op, uni_op]
  have e0 : (ulC r cs).getD 0 default = ⟨2, r, 0, 0⟩ := rfl
  have e1 : (ulC r cs).getD 1 default = ⟨1, r, 7, 0⟩ := rfl
  have e2 : (ulC r cs).getD 2 default = ⟨10, 0, 0, 0⟩ := rfl
  refine ⟨?_, ?_, ?_⟩
  · unfold lay
    rw [e0, if_pos ⟨⟨Nat.le_refl _, by simp⟩, by simp, by simp⟩]
    rfl
  · unfold lay
    rw [e1, if_pos ⟨⟨by omega, by simp⟩, by simp, by simp⟩]
    rcases h4 with rfl | rfl | rfl | rfl <;> rfl
  · unfold lay
    rw [e2, if_pos ⟨⟨by omega, by simp⟩, by simp, by simp⟩]
    rcases h4 with rfl | rfl | rfl | rfl <;> rfl

end Go.Proofs.Ytokdfgodmhekmaa
