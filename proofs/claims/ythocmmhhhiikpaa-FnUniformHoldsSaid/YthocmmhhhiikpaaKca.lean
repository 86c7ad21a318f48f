/- How many instructions of a program have an operation. A program is the tree of one way of reading it alone; trees behind each other. No program in sight. append of all that a slice holds (it may be nil) to a slice of the call's own; two equal rows of numbers, compared. No condition. -/
import Derived.Test.YthocmmhhhiikpaaKac
import Derived.Test.YthocmmhhhiikpaaKag
import Derived.Test.YthocmmhhhiikpaaKaj

namespace Go.Proofs.Ythocmmhhhiikpaa
open Go.RowKit

def countTo (cs : List Cd) (op : Int) : Nat → Nat
  | 0 => 0
  | k + 1 => if (cs.getD k default).op = op then countTo cs op k + 1 else countTo cs op k
theorem countTo_le (cs : List Cd) (op : Int) : ∀ k, countTo cs op k ≤ k
  | 0 => Nat.le_refl _
  | k + 1 => by have := countTo_le cs op k; unfold countTo; split <;> omega
theorem countTo_none {cs : List Cd} {op : Int} : ∀ k, k ≤ cs.length → countTo cs op k = 0 → ∀ j, j < k → (cs.getD j default).op ≠ op
  | 0, _, _, j, h => absurd h (by omega)
  | k + 1, hk, h, j, hj => by
    unfold countTo at h
    split at h
    · omega
    · rename_i hne
      by_cases e : j = k
      · subst e; exact hne
      · exact countTo_none k (by omega) h j (by omega)
theorem count_none {cs : List Cd} {op : Int} (h : countTo cs op cs.length = 0) : ∀ c ∈ cs, c.op ≠ op := by
  intro c hc
  obtain ⟨j, hj, rfl⟩ := List.getElem_of_mem hc
  have := countTo_none cs.length (Nat.le_refl _) h j hj
  simpa [List.getD_eq_getElem?_getD, hj] using this

set_option maxHeartbeats 1000000 in
theorem icount_any (v : Value) (cs : List Cd) (op : Int) (w : World) (h : Codes w v cs) (hv : PValid cs) :
    Calls Try.prog 25 #[v, .int .i64 op] w fun e w' => e = .returned (.int .i64 (countTo cs op cs.length : Nat)) ∧ Pure w w' := by
  have H := Lib.hid h
  have HV := Lib.hid hv
  have h40 := hv.2.1
  obtain ⟨A, c, rfl, hnc, hcm⟩ := h.form
  clear h hv
  go_enter Try.func25, Try.ntmps25
  go_wp2_with fail
  refine (ipv_any _ cs _ H.out (by omega) true (by simp only [true_iff]; exact HV.out)).mono ?_
  rintro e w1 ⟨rfl, hp1⟩
  have HP1 := Lib.hid hp1
  clear hp1
  go_wp2
  go_loopg [5, 7, 13] cs.length (fun gk q _ i wr => ∃ k : Nat, gk + k = cs.length ∧ i = .int .i64 k ∧ q = .int .i64 (countTo cs op k : Nat) ∧ Pure w1 wr)
  case atStart => exact ⟨0, rfl, rfl, rfl, Pure.refl _⟩
  case round =>
    obtain ⟨k, hgk, rfl, rfl, hp⟩ := hrel
    have Hgk := Lib.hid hgk
    have hkn : k ≤ cs.length := by omega
    clear hgk
    have hle := countTo_le cs op k
    have hnext : countTo cs op (k + 1) = if (cs.getD k default).op = op then countTo cs op k + 1 else countTo cs op k := rfl
    obtain ⟨q, Hq⟩ : ∃ q, Hid (countTo cs op k = q) := ⟨_, Lib.hid rfl⟩
    rw [Hq.out] at hle hnext ⊢
    by_cases hlt : k < cs.length
    · obtain ⟨b, o, rfl, hb, hc⟩ := H.out.at_ hlt
      obtain ⟨cd, Hcd⟩ : ∃ cd, Hid (cs.getD k default = cd) := ⟨_, Lib.hid rfl⟩
      have hat := hc.keep (HP1.out.trans hp) hb
      rw [Hcd.out] at hat hnext
      obtain ⟨r0, r1, r2, r3⟩ := hat
      clear hc
      by_cases he : cd.op = op
      · have heb : (cd.op == op) = true := by simp [he]
        have Hnext : Hid (countTo cs op (k + 1) = q + 1) := Lib.hid (by rw [hnext, if_pos he])
        clear hnext he
        go_wp2
        go_roundg (cs.length - (k + 1))
        case measure => have := Hgk.out; omega
        case rel => exact ⟨k + 1, by have := Hgk.out; omega, by go_num, by rw [Hnext.out]; go_num, by exact (by repeat (first | assumption | exact Pure.refl _ | refine Pure.drewN ?_ _ | refine Pure.drew ?_ | refine Pure.alloc ?_ _ | refine Pure.setCell ?_ (by simp <;> omega) _))⟩
      · have heb : (cd.op == op) = false := by simp [he]
        have Hnext : Hid (countTo cs op (k + 1) = q) := Lib.hid (by rw [hnext, if_neg he])
        clear hnext he
        go_wp2
        go_roundg (cs.length - (k + 1))
        case measure => have := Hgk.out; omega
        case rel => exact ⟨k + 1, by have := Hgk.out; omega, by go_num, by rw [Hnext.out], by exact (by repeat (first | assumption | exact Pure.refl _ | refine Pure.drewN ?_ _ | refine Pure.drew ?_ | refine Pure.alloc ?_ _ | refine Pure.setCell ?_ (by simp <;> omega) _))⟩
    · have hkl : k = cs.length := by omega
      subst hkl
      have hpf := HP1.out.trans hp
      go_wp2
      go_ret
      exact ⟨by rw [Hq.out] <;> rfl, by exact (by repeat (first | assumption | exact Pure.refl _ | refine Pure.drewN ?_ _ | refine Pure.drew ?_ | refine Pure.alloc ?_ _ | refine Pure.setCell ?_ (by simp <;> omega) _))⟩

end Go.Proofs.Ythocmmhhhiikpaa

namespace Go.Proofs.Ythocmmhhhiikpaa

theorem eScan_end (r : List Cd) (k : Nat) (o : Int) : eScan (cEnd :: r) k 0 o = ((k : Int), o) := by
  rw [eScan_cons]; rfl
theorem eScan_else (r : List Cd) (k : Nat) (o : Int) : eScan (cElse :: r) k 0 o = eScan r (k + 1) 0 k := by
  rw [eScan_cons]; rfl
theorem scan_ite {t : Tr} (h : t.Ok) (r : List Cd) : eScan (t.flat ++ cEnd :: r) 0 0 (-1) = ((t.len : Int), -1) := by
  rw [eScan_flat t _ 0 0 _ h, eScan_end]; simp
theorem scan_itee {t e : Tr} (h : t.Ok) (he : e.Ok) (r : List Cd) : eScan (t.flat ++ cElse :: (e.flat ++ cEnd :: r)) 0 0 (-1) = (((t.len + 1 + e.len : Nat) : Int), (t.len : Int)) := by
  rw [eScan_flat t _ 0 0 _ h, eScan_else, eScan_flat e _ _ _ _ he, eScan_end]; simp
theorem plain_no_if {c : Cd} {a : Int} (h : Plain c) : c ≠ cIf a := fun e => h.2.1 (by rw [e]; rfl)
theorem plain_no_loop {c : Cd} {a b : Int} (h : Plain c) : c ≠ cLoop a b := fun e => h.2.2.2.1 (by rw [e]; rfl)
theorem if_no_loop {a a' b : Int} : cIf a ≠ cLoop a' b := fun e => by have := congrArg Cd.op e; simp [cIf, cLoop] at this
theorem if_inj {a a' : Int} (h : cIf a = cIf a') : a = a' := by have := congrArg Cd.a h; simpa [cIf] using this
theorem loop_inj {a a' b b' : Int} (h : cLoop a b = cLoop a' b') : a = a' ∧ b = b' := by
  have h1 := congrArg Cd.a h; have h2 := congrArg Cd.b h; exact ⟨by simpa [cLoop] using h1, by simpa [cLoop] using h2⟩
theorem split_ite {t t' : Tr} {r r' : List Cd} (h : t.Ok) (h' : t'.Ok) (e : t.flat ++ cEnd :: r = t'.flat ++ cEnd :: r') : t.flat = t'.flat ∧ r = r' := by
  have h1 := scan_ite h r
  rw [e, scan_ite h' r'] at h1
  simp at h1
  have h2 := List.append_inj e (by unfold Tr.len at h1; omega)
  exact ⟨h2.1, by simpa using h2.2⟩
theorem split_no {t t' e' : Tr} {r r' : List Cd} (h : t.Ok) (h' : t'.Ok) (he' : e'.Ok) (e : t.flat ++ cEnd :: r = t'.flat ++ cElse :: (e'.flat ++ cEnd :: r')) : False := by
  have h1 := scan_ite h r
  rw [e, scan_itee h' he' r'] at h1
  simp at h1
theorem split_itee {t t' e e' : Tr} {r r' : List Cd} (h : t.Ok) (h' : t'.Ok) (he : e.Ok) (he' : e'.Ok) (q : t.flat ++ cElse :: (e.flat ++ cEnd :: r) = t'.flat ++ cElse :: (e'.flat ++ cEnd :: r')) : t.flat = t'.flat ∧ e.flat = e'.flat ∧ r = r' := by
  have h1 := scan_itee h he r
  rw [q, scan_itee h' he' r'] at h1
  simp at h1
  have h2 := List.append_inj q (by have := h1.2; unfold Tr.len at this; omega)
  have h3 : e.flat ++ cEnd :: r = e'.flat ++ cEnd :: r' := by simpa using h2.2
  obtain ⟨h4, h5⟩ := split_ite he he' h3
  exact ⟨h2.1, h4, h5⟩
/-- Two trees of the same program are the same. -/
theorem flat_inj : ∀ (t t' : Tr), t.Ok → t'.Ok → t.flat = t'.flat → t = t'
  | .nil, t', _, _, h => by cases t' <;> simp [Tr.flat] at h; rfl
  | .op c k, t', ho, ho', h => by
    cases t' with
    | nil => simp [Tr.flat] at h
    | op c' k' =>
      simp only [Tr.flat, List.cons.injEq] at h
      rw [h.1, flat_inj k k' ho.2 ho'.2 h.2]
    | ite a t1 k' => simp only [Tr.flat, List.cons.injEq] at h; exact absurd h.1 (plain_no_if ho.1)
    | itee a t1 e1 k' => simp only [Tr.flat, List.cons.injEq] at h; exact absurd h.1 (plain_no_if ho.1)
    | loop a b t1 k' => simp only [Tr.flat, List.cons.injEq] at h; exact absurd h.1 (plain_no_loop ho.1)
  | .ite a t k, t', ho, ho', h => by
    cases t' with
    | nil => simp [Tr.flat] at h
    | op c' k' => simp only [Tr.flat, List.cons.injEq] at h; exact absurd h.1.symm (plain_no_if ho'.1)
    | ite a' t1 k' =>
      simp only [Tr.flat, List.cons.injEq] at h
      obtain ⟨h1, h2⟩ := split_ite ho.2.1 ho'.2.1 h.2
      rw [if_inj h.1, flat_inj t t1 ho.2.1 ho'.2.1 h1, flat_inj k k' ho.2.2 ho'.2.2 h2]
    | itee a' t1 e1 k' => simp only [Tr.flat, List.cons.injEq] at h; exact (split_no ho.2.1 ho'.2.1 ho'.2.2.1 h.2).elim
    | loop a' b t1 k' => simp only [Tr.flat, List.cons.injEq] at h; exact absurd h.1 if_no_loop
  | .itee a t e k, t', ho, ho', h => by
    cases t' with
    | nil => simp [Tr.flat] at h
    | op c' k' => simp only [Tr.flat, List.cons.injEq] at h; exact absurd h.1.symm (plain_no_if ho'.1)
    | ite a' t1 k' => simp only [Tr.flat, List.cons.injEq] at h; exact (split_no ho'.2.1 ho.2.1 ho.2.2.1 h.2.symm).elim
    | itee a' t1 e1 k' =>
      simp only [Tr.flat, List.cons.injEq] at h
      obtain ⟨h1, h2, h3⟩ := split_itee ho.2.1 ho'.2.1 ho.2.2.1 ho'.2.2.1 h.2
      rw [if_inj h.1, flat_inj t t1 ho.2.1 ho'.2.1 h1, flat_inj e e1 ho.2.2.1 ho'.2.2.1 h2, flat_inj k k' ho.2.2.2 ho'.2.2.2 h3]
    | loop a' b t1 k' => simp only [Tr.flat, List.cons.injEq] at h; exact absurd h.1 if_no_loop
  | .loop a b t k, t', ho, ho', h => by
    cases t' with
    | nil => simp [Tr.flat] at h
    | op c' k' => simp only [Tr.flat, List.cons.injEq] at h; exact absurd h.1.symm (plain_no_loop ho'.1)
    | ite a' t1 k' => simp only [Tr.flat, List.cons.injEq] at h; exact absurd h.1.symm if_no_loop
    | itee a' t1 e1 k' => simp only [Tr.flat, List.cons.injEq] at h; exact absurd h.1.symm if_no_loop
    | loop a' b' t1 k' =>
      simp only [Tr.flat, List.cons.injEq] at h
      obtain ⟨h1, h2⟩ := split_ite ho.2.2.1 ho'.2.2.1 h.2
      obtain ⟨ha, hb⟩ := loop_inj h.1
      rw [ha, hb, flat_inj t t1 ho.2.2.1 ho'.2.2.1 h1, flat_inj k k' ho.2.2.2 ho'.2.2.2 h2]

/-- Trees are valid programs, if they are short and not deep. -/
theorem sscan_flat : ∀ (t : Tr) (k : Nat) (st : List (Nat × Int)), t.Ok → t.depth + st.length ≤ 3 → sscan t.flat k st = some st
  | .nil, _, _, _, _ => rfl
  | .op c r, k, st, ho, hd => by
    have h1 : sstep st k c = some st := sstep_other (by have := ho.1; unfold Plain at this; unfold Opens; omega) ho.1.2.2.1 ho.1.2.2.2.2
    show (sstep st k c).bind _ = _
    rw [h1]
    exact sscan_flat r (k + 1) st ho.2 hd
  | .ite a t r, k, st, ho, hd => by
    have hd' : (t.depth + 1) + st.length ≤ 3 ∧ r.depth + st.length ≤ 3 := by
      have h1 := Nat.le_max_left (t.depth + 1) r.depth
      have h2 := Nat.le_max_right (t.depth + 1) r.depth
      have : (Tr.ite a t r).depth = max (t.depth + 1) r.depth := rfl
      omega
    have h1 : sstep st k (cIf a) = some ((k, 11) :: st) := by rw [sstep_open (opens_if a), if_pos (by omega)]; rfl
    show (sstep st k (cIf a)).bind _ = _
    rw [h1]
    show sscan (t.flat ++ cEnd :: r.flat) (k + 1) ((k, 11) :: st) = _
    rw [sscan_append, sscan_flat t _ _ ho.2.1 (by simp; omega)]
    show (sstep ((k, 11) :: st) (k + 1 + t.flat.length) cEnd).bind _ = _
    rw [sstep_end (c := cEnd) rfl]
    exact sscan_flat r _ st ho.2.2 hd'.2
  | .itee a t e r, k, st, ho, hd => by
    have hd' : (t.depth + 1) + st.length ≤ 3 ∧ (e.depth + 1) + st.length ≤ 3 ∧ r.depth + st.length ≤ 3 := by
      have h1 := Nat.le_max_left (max (t.depth + 1) (e.depth + 1)) r.depth
      have h2 := Nat.le_max_right (max (t.depth + 1) (e.depth + 1)) r.depth
      have h3 := Nat.le_max_left (t.depth + 1) (e.depth + 1)
      have h4 := Nat.le_max_right (t.depth + 1) (e.depth + 1)
      have : (Tr.itee a t e r).depth = max (max (t.depth + 1) (e.depth + 1)) r.depth := rfl
      omega
    have h1 : sstep st k (cIf a) = some ((k, 11) :: st) := by rw [sstep_open (opens_if a), if_pos (by omega)]; rfl
    show (sstep st k (cIf a)).bind _ = _
    rw [h1]
    show sscan (t.flat ++ cElse :: (e.flat ++ cEnd :: r.flat)) (k + 1) ((k, 11) :: st) = _
    rw [sscan_append, sscan_flat t _ _ ho.2.1 (by simp; omega)]
    show (sstep ((k, 11) :: st) (k + 1 + t.flat.length) cElse).bind _ = _
    rw [sstep_else (c := cElse) rfl]
    show sscan (e.flat ++ cEnd :: r.flat) _ ((k, 12) :: st) = _
    rw [sscan_append, sscan_flat e _ _ ho.2.2.1 (by simp; omega)]
    show (sstep ((k, 12) :: st) (k + 1 + t.flat.length + 1 + e.flat.length) cEnd).bind _ = _
    rw [sstep_end (c := cEnd) rfl]
    exact sscan_flat r _ st ho.2.2.2 hd'.2.2
  | .loop a b t r, k, st, ho, hd => by
    have hd' : (t.depth + 1) + st.length ≤ 3 ∧ r.depth + st.length ≤ 3 := by
      have h1 := Nat.le_max_left (t.depth + 1) r.depth
      have h2 := Nat.le_max_right (t.depth + 1) r.depth
      have : (Tr.loop a b t r).depth = max (t.depth + 1) r.depth := rfl
      omega
    have h1 : sstep st k (cLoop a b) = some ((k, 13) :: st) := by rw [sstep_open (opens_loop a b), if_pos (by omega)]; rfl
    show (sstep st k (cLoop a b)).bind _ = _
    rw [h1]
    show sscan (t.flat ++ cEnd :: r.flat) (k + 1) ((k, 13) :: st) = _
    rw [sscan_append, sscan_flat t _ _ ho.2.2.1 (by simp; omega)]
    show (sstep ((k, 13) :: st) (k + 1 + t.flat.length) cEnd).bind _ = _
    rw [sstep_end (c := cEnd) rfl]
    exact sscan_flat r _ st ho.2.2.2 hd'.2
theorem ok_codes : ∀ (t : Tr), t.Ok → ∀ c ∈ t.flat, CdOk c
  | .nil, _, c, h => by simp [Tr.flat] at h
  | .op d k, ho, c, h => by
    simp only [Tr.flat, List.mem_cons] at h
    rcases h with rfl | h
    · exact ho.1.1
    · exact ok_codes k ho.2 c h
  | .ite a t k, ho, c, h => by
    simp only [Tr.flat, List.mem_cons, List.mem_append] at h
    rcases h with rfl | h | rfl | h
    · exact .inr (.inl ⟨.inr rfl, ho.1, rfl, rfl⟩)
    · exact ok_codes t ho.2.1 c h
    · unfold CdOk cEnd; simp
    · exact ok_codes k ho.2.2 c h
  | .itee a t e k, ho, c, h => by
    simp only [Tr.flat, List.mem_cons, List.mem_append] at h
    rcases h with rfl | h | rfl | h | rfl | h
    · exact .inr (.inl ⟨.inr rfl, ho.1, rfl, rfl⟩)
    · exact ok_codes t ho.2.1 c h
    · unfold CdOk cElse; simp
    · exact ok_codes e ho.2.2.1 c h
    · unfold CdOk cEnd; simp
    · exact ok_codes k ho.2.2.2 c h
  | .loop a b t k, ho, c, h => by
    simp only [Tr.flat, List.mem_cons, List.mem_append] at h
    rcases h with rfl | h | rfl | h
    · exact .inr (.inr (.inr (.inr (.inl ⟨rfl, ho.1, ho.2.1, rfl⟩))))
    · exact ok_codes t ho.2.2.1 c h
    · unfold CdOk cEnd; simp
    · exact ok_codes k ho.2.2.2 c h
theorem valid_of_tree {t : Tr} (ho : t.Ok) (hd : t.depth ≤ 3) (hl : t.len ≤ 40) : PValid t.flat := ⟨ok_codes t ho, hl, sscan_flat t 0 [] ho (by simpa using hd)⟩
/-- The tree of a valid program is the one that is known. -/
theorem treeOf_eq {cs : List Cd} {t : Tr} (hv : PValid cs) (h : cs = t.flat) (ho : t.Ok) : treeOf cs = t := by
  obtain ⟨h1, h2, _⟩ := treeOf_spec hv
  exact flat_inj _ _ h2 ho (h1.symm.trans h)

/-- One tree behind another. -/
def Tr.app : Tr → Tr → Tr
  | .nil, u => u
  | .op c k, u => .op c (k.app u)
  | .ite a t k, u => .ite a t (k.app u)
  | .itee a t e k, u => .itee a t e (k.app u)
  | .loop a b t k, u => .loop a b t (k.app u)
theorem app_flat : ∀ (t u : Tr), (t.app u).flat = t.flat ++ u.flat
  | .nil, u => rfl
  | .op c k, u => by simp [Tr.app, Tr.flat, app_flat k u]
  | .ite a t k, u => by simp [Tr.app, Tr.flat, app_flat k u]
  | .itee a t e k, u => by simp [Tr.app, Tr.flat, app_flat k u]
  | .loop a b t k, u => by simp [Tr.app, Tr.flat, app_flat k u]
theorem app_ok : ∀ {t u : Tr}, t.Ok → u.Ok → (t.app u).Ok
  | .nil, _u, _, h => h
  | .op _c _k, _u, h, h' => ⟨h.1, app_ok h.2 h'⟩
  | .ite _a _t _k, _u, h, h' => ⟨h.1, h.2.1, app_ok h.2.2 h'⟩
  | .itee _a _t _e _k, _u, h, h' => ⟨h.1, h.2.1, h.2.2.1, app_ok h.2.2.2 h'⟩
  | .loop _a _b _t _k, _u, h, h' => ⟨h.1, h.2.1, h.2.2.1, app_ok h.2.2.2 h'⟩
theorem app_depth : ∀ {t u : Tr} {d : Nat}, t.depth ≤ d → u.depth ≤ d → (t.app u).depth ≤ d
  | .nil, _u, _d, _, h => h
  | .op _c k, _u, _d, h, h' => app_depth (t := k) h h'
  | .ite _a _t _k, _u, _d, h, h' => Nat.max_le.2 ⟨(Nat.max_le.1 h).1, app_depth (Nat.max_le.1 h).2 h'⟩
  | .itee _a _t _e _k, _u, _d, h, h' => Nat.max_le.2 ⟨(Nat.max_le.1 h).1, app_depth (Nat.max_le.1 h).2 h'⟩
  | .loop _a _b _t _k, _u, _d, h, h' => Nat.max_le.2 ⟨(Nat.max_le.1 h).1, app_depth (Nat.max_le.1 h).2 h'⟩
theorem run_app (n m : Nat) : ∀ (t u : Tr) (i mask : Nat) (s : LS), run n m (t.app u) i mask s = run n m u (i + t.len) mask (run n m t i mask s)
  | .nil, u, i, mask, s => rfl
  | .op c k, u, i, mask, s => by
    by_cases h0 : mask = 0
    · subst h0; rw [run_zero, run_zero, run_zero]
    · rw [Tr.len_op]
      show (if mask = 0 then s else run n m (k.app u) (i + 1) mask (exec c n m i mask s)) = run n m u (i + (k.len + 1)) mask (if mask = 0 then s else run n m k (i + 1) mask (exec c n m i mask s))
      rw [if_neg h0, if_neg h0, run_app n m k u, show i + 1 + k.len = i + (k.len + 1) by omega]
  | .ite a t k, u, i, mask, s => by
    by_cases h0 : mask = 0
    · subst h0; rw [run_zero, run_zero, run_zero]
    · rw [Tr.len_ite]
      show (if mask = 0 then s else run n m (k.app u) (i + 1 + t.len + 1) mask _) = run n m u _ mask (if mask = 0 then s else run n m k (i + 1 + t.len + 1) mask _)
      rw [if_neg h0, if_neg h0, run_app n m k u, show i + 1 + t.len + 1 + k.len = i + (1 + t.len + 1 + k.len) by omega]
  | .itee a t e k, u, i, mask, s => by
    by_cases h0 : mask = 0
    · subst h0; rw [run_zero, run_zero, run_zero]
    · rw [Tr.len_itee]
      show (if mask = 0 then s else run n m (k.app u) (i + 1 + t.len + 1 + e.len + 1) mask _) = run n m u _ mask (if mask = 0 then s else run n m k (i + 1 + t.len + 1 + e.len + 1) mask _)
      rw [if_neg h0, if_neg h0, run_app n m k u, show i + 1 + t.len + 1 + e.len + 1 + k.len = i + (1 + t.len + 1 + e.len + 1 + k.len) by omega]
  | .loop a b t k, u, i, mask, s => by
    by_cases h0 : mask = 0
    · subst h0; rw [run_zero, run_zero, run_zero]
    · rw [Tr.len_loop]
      show (if mask = 0 then s else run n m (k.app u) (i + 1 + t.len + 1) mask _) = run n m u _ mask (if mask = 0 then s else run n m k (i + 1 + t.len + 1) mask _)
      rw [if_neg h0, if_neg h0, run_app n m k u, show i + 1 + t.len + 1 + k.len = i + (1 + t.len + 1 + k.len) by omega]

end Go.Proofs.Ythocmmhhhiikpaa

namespace Go.Proofs.Ythocmmhhhiikpaa
open Go.RowKit

section
variable {P : Program} {t e : TypeId} {s : Nat} {z : List Value} {bytes : Nat}
theorem wl_appendC (E : ElT P t e s z bytes) {w : World} {ops : Array Oper} {rest : List Oper} {o : Oper} {a : Act} {Q : Exit → Act → World → Prop}
    (hgd : o.guard = none) (sl x : Operand) (ho : o.op = .call { callee := .builtin .append, args := #[sl, x], argTypes := #[t, t] })
    (B : Nat) (v : Value) (n : Nat) (xs : List Value) (hs : a.eval sl = v) (hown : OwnO w B e s v n xs) (hpos : 0 < n) (vx : Value) (hx : a.eval x = vx) (f : Nat → Value) (m : Nat) (hc : Cells w vx m s f) (h1 : ∀ j, j < m * s → (f j).oneCell' = true)
    (hby : bytes ≤ 128) (hn : n + m ≤ 1099511627776) (hB : B ≤ w.heap.size)
    (h : ∀ v' w', OwnO w' B e s v' (n + m) (xs ++ (List.range (m * s)).map f) → w.grownBy w' v.ownBlock → wpList P ops Q rest (a.put o.dst v') w') : wpList P ops Q (o :: rest) a w := by
  obtain ⟨g0, off0, c0, rfl, hnc0, hc00, hgB, hgl⟩ := hown.formSome hpos
  obtain ⟨A, c, rfl, hmc, hcm, hrd⟩ := hc
  rcases A with _ | ⟨b, off, sp⟩
  · have hm0 : m = 0 := by
      rcases Nat.eq_zero_or_pos m with h0 | h0
      · exact h0
      · obtain ⟨_, _, h, _⟩ := hrd h0; cases h
    subst hm0
    obtain ⟨i, zv, h2, h3, h4, h5, h6, h7⟩ := E.parts
    refine wpList_plain hgd fun K hK' => ?_
    have hrun : (Builtin.append_ #[t, t] o.type #[.slice (some ⟨g0, off0, none⟩) n c0, .slice none 0 c]).run P w = .ok (.slice (some ⟨g0, off0, none⟩) n c0) w := by
      simp [Builtin.append_, run_underlying E.ht, sizeOf, typeInfo, h2, Builtin.lenOf, Builtin.firstCells, storeCells, hnc0]
    unfold Oper.wp execOp
    simp only [ho, resolve, invoke, builtin, Sem.run_bind, Sem.run_pure, Result.andThen_ok, List.map_toArray, List.map_cons, List.map_nil, hs, hx, hrun]
    exact hK' _ _ (h _ _ (by simpa using hown) ((Pure.refl _).grownBy _))
  · rcases Nat.eq_zero_or_pos m with h0 | h0
    · subst h0
      obtain ⟨i, zv, h2, h3, h4, h5, h6, h7⟩ := E.parts
      refine wpList_plain hgd fun K hK' => ?_
      have hrun : (Builtin.append_ #[t, t] o.type #[.slice (some ⟨g0, off0, none⟩) n c0, .slice (some ⟨b, off, sp⟩) 0 c]).run P w = .ok (.slice (some ⟨g0, off0, none⟩) n c0) w := by
        simp [Builtin.append_, run_underlying E.ht, sizeOf, typeInfo, h2, Builtin.lenOf, Builtin.firstCells, storeCells, loadCells, loadCellsFrom, hnc0]
      unfold Oper.wp execOp
      simp only [ho, resolve, invoke, builtin, Sem.run_bind, Sem.run_pure, Result.andThen_ok, List.map_toArray, List.map_cons, List.map_nil, hs, hx, hrun]
      exact hK' _ _ (h _ _ (by simpa using hown) ((Pure.refl _).grownBy _))
    · obtain ⟨b', o', he, hbl, hcc⟩ := hrd h0
      injection he with he
      injection he with e1 e2 e3
      subst e1 e2 e3
      have hmul : (n + m) * bytes ≤ 1099511627776 * 128 := Nat.mul_le_mul hn hby
      refine wl_appendF E hgd sl x ho B _ n xs hs hown b off m c ((List.range (m * s)).map f) hx (by simp) (fun j u hu => ?_) (fun u hu => ?_) (by omega) (by omega) hB
        (fun v' w' r1 r2 _ => h v' w' r1 r2)
      · have hj : j < m * s := by
          rcases Nat.lt_or_ge j (m * s) with h | h
          · exact h
          · rw [List.getElem?_eq_none (by simpa using h)] at hu; cases hu
        rw [hcc j hj, ← hu]
        simp [hj]
      · obtain ⟨j, hj, rfl⟩ := List.mem_map.1 hu
        exact h1 j (by simpa using hj)
end

theorem ints_get {w : World} {A : Option Addr} {n c : Nat} {xs : List Int} (h : Ints w (.slice A n c) xs) {k : Nat} (hk : k < xs.length) : ∃ b o, A = some ⟨b, o, none⟩ ∧ b < w.heap.size ∧ ∀ j, j < xs.length → w.cell? ⟨b, o + j, none⟩ = some (.int .i64 (xs.getD j 0)) := by
  obtain ⟨A', c', hv, _, _, hrd⟩ := h
  cases hv
  obtain ⟨b, o, h1, h2, h3⟩ := hrd (by omega)
  exact ⟨b, o, h1, h2, fun j hj => h3 j (by omega)⟩

set_option maxHeartbeats 400000 in
theorem sameInts_same (v v' : Value) (xs : List Int) (w : World) (h : Ints w v xs) (h' : Ints w v' xs) (hl : xs.length ≤ 1048576) :
    Calls Try.prog 22 #[v, v'] w fun e w' => e = .returned (.bool true) ∧ Pure w w' := by
  have HF := Lib.hid h
  have HF' := Lib.hid h'
  obtain ⟨A, c, rfl⟩ := h.form
  obtain ⟨A', c', rfl⟩ := h'.form
  clear h h'
  have hd : ((xs.length : Int) != xs.length) = false := by simp
  go_enter Try.func22, Try.ntmps22
  go_wp2
  go_loopg [5] xs.length (fun gk i wr => ∃ k : Nat, gk + k = xs.length ∧ i = .int .i64 k ∧ Pure w wr)
  case atStart => exact ⟨0, rfl, rfl, Pure.refl _⟩
  case round =>
    obtain ⟨k, hgk, rfl, hp⟩ := hrel
    have Hgk := Lib.hid hgk
    have hkn : k ≤ xs.length := by omega
    clear hgk
    by_cases hlt : k < xs.length
    · obtain ⟨b, o, rfl, hb, hc⟩ := ints_get HF.out hlt
      obtain ⟨b', o', rfl, hb', hc'⟩ := ints_get HF'.out hlt
      have q0 := (hp.cell b _ hb).trans (hc k hlt)
      have r0 := (hp.cell b' _ hb').trans (hc' k hlt)
      obtain ⟨x, Hx⟩ : ∃ x : Int, Hid (xs.getD k 0 = x) := ⟨_, Lib.hid rfl⟩
      rw [Hx.out] at q0 r0
      have hxx : (x != x) = false := by simp
      clear hc hc'
      go_wp2
      go_quiet (fail)
      go_wp2
      go_roundg (xs.length - (k + 1))
      case measure => have := Hgk.out; omega
      case rel => exact ⟨k + 1, by have := Hgk.out; omega, by go_num, by exact (by repeat (first | assumption | exact Pure.refl _ | refine Pure.drewN ?_ _ | refine Pure.drew ?_ | refine Pure.alloc ?_ _ | refine Pure.setCell ?_ (by simp <;> omega) _))⟩
    · go_wp2
      go_ret
      exact ⟨rfl, hp⟩

end Go.Proofs.Ythocmmhhhiikpaa
