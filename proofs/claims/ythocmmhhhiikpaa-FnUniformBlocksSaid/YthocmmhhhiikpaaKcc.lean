/- Steps that follow each other: lanes that agree at a block go on together. No program in sight. The block around a place, as the program finds it. No condition. -/
import Derived.Test.YthocmmhhhiikpaaKad
import Derived.Test.YthocmmhhhiikpaaKaj
import Derived.Test.YthocmmhhhiikpaaKcb

namespace Go.Proofs.Ythocmmhhhiikpaa

theorem around_lt (cs : List Cd) (k : Nat) : aroundAt cs k < k := bScan_lt cs k 0

/-- What holds of two steps, of which one follows the other. -/
def Nxt (cs : List Cd) (x y : Nat × Nat × (Nat → Nat → Int)) : Prop :=
  (∀ k l, x.2.1.testBit k = true → x.2.1.testBit l = true → x.2.2 k (cs.getD x.1 default).a.toNat = x.2.2 l (cs.getD x.1 default).a.toNat) → aroundAt cs y.1 = x.1 → y.2.1 = x.2.1
def AdjL (cs : List Cd) : List (Nat × Nat × (Nat → Nat → Int)) → Prop
  | [] => True
  | [_] => True
  | x :: y :: r => Nxt cs x y ∧ AdjL cs (y :: r)
theorem AdjL.app {cs : List Cd} : ∀ {X Y : List (Nat × Nat × (Nat → Nat → Int))}, AdjL cs X → AdjL cs Y → (∀ x ∈ X, ∀ y, Y.head? = some y → Nxt cs x y) → AdjL cs (X ++ Y)
  | [], _, _, hy, _ => hy
  | [x], [], _, _, _ => trivial
  | [x], y :: r, _, hy, h => ⟨h x (by simp) y rfl, hy⟩
  | x :: x' :: r, Y, hx, hy, h => ⟨hx.1, AdjL.app (X := x' :: r) hx.2 hy fun z hz y hY => h z (by simp at hz ⊢; rcases hz with hz | hz; exact .inr (.inl hz); exact .inr (.inr hz)) y hY⟩
theorem AdjL.at_ {cs : List Cd} : ∀ {X : List (Nat × Nat × (Nat → Nat → Int))}, AdjL cs X → ∀ k, k + 1 < X.length → Nxt cs (X.getD k default) (X.getD (k + 1) default)
  | [], _, k, h => by simp at h
  | [_], _, k, h => by simp at h
  | x :: y :: r, h, 0, _ => h.1
  | x :: y :: r, h, k + 1, hk => AdjL.at_ (X := y :: r) h.2 k (by simp at hk ⊢; omega)
/-- The new steps of a part that begins at place i. -/
structure Part (cs : List Cd) (i mask : Nat) (s s' : LS) (X : List (Nat × Nat × (Nat → Nat → Int))) : Prop where
  ext : s'.H = s.H ++ X
  adj : AdjL cs X
  low : ∀ x ∈ X, i ≤ x.1
  head : ∀ y, X.head? = some y → y.1 = i ∧ y.2.1 = mask ∧ mask ≠ 0
theorem Part.none (cs : List Cd) (i mask : Nat) (s : LS) : Part cs i mask s s [] := ⟨by simp, trivial, fun _ h => absurd h (by simp), fun _ h => absurd h (by simp)⟩
theorem Part.zero {cs : List Cd} {i mask : Nat} {s s' : LS} {X : List (Nat × Nat × (Nat → Nat → Int))} (h : Part cs i mask s s' X) (h0 : mask = 0) : X = [] := by
  cases X with
  | nil => rfl
  | cons y r => exact absurd h0 (h.head y rfl).2.2
/-- A block: its own step, its parts, what is behind. -/
theorem nxt_far {cs : List Cd} {x y : Nat × Nat × (Nat → Nat → Int)} (h : aroundAt cs y.1 ≠ x.1) : Nxt cs x y := fun _ e => absurd e h
theorem turns_adj {cs : List Cd} {F : Nat → LS → LS} {n a i : Nat} (hi : aroundAt cs (i + 1) = i) (hz : ∀ s, F 0 s = s) (hF : ∀ y s, y < 2 ^ n → ∃ X, Part cs (i + 1) y s (F y s) X) (hE : (∀ y s, y ≠ 0 → s.H.length < (F y s).H.length) ∨ ∀ y s, (F y s).H = s.H) :
    ∀ (b y : Nat) (s : LS), y < 2 ^ n → ∃ X, Part cs (i + 1) (onesTo s.R y a n) s (turns F n a b y s) X
  | 0, y, s, _ => ⟨[], Part.none _ _ _ _⟩
  | b + 1, y, s, hy => by
    by_cases h0 : onesTo s.R y a n = 0
    · have e : turns F n a (b + 1) y s = s := by
        show turns F n a b (onesTo s.R y a n) (F (onesTo s.R y a n) s) = s
        rw [h0, hz]
        have : ∀ b s, turns F n a b 0 s = s := by
          intro b
          induction b with
          | zero => intro s; rfl
          | succ b ih => intro s; show turns F n a b (onesTo s.R 0 a n) (F (onesTo s.R 0 a n) s) = s; rw [onesTo_none, hz, ih]
        exact this b s
      rw [e]
      exact ⟨[], Part.none _ _ _ _⟩
    obtain ⟨X, hX⟩ := hF (onesTo s.R y a n) s (onesTo_lt _ _ _ _)
    obtain ⟨Y, hY⟩ := turns_adj (a := a) hi hz hF hE b (onesTo s.R y a n) (F (onesTo s.R y a n) s) (onesTo_lt _ _ _ _)
    rcases hE with hE | hE
    · have hne : X ≠ [] := by
        intro e
        have h1 := hE (onesTo s.R y a n) s h0
        rw [hX.ext, e] at h1
        simp at h1
      refine ⟨X ++ Y, ?_, hX.adj.app hY.adj fun x hx z hz' => nxt_far ?_, fun x hx => ?_, fun z hz' => ?_⟩
      · show (turns F n a b (onesTo s.R y a n) (F (onesTo s.R y a n) s)).H = _
        rw [hY.ext, hX.ext, List.append_assoc]
      · rw [(hY.head z hz').1, hi]
        have := hX.low x hx
        omega
      · rcases List.mem_append.1 hx with h | h
        · exact hX.low x h
        · exact hY.low x h
      · cases X with
        | nil => exact absurd rfl hne
        | cons q r => exact hX.head z hz'
    · have hall : ∀ b y s, (turns F n a b y s).H = s.H := by
        intro b
        induction b with
        | zero => intro y s; rfl
        | succ b ih => intro y s; show (turns F n a b _ (F _ s)).H = s.H; rw [ih, hE]
      exact ⟨[], by rw [hall]; simp, trivial, fun _ h => absurd h (by simp), fun _ h => absurd h (by simp)⟩
theorem run_grow (n m : Nat) (t : Tr) (i : Nat) : (∀ y s, y ≠ 0 → s.H.length < (run n m t i y s).H.length) ∨ ∀ y s, (run n m t i y s).H = s.H := by
  by_cases ht : 0 < t.len
  · refine .inl fun y s hy => ?_
    obtain ⟨X, hX⟩ := run_first n m t i y s hy ht
    rw [hX]
    simp [beat]
  · refine .inr fun y s => ?_
    cases t with
    | nil => rfl
    | op c k => rw [Tr.len_op] at ht; omega
    | ite a t k => rw [Tr.len_ite] at ht; omega
    | itee a t e k => rw [Tr.len_itee] at ht; omega
    | loop a b t k => rw [Tr.len_loop] at ht; omega
theorem Part.beat (cs : List Cd) (i mask : Nat) (s : LS) (h0 : mask ≠ 0) : Part cs i mask s (Proofs.Ythocmmhhhiikpaa.beat i mask s) [(i, mask, s.R)] :=
  ⟨rfl, trivial, fun x hx => by simp at hx; subst hx; exact Nat.le_refl _, fun y hy => by simp at hy; subst hy; exact ⟨rfl, rfl, h0⟩⟩
/-- A part behind a part that is not empty. -/
theorem Part.app {cs : List Cd} {i j mask mask' : Nat} {s s' s'' : LS} {X Y : List (Nat × Nat × (Nat → Nat → Int))} {q : Nat × Nat × (Nat → Nat → Int)} {X' : List (Nat × Nat × (Nat → Nat → Int))} (e : X = q :: X') (h : Part cs i mask s s' X) (k : Part cs j mask' s' s'' Y) (hij : i ≤ j)
    (hn : ∀ x ∈ X, ∀ y, Y.head? = some y → Nxt cs x y) : Part cs i mask s s'' (q :: (X' ++ Y)) := by
  subst e
  refine ⟨by rw [k.ext, h.ext, List.append_assoc]; rfl, h.adj.app k.adj hn, fun x hx => ?_, fun y hy => h.head y hy⟩
  rcases List.mem_append.1 (show x ∈ (q :: X') ++ Y from hx) with hx | hx
  · exact h.low x hx
  · exact Nat.le_trans hij (k.low x hx)
theorem run_adj {cs : List Cd} (n m : Nat) : ∀ (t : Tr) (i mask : Nat) (s : LS), t.Ok → Seg cs i t → mask < 2 ^ n → ∃ X, Part cs i mask s (run n m t i mask s) X
  | .nil, i, mask, s, _, _, _ => ⟨[], Part.none _ _ _ _⟩
  | .op c k, i, mask, s, ho, hs, hm => by
    by_cases h0 : mask = 0
    · subst h0; rw [run_zero]; exact ⟨[], Part.none _ _ _ _⟩
    have e : run n m (.op c k) i mask s = run n m k (i + 1) mask (exec c n m i mask s) := if_neg h0
    obtain ⟨h1, _, h3⟩ := hs.op
    obtain ⟨Y, hY⟩ := run_adj n m k (i + 1) mask (exec c n m i mask s) ho.2 h3 hm
    have hY' : Part cs (i + 1) mask (beat i mask s) (run n m k (i + 1) mask (exec c n m i mask s)) Y := ⟨by rw [hY.ext, exec_H]; rfl, hY.adj, hY.low, hY.head⟩
    have har : aroundAt cs (i + 1) = aroundAt cs i := around_op (by rw [h1]; intro q; have := ho.1; unfold Plain at this; unfold Opens at q; omega) (by rw [h1]; exact ho.1.2.2.2.2)
    have hl := around_lt cs i
    rw [e]
    exact ⟨_, Part.app rfl (Part.beat cs i mask s h0) hY' (by omega) fun x hx y hy => nxt_far (by
      simp at hx; subst hx
      rw [(hY.head y hy).1, har]
      show aroundAt cs i ≠ (i : Int)
      omega)⟩
  | .ite a t k, i, mask, s, ho, hs, hm => by
    by_cases h0 : mask = 0
    · subst h0; rw [run_zero]; exact ⟨[], Part.none _ _ _ _⟩
    have e : run n m (.ite a t k) i mask s = run n m k (i + 1 + t.len + 1) mask (run n m t (i + 1) (onesTo s.R mask a.toNat n) (beat i mask s)) := if_neg h0
    obtain ⟨h1, h2, h3, _, h5⟩ := hs.ite
    have hop : Opens (cs.getD i default) := by rw [h1]; exact opens_if a
    obtain ⟨X, hX⟩ := run_adj n m t (i + 1) (onesTo s.R mask a.toNat n) (beat i mask s) ho.2.1 h2 (onesTo_lt _ _ _ _)
    obtain ⟨Y, hY⟩ := run_adj n m k (i + 1 + t.len + 1) mask (run n m t (i + 1) (onesTo s.R mask a.toNat n) (beat i mask s)) ho.2.2 h5 hm
    have hb := around_behind ho.2.1 h2 hop h3
    have hl := around_lt cs i
    have hA := Part.app rfl (Part.beat cs i mask s h0) hX (by omega) fun x hx y hy => by
      simp at hx; subst hx
      intro hq _
      rw [h1] at hq
      obtain ⟨_, e2, e3⟩ := hX.head y hy
      rw [e2]
      rcases onesTo_eqv hm hq with q | q
      · exact q
      · exact absurd q e3
    rw [e]
    refine ⟨_, Part.app rfl hA hY (by omega) fun x hx y hy => nxt_far ?_⟩
    rw [(hY.head y hy).1, hb]
    have := hA.low x hx
    omega
  | .itee a t e k, i, mask, s, ho, hs, hm => by
    by_cases h0 : mask = 0
    · subst h0; rw [run_zero]; exact ⟨[], Part.none _ _ _ _⟩
    have er : run n m (.itee a t e k) i mask s = run n m k (i + 1 + t.len + 1 + e.len + 1) mask (run n m e (i + 1 + t.len + 1) (del mask (onesTo s.R mask a.toNat n)) (run n m t (i + 1) (onesTo s.R mask a.toNat n) (beat i mask s))) := if_neg h0
    obtain ⟨h1, h2, h3, h4, h5, _, h7⟩ := hs.itee
    have hop : Opens (cs.getD i default) := by rw [h1]; exact opens_if a
    obtain ⟨X, hX⟩ := run_adj n m t (i + 1) (onesTo s.R mask a.toNat n) (beat i mask s) ho.2.1 h2 (onesTo_lt _ _ _ _)
    obtain ⟨Z, hZ⟩ := run_adj n m e (i + 1 + t.len + 1) (del mask (onesTo s.R mask a.toNat n)) (run n m t (i + 1) (onesTo s.R mask a.toNat n) (beat i mask s)) ho.2.2.1 h4 (del_lt2 _ hm)
    obtain ⟨Y, hY⟩ := run_adj n m k (i + 1 + t.len + 1 + e.len + 1) mask (run n m e (i + 1 + t.len + 1) (del mask (onesTo s.R mask a.toNat n)) (run n m t (i + 1) (onesTo s.R mask a.toNat n) (beat i mask s))) ho.2.2.2 h7 hm
    obtain ⟨hb, hb2⟩ := around_behind2 ho.2.1 h2 hop h3 ho.2.2.1 h4 h5
    have hl := around_lt cs i
    have hA := Part.app rfl (Part.beat cs i mask s h0) hX (by omega) fun x hx y hy => by
      simp at hx; subst hx
      intro hq _
      rw [h1] at hq
      obtain ⟨_, e2, e3⟩ := hX.head y hy
      rw [e2]
      rcases onesTo_eqv hm hq with q | q
      · exact q
      · exact absurd q e3
    have hB := Part.app rfl hA hZ (by omega) fun x hx y hy => by
      rcases List.mem_cons.1 hx with hx | hx
      · subst hx
        intro hq _
        rw [h1] at hq
        obtain ⟨_, e2, e3⟩ := hZ.head y hy
        rw [e2]
        show del mask (onesTo s.R mask a.toNat n) = mask
        have hq' : onesTo s.R mask a.toNat n = mask ∨ onesTo s.R mask a.toNat n = 0 := onesTo_eqv hm hq
        rcases hq' with q | q
        · rw [q] at e3
          refine absurd ?_ e3
          apply Nat.eq_of_testBit_eq
          intro l
          rw [del_bit, Nat.zero_testBit]
          cases mask.testBit l <;> rfl
        · rw [q, del_zero]
      · refine nxt_far ?_
        rw [(hZ.head y hy).1, hb2]
        have := hX.low x hx
        omega
    rw [er]
    refine ⟨_, Part.app rfl hB hY (by omega) fun x hx y hy => nxt_far ?_⟩
    rw [(hY.head y hy).1, hb]
    have := hB.low x hx
    omega
  | .loop a b t k, i, mask, s, ho, hs, hm => by
    by_cases h0 : mask = 0
    · subst h0; rw [run_zero]; exact ⟨[], Part.none _ _ _ _⟩
    have e : run n m (.loop a b t k) i mask s = run n m k (i + 1 + t.len + 1) mask (turns (run n m t (i + 1)) n a.toNat b.toNat mask (beat i mask s)) := if_neg h0
    obtain ⟨h1, h2, h3, _, h5⟩ := hs.loop
    have hop : Opens (cs.getD i default) := by rw [h1]; exact opens_loop a b
    obtain ⟨X, hX⟩ := turns_adj (a := a.toNat) (n := n) (around_open hop) (fun s => run_zero n m t (i + 1) s) (fun y s hy => run_adj n m t (i + 1) y s ho.2.2.1 h2 hy) (run_grow n m t (i + 1)) b.toNat mask (beat i mask s) hm
    obtain ⟨Y, hY⟩ := run_adj n m k (i + 1 + t.len + 1) mask (turns (run n m t (i + 1)) n a.toNat b.toNat mask (beat i mask s)) ho.2.2.2 h5 hm
    have hb := around_behind ho.2.2.1 h2 hop h3
    have hl := around_lt cs i
    have hA := Part.app rfl (Part.beat cs i mask s h0) hX (by omega) fun x hx y hy => by
      simp at hx; subst hx
      intro hq _
      rw [h1] at hq
      obtain ⟨_, e2, e3⟩ := hX.head y hy
      rw [e2]
      rcases onesTo_eqv hm hq with q | q
      · exact q
      · exact absurd q e3
    rw [e]
    refine ⟨_, Part.app rfl hA hY (by omega) fun x hx y hy => nxt_far ?_⟩
    rw [(hY.head y hy).1, hb]
    have := hA.low x hx
    omega
/-- A step behind that of a block whose register is uniform, in the block, has its lanes. -/
theorem uniform_next {cs : List Cd} {n : Nat} {mem : List Int} (hv : PValid cs) {k : Nat} (hk : k + 1 < (lockOf cs n mem).H.length)
    (hu : (usL cs (treeOf cs) ((lockOf cs n mem).H.getD k default).1).testBit (cs.getD ((lockOf cs n mem).H.getD k default).1 default).a.toNat = true)
    (ha : aroundAt cs ((lockOf cs n mem).H.getD (k + 1) default).1 = ((lockOf cs n mem).H.getD k default).1) : ((lockOf cs n mem).H.getD (k + 1) default).2.1 = ((lockOf cs n mem).H.getD k default).2.1 := by
  obtain ⟨h1, h2, h3⟩ := treeOf_spec hv
  have hlt : (2 ^ n - 1 : Nat) < 2 ^ n := by have := Nat.two_pow_pos n; omega
  obtain ⟨X, hX⟩ := run_adj n mem.length (treeOf cs) 0 (2 ^ n - 1) (startLS mem) h2 (Seg.whole h1) hlt
  have e : (lockOf cs n mem).H = X := hX.ext
  have hmem : (lockOf cs n mem).H.getD k default ∈ (lockOf cs n mem).H := by
    have hk' : k < (lockOf cs n mem).H.length := by omega
    rw [List.getD_eq_getElem?_getD, List.getElem?_eq_getElem hk']
    exact List.getElem_mem hk'
  have hh := lock_holds hv _ hmem
  rw [e] at hk hu ha hh ⊢
  exact hX.adj.at_ k hk (fun p q hp hq => hh _ hu p q hp hq) ha

end Go.Proofs.Ythocmmhhhiikpaa

namespace Go.Proofs.Ythocmmhhhiikpaa
open Go.RowKit

theorem PValid.stk {cs : List Cd} (h : PValid cs) : ∀ {k : Nat}, k ≤ cs.length → ∃ st, sscan (cs.take k) 0 [] = some st ∧ Stk cs k st
  | 0, _ => ⟨[], by simp [sscan], Stk.nil cs⟩
  | k + 1, hk => by
    obtain ⟨st, h1, h2⟩ := PValid.stk h (k := k) (by omega)
    have h3 := sscan_take (show k < cs.length by omega) h1
    cases hs : sstep st k (cs.getD k default) with
    | none =>
      rw [hs] at h3
      have := sscan_none h3
      rw [h.2.2] at this; cases this
    | some st' => exact ⟨st', h3.trans hs, h2.step (by omega) hs⟩
/-- The innermost of the blocks around a place. -/
theorem stk_top {cs : List Cd} (h : PValid cs) {k : Nat} (hk : k < cs.length) : ((stkPos cs k).length = 0 ∧ aroundAt cs k = -1) ∨
    (0 < (stkPos cs k).length ∧ (((stkPos cs k).getD ((stkPos cs k).length - 1) 0 : Nat) : Int) = aroundAt cs k ∧ (stkPos cs k).getD ((stkPos cs k).length - 1) 0 < cs.length ∧ Opens (cs.getD ((stkPos cs k).getD ((stkPos cs k).length - 1) 0) default)) := by
  obtain ⟨st, h1, h2⟩ := h.stk (Nat.le_of_lt hk)
  have e : stkPos cs k = (st.map (·.1)).reverse := by unfold stkPos; rw [h1]; rfl
  have ha := h2.around 0
  cases st with
  | nil => left; rw [e]; exact ⟨rfl, ha⟩
  | cons x r =>
    right
    have hl : (stkPos cs k).length = r.length + 1 := by rw [e]; simp
    have hg : (stkPos cs k).getD ((stkPos cs k).length - 1) 0 = x.1 := by
      rw [hl, e]
      simp [List.getD_eq_getElem?_getD]
    rw [hg]
    have hlt := h2.lt 0 (by simp)
    obtain ⟨o, _, he⟩ := h2.ends 0 (by simp)
    simp only [List.getElem_cons_zero] at hlt he
    refine ⟨by omega, ha.symm, by omega, ?_⟩
    rcases he with he | he | he
    · exact .inl he.2.1
    · exact .inl he.2.1
    · exact .inr he.2.1

open Classical in
noncomputable def aroundA (cs : List Cd) (p : Int) : Int := if PValid cs ∧ 0 ≤ p ∧ p ≤ (cs.length : Int) - 1 then aroundAt cs p.toNat else -1

set_option maxHeartbeats 1000000 in
theorem iba_any (v : Value) (cs : List Cd) (a : Int) (w : World) (h : Codes w v cs) (hsmall : cs.length ≤ 1048576) :
    Calls Try.prog 28 #[v, .int .i64 a] w fun e w' => e = .returned (.int .i64 (aroundA cs a)) ∧ Pure w w' := by
  have H := Lib.hid h
  obtain ⟨A, c, rfl, hnc, hcm⟩ := h.form
  clear h
  obtain ⟨B, hB⟩ := runB cs
  have HB := Lib.hid hB
  clear hB
  cases B
  · have HN : Hid (aroundA cs a = -1) := Lib.hid (by unfold aroundA; rw [if_neg (fun h => by have := HB.out.2 h.1; cases this)])
    rw [HN.out]
    go_enter Try.func28, Try.ntmps28
    go_wp2_with fail
    refine (ipv_any _ cs _ H.out hsmall false HB.out).mono ?_
    rintro e w1 ⟨rfl, hp1⟩
    go_wp2
    go_ret
    exact ⟨rfl, hp1⟩
  have hv : PValid cs := HB.out.1 rfl
  have HV := Lib.hid hv
  clear hv
  by_cases hin : 0 ≤ a ∧ a ≤ (cs.length : Int) - 1
  · obtain ⟨k, rfl⟩ : ∃ k : Nat, a = k := ⟨a.toNat, by omega⟩
    have hk : k < cs.length := by omega
    have HN : Hid (aroundA cs k = aroundAt cs k) := Lib.hid (by unfold aroundA; rw [if_pos ⟨HV.out, hin⟩]; rfl)
    have HIN := Lib.hid hin
    clear hin
    rw [HN.out]
    have HTOP := Lib.hid (stk_top HV.out hk)
    obtain ⟨q, Hq⟩ : ∃ q, Hid (aroundAt cs k = q) := ⟨_, Lib.hid rfl⟩
    rw [Hq.out] at HTOP ⊢
    go_enter Try.func28, Try.ntmps28
    go_wp2_with fail
    refine (ipv_any _ cs _ H.out hsmall true (by simp only [true_iff]; exact HV.out)).mono ?_
    rintro e w1 ⟨rfl, hp1⟩
    go_wp2_with fail
    refine (within_any (k : Int) 0 ((cs.length : Int) - 1) _ true (by simp only [true_iff]; exact HIN.out)).mono ?_
    rintro e w1 ⟨rfl, rfl⟩
    go_wp2_with fail
    refine (blocks_any _ cs _ (H.out.keep hp1) HV.out.2.1).mono ?_
    rintro e w2 ⟨hp2, hm⟩
    rw [HV.out.2.2] at hm
    obtain ⟨va, vo, rfl, ht⟩ := hm
    obtain ⟨pb, h1, h2, R, h3, h4⟩ := ht rfl
    obtain ⟨Aa, ca, rfl, hla, hca, hcells⟩ := h3
    obtain ⟨ba, oa, rfl, hba, hcc⟩ := hcells (by omega)
    have q0 := hcc k (by omega)
    have hrow := h4 k hk
    have HP := Lib.hid (hp1.trans hp2)
    have HB2 := Lib.hid h2
    obtain ⟨Rk, HRk⟩ : ∃ r, Hid (R k = r) := ⟨_, Lib.hid rfl⟩
    rw [HRk.out] at q0 hrow
    obtain ⟨S, HS⟩ : ∃ S, Hid (stkPos cs k = S) := ⟨_, Lib.hid rfl⟩
    rw [HS.out] at hrow HTOP
    obtain ⟨Ar, cr, rfl, hlr, hcr, hrc⟩ := hrow
    obtain ⟨_, _, rfl, _⟩ := h1
    have HRC := Lib.hid hrc
    clear h2 h4 hcc hcells hrc hp1 hp2
    rcases HTOP.out with ⟨h0, hq⟩ | ⟨h0, hq, hlt, hop⟩
    · have hz : (S.length : Int) = 0 := by omega
      have HQ := Lib.hid hq
      clear hq
      go_wp2
      go_ret
      exact ⟨by rw [HQ.out]; rfl, HP.out⟩
    · obtain ⟨br, or1, rfl, hbr, hcr2⟩ := HRC.out h0
      have q1 := hcr2 (S.length - 1) (by omega)
      obtain ⟨tp, Htp⟩ : ∃ tp, Hid (S.getD (S.length - 1) 0 = tp) := ⟨_, Lib.hid rfl⟩
      simp only [Htp.out] at q1
      rw [Htp.out] at hq hlt hop
      have q2 := (HB2.out tp hlt hop).2.1
      have hpos : (0 : Int) < (S.length : Int) := by omega
      have hidx : ((S.length - 1 : Nat) : Int) = (S.length : Int) - 1 := by omega
      obtain ⟨u, Hu⟩ : ∃ u, Hid (S.length - 1 = u) := ⟨_, Lib.hid rfl⟩
      rw [Hu.out] at q1 hidx
      have hul : u < S.length := by omega
      have hx : (S.length : Int) - 1 = (u : Int) := hidx.symm
      unfold ptr at q1
      have HQ := Lib.hid hq
      clear hcr2 hq hop hidx
      go_wp2
      go_ret
      exact ⟨ret_int HQ.out, HP.out⟩
  · have HN : Hid (aroundA cs a = -1) := Lib.hid (by unfold aroundA; rw [if_neg (fun h => hin h.2)])
    have HIN := Lib.hid hin
    clear hin
    rw [HN.out]
    go_enter Try.func28, Try.ntmps28
    go_wp2_with fail
    refine (ipv_any _ cs _ H.out hsmall true (by simp only [true_iff]; exact HV.out)).mono ?_
    rintro e w1 ⟨rfl, hp1⟩
    go_wp2_with fail
    refine (within_any a 0 ((cs.length : Int) - 1) _ false (by simp only [Bool.false_eq_true, false_iff]; exact HIN.out)).mono ?_
    rintro e w1 ⟨rfl, rfl⟩
    go_wp2
    go_ret
    exact ⟨rfl, hp1⟩

end Go.Proofs.Ythocmmhhhiikpaa
