/- append of all that a slice holds (it may be nil) to a slice of the call's own; two equal rows of numbers, compared. A tree of blocks does the same wherever it begins and whatever was noted before. No condition. -/
import Derived.Test.YtkolnakcgjlcgaaKad
import Derived.Test.YtkolnakcgjlcgaaKba
import Derived.Test.YtkolnakcgjlcgaaKbi

namespace Go.Proofs.Ytkolnakcgjlcgaa
open Go.RowKit

section
variable {P : Program} {t e : TypeId} {s : Nat} {z : List Value} {bytes : Nat}
theorem wl_appendC (E : ElT P t e s z bytes) {w : World} {ops : Array Oper} {rest : List Oper} {o : Oper} {a : Act} {Q : Exit → Act → World → Prop}
    (hgd : o.guard = none) (sl x : Operand) (ho : o.op = .call { callee := .builtin .append, args := #[sl, x], argTypes := #[t, t] })
    (B : Nat) (v : Value) (n : Nat) (xs : List Value) (hs : a.eval sl = v) (hown : OwnO w B e s v n xs) (hpos : 0 < n) (vx : Value) (hx : a.eval x = vx) (f : Nat → Value) (m : Nat) (hc : Cells w vx m s f) (h1 : ∀ j, j < m * s → (f j).oneCell' = true)
    (hby : bytes ≤ 128) (hn : n + m ≤ 1099511627776) (hB : B ≤ w.heap.size)
    (h : ∀ v' w', OwnO w' B e s v' (n + m) (xs ++ (List.range (m * s)).map f) → w.grownBy w' v.ownBlock → wpList P ops Q rest (a.put o.dst v') w') : wpList P ops Q (o :: rest) a w := by
  obtain ⟨g0, off0, c0, rfl, hnc0, hc00, hgB, hgl⟩ := hown.formSome hpos
  obtain ⟨A, c, rfl, hmc, hcm, hrd⟩ := hc
  rcases A with _ | ⟨b, off, sp⟩
  · have hm0 : m = 0 := by
      rcases Nat.eq_zero_or_pos m with h0 | h0
      · exact h0
      · obtain ⟨_, _, h, _⟩ := hrd h0; cases h
    subst hm0
    obtain ⟨i, zv, h2, h3, h4, h5, h6, h7⟩ := E.parts
    refine wpList_plain hgd fun K hK' => ?_
    have hrun : (Builtin.append_ #[t, t] o.type #[.slice (some ⟨g0, off0, none⟩) n c0, .slice none 0 c]).run P w = .ok (.slice (some ⟨g0, off0, none⟩) n c0) w := by
      simp [Builtin.append_, run_underlying E.ht, sizeOf, typeInfo, h2, Builtin.lenOf, Builtin.firstCells, storeCells, hnc0]
    unfold Oper.wp execOp
    simp only [ho, resolve, invoke, builtin, Sem.run_bind, Sem.run_pure, Result.andThen_ok, List.map_toArray, List.map_cons, List.map_nil, hs, hx, hrun]
    exact hK' _ _ (h _ _ (by simpa using hown) ((Pure.refl _).grownBy _))
  · rcases Nat.eq_zero_or_pos m with h0 | h0
    · subst h0
      obtain ⟨i, zv, h2, h3, h4, h5, h6, h7⟩ := E.parts
      refine wpList_plain hgd fun K hK' => ?_
      have hrun : (Builtin.append_ #[t, t] o.type #[.slice (some ⟨g0, off0, none⟩) n c0, .slice (some ⟨b, off, sp⟩) 0 c]).run P w = .ok (.slice (some ⟨g0, off0, none⟩) n c0) w := by
        simp [Builtin.append_, run_underlying E.ht, sizeOf, typeInfo, h2, Builtin.lenOf, Builtin.firstCells, storeCells, loadCells, loadCellsFrom, hnc0]
      unfold Oper.wp execOp
      simp only [ho, resolve, invoke, builtin, Sem.run_bind, Sem.run_pure, Result.andThen_ok, List.map_toArray, List.map_cons, List.map_nil, hs, hx, hrun]
      exact hK' _ _ (h _ _ (by simpa using hown) ((Pure.refl _).grownBy _))
    · obtain ⟨b', o', he, hbl, hcc⟩ := hrd h0
      injection he with he
      injection he with e1 e2 e3
      subst e1 e2 e3
      have hmul : (n + m) * bytes ≤ 1099511627776 * 128 := Nat.mul_le_mul hn hby
      refine wl_appendF E hgd sl x ho B _ n xs hs hown b off m c ((List.range (m * s)).map f) hx (by simp) (fun j u hu => ?_) (fun u hu => ?_) (by omega) (by omega) hB
        (fun v' w' r1 r2 _ => h v' w' r1 r2)
      · have hj : j < m * s := by
          rcases Nat.lt_or_ge j (m * s) with h | h
          · exact h
          · rw [List.getElem?_eq_none (by simpa using h)] at hu; cases hu
        rw [hcc j hj, ← hu]
        simp [hj]
      · obtain ⟨j, hj, rfl⟩ := List.mem_map.1 hu
        exact h1 j (by simpa using hj)
end

theorem ints_get {w : World} {A : Option Addr} {n c : Nat} {xs : List Int} (h : Ints w (.slice A n c) xs) {k : Nat} (hk : k < xs.length) : ∃ b o, A = some ⟨b, o, none⟩ ∧ b < w.heap.size ∧ ∀ j, j < xs.length → w.cell? ⟨b, o + j, none⟩ = some (.int .i64 (xs.getD j 0)) := by
  obtain ⟨A', c', hv, _, _, hrd⟩ := h
  cases hv
  obtain ⟨b, o, h1, h2, h3⟩ := hrd (by omega)
  exact ⟨b, o, h1, h2, fun j hj => h3 j (by omega)⟩

set_option maxHeartbeats 400000 in
theorem sameInts_same (v v' : Value) (xs : List Int) (w : World) (h : Ints w v xs) (h' : Ints w v' xs) (hl : xs.length ≤ 1048576) :
    Calls Try.prog 29 #[v, v'] w fun e w' => e = .returned (.bool true) ∧ Pure w w' := by
  have HF := Lib.hid h
  have HF' := Lib.hid h'
  obtain ⟨A, c, rfl⟩ := h.form
  obtain ⟨A', c', rfl⟩ := h'.form
  clear h h'
  have hd : ((xs.length : Int) != xs.length) = false := by simp
  go_enter Try.func29, Try.ntmps29
  go_wp2
  go_loopg [5] xs.length (fun gk i wr => ∃ k : Nat, gk + k = xs.length ∧ i = .int .i64 k ∧ Pure w wr)
  case atStart => exact ⟨0, rfl, rfl, Pure.refl _⟩
  case round =>
    obtain ⟨k, hgk, rfl, hp⟩ := hrel
    have Hgk := Lib.hid hgk
    have hkn : k ≤ xs.length := by omega
    clear hgk
    by_cases hlt : k < xs.length
    · obtain ⟨b, o, rfl, hb, hc⟩ := ints_get HF.out hlt
      obtain ⟨b', o', rfl, hb', hc'⟩ := ints_get HF'.out hlt
      have q0 := (hp.cell b _ hb).trans (hc k hlt)
      have r0 := (hp.cell b' _ hb').trans (hc' k hlt)
      obtain ⟨x, Hx⟩ : ∃ x : Int, Hid (xs.getD k 0 = x) := ⟨_, Lib.hid rfl⟩
      rw [Hx.out] at q0 r0
      have hxx : (x != x) = false := by simp
      clear hc hc'
      go_wp2
      go_quiet (fail)
      go_wp2
      go_roundg (xs.length - (k + 1))
      case measure => have := Hgk.out; omega
      case rel => exact ⟨k + 1, by have := Hgk.out; omega, by go_num, by exact (by repeat (first | assumption | exact Pure.refl _ | refine Pure.drewN ?_ _ | refine Pure.drew ?_ | refine Pure.alloc ?_ _ | refine Pure.setCell ?_ (by simp <;> omega) _))⟩
    · go_wp2
      go_ret
      exact ⟨rfl, hp⟩

end Go.Proofs.Ytkolnakcgjlcgaa

namespace Go.Proofs.Ytkolnakcgjlcgaa
open Go.RowKit

structure Alike (s s' : LS) : Prop where
  r : s.R = s'.R
  m : s.M = s'.M
  a : s.A = s'.A
  p : s.P = s'.P
theorem Alike.refl (s : LS) : Alike s s := ⟨rfl, rfl, rfl, rfl⟩
theorem Alike.beat {s s' : LS} (h : Alike s s') (i j mask mask' : Nat) : Alike (beat i mask s) (beat j mask' s') := ⟨h.r, h.m, h.a, h.p⟩
theorem Alike.lane1 {s s' : LS} (h : Alike s s') (c : Cd) (m k : Nat) : Alike (lane1 c m k s) (lane1 c m k s') := by
  obtain ⟨R, M, H, A, P⟩ := s
  obtain ⟨R', M', H', A', P'⟩ := s'
  obtain ⟨h1, h2, h3, h4⟩ := h
  cases h1; cases h2; cases h3; cases h4
  exact ⟨rfl, rfl, rfl, rfl⟩
theorem Alike.lanesTo {s s' : LS} (h : Alike s s') (c : Cd) (m mask : Nat) : ∀ j, Alike (lanesTo c m mask j s) (lanesTo c m mask j s')
  | 0 => h
  | j + 1 => by
    have ih := h.lanesTo c m mask j
    unfold Go.Proofs.Ytkolnakcgjlcgaa.lanesTo
    split
    · exact ih.lane1 c m j
    · exact ih
theorem Alike.exec {s s' : LS} (h : Alike s s') (c : Cd) (n m i j mask : Nat) : Alike (exec c n m i mask s) (exec c n m j mask s') := by
  have h1 := (h.beat i j mask mask).lanesTo c m mask n
  unfold Go.Proofs.Ytkolnakcgjlcgaa.exec
  simp only
  split
  · exact ⟨h1.r, h1.m, h1.a, by rw [h1.p]⟩
  · exact h1
theorem Alike.turns {F G : Nat → LS → LS} (hF : ∀ y s s', Alike s s' → Alike (F y s) (G y s')) (n a : Nat) : ∀ (b y : Nat) {s s' : LS}, Alike s s' → Alike (turns F n a b y s) (turns G n a b y s')
  | 0, _, _, _, h => h
  | b + 1, y, s, s', h => by
    unfold Go.Proofs.Ytkolnakcgjlcgaa.turns
    rw [h.r]
    exact Alike.turns hF n a b _ (hF _ _ _ h)
theorem Alike.run (n m : Nat) : ∀ (t : Tr) (i j mask : Nat) {s s' : LS}, Alike s s' → Alike (run n m t i mask s) (run n m t j mask s')
  | .nil, _, _, _, _, _, h => h
  | .op c k, i, j, mask, s, s', h => by
    by_cases h0 : mask = 0
    · subst h0; rw [run_zero, run_zero]; exact h
    · simp only [Go.Proofs.Ytkolnakcgjlcgaa.run, if_neg h0]
      exact Alike.run n m k _ _ mask (h.exec c n m i j mask)
  | .ite a t k, i, j, mask, s, s', h => by
    by_cases h0 : mask = 0
    · subst h0; rw [run_zero, run_zero]; exact h
    · simp only [Go.Proofs.Ytkolnakcgjlcgaa.run, if_neg h0]
      rw [h.r]
      exact Alike.run n m k _ _ mask (Alike.run n m t _ _ _ (h.beat i j mask mask))
  | .itee a t e k, i, j, mask, s, s', h => by
    by_cases h0 : mask = 0
    · subst h0; rw [run_zero, run_zero]; exact h
    · simp only [Go.Proofs.Ytkolnakcgjlcgaa.run, if_neg h0]
      rw [h.r]
      exact Alike.run n m k _ _ mask (Alike.run n m e _ _ _ (Alike.run n m t _ _ _ (h.beat i j mask mask)))
  | .loop a b t k, i, j, mask, s, s', h => by
    by_cases h0 : mask = 0
    · subst h0; rw [run_zero, run_zero]; exact h
    · simp only [Go.Proofs.Ytkolnakcgjlcgaa.run, if_neg h0]
      exact Alike.run n m k _ _ mask (Alike.turns (fun y _ _ hy => Alike.run n m t _ _ y hy) n a.toNat b.toNat mask (h.beat i j mask mask))

/-- Nobody takes a branch on a register that is 0 everywhere. -/
theorem onesTo_zero {R : Nat → Nat → Int} {a : Nat} (h : ∀ l, R l a = 0) (mask : Nat) : ∀ n, onesTo R mask a n = 0
  | 0 => rfl
  | n + 1 => by
    unfold onesTo
    rw [h n, onesTo_zero h mask n]
    simp
theorem del_none (mask : Nat) : del mask 0 = mask := by unfold del; simp

/-- A program in the else of a branch that nobody takes leaves the memory that it leaves alone. -/
theorem else_mem {cs : List Cd} {c : Cd} {mem : List Int} {n : Nat} (hn : 1 ≤ n) (hv : PValid cs) (hc : Plain c) (hw : PValid (cIf 0 :: c :: cElse :: (cs ++ [cEnd]))) :
    (lockOf (cIf 0 :: c :: cElse :: (cs ++ [cEnd])) n mem).M = (lockOf cs n mem).M := by
  obtain ⟨h1, h2, _⟩ := treeOf_spec hv
  have hok : (Tr.itee 0 (.op c .nil) (treeOf cs) .nil).Ok := ⟨by unfold Reg; omega, ⟨hc, trivial⟩, h2, trivial⟩
  have e := treeOf_eq hw (t := Tr.itee 0 (.op c .nil) (treeOf cs) .nil) (by simp [Tr.flat]; exact h1) hok
  unfold lockOf
  rw [e]
  have hm : (2 ^ n - 1 : Nat) ≠ 0 := by have := Nat.pow_le_pow_right (show 0 < 2 by decide) hn; omega
  have ho : onesTo (startLS mem).R (2 ^ n - 1) (Int.toNat 0) n = 0 := onesTo_zero (R := (startLS mem).R) (fun _ => rfl) _ _
  simp only [run, if_neg hm, ho, del_none]
  exact (Alike.run n mem.length (treeOf cs) _ _ _ (show Alike (beat 0 (2 ^ n - 1) (startLS mem)) (startLS mem) from ⟨rfl, rfl, rfl, rfl⟩)).m

theorem lanesTo_hist (c : Cd) (m mask : Nat) (s : LS) : ∀ j, (lanesTo c m mask j s).H = s.H
  | 0 => rfl
  | j + 1 => by
    unfold lanesTo
    split
    · exact lanesTo_hist c m mask s j
    · exact lanesTo_hist c m mask s j
theorem exec_hist (c : Cd) (n m i mask : Nat) (s : LS) : (exec c n m i mask s).H = s.H ++ [(i, mask, s.R)] := by
  have h := lanesTo_hist c m mask (beat i mask s) n
  unfold exec
  simp only
  split
  · exact h
  · exact h
/-- What is noted behind X and Y is the same but for the places, which lie d further. -/
structure AlikeH (d : Nat) (X Y : List (Nat × Nat × (Nat → Nat → Int))) (s s' : LS) : Prop where
  al : Alike s s'
  h : ∃ L, s.H = X ++ L ∧ s'.H = Y ++ L.map (fun x => (x.1 + d, x.2))
section
variable {d : Nat} {X Y : List (Nat × Nat × (Nat → Nat → Int))}
theorem AlikeH.more {s s' u u' : LS} (h : AlikeH d X Y s s') (ha : Alike u u') (i mask : Nat) (h1 : u.H = s.H ++ [(i, mask, s.R)]) (h2 : u'.H = s'.H ++ [(i + d, mask, s'.R)]) : AlikeH d X Y u u' := by
  obtain ⟨L, e1, e2⟩ := h.h
  refine ⟨ha, L ++ [(i, mask, s.R)], by rw [h1, e1, List.append_assoc], ?_⟩
  rw [h2, e2, List.map_append, List.append_assoc, h.al.r]
  rfl
theorem AlikeH.beat {s s' : LS} (h : AlikeH d X Y s s') (i mask : Nat) : AlikeH d X Y (beat i mask s) (beat (i + d) mask s') := h.more (h.al.beat _ _ _ _) i mask rfl rfl
theorem AlikeH.exec {s s' : LS} (h : AlikeH d X Y s s') (c : Cd) (n m i mask : Nat) : AlikeH d X Y (exec c n m i mask s) (exec c n m (i + d) mask s') :=
  h.more (h.al.exec c n m i (i + d) mask) i mask (exec_hist _ _ _ _ _ _) (exec_hist _ _ _ _ _ _)
theorem AlikeH.turns {F G : Nat → LS → LS} (hF : ∀ y s s', AlikeH d X Y s s' → AlikeH d X Y (F y s) (G y s')) (n a : Nat) : ∀ (b y : Nat) {s s' : LS}, AlikeH d X Y s s' → AlikeH d X Y (turns F n a b y s) (turns G n a b y s')
  | 0, _, _, _, h => h
  | b + 1, y, s, s', h => by
    unfold Go.Proofs.Ytkolnakcgjlcgaa.turns
    rw [h.al.r]
    exact AlikeH.turns hF n a b _ (hF _ _ _ h)
theorem AlikeH.run (n m : Nat) : ∀ (t : Tr) (i j mask : Nat) {s s' : LS}, j = i + d → AlikeH d X Y s s' → AlikeH d X Y (run n m t i mask s) (run n m t j mask s')
  | .nil, _, _, _, _, _, _, h => h
  | .op c k, i, j, mask, s, s', e, h => by
    subst e
    by_cases h0 : mask = 0
    · subst h0; rw [run_zero, run_zero]; exact h
    · simp only [Go.Proofs.Ytkolnakcgjlcgaa.run, if_neg h0]
      exact AlikeH.run n m k _ _ mask (by omega) (h.exec c n m i mask)
  | .ite a t k, i, j, mask, s, s', e, h => by
    subst e
    by_cases h0 : mask = 0
    · subst h0; rw [run_zero, run_zero]; exact h
    · simp only [Go.Proofs.Ytkolnakcgjlcgaa.run, if_neg h0]
      rw [h.al.r]
      exact AlikeH.run n m k _ _ mask (by omega) (AlikeH.run n m t _ _ _ (by omega) (h.beat i mask))
  | .itee a t e k, i, j, mask, s, s', ej, h => by
    subst ej
    by_cases h0 : mask = 0
    · subst h0; rw [run_zero, run_zero]; exact h
    · simp only [Go.Proofs.Ytkolnakcgjlcgaa.run, if_neg h0]
      rw [h.al.r]
      exact AlikeH.run n m k _ _ mask (by omega) (AlikeH.run n m e _ _ _ (by omega) (AlikeH.run n m t _ _ _ (by omega) (h.beat i mask)))
  | .loop a b t k, i, j, mask, s, s', e, h => by
    subst e
    by_cases h0 : mask = 0
    · subst h0; rw [run_zero, run_zero]; exact h
    · simp only [Go.Proofs.Ytkolnakcgjlcgaa.run, if_neg h0]
      exact AlikeH.run n m k _ _ mask (by omega) (AlikeH.turns (fun y _ _ hy => AlikeH.run n m t _ _ y (by omega) hy) n a.toNat b.toNat mask (h.beat i mask))
end

/-- The wrapped run's steps: one, and then those of the program alone, three places on. -/
theorem else_hist {cs : List Cd} {c : Cd} {mem : List Int} {n : Nat} (hn : 1 ≤ n) (hv : PValid cs) (hc : Plain c) (hw : PValid (cIf 0 :: c :: cElse :: (cs ++ [cEnd]))) :
    ∃ R, (lockOf (cIf 0 :: c :: cElse :: (cs ++ [cEnd])) n mem).H = (0, 2 ^ n - 1, R) :: (lockOf cs n mem).H.map (fun x => (x.1 + 3, x.2)) := by
  obtain ⟨h1, h2, _⟩ := treeOf_spec hv
  have hok : (Tr.itee 0 (.op c .nil) (treeOf cs) .nil).Ok := ⟨by unfold Reg; omega, ⟨hc, trivial⟩, h2, trivial⟩
  have e := treeOf_eq hw (t := Tr.itee 0 (.op c .nil) (treeOf cs) .nil) (by simp [Tr.flat]; exact h1) hok
  unfold lockOf
  rw [e]
  have hm : (2 ^ n - 1 : Nat) ≠ 0 := by have := Nat.pow_le_pow_right (show 0 < 2 by decide) hn; omega
  have ho : onesTo (startLS mem).R (2 ^ n - 1) (Int.toNat 0) n = 0 := onesTo_zero (R := (startLS mem).R) (fun _ => rfl) _ _
  simp only [run, if_neg hm, ho, del_none, if_true]
  have h := AlikeH.run (d := 3) (X := []) (Y := [(0, 2 ^ n - 1, (startLS mem).R)]) n mem.length (treeOf cs) 0 (0 + 1 + (Tr.op c .nil).len + 1) (2 ^ n - 1) (by simp [Tr.len, Tr.flat])
    (show AlikeH 3 [] _ (startLS mem) (beat 0 (2 ^ n - 1) (startLS mem)) from ⟨⟨rfl, rfl, rfl, rfl⟩, [], rfl, rfl⟩)
  obtain ⟨L, e1, e2⟩ := h.h
  refine ⟨(startLS mem).R, ?_⟩
  rw [e2, e1]
  rfl
theorem else_split {cs : List Cd} {c : Cd} {mem : List Int} {n : Nat} (hn : 1 ≤ n) (hv : PValid cs) (hc : Plain c) (hw : PValid (cIf 0 :: c :: cElse :: (cs ++ [cEnd]))) :
    splitH (cIf 0 :: c :: cElse :: (cs ++ [cEnd])) n (lockOf (cIf 0 :: c :: cElse :: (cs ++ [cEnd])) n mem).H = splitH cs n (lockOf cs n mem).H := by
  obtain ⟨R, e⟩ := else_hist (mem := mem) hn hv hc hw
  rw [e]
  have hin := lockOf_in (n := n) (mem := mem) hv
  unfold splitH
  rw [List.any_cons, List.any_map]
  have h0 : (decide (((cIf 0 :: c :: cElse :: (cs ++ [cEnd])).getD 0 default).op = 10) && !decide (2 ^ n - 1 = 2 ^ n - 1)) = false := by simp
  show (_ && _ || _) = _
  rw [h0, Bool.false_or, Bool.eq_iff_iff, List.any_eq_true, List.any_eq_true]
  have key : ∀ x ∈ (lockOf cs n mem).H, (cIf 0 :: c :: cElse :: (cs ++ [cEnd])).getD (x.1 + 3) default = cs.getD x.1 default := fun x hx => by
    have hl := (hin x hx).2.1
    have hl' : x.1 < cs.length := by omega
    simp [List.getD_eq_getElem?_getD, hl', List.getElem?_append_left hl']
  constructor
  · rintro ⟨x, hx, hb⟩
    exact ⟨x, hx, by rw [← key x hx]; exact hb⟩
  · rintro ⟨x, hx, hb⟩
    exact ⟨x, hx, by show (_ && _) = true; rw [key x hx]; exact hb⟩

end Go.Proofs.Ytkolnakcgjlcgaa
