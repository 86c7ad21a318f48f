/- append of any slice to any owned one, empty ones too. Inductions over a run in lockstep: what every step keeps, the run keeps; and two runs that go side by side. No program in sight. Programs with an instruction more: a barrier at a place in no block, any plain instruction at the end; what the run in lockstep does then. No program in sight. No condition. -/
import Derived.Test.YtkolnakcgjlcgaaKbh
import Derived.Test.YtkolnakcgjlcgaaKcb

namespace Go.Proofs.Ytkolnakcgjlcgaa
open Go.RowKit

section
variable {P : Program} {t e s : Nat} {z : List Value} {bytes : Nat}
theorem wl_appendG (E : ElT P t e s z bytes) {w : World} {ops : Array Oper} {rest : List Oper} {o : Oper} {a : Act} {Q : Exit → Act → World → Prop}
    (hgd : o.guard = none) (sl x : Operand) (ho : o.op = .call { callee := .builtin .append, args := #[sl, x], argTypes := #[t, t] })
    (B : Nat) (v : Value) (n : Nat) (xs : List Value) (hs : a.eval sl = v) (hown : OwnO w B e s v n xs) (vx : Value) (hx : a.eval x = vx) (f : Nat → Value) (m : Nat) (hc : Cells w vx m s f) (h1 : ∀ j, j < m * s → (f j).oneCell' = true)
    (hby : bytes ≤ 128) (hn : n + m ≤ 1099511627776) (hB : B ≤ w.heap.size)
    (h : ∀ v' w', OwnO w' B e s v' (n + m) (xs ++ (List.range (m * s)).map f) → w.grownBy w' v.ownBlock → wpList P ops Q rest (a.put o.dst v') w') : wpList P ops Q (o :: rest) a w := by
  obtain ⟨A, c, rfl, hmc, hcm, hrd⟩ := hc
  have hold := hown
  obtain ⟨hxl, hown⟩ := hown
  rcases Nat.eq_zero_or_pos m with h0 | h0
  · subst h0
    obtain ⟨i, zv, h2, h3, h4, h5, h6, h7⟩ := E.parts
    refine wpList_plain hgd fun K hK' => ?_
    have hrun : (Builtin.append_ #[t, t] o.type #[v, .slice A 0 c]).run P w = .ok v w := by
      rcases hown with ⟨rfl, rfl⟩ | ⟨g0, off0, c0, cur, rfl, hb1, hb2, hb3, hb4, hb5, hb6⟩
      · rcases A with _ | ⟨b, off, sp⟩
        · simp [Builtin.append_, run_underlying E.ht, sizeOf, typeInfo, h2, Builtin.lenOf, Builtin.firstCells, storeCells]
        · simp [Builtin.append_, run_underlying E.ht, sizeOf, typeInfo, h2, Builtin.lenOf, Builtin.firstCells, storeCells, loadCells, loadCellsFrom]
      · rcases A with _ | ⟨b, off, sp⟩
        · simp [Builtin.append_, run_underlying E.ht, sizeOf, typeInfo, h2, Builtin.lenOf, Builtin.firstCells, storeCells, hb3]
        · simp [Builtin.append_, run_underlying E.ht, sizeOf, typeInfo, h2, Builtin.lenOf, Builtin.firstCells, storeCells, loadCells, loadCellsFrom, hb3]
    unfold Oper.wp execOp
    simp only [ho, resolve, invoke, builtin, Sem.run_bind, Sem.run_pure, Result.andThen_ok, List.map_toArray, List.map_cons, List.map_nil, hs, hx, hrun]
    exact hK' _ _ (h _ _ (by simpa using hold) ((Pure.refl _).grownBy _))
  · obtain ⟨b', o', rfl, hbl, hcc⟩ := hrd h0
    have hmul : (n + m) * bytes ≤ 1099511627776 * 128 := Nat.mul_le_mul hn hby
    refine wl_appendF E hgd sl x ho B _ n xs hs hold b' o' m c ((List.range (m * s)).map f) hx (by simp) (fun j u hu => ?_) (fun u hu => ?_) (by omega) (by omega) hB
      (fun v' w' r1 r2 _ => h v' w' r1 r2)
    · have hj : j < m * s := by
        rcases Nat.lt_or_ge j (m * s) with h | h
        · exact h
        · rw [List.getElem?_eq_none (by simpa using h)] at hu; cases hu
      rw [hcc j hj, ← hu]
      simp [hj]
    · obtain ⟨j, hj, rfl⟩ := List.mem_map.1 hu
      exact h1 j (by simpa using hj)
end

end Go.Proofs.Ytkolnakcgjlcgaa

namespace Go.Proofs.Ytkolnakcgjlcgaa

theorem turns_keep {n : Nat} {F : Nat → LS → LS} {Q : LS → Prop} (hF : ∀ y s, y < 2 ^ n → Q s → Q (F y s)) (a : Nat) : ∀ (b y : Nat) (s : LS), Q s → Q (turns F n a b y s)
  | 0, _, _, h => h
  | b + 1, _, _, h => turns_keep hF a b _ _ (hF _ _ (onesTo_lt _ _ _ _) h)
/-- What every step keeps, the run keeps. -/
theorem run_keep {cs : List Cd} (n m : Nat) (Q : LS → Prop)
    (hb : ∀ s i mask, Opens (cs.getD i default) → i < cs.length → mask ≠ 0 → mask < 2 ^ n → Q s → Q (beat i mask s))
    (he : ∀ s i mask, Plain (cs.getD i default) → i < cs.length → mask ≠ 0 → mask < 2 ^ n → Q s → Q (exec (cs.getD i default) n m i mask s)) :
    ∀ (t : Tr) (i mask : Nat) (s : LS), t.Ok → Seg cs i t → mask < 2 ^ n → Q s → Q (run n m t i mask s)
  | .nil, _, _, _, _, _, _, h => h
  | .op c k, i, mask, s, ho, hs, hm, h => by
    obtain ⟨e1, e2, e3⟩ := hs.op
    show Q (if _ then _ else _)
    split
    · exact h
    · rename_i h0
      refine run_keep n m Q hb he k _ _ _ ho.2 e3 hm ?_
      have := he s i mask (by rw [e1]; exact ho.1) e2 h0 hm h
      rwa [e1] at this
  | .ite a t k, i, mask, s, ho, hs, hm, h => by
    obtain ⟨e1, e2, e3, e4, e5⟩ := hs.ite
    show Q (if _ then _ else _)
    split
    · exact h
    · rename_i h0
      refine run_keep n m Q hb he k _ _ _ ho.2.2 e5 hm (run_keep n m Q hb he t _ _ _ ho.2.1 e2 (onesTo_lt _ _ _ _) (hb s i mask (by rw [e1]; exact opens_if a) (by omega) h0 hm h))
  | .itee a t e k, i, mask, s, ho, hs, hm, h => by
    obtain ⟨e1, e2, e3, e4, e5, e6, e7⟩ := hs.itee
    show Q (if _ then _ else _)
    split
    · exact h
    · rename_i h0
      refine run_keep n m Q hb he k _ _ _ ho.2.2.2 e7 hm (run_keep n m Q hb he e _ _ _ ho.2.2.1 e4 (del_lt2 _ hm) (run_keep n m Q hb he t _ _ _ ho.2.1 e2 (onesTo_lt _ _ _ _) (hb s i mask (by rw [e1]; exact opens_if a) (by omega) h0 hm h)))
  | .loop a b t k, i, mask, s, ho, hs, hm, h => by
    obtain ⟨e1, e2, e3, e4, e5⟩ := hs.loop
    show Q (if _ then _ else _)
    split
    · exact h
    · rename_i h0
      exact run_keep n m Q hb he k _ _ _ ho.2.2.2 e5 hm (turns_keep (fun _ _ hy hq => run_keep n m Q hb he t _ _ _ ho.2.2.1 e2 hy hq) _ _ _ _ (hb s i mask (by rw [e1]; exact opens_loop a b) (by omega) h0 hm h))
theorem turns_sim {n : Nat} {F G : Nat → LS → LS} {Rel : LS → LS → Prop} (hR : ∀ s s', Rel s s' → s.R = s'.R) (hF : ∀ y s s', Rel s s' → Rel (F y s) (G y s')) (a : Nat) : ∀ (b y : Nat) (s s' : LS), Rel s s' → Rel (turns F n a b y s) (turns G n a b y s')
  | 0, _, _, _, h => h
  | b + 1, y, s, s', h => by
    show Rel (turns F n a b (onesTo s.R y a n) (F (onesTo s.R y a n) s)) (turns G n a b (onesTo s'.R y a n) (G (onesTo s'.R y a n) s'))
    rw [hR s s' h]
    exact turns_sim hR hF a b _ _ _ (hF _ _ _ h)
/-- Two runs of the same tree, at places that differ by d, keep side by side. -/
theorem run_sim (n m d : Nat) (Rel : LS → LS → Prop) (hR : ∀ s s', Rel s s' → s.R = s'.R)
    (hb : ∀ s s' i mask, Rel s s' → Rel (beat i mask s) (beat (i + d) mask s'))
    (he : ∀ c s s' i mask, Plain c → Rel s s' → Rel (exec c n m i mask s) (exec c n m (i + d) mask s')) :
    ∀ (t : Tr) (i j mask : Nat) (s s' : LS), t.Ok → j = i + d → Rel s s' → Rel (run n m t i mask s) (run n m t j mask s')
  | .nil, _, _, _, _, _, _, _, h => h
  | .op c k, i, j, mask, s, s', ho, hj, h => by
    subst hj
    show Rel (if _ then _ else _) (if _ then _ else _)
    split
    · exact h
    · exact run_sim n m d Rel hR hb he k _ _ _ _ _ ho.2 (by omega) (he c s s' i mask ho.1 h)
  | .ite a t k, i, j, mask, s, s', ho, hj, h => by
    subst hj
    show Rel (if _ then _ else _) (if _ then _ else _)
    split
    · exact h
    · rw [← hR s s' h]
      exact run_sim n m d Rel hR hb he k _ _ _ _ _ ho.2.2 (by omega) (run_sim n m d Rel hR hb he t _ _ _ _ _ ho.2.1 (by omega) (hb s s' i mask h))
  | .itee a t e k, i, j, mask, s, s', ho, hj, h => by
    subst hj
    show Rel (if _ then _ else _) (if _ then _ else _)
    split
    · exact h
    · rw [← hR s s' h]
      exact run_sim n m d Rel hR hb he k _ _ _ _ _ ho.2.2.2 (by omega) (run_sim n m d Rel hR hb he e _ _ _ _ _ ho.2.2.1 (by omega) (run_sim n m d Rel hR hb he t _ _ _ _ _ ho.2.1 (by omega) (hb s s' i mask h)))
  | .loop a b t k, i, j, mask, s, s', ho, hj, h => by
    subst hj
    show Rel (if _ then _ else _) (if _ then _ else _)
    split
    · exact h
    · exact run_sim n m d Rel hR hb he k _ _ _ _ _ ho.2.2.2 (by omega) (turns_sim hR (fun y s s' hq => run_sim n m d Rel hR hb he t (i + 1) (i + d + 1) y s s' ho.2.2.1 (by omega) hq) _ _ _ _ _ (hb s s' i mask h))

/-- The accesses of a run, when it begins in another phase. -/
def acUp (e : Nat) (x : Ac) : Ac := { x with ph := x.ph + e }
structure AlikeA (e : Nat) (X Y : List Ac) (s s' : LS) : Prop where
  r : s.R = s'.R
  m : s.M = s'.M
  p : s'.P = s.P + e
  a : ∃ L, s.A = X ++ L ∧ s'.A = Y ++ L.map (acUp e)
theorem AlikeA.beat {e : Nat} {X Y : List Ac} {s s' : LS} (h : AlikeA e X Y s s') (i j mask mask' : Nat) : AlikeA e X Y (beat i mask s) (beat j mask' s') := ⟨h.r, h.m, h.p, h.a⟩
theorem AlikeA.lane1 {e : Nat} {X Y : List Ac} {s s' : LS} (h : AlikeA e X Y s s') (c : Cd) (m k : Nat) : AlikeA e X Y (lane1 c m k s) (lane1 c m k s') := by
  obtain ⟨L, h1, h2⟩ := h.a
  refine ⟨?_, ?_, h.p, ?_⟩
  · show (fun l => if l = k then simR c k m (s.R k) s.M else s.R l) = fun l => if l = k then simR c k m (s'.R k) s'.M else s'.R l
    rw [h.r, h.m]
  · show simM c m (s.R k) s.M = simM c m (s'.R k) s'.M
    rw [h.r, h.m]
  · by_cases ho : c.op = 8 ∨ c.op = 9
    · refine ⟨L ++ [⟨k, cellOf c m (s.R k), decide (c.op = 9), s.P⟩], ?_, ?_⟩
      · show (if c.op = 8 ∨ c.op = 9 then s.A ++ _ else s.A) = _
        rw [if_pos ho, h1, List.append_assoc]
      · show (if c.op = 8 ∨ c.op = 9 then s'.A ++ [⟨k, cellOf c m (s'.R k), decide (c.op = 9), s'.P⟩] else s'.A) = _
        rw [if_pos ho, h2, h.p, h.r]
        simp [acUp]
    · refine ⟨L, ?_, ?_⟩
      · show (if c.op = 8 ∨ c.op = 9 then s.A ++ _ else s.A) = _
        rw [if_neg ho, h1]
      · show (if c.op = 8 ∨ c.op = 9 then s'.A ++ _ else s'.A) = _
        rw [if_neg ho, h2]
theorem AlikeA.lanesTo {e : Nat} {X Y : List Ac} {s s' : LS} (h : AlikeA e X Y s s') (c : Cd) (m mask : Nat) : ∀ j, AlikeA e X Y (lanesTo c m mask j s) (lanesTo c m mask j s')
  | 0 => h
  | j + 1 => by
    show AlikeA e X Y (if _ then _ else _) (if _ then _ else _)
    split
    · exact (AlikeA.lanesTo h c m mask j).lane1 c m j
    · exact AlikeA.lanesTo h c m mask j
theorem AlikeA.exec {e : Nat} {X Y : List Ac} {s s' : LS} (h : AlikeA e X Y s s') (c : Cd) (n m i j mask : Nat) : AlikeA e X Y (exec c n m i mask s) (exec c n m j mask s') := by
  have h1 := (h.beat i j mask mask).lanesTo c m mask n
  unfold Proofs.Ytkolnakcgjlcgaa.exec
  simp only
  split
  · exact ⟨h1.r, h1.m, by show (Proofs.Ytkolnakcgjlcgaa.lanesTo _ _ _ _ _).P + 1 = _; rw [h1.p]; show _ = (Proofs.Ytkolnakcgjlcgaa.lanesTo _ _ _ _ _).P + 1 + e; omega, h1.a⟩
  · exact h1
theorem AlikeA.run {e : Nat} {X Y : List Ac} (n m d : Nat) {t : Tr} (ho : t.Ok) {i j mask : Nat} {s s' : LS} (hj : j = i + d) (h : AlikeA e X Y s s') : AlikeA e X Y (run n m t i mask s) (run n m t j mask s') :=
  run_sim n m d (AlikeA e X Y) (fun _ _ h => h.r) (fun _ _ _ _ h => h.beat _ _ _ _) (fun c _ _ _ _ _ h => h.exec c _ _ _ _ _) t i j mask s s' ho hj h
theorem AlikeA.start {e : Nat} {s s' : LS} (h1 : s.R = s'.R) (h2 : s.M = s'.M) (h3 : s'.P = s.P + e) : AlikeA e s.A s'.A s s' := ⟨h1, h2, h3, [], by simp, by simp⟩

end Go.Proofs.Ytkolnakcgjlcgaa

namespace Go.Proofs.Ytkolnakcgjlcgaa

/-- Two runs side by side: the same registers and cells, places that differ by d, phases that differ by e. -/
structure Side (d e : Nat) (X Y : List Ac) (U V : List (Nat × Nat × (Nat → Nat → Int))) (s s' : LS) : Prop where
  a : AlikeA e X Y s s'
  h : ∃ L, s.H = U ++ L ∧ s'.H = V ++ L.map (fun x => (x.1 + d, x.2))
section
variable {d e : Nat} {X Y : List Ac} {U V : List (Nat × Nat × (Nat → Nat → Int))}
theorem Side.more {s s' u u' : LS} (h : Side d e X Y U V s s') (ha : AlikeA e X Y u u') (i mask : Nat) (h1 : u.H = s.H ++ [(i, mask, s.R)]) (h2 : u'.H = s'.H ++ [(i + d, mask, s'.R)]) : Side d e X Y U V u u' := by
  obtain ⟨L, e1, e2⟩ := h.h
  refine ⟨ha, L ++ [(i, mask, s.R)], by rw [h1, e1, List.append_assoc], ?_⟩
  rw [h2, e2, List.map_append, List.append_assoc, h.a.r]
  rfl
theorem Side.run (n m : Nat) {t : Tr} (ho : t.Ok) {i j mask : Nat} {s s' : LS} (hj : j = i + d) (h : Side d e X Y U V s s') : Side d e X Y U V (run n m t i mask s) (run n m t j mask s') :=
  run_sim n m d (Side d e X Y U V) (fun _ _ h => h.a.r) (fun _ _ i mask h => h.more (h.a.beat _ _ _ _) i mask rfl rfl) (fun c _ _ i mask _ h => h.more (h.a.exec c n m i (i + d) mask) i mask (exec_hist _ _ _ _ _ _) (exec_hist _ _ _ _ _ _)) t i j mask s s' ho hj h
theorem Side.start {s s' : LS} (h1 : s.R = s'.R) (h2 : s.M = s'.M) (h3 : s'.P = s.P + e) : Side d e s.A s'.A s.H s'.H s s' := ⟨AlikeA.start h1 h2 h3, [], by simp, by simp⟩
end

def cBar : Cd := ⟨10, 0, 0, 0⟩
theorem cbar_plain : Plain cBar := by simp [Plain, cBar, CdOk, Reg, Word]

/-- Inside of a tree one is around what is around its first place, or further in. -/
theorem around_in {cs : List Cd} : ∀ (t : Tr) (i j : Nat), t.Ok → Seg cs i t → i ≤ j → j ≤ i + t.len → aroundAt cs j = aroundAt cs i ∨ (i : Int) ≤ aroundAt cs j
  | .nil, i, j, _, _, h1, h2 => by
    have h0 : Tr.nil.len = 0 := rfl
    have : j = i := by omega
    subst this; exact .inl rfl
  | .op c k, i, j, ho, hs, h1, h2 => by
    obtain ⟨e1, e2, e3⟩ := hs.op
    rw [Tr.len_op] at h2
    by_cases hj : j = i
    · subst hj; exact .inl rfl
    · have ha : aroundAt cs (i + 1) = aroundAt cs i := around_op (by rw [e1]; rintro (h | h); exact ho.1.2.1 h; exact ho.1.2.2.2.1 h) (by rw [e1]; exact ho.1.2.2.2.2)
      rcases around_in k (i + 1) j ho.2 e3 (by omega) (by omega) with h | h
      · rw [h, ha]; exact .inl rfl
      · exact .inr (by omega)
  | .ite a t k, i, j, ho, hs, h1, h2 => by
    obtain ⟨e1, e2, e3, e4, e5⟩ := hs.ite
    rw [Tr.len_ite] at h2
    by_cases hj : j = i
    · subst hj; exact .inl rfl
    by_cases hj2 : j ≤ i + 1 + t.len
    · have ha := around_open (cs := cs) (i := i) (by rw [e1]; exact opens_if a)
      rcases around_in t (i + 1) j ho.2.1 e2 (by omega) (by omega) with h | h
      · rw [h, ha]; exact .inr (Int.le_refl _)
      · exact .inr (by omega)
    · have ha := around_behind ho.2.1 e2 (by rw [e1]; exact opens_if a) e3
      rcases around_in k (i + 1 + t.len + 1) j ho.2.2 e5 (by omega) (by omega) with h | h
      · rw [h, ha]; exact .inl rfl
      · exact .inr (by omega)
  | .itee a t e k, i, j, ho, hs, h1, h2 => by
    obtain ⟨e1, e2, e3, e4, e5, e6, e7⟩ := hs.itee
    rw [Tr.len_itee] at h2
    have hab := around_behind2 ho.2.1 e2 (by rw [e1]; exact opens_if a) e3 ho.2.2.1 e4 e5
    by_cases hj : j = i
    · subst hj; exact .inl rfl
    by_cases hj2 : j ≤ i + 1 + t.len
    · have ha := around_open (cs := cs) (i := i) (by rw [e1]; exact opens_if a)
      rcases around_in t (i + 1) j ho.2.1 e2 (by omega) (by omega) with h | h
      · rw [h, ha]; exact .inr (Int.le_refl _)
      · exact .inr (by omega)
    by_cases hj3 : j ≤ i + 1 + t.len + 1 + e.len
    · rcases around_in e (i + 1 + t.len + 1) j ho.2.2.1 e4 (by omega) (by omega) with h | h
      · rw [h, hab.2]; exact .inr (Int.le_refl _)
      · exact .inr (by omega)
    · rcases around_in k (i + 1 + t.len + 1 + e.len + 1) j ho.2.2.2 e7 (by omega) (by omega) with h | h
      · rw [h, hab.1]; exact .inl rfl
      · exact .inr (by omega)
  | .loop a b t k, i, j, ho, hs, h1, h2 => by
    obtain ⟨e1, e2, e3, e4, e5⟩ := hs.loop
    rw [Tr.len_loop] at h2
    by_cases hj : j = i
    · subst hj; exact .inl rfl
    by_cases hj2 : j ≤ i + 1 + t.len
    · have ha := around_open (cs := cs) (i := i) (by rw [e1]; exact opens_loop a b)
      rcases around_in t (i + 1) j ho.2.2.1 e2 (by omega) (by omega) with h | h
      · rw [h, ha]; exact .inr (Int.le_refl _)
      · exact .inr (by omega)
    · have ha := around_behind ho.2.2.1 e2 (by rw [e1]; exact opens_loop a b) e3
      rcases around_in k (i + 1 + t.len + 1) j ho.2.2.2 e5 (by omega) (by omega) with h | h
      · rw [h, ha]; exact .inl rfl
      · exact .inr (by omega)

/-- A place in no block parts the tree. -/
theorem part_at {cs : List Cd} : ∀ (t : Tr) (i j : Nat), t.Ok → Seg cs i t → i ≤ j → j ≤ i + t.len → aroundAt cs i = -1 → aroundAt cs j = -1 → ∃ u v : Tr, u.Ok ∧ v.Ok ∧ t = u.app v ∧ i + u.len = j
  | .nil, i, j, _, _, h1, h2, _, _ => by
    have h0 : Tr.nil.len = 0 := rfl
    exact ⟨.nil, .nil, trivial, trivial, rfl, by omega⟩
  | .op c k, i, j, ho, hs, h1, h2, hi, hj' => by
    obtain ⟨e1, e2, e3⟩ := hs.op
    rw [Tr.len_op] at h2
    by_cases hj : j = i
    · subst hj; exact ⟨.nil, .op c k, trivial, ho, rfl, by have h0 : Tr.nil.len = 0 := rfl; omega⟩
    · have ha : aroundAt cs (i + 1) = aroundAt cs i := around_op (by rw [e1]; rintro (h | h); exact ho.1.2.1 h; exact ho.1.2.2.2.1 h) (by rw [e1]; exact ho.1.2.2.2.2)
      obtain ⟨u, v, hu, hv, e, hl⟩ := part_at k (i + 1) j ho.2 e3 (by omega) (by omega) (by rw [ha, hi]) hj'
      exact ⟨.op c u, v, ⟨ho.1, hu⟩, hv, by rw [e]; rfl, by rw [Tr.len_op]; omega⟩
  | .ite a t k, i, j, ho, hs, h1, h2, hi, hj' => by
    obtain ⟨e1, e2, e3, e4, e5⟩ := hs.ite
    rw [Tr.len_ite] at h2
    by_cases hj : j = i
    · subst hj; exact ⟨.nil, .ite a t k, trivial, ho, rfl, by have h0 : Tr.nil.len = 0 := rfl; omega⟩
    by_cases hj2 : j ≤ i + 1 + t.len
    · have ha := around_open (cs := cs) (i := i) (by rw [e1]; exact opens_if a)
      rcases around_in t (i + 1) j ho.2.1 e2 (by omega) (by omega) with h | h
      · omega
      · omega
    · have ha := around_behind ho.2.1 e2 (by rw [e1]; exact opens_if a) e3
      obtain ⟨u, v, hu, hv, e, hl⟩ := part_at k (i + 1 + t.len + 1) j ho.2.2 e5 (by omega) (by omega) (by rw [ha, hi]) hj'
      exact ⟨.ite a t u, v, ⟨ho.1, ho.2.1, hu⟩, hv, by rw [e]; rfl, by rw [Tr.len_ite]; omega⟩
  | .itee a t e k, i, j, ho, hs, h1, h2, hi, hj' => by
    obtain ⟨e1, e2, e3, e4, e5, e6, e7⟩ := hs.itee
    rw [Tr.len_itee] at h2
    have hab := around_behind2 ho.2.1 e2 (by rw [e1]; exact opens_if a) e3 ho.2.2.1 e4 e5
    by_cases hj : j = i
    · subst hj; exact ⟨.nil, .itee a t e k, trivial, ho, rfl, by have h0 : Tr.nil.len = 0 := rfl; omega⟩
    by_cases hj2 : j ≤ i + 1 + t.len
    · have ha := around_open (cs := cs) (i := i) (by rw [e1]; exact opens_if a)
      rcases around_in t (i + 1) j ho.2.1 e2 (by omega) (by omega) with h | h
      · omega
      · omega
    by_cases hj3 : j ≤ i + 1 + t.len + 1 + e.len
    · rcases around_in e (i + 1 + t.len + 1) j ho.2.2.1 e4 (by omega) (by omega) with h | h
      · omega
      · omega
    · obtain ⟨u, v, hu, hv, e', hl⟩ := part_at k (i + 1 + t.len + 1 + e.len + 1) j ho.2.2.2 e7 (by omega) (by omega) (by rw [hab.1, hi]) hj'
      exact ⟨.itee a t e u, v, ⟨ho.1, ho.2.1, ho.2.2.1, hu⟩, hv, by rw [e']; rfl, by rw [Tr.len_itee]; omega⟩
  | .loop a b t k, i, j, ho, hs, h1, h2, hi, hj' => by
    obtain ⟨e1, e2, e3, e4, e5⟩ := hs.loop
    rw [Tr.len_loop] at h2
    by_cases hj : j = i
    · subst hj; exact ⟨.nil, .loop a b t k, trivial, ho, rfl, by have h0 : Tr.nil.len = 0 := rfl; omega⟩
    by_cases hj2 : j ≤ i + 1 + t.len
    · have ha := around_open (cs := cs) (i := i) (by rw [e1]; exact opens_loop a b)
      rcases around_in t (i + 1) j ho.2.2.1 e2 (by omega) (by omega) with h | h
      · omega
      · omega
    · have ha := around_behind ho.2.2.1 e2 (by rw [e1]; exact opens_loop a b) e3
      obtain ⟨u, v, hu, hv, e, hl⟩ := part_at k (i + 1 + t.len + 1) j ho.2.2.2 e5 (by omega) (by omega) (by rw [ha, hi]) hj'
      exact ⟨.loop a b t u, v, ⟨ho.1, ho.2.1, ho.2.2.1, hu⟩, hv, by rw [e]; rfl, by rw [Tr.len_loop]; omega⟩

theorem app_len (u v : Tr) : (u.app v).len = u.len + v.len := by unfold Tr.len; rw [app_flat, List.length_append]
theorem app_depth_le : ∀ (u v : Tr), u.depth ≤ (u.app v).depth ∧ v.depth ≤ (u.app v).depth
  | .nil, v => ⟨Nat.zero_le _, Nat.le_refl _⟩
  | .op c k, v => app_depth_le k v
  | .ite a t k, v => by have := app_depth_le k v; simp only [Tr.app, Tr.depth]; omega
  | .itee a t e k, v => by have := app_depth_le k v; simp only [Tr.app, Tr.depth]; omega
  | .loop a b t k, v => by have := app_depth_le k v; simp only [Tr.app, Tr.depth]; omega
theorem ext_parts {s s' : LS} (h : Ext s s') : ∃ X, s'.H = s.H ++ X := h

/-- A program with a barrier more. -/
def insC (cs : List Cd) (at_ : Nat) : List Cd := cs.take at_ ++ cBar :: cs.drop at_
/-- The parts of a program before and behind a place in no block. -/
theorem parts_of {cs : List Cd} {at_ : Nat} (hv : PValid cs) (h : at_ = 0 ∨ (at_ ≤ cs.length ∧ aroundAt cs at_ = -1)) :
    ∃ u v : Tr, u.Ok ∧ v.Ok ∧ treeOf cs = u.app v ∧ u.len = at_ ∧ u.flat = cs.take at_ ∧ v.flat = cs.drop at_ := by
  obtain ⟨h1, h2, h3⟩ := treeOf_spec hv
  have hlen : (treeOf cs).len = cs.length := (congrArg List.length h1).symm
  obtain ⟨u, v, hu, hv', e, hl⟩ : ∃ u v : Tr, u.Ok ∧ v.Ok ∧ treeOf cs = u.app v ∧ u.len = at_ := by
    rcases h with rfl | ⟨h4, h5⟩
    · exact ⟨.nil, treeOf cs, trivial, h2, rfl, rfl⟩
    · obtain ⟨u, v, hu, hv', e, hl⟩ := part_at (treeOf cs) 0 at_ h2 (Seg.whole h1) (by omega) (by omega) (around_0 cs) h5
      exact ⟨u, v, hu, hv', e, by omega⟩
  have hf : cs = u.flat ++ v.flat := by rw [← app_flat, ← e]; exact h1
  refine ⟨u, v, hu, hv', e, hl, ?_, ?_⟩
  · rw [hf, ← hl]; exact (List.take_left (l₁ := u.flat)).symm
  · rw [hf, ← hl]; exact (List.drop_left (l₁ := u.flat)).symm
/-- A tree with an instruction in between is a valid program. -/
theorem put_valid {cs : List Cd} {u v : Tr} {c : Cd} (hv : PValid cs) (hu : u.Ok) (hv' : v.Ok) (e : treeOf cs = u.app v) (hc : Plain c) (h40 : cs.length + 1 ≤ 40) :
    PValid (u.app (.op c v)).flat ∧ treeOf (u.app (.op c v)).flat = u.app (.op c v) := by
  obtain ⟨h1, h2, h3⟩ := treeOf_spec hv
  have hlen : (treeOf cs).len = cs.length := (congrArg List.length h1).symm
  rw [e, app_len] at hlen
  have hd := app_depth_le u v
  rw [e] at h3
  have hok : (u.app (.op c v)).Ok := app_ok hu ⟨hc, hv'⟩
  have hdd : (u.app (.op c v)).depth ≤ 3 := app_depth (by omega) (by show v.depth ≤ 3; omega)
  have hp := valid_of_tree hok hdd (by rw [app_len, Tr.len_op]; omega)
  exact ⟨hp, treeOf_eq hp rfl hok⟩
theorem put_flat (u v : Tr) (c : Cd) : (u.app (.op c v)).flat = u.flat ++ c :: v.flat := by rw [app_flat]; rfl
theorem full_ne {n : Nat} (hn : 1 ≤ n) : (2 ^ n - 1 : Nat) ≠ 0 := by have := Nat.pow_le_pow_right (show 0 < 2 by decide) hn; omega
theorem full_lt (n : Nat) : (2 ^ n - 1 : Nat) < 2 ^ n := Nat.sub_lt (Nat.two_pow_pos n) (by decide)

/-- The phases of accesses are at most the phase at the end. -/
theorem phase_le {cs : List Cd} (n m : Nat) {t : Tr} {i mask : Nat} {s : LS} (ho : t.Ok) (hs : Seg cs i t) (hm : mask < 2 ^ n) (h : ∀ x ∈ s.A, x.ph ≤ s.P) : ∀ x ∈ (run n m t i mask s).A, x.ph ≤ (run n m t i mask s).P := by
  refine run_keep (cs := cs) n m (fun s => ∀ x ∈ s.A, x.ph ≤ s.P) (fun s i mask _ _ _ _ h => h) (fun s i mask _ _ _ _ h => ?_) t i mask s ho hs hm h
  have hl : ∀ (c : Cd) (s : LS), (∀ x ∈ s.A, x.ph ≤ s.P) → ∀ j, ∀ x ∈ (lanesTo c m mask j s).A, x.ph ≤ (lanesTo c m mask j s).P := by
    intro c s h j
    induction j with
    | zero => exact h
    | succ j ih =>
      unfold lanesTo
      split
      · intro x hx
        have hx : x ∈ (if c.op = 8 ∨ c.op = 9 then (lanesTo c m mask j s).A ++ _ else (lanesTo c m mask j s).A : List Ac) := hx
        show x.ph ≤ (lanesTo c m mask j s).P
        split at hx
        · rcases List.mem_append.1 hx with h1 | h1
          · exact ih x h1
          · simp at h1; rw [h1]; exact Nat.le_refl _
        · exact ih x hx
      · exact ih
  have h2 := hl (cs.getD i default) (beat i mask s) h n
  unfold exec
  simp only
  split
  · exact fun x hx => Nat.le_succ_of_le (h2 x hx)
  · exact h2

theorem lanes_calm {c : Cd} (h8 : c.op ≠ 8) (h9 : c.op ≠ 9) (m mask : Nat) (s : LS) : ∀ j, (lanesTo c m mask j s).M = s.M ∧ (lanesTo c m mask j s).A = s.A
  | 0 => ⟨rfl, rfl⟩
  | j + 1 => by
    have ih := lanes_calm h8 h9 m mask s j
    unfold lanesTo
    split
    · constructor
      · show simM c m _ (lanesTo c m mask j s).M = _
        unfold simM; rw [if_neg h9]; exact ih.1
      · show (if c.op = 8 ∨ c.op = 9 then _ else (lanesTo c m mask j s).A) = _
        rw [if_neg (by rintro (h | h); exact h8 h; exact h9 h)]; exact ih.2
    · exact ih
theorem lanes_bar (m mask : Nat) (s : LS) : ∀ j, (lanesTo cBar m mask j s).R = s.R
  | 0 => rfl
  | j + 1 => by
    have ih := lanes_bar m mask s j
    unfold lanesTo
    split
    · show (fun l => if l = j then simR cBar j m ((lanesTo cBar m mask j s).R j) (lanesTo cBar m mask j s).M else (lanesTo cBar m mask j s).R l) = _
      funext l
      have e : simR cBar j m ((lanesTo cBar m mask j s).R j) (lanesTo cBar m mask j s).M = (lanesTo cBar m mask j s).R j := rfl
      rw [e, ih]
      split
      · rename_i hl; rw [hl]
      · rfl
    · exact ih
/-- A barrier changes nothing but the phase. -/
theorem exec_bar (n m i mask : Nat) (s : LS) : (exec cBar n m i mask s).R = s.R ∧ (exec cBar n m i mask s).M = s.M ∧ (exec cBar n m i mask s).A = s.A ∧ (exec cBar n m i mask s).P = s.P + 1 ∧ (exec cBar n m i mask s).H = s.H ++ [(i, mask, s.R)] := by
  have h1 := lanes_calm (c := cBar) (by decide) (by decide) m mask (beat i mask s) n
  have h2 := lanes_bar m mask (beat i mask s) n
  have h3 : (lanesTo cBar m mask n (beat i mask s)).P = s.P := by
    have : ∀ j, (lanesTo cBar m mask j (beat i mask s)).P = s.P := by
      intro j
      induction j with
      | zero => rfl
      | succ j ih => unfold lanesTo; split <;> exact ih
    exact this n
  refine ⟨?_, ?_, ?_, ?_, exec_hist _ _ _ _ _ _⟩
  · exact h2
  · exact h1.1
  · exact h1.2
  · show (lanesTo cBar m mask n (beat i mask s)).P + 1 = _
    rw [h3]

theorem lockOf_app {cs : List Cd} {u v : Tr} {n : Nat} {mem : List Int} (e : treeOf cs = u.app v) : lockOf cs n mem = run n mem.length v u.len (2 ^ n - 1) (run n mem.length u 0 (2 ^ n - 1) (startLS mem)) := by
  unfold lockOf; rw [e, run_app]; simp
theorem getD_left {a b : List Cd} {i : Nat} (h : i < a.length) : (a ++ b).getD i default = a.getD i default := by
  simp [List.getD_eq_getElem?_getD, List.getElem?_append_left h]
theorem getD_right {a b : List Cd} {i : Nat} (h : a.length ≤ i) : (a ++ b).getD i default = b.getD (i - a.length) default := by
  simp [List.getD_eq_getElem?_getD, List.getElem?_append_right h]

/-- What a run with a barrier more does. -/
theorem ins_lock {cs : List Cd} {at_ n : Nat} {mem : List Int} (hn : 1 ≤ n) (hv : PValid cs) (h40 : cs.length + 1 ≤ 40) (h : at_ = 0 ∨ (at_ ≤ cs.length ∧ aroundAt cs at_ = -1)) :
    PValid (insC cs at_) ∧ (lockOf (insC cs at_) n mem).M = (lockOf cs n mem).M ∧ splitH (insC cs at_) n (lockOf (insC cs at_) n mem).H = splitH cs n (lockOf cs n mem).H ∧
    (∃ X L p, (lockOf cs n mem).A = X ++ L ∧ (lockOf (insC cs at_) n mem).A = X ++ L.map (acUp 1) ∧ (∀ x ∈ X, x.ph ≤ p) ∧ (∀ x ∈ L, p ≤ x.ph) ∧ (at_ = 0 → X = [])) := by
  obtain ⟨u, v, hu, hv', e, hl, hf1, hf2⟩ := parts_of hv h
  obtain ⟨h1, h2, h3⟩ := treeOf_spec hv
  obtain ⟨hp, ht⟩ := put_valid hv hu hv' e cbar_plain h40
  have hins : insC cs at_ = (u.app (.op cBar v)).flat := by rw [put_flat, hf1, hf2]; rfl
  have hcs : cs = u.flat ++ v.flat := by rw [← app_flat, ← e]; exact h1
  rw [hins]
  have hm := full_ne hn
  obtain ⟨S, hS⟩ : ∃ S, run n mem.length u 0 (2 ^ n - 1) (startLS mem) = S := ⟨_, rfl⟩
  have e1 : lockOf cs n mem = run n mem.length v u.len (2 ^ n - 1) S := by rw [lockOf_app e, hS]
  have e2 : lockOf (u.app (.op cBar v)).flat n mem = run n mem.length v (u.len + 1) (2 ^ n - 1) (exec cBar n mem.length u.len (2 ^ n - 1) S) := by
    rw [lockOf_app ht, hS]
    show (if (2 ^ n - 1 : Nat) = 0 then S else _ : LS) = _
    rw [if_neg hm]
  obtain ⟨b1, b2, b3, b4, b5⟩ := exec_bar n mem.length u.len (2 ^ n - 1) S
  have hside := Side.run (d := 1) (e := 1) n mem.length (mask := 2 ^ n - 1) (i := u.len) (j := u.len + 1) hv' rfl (Side.start (d := 1) (e := 1) (s := S) (s' := exec cBar n mem.length u.len (2 ^ n - 1) S) b1.symm b2.symm b4)
  -- the accesses behind the place, from a fresh begin
  have hfresh := AlikeA.run n mem.length 0 (mask := 2 ^ n - 1) (i := u.len) (j := u.len) (e := S.P) hv' rfl (AlikeA.start (e := S.P) (s := { S with A := [], P := 0 }) (s' := S) rfl rfl (by simp))
  obtain ⟨LA, a1, a2⟩ := hside.a.a
  obtain ⟨LF, f1, f2⟩ := hfresh.a
  rw [f2] at a1
  have hLA : LA = LF.map (acUp S.P) := (List.append_cancel_left a1).symm
  obtain ⟨LH, g1, g2⟩ := hside.h
  rw [b3] at a2
  have hXu : Seg (u.flat ++ v.flat) 0 u := ⟨v.flat, by simp⟩
  have hph : ∀ x ∈ S.A, x.ph ≤ S.P := by
    rw [← hS]; exact phase_le n mem.length hu hXu (full_lt n) (fun x hx => absurd hx (by simp [startLS]))
  refine ⟨hp, ?_, ?_, S.A, LA, S.P, ?_, ?_, hph, ?_, ?_⟩
  · rw [e1, e2]; exact hside.a.m.symm
  · rw [e1, e2, g1, g2, b5]
    have hUH : ∀ x ∈ S.H, x.1 < u.len := by
      intro x hx
      rw [← hS] at hx
      rcases runStepIn n mem.length u 0 (2 ^ n - 1) (startLS mem) x (full_lt n) hx with h | h
      · exact absurd h (by simp [startLS])
      · have := h.2.1; omega
    have hLH : ∀ x ∈ LH, u.len ≤ x.1 := by
      intro x hx
      have hx2 : x ∈ (run n mem.length v u.len (2 ^ n - 1) { S with H := [] }).H := by
        have hq := Side.run (d := 0) (e := 0) n mem.length (mask := 2 ^ n - 1) (i := u.len) (j := u.len) hv' rfl (Side.start (d := 0) (e := 0) (s := { S with H := [] }) (s' := S) rfl rfl (by simp))
        obtain ⟨L0, q1, q2⟩ := hq.h
        have q2' : (run n mem.length v u.len (2 ^ n - 1) S).H = S.H ++ L0 := by rw [q2]; congr 1; simp
        rw [g1] at q2'
        have := List.append_cancel_left q2'
        rw [q1, ← this]; simpa using hx
      rcases runStepIn n mem.length v u.len (2 ^ n - 1) _ x (full_lt n) hx2 with h | h
      · exact absurd h (by simp)
      · exact h.1
    unfold splitH
    rw [List.any_append, List.any_append, List.any_append, put_flat]
    have hb : (List.any [(u.len, 2 ^ n - 1, S.R)] fun x => decide (((u.flat ++ cBar :: v.flat).getD x.1 default).op = 10) && !decide (x.2.1 = 2 ^ n - 1)) = false := by simp
    rw [hb, Bool.or_false]
    congr 1
    · rw [Bool.eq_iff_iff, List.any_eq_true, List.any_eq_true]
      constructor
      · rintro ⟨x, hx, hq⟩
        refine ⟨x, hx, ?_⟩
        rw [getD_left (show x.1 < u.flat.length from hUH x hx)] at hq
        rw [hcs, getD_left (show x.1 < u.flat.length from hUH x hx)]; exact hq
      · rintro ⟨x, hx, hq⟩
        refine ⟨x, hx, ?_⟩
        rw [hcs, getD_left (show x.1 < u.flat.length from hUH x hx)] at hq
        rw [getD_left (show x.1 < u.flat.length from hUH x hx)]; exact hq
    · rw [List.any_map, Bool.eq_iff_iff, List.any_eq_true, List.any_eq_true]
      have hget : ∀ x ∈ LH, (u.flat ++ cBar :: v.flat).getD (x.1 + 1) default = cs.getD x.1 default := by
        intro x hx
        have h0 : u.flat.length ≤ x.1 := hLH x hx
        rw [hcs, getD_right (show u.flat.length ≤ x.1 + 1 by omega), getD_right h0, show x.1 + 1 - u.flat.length = (x.1 - u.flat.length) + 1 by omega]
        simp
      constructor
      · rintro ⟨x, hx, hq⟩
        refine ⟨x, hx, ?_⟩
        simp only [Function.comp] at hq
        rw [hget x hx] at hq; exact hq
      · rintro ⟨x, hx, hq⟩
        refine ⟨x, hx, ?_⟩
        simp only [Function.comp]
        rw [hget x hx]; exact hq
  · rw [e1, f2, hLA]
  · rw [e2, a2]
  · rw [hLA]
    intro x hx
    obtain ⟨y, _, rfl⟩ := List.mem_map.1 hx
    show S.P ≤ y.ph + S.P
    omega
  · intro h0
    have hu0 : u = .nil := Tr.len_zero (by omega)
    rw [← hS, hu0]; rfl

/-- What a run with an instruction more at the end does. -/
theorem snoc_lock {cs : List Cd} {c : Cd} {n : Nat} {mem : List Int} (hn : 1 ≤ n) (hv : PValid cs) (hc : Plain c) (h40 : cs.length + 1 ≤ 40) :
    PValid (cs ++ [c]) ∧ lockOf (cs ++ [c]) n mem = exec c n mem.length cs.length (2 ^ n - 1) (lockOf cs n mem) := by
  obtain ⟨h1, h2, h3⟩ := treeOf_spec hv
  have e : treeOf cs = (treeOf cs).app .nil := by
    have : ∀ t : Tr, t.app .nil = t := by
      intro t
      induction t with
      | nil => rfl
      | op c k ih => simp only [Tr.app, ih]
      | ite a t k _ ih => simp only [Tr.app, ih]
      | itee a t e k _ _ ih => simp only [Tr.app, ih]
      | loop a b t k _ ih => simp only [Tr.app, ih]
    rw [this]
  obtain ⟨hp, ht⟩ := put_valid hv h2 (v := .nil) trivial e hc h40
  have hf : ((treeOf cs).app (.op c .nil)).flat = cs ++ [c] := by rw [put_flat, ← h1]; rfl
  rw [hf] at hp ht
  refine ⟨hp, ?_⟩
  rw [lockOf_app ht]
  have hlen : (treeOf cs).len = cs.length := (congrArg List.length h1).symm
  show (if (2 ^ n - 1 : Nat) = 0 then _ else _ : LS) = _
  rw [if_neg (full_ne hn), hlen]
  rfl

end Go.Proofs.Ytkolnakcgjlcgaa
