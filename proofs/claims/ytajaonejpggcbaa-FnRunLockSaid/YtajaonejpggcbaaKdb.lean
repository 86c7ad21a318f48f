/- The reference's run that notes its accesses: what lies in memory meanwhile, and what a step changes. No condition. -/
import Derived.Test.YtajaonejpggcbaaKag
import Derived.Test.YtajaonejpggcbaaKbb

namespace Go.Proofs.Ytajaonejpggcbaa
open Go.RowKit

/-- The run under way: the list of accesses lies in the block gq, the phase in the block gp. -/
structure WRun (o : SO) (gq gp : Nat) (w : World) (va : Value) (s : LS) : Prop where
  pure : Pure o.w0 w
  codes : Codes o.w0 o.vl o.cs
  base : o.rm.B = o.w0.heap.size
  rm : RM o.rm w s.R s.M
  n1 : 1 ≤ o.rm.n
  obj : Obj8 o w (.slice none 0 0) false false
  plo : o.w0.heap.size ≤ o.p
  qb : w.heap[gq]? = some (.cells #[va] 95 (0, 0))
  qlo : o.w0.heap.size ≤ gq
  pb : w.heap[gp]? = some (.cells #[.int .i64 (s.P : Nat)] 3 (0, 0))
  phlo : o.w0.heap.size ≤ gp
  pne : ¬ o.rm.own gp
  ac : OwnO w o.w0.heap.size 161 4 va s.A.length (accsL s.A)
  good : Good s
def WOwn (o : SO) (gq gp : Nat) (va : Value) (k : Nat) : Prop := k = gq ∨ k = gp ∨ o.rm.own k ∨ va.ownBlock = some k
def WStep (o : SO) (gq gp : Nat) (w : World) (va : Value) (w' : World) (va' : Value) : Prop := Chg (WOwn o gq gp va) w w' ∧ Lies w va va'

section
variable {o : SO} {gq gp : Nat} {w w' : World} {va va' : Value} {s : LS}
theorem WRun.keep (h : WRun o gq gp w va s) (hp : Pure w w') : WRun o gq gp w' va s :=
  ⟨h.pure.trans hp, h.codes, h.base, h.rm.pure hp, h.n1, h.obj.pure hp, h.plo, (Chg.of_pure (S := fun _ => False) hp).heap h.qb id, h.qlo, (Chg.of_pure (S := fun _ => False) hp).heap h.pb id, h.phlo, h.pne, h.ac.pure hp, h.good⟩
theorem WRun.qlt (h : WRun o gq gp w va s) : gq < w.heap.size := (Array.getElem?_eq_some_iff.1 h.qb).1
theorem WRun.plt (h : WRun o gq gp w va s) : gp < w.heap.size := (Array.getElem?_eq_some_iff.1 h.pb).1
theorem WRun.own_lo (h : WRun o gq gp w va s) : ∀ k, WOwn o gq gp va k → o.w0.heap.size ≤ k := by
  rintro k (rfl | rfl | hk | hk)
  · exact h.qlo
  · exact h.phlo
  · rw [← h.base]; exact h.rm.own_lo k hk
  · exact (h.ac.lt k hk).1
theorem WRun.own_hi (h : WRun o gq gp w va s) : ∀ k, WOwn o gq gp va k → k < w.heap.size := by
  rintro k (rfl | rfl | (⟨l, hl, rfl⟩ | rfl) | hk)
  · exact h.qlt
  · exact h.plt
  · exact (Array.getElem?_eq_some_iff.1 (h.rm.row l hl)).1
  · exact h.rm.gmlo.2
  · exact (h.ac.lt k hk).2
theorem WRun.ac_ne (h : WRun o gq gp w va s) : ∀ k, va.ownBlock = some k → k ≠ o.p ∧ k ≠ o.rm.gr ∧ ¬ o.rm.own k ∧ k ≠ gq ∧ k ≠ gp := by
  intro k hk
  obtain ⟨cur, b1, _⟩ := h.rm.outer
  refine ⟨h.ac.ne_heap h.obj (by decide) k hk, h.ac.ne_heap b1 (by decide) k hk, ?_, h.ac.ne_heap h.qb (by decide) k hk, h.ac.ne_heap h.pb (by decide) k hk⟩
  rintro (⟨l, hl, e⟩ | e)
  · exact h.ac.ne_heap (h.rm.row l hl) (by decide) k hk e
  · exact h.ac.ne h.rm.mem (by decide) k hk (by rw [e]; rfl)
theorem WRun.q_ne (h : WRun o gq gp w va s) : gq ≠ o.p ∧ gq ≠ o.rm.gr ∧ ¬ o.rm.own gq ∧ gq ≠ gp ∧ va.ownBlock ≠ some gq := by
  obtain ⟨cur, b1, _⟩ := h.rm.outer
  refine ⟨ne_of_heap h.qb h.obj (by decide), ne_of_heap h.qb b1 (by decide), ?_, ne_of_heap h.qb h.pb (by decide), fun e => (h.ac_ne gq e).2.2.2.1 rfl⟩
  rintro (⟨l, hl, e⟩ | e)
  · exact ne_of_heap h.qb (h.rm.row l hl) (by decide) e
  · exact h.rm.mem.ne_heap h.qb (by decide) o.rm.gm rfl e.symm
theorem WRun.p_ne (h : WRun o gq gp w va s) : gp ≠ o.p ∧ gp ≠ o.rm.gr ∧ ¬ o.rm.own gp ∧ gp ≠ gq ∧ va.ownBlock ≠ some gp := by
  obtain ⟨cur, b1, _⟩ := h.rm.outer
  exact ⟨ne_of_heap h.pb h.obj (by decide), ne_of_heap h.pb b1 (by decide), h.pne, fun e => h.q_ne.2.2.2.1 e.symm, fun e => (h.ac_ne gp e).2.2.2.2 rfl⟩
theorem WRun.o_ne (h : WRun o gq gp w va s) : ¬ WOwn o gq gp va o.p := by
  rintro (e | e | e | e)
  · exact h.q_ne.1 e.symm
  · exact h.p_ne.1 e.symm
  · exact (h.obj.apart h.rm).1 e
  · exact (h.ac_ne _ e).1 rfl
theorem WRun.gr_ne (h : WRun o gq gp w va s) : ¬ WOwn o gq gp va o.rm.gr := by
  rintro (e | e | (⟨k, hk, e⟩ | e) | e)
  · exact h.q_ne.2.1 e.symm
  · exact h.p_ne.2.1 e.symm
  · exact h.rm.gr_ne hk e.symm
  · exact h.rm.gr_ne2 e.symm
  · exact (h.ac_ne _ e).2.1 rfl
theorem WStep.refl (o : SO) (gq gp : Nat) (w : World) (va : Value) : WStep o gq gp w va w va := ⟨Chg.refl _ _, fun _ h => .inl h⟩
theorem WStep.trans {a b c : World} {u v x : Value} (h : WStep o gq gp a u b v) (k : WStep o gq gp b v c x) : WStep o gq gp a u c x := by
  refine ⟨h.1.trans' k.1 fun i hi hs => ?_, fun g hg => ?_⟩
  · rcases hs with hs | hs | hs | hs
    · exact .inl hs
    · exact .inr (.inl hs)
    · exact .inr (.inr (.inl hs))
    · rcases h.2 i hs with h2 | h2
      · exact .inr (.inr (.inr h2))
      · omega
  · rcases k.2 g hg with h2 | h2
    · exact h.2 g h2
    · exact .inr (Nat.le_trans h.1.size h2)
theorem WStep.of_pure {a b : World} {u : Value} (h : Pure a b) : WStep o gq gp a u b u := ⟨Chg.of_pure h, fun _ hg => .inl hg⟩
theorem WOwn.lies {u q : Value} {W : World} {g : Nat} (h : ¬ WOwn o gq gp u g) (hl : Lies W u q) (hg : g < W.heap.size) : ¬ WOwn o gq gp q g := by
  rintro (e | e | e | e)
  · exact h (.inl e)
  · exact h (.inr (.inl e))
  · exact h (.inr (.inr (.inl e)))
  · rcases hl g e with h2 | h2
    · exact h (.inr (.inr (.inr h2)))
    · omega
theorem Box.wstep {a b : World} {u v : Value} {g : Nat} {c : Cd} (h : Box a g c) (hs : WStep o gq gp a u b v) (hn : ¬ WOwn o gq gp u g) : Box b g c := h.chg hs.1 hn
/-- An access is noted. -/
theorem WRun.acc {x : Ac} (h : WRun o gq gp w va s) (hp : Pure w w') {wq : World} (ht : OwnO wq o.w0.heap.size 161 4 va' (s.A.length + 1) (accsL s.A ++ [.int .i64 (x.who : Nat), .int .i64 (x.cell : Nat), .bool x.wr, .int .i64 (x.ph : Nat)]))
    (hg : w'.grownBy wq va.ownBlock) (hl : Lies w' va va') :
    WRun o gq gp (wq.setCell ⟨gq, 0, none⟩ va') va' { s with A := s.A ++ [x] } ∧ WStep o gq gp w va (wq.setCell ⟨gq, 0, none⟩ va') va' := by
  have h' := h.keep hp
  have hc : Chg (fun k => va.ownBlock = some k) w' wq := Chg.of_grown hg (fun k hk => hk)
  have hc2 : Chg (fun k => k = gq) wq (wq.setCell ⟨gq, 0, none⟩ va') := Chg.of_set wq _ _ _ rfl
  have hne := h'.ac_ne
  have hqn := h'.q_ne
  have hrm : RM o.rm wq s.R s.M := h'.rm.chg hc (fun e => (hne _ e).2.1 rfl) (fun k hk e => (hne _ e).2.2.1 (.inl ⟨k, hk, rfl⟩)) (fun e => (hne _ e).2.2.1 (.inr rfl))
  have hob : Obj8 o wq (.slice none 0 0) false false := h'.obj.chg hc (fun e => (hne _ e).1 rfl)
  have hqb : wq.heap[gq]? = some (.cells #[va] 95 (0, 0)) := hc.heap h'.qb (fun e => (hne _ e).2.2.2.1 rfl)
  have hpb : wq.heap[gp]? = some (.cells #[.int .i64 (s.P : Nat)] 3 (0, 0)) := hc.heap h'.pb (fun e => (hne _ e).2.2.2.2 rfl)
  have hpq : Pure o.w0 wq := Chg.pure h'.pure hc (fun k hk => (h'.ac.lt k hk).1)
  have hac : OwnO wq o.w0.heap.size 161 4 va' (s.A ++ [x]).length (accsL (s.A ++ [x])) := by
    rw [accsL_append]; simpa using ht
  refine ⟨⟨Chg.pure hpq hc2 (fun k hk => by rw [hk]; exact h.qlo), h.codes, h.base, ?_, h.n1, hob.chg hc2 (fun e => hqn.1 e.symm), h.plo, ?_, h.qlo, hc2.heap hpb (fun e => hqn.2.2.2.1 e.symm), h.phlo, h.pne, ?_, h.good⟩, ?_, fun g hg2 => ?_⟩
  · exact hrm.chg hc2 (fun e => hqn.2.1 e.symm) (fun k hk e => hqn.2.2.1 (.inl ⟨k, hk, e.symm⟩)) (fun e => hqn.2.2.1 (.inr e.symm))
  · rw [heap_setCell_same wq gq 0 _ _ va' hqb]; rfl
  · exact hac.chg hc2 (fun g hg3 e => hac.ne_heap hqb (by decide) g hg3 e)
  · exact ((Chg.of_pure hp).trans ((hc.mono fun k hk => .inr (.inr (.inr hk))).trans (hc2.mono fun k hk => .inl hk)))
  · rcases hl g hg2 with h1 | h1
    · exact .inl h1
    · exact .inr (Nat.le_trans hp.size h1)
/-- A lane has executed an instruction (its access is noted already). -/
theorem WRun.lane {k : Nat} {c : Cd} (h : WRun o gq gp w va s) (hk : k < o.rm.n) (hc : CdOk c) (hr : RM o.rm w' (upR s.R k (simR c k o.rm.m (s.R k) s.M)) (simM c o.rm.m (s.R k) s.M)) (hch : Chg (o.rm.lane k) w w') :
    WRun o gq gp w' va { lane1 c o.rm.m k s with A := s.A } ∧ WStep o gq gp w va w' va := by
  have hlo : ∀ b, o.rm.lane k b → o.rm.own b := by
    rintro b (hb | hb)
    · exact .inl ⟨k, hk, hb⟩
    · exact .inr hb
  have hap := h.obj.apart h.rm
  have hn8 := h.rm.n8
  refine ⟨⟨Chg.pure h.pure hch (fun b hb => by rw [← h.base]; exact h.rm.lane_lo hk b hb), h.codes, h.base, hr, h.n1, h.obj.chg hch (fun e => hap.1 (hlo _ e)), h.plo, hch.heap h.qb (fun e => h.q_ne.2.2.1 (hlo _ e)), h.qlo, hch.heap h.pb (fun e => h.pne (hlo _ e)), h.phlo, h.pne, h.ac.chg hch (fun g hg e => (h.ac_ne g hg).2.2.1 (hlo _ e)), h.good.lane1 hc (by omega)⟩,
    hch.mono fun b hb => .inr (.inr (.inl (hlo b hb))), fun g hg => .inl hg⟩
/-- The phase is written. -/
theorem WRun.phase (h : WRun o gq gp w va s) (q : Nat) : WRun o gq gp (w.setCell ⟨gp, 0, none⟩ (.int .i64 (q : Nat))) va { s with P := q } ∧ WStep o gq gp w va (w.setCell ⟨gp, 0, none⟩ (.int .i64 (q : Nat))) va := by
  have hc : Chg (fun k => k = gp) w (w.setCell ⟨gp, 0, none⟩ (.int .i64 (q : Nat))) := Chg.of_set w _ _ _ rfl
  have hpn := h.p_ne
  refine ⟨⟨Chg.pure h.pure hc (fun k hk => by rw [hk]; exact h.phlo), h.codes, h.base, h.rm.chg hc (fun e => hpn.2.1 e.symm) (fun k hk e => hpn.2.2.1 (.inl ⟨k, hk, e.symm⟩)) (fun e => hpn.2.2.1 (.inr e.symm)), h.n1, h.obj.chg hc (fun e => hpn.1 e.symm), h.plo, hc.heap h.qb (fun e => hpn.2.2.2.1 e.symm), h.qlo, ?_, h.phlo, h.pne, h.ac.chg hc (fun g hg e => (h.ac_ne g hg).2.2.2.2 e), h.good⟩, hc.mono fun k hk => .inr (.inl hk), fun g hg => .inl hg⟩
  rw [heap_setCell_same w gp 0 _ _ _ h.pb]; rfl
theorem WRun.beat (h : WRun o gq gp w va s) (i mask : Nat) : WRun o gq gp w va (beat i mask s) := ⟨h.1, h.2, h.3, h.4, h.5, h.6, h.7, h.8, h.9, h.10, h.11, h.12, h.13, h.14⟩
end

theorem lane1_setP {c : Cd} (h8 : c.op ≠ 8) (h9 : c.op ≠ 9) (m k q : Nat) (s : LS) : lane1 c m k { s with P := q } = { lane1 c m k s with P := q } := by
  unfold lane1; simp [h8, h9]
theorem lanesTo_setP {c : Cd} (h8 : c.op ≠ 8) (h9 : c.op ≠ 9) (m mask q : Nat) (s : LS) : ∀ j, lanesTo c m mask j { s with P := q } = { lanesTo c m mask j s with P := q }
  | 0 => rfl
  | j + 1 => by
    show (if _ then _ else _) = ({ (if _ then _ else _ : LS) with P := q } : LS)
    split
    · rw [lanesTo_setP h8 h9 m mask q s j, lane1_setP h8 h9]
    · exact lanesTo_setP h8 h9 m mask q s j
def WatP (o : SO) (gq gp : Nat) (w : World) (va : Value) (s : LS) (e : Ending) (w' : World) : Prop := e = .returned (.tuple #[]) ∧ ∃ va', WRun o gq gp w' va' s ∧ WStep o gq gp w va w' va'

end Go.Proofs.Ytajaonejpggcbaa
