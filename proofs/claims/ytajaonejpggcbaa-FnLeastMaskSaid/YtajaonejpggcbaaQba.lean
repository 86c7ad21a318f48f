/- A run in lockstep, as the program keeps it in memory: its object; the lanes of a mask; those whose register is not 0. A step of the program in lockstep: it is noted, and executed by the lanes of its mask. Lanes that run by themselves, as the program keeps them: what lies in memory meanwhile, and what a step changes. The program's lanes: whether one is at the end, and whether it can go on; what a machine's block tells. The program's lane at the end of a block. A step of the program's lane. The barrier of the program's lanes; a step of one lane, or of those of a mask. Whether all of the program's lanes are at the end; a step of one lane, and of those of a mask. A region that draws its order: what only reads is taken first, then every order of the rest is walked. The graph of a valid program, as the program makes it. The whole run in lockstep, as the program makes it. No condition. -/
import Derived.StillTailTactics
import Derived.Test.YtajaonejpggcbaaQac
import Derived.Test.YtajaonejpggcbaaQad
import Derived.Test.YtajaonejpggcbaaQae
import Derived.Test.YtajaonejpggcbaaQag
import Derived.Test.YtajaonejpggcbaaQah
import Derived.Test.YtajaonejpggcbaaQaj

namespace Go.Proofs.Ytajaonejpggcbaa
open Go.RowKit

theorem digit_and (u j : Nat) (h : u < 4611686018427387904) : bits .and .i64 ((u : Int) / 2 ^ j) 1 = if u.testBit j then 1 else 0 := by
  have e : ((u : Int) / 2 ^ j) = ((u / 2 ^ j : Nat) : Int) := by
    have : ((2 ^ j : Nat) : Int) = (2 : Int) ^ j := by simp
    rw [← this]; norm_cast
  have h2 : u / 2 ^ j ≤ u := Nat.div_le_self _ _
  have := bits_and (a := u / 2 ^ j) (b := 1) (by omega) (by omega)
  rw [e]
  rw [show (1 : Int) = ((1 : Nat) : Int) from rfl, this, Nat.and_one_is_mod, digit_testBit]
  split <;> rfl
theorem shlI {j : Nat} (h : j < 9) : wrap64 (2 ^ j) = ((2 ^ j : Nat) : Int) := by
  have : j = 0 ∨ j = 1 ∨ j = 2 ∨ j = 3 ∨ j = 4 ∨ j = 5 ∨ j = 6 ∨ j = 7 ∨ j = 8 := by omega
  rcases this with rfl | rfl | rfl | rfl | rfl | rfl | rfl | rfl | rfl
  all_goals (rw [← IntWalk.i64_left, IntWalk.i64_in _ ⟨by decide, by decide⟩]; rfl)
theorem powI {j : Nat} (h : j ≤ 8) : 2 ^ j ≤ 256 := by
  calc 2 ^ j ≤ 2 ^ 8 := Nat.pow_le_pow_right (by decide) h
    _ = 256 := rfl

/-- The lanes below j that are in a mask. -/
def lanesL (mask : Nat) : Nat → List Nat
  | 0 => []
  | j + 1 => if mask.testBit j then lanesL mask j ++ [j] else lanesL mask j
theorem lanesL_len (mask : Nat) : ∀ j, (lanesL mask j).length ≤ j
  | 0 => Nat.le_refl _
  | j + 1 => by
    have := lanesL_len mask j
    unfold lanesL
    split
    · simp; omega
    · omega
def LanP (mask : Nat) (w : World) (e : Ending) (w' : World) : Prop :=
  ∃ v, e = .returned v ∧ OwnO w' w.heap.size 3 1 v (lanesL mask 8).length ((lanesL mask 8).map fun k => .int .i64 (k : Nat)) ∧ Pure w w'

set_option maxHeartbeats 1000000 in
theorem ilanes_any (mask : Nat) (hm : mask < 256) (w : World) : Calls Try.prog 88 #[.int .i64 mask] w (LanP mask w) := by
  go_enter Try.func88, Try.ntmps88
  go_wp2
  go_loopg [5, 3] 8 (fun gk i q wr => ∃ j : Nat, gk + j = 8 ∧ i = .int .i64 j ∧ OwnO wr w.heap.size 3 1 q (lanesL mask j).length ((lanesL mask j).map fun k => .int .i64 (k : Nat)) ∧ Pure w wr)
  case atStart => exact ⟨0, rfl, rfl, OwnO.of_own (World.ownsRow_nil _ _ _ _), Pure.refl _⟩
  case round =>
    obtain ⟨j, hgk, rfl, hq, hp⟩ := hrel
    have Hgk := Lib.hid hgk
    have HQ := Lib.hid hq
    have hj8 : j ≤ 8 := by omega
    have hlen := lanesL_len mask j
    obtain ⟨Aq, cq, rfl⟩ := hq.form
    clear hgk hq
    by_cases hlt : j < 8
    · have hnn := digit_nonneg mask j
      have hbit := digit_and mask j (by omega)
      have hnext : lanesL mask (j + 1) = if mask.testBit j then lanesL mask j ++ [j] else lanesL mask j := rfl
      obtain ⟨D, HD⟩ : ∃ D, Hid (mask.testBit j = D) := ⟨_, rfl⟩
      rw [HD.out] at hbit hnext
      have Hnext := Lib.hid hnext
      clear hnext
      cases D
      · have hb0 : bits .and .i64 ((mask : Int) / 2 ^ j) 1 = 0 := hbit
        clear hbit
        go_wp2
        go_roundg (8 - (j + 1))
        case measure => have := Hgk.out; omega
        case rel => exact ⟨j + 1, by have := Hgk.out; omega, by go_num, by rw [Hnext.out]; exact HQ.out, hp⟩
      · have hb1 : bits .and .i64 ((mask : Int) / 2 ^ j) 1 = 1 := hbit
        clear hbit
        go_wp2_with (at_builtin; go_must (refine wl_append1F elInt rfl _ _ rfl w.heap.size (.slice Aq (lanesL mask j).length cq) (lanesL mask j).length _ rfl HQ.out wr.heap.size 1 [.int .i64 (j : Int)] rfl rfl rfl rfl (by decide) (by omega) hp.size ?_); intro q' wq hq' hgq _; have HQ' := Lib.hid hq'; have HPQ := Lib.hid (Pure.grown hp hgq (fun g hg => (HQ.out.lt g hg).1)); clear hq' hgq)
        go_roundg (8 - (j + 1))
        case measure => have := Hgk.out; omega
        case rel =>
          refine ⟨j + 1, by have := Hgk.out; omega, by go_num, ?_, HPQ.out⟩
          rw [Hnext.out]
          have := HQ'.out
          simpa using this
    · have hjl : j = 8 := by omega
      subst hjl
      go_wp2
      go_ret
      exact ⟨_, rfl, HQ.out, hp⟩

/-- Where a run of the program lies, and what it does not change. -/
structure IObj where
  rm : RMo
  w0 : World
  cs : List Cd
  vl : Value
  va : Value
  vo : Value
  pm : Nat
  p : Nat
  look : Value

def accsL (A : List Ac) : List Value := A.flatMap fun x => [.int .i64 (x.who : Nat), .int .i64 (x.cell : Nat), .bool x.wr, .int .i64 (x.ph : Nat)]
def beatsI (H : List (Nat × Nat × (Nat → Nat → Int))) : List Value := H.flatMap fun x => [.int .i64 (x.1 : Nat), .int .i64 (x.2.1 : Nat)]
theorem beatsI_append (H : List (Nat × Nat × (Nat → Nat → Int))) (x : Nat × Nat × (Nat → Nat → Int)) : beatsI (H ++ [x]) = beatsI H ++ [.int .i64 (x.1 : Nat), .int .i64 (x.2.1 : Nat)] := by
  simp [beatsI]
def lockC (o : IObj) (vb va : Value) (ph : Nat) : Array Value := #[.pointer (some ⟨o.pm, 0, none⟩), o.rm.vr, o.rm.vm, vb, va, .int .i64 (ph : Nat), o.look]
def Lock7 (o : IObj) (w : World) (vb va : Value) (ph : Nat) : Prop := w.heap[o.p]? = some (.cells (lockC o vb va ph) 98 (0, 0))
section
variable {o : IObj} {w w' : World} {vb va : Value} {ph : Nat}
theorem Lock7.cell (h : Lock7 o w vb va ph) (i : Nat) : w.cell? ⟨o.p, i, none⟩ = (lockC o vb va ph)[i]? := cell_of_row w o.p i _ _ _ h
theorem Lock7.frozen (h : Lock7 o w vb va ph) (i : Nat) : w.frozen? ⟨o.p, i, none⟩ = false := frozen_of_row w o.p i _ _ h
theorem Lock7.lt (h : Lock7 o w vb va ph) : o.p < w.heap.size := (Array.getElem?_eq_some_iff.1 h).1
theorem Lock7.chg {S : Nat → Prop} (h : Lock7 o w vb va ph) (hc : Chg S w w') (hn : ¬ S o.p) : Lock7 o w' vb va ph := hc.heap h hn
theorem Lock7.pure (h : Lock7 o w vb va ph) (hp : Pure w w') : Lock7 o w' vb va ph := h.chg (S := fun _ => False) (Chg.of_pure hp) id
theorem Lock7.setBeats (h : Lock7 o w vb va ph) (v : Value) : Lock7 o (w.setCell ⟨o.p, 3, none⟩ v) v va ph := by
  unfold Lock7; rw [heap_setCell_same w o.p 3 _ _ v h]; rfl
theorem Lock7.setPh (h : Lock7 o w vb va ph) (q : Nat) : Lock7 o (w.setCell ⟨o.p, 5, none⟩ (.int .i64 (q : Nat))) vb va q := by
  unfold Lock7; rw [heap_setCell_same w o.p 5 _ _ _ h]; rfl
theorem Lock7.apart {R : Nat → Nat → Int} {M : Nat → Int} (h : Lock7 o w vb va ph) (hr : RM o.rm w R M) : ¬ o.rm.own o.p ∧ o.p ≠ o.rm.gr ∧ o.p ≠ o.rm.gm ∧ ∀ k, k < o.rm.n → o.p ≠ o.rm.rows k := by
  have hgm : o.p ≠ o.rm.gm := fun e => hr.mem.ne_heap h (by decide) o.rm.gm rfl e.symm
  have hrow : ∀ k, k < o.rm.n → o.p ≠ o.rm.rows k := fun k hk => ne_of_heap h (hr.row k hk) (by decide)
  obtain ⟨cur, b1, _⟩ := hr.outer
  refine ⟨?_, ne_of_heap h b1 (by decide), hgm, hrow⟩
  rintro (⟨k, hk, e⟩ | e)
  · exact hrow k hk e
  · exact hgm e
end

/-- The run under way. -/
structure ORun (o : IObj) (w : World) (vb va : Value) (s : LS) : Prop where
  pure : Pure o.w0 w
  codes : Codes o.w0 o.vl o.cs
  mach : o.w0.cell? ⟨o.pm, 0, none⟩ = some o.vl ∧ o.w0.cell? ⟨o.pm, 1, none⟩ = some o.vo
  tabs : Tabs o.w0 o.va o.vo o.cs
  base : o.rm.B = o.w0.heap.size
  rm : RM o.rm w s.R s.M
  n1 : 1 ≤ o.rm.n
  obj : Lock7 o w vb va s.P
  plo : o.w0.heap.size ≤ o.p
  bt : OwnO w o.w0.heap.size 84 2 vb s.H.length (beatsI s.H)
  ac : OwnO w o.w0.heap.size 161 4 va s.A.length (accsL s.A)
  good : Good s
def IObj.own (o : IObj) (vb va : Value) (k : Nat) : Prop := k = o.p ∨ o.rm.own k ∨ vb.ownBlock = some k ∨ va.ownBlock = some k

section
variable {o : IObj} {w w' : World} {vb va vb' va' : Value} {s : LS}
theorem ORun.keep (h : ORun o w vb va s) (hp : Pure w w') : ORun o w' vb va s :=
  ⟨h.pure.trans hp, h.codes, h.mach, h.tabs, h.base, h.rm.pure hp, h.n1, h.obj.pure hp, h.plo, h.bt.pure hp, h.ac.pure hp, h.good⟩
theorem ORun.own_lo (h : ORun o w vb va s) : ∀ k, o.own vb va k → o.w0.heap.size ≤ k := by
  rintro k (rfl | hk | hk | hk)
  · exact h.plo
  · rw [← h.base]; exact h.rm.own_lo k hk
  · exact (h.bt.lt k hk).1
  · exact (h.ac.lt k hk).1
theorem ORun.bt_ne (h : ORun o w vb va s) : ∀ k, vb.ownBlock = some k → k ≠ o.p ∧ k ≠ o.rm.gr ∧ ¬ o.rm.own k ∧ va.ownBlock ≠ some k := by
  intro k hk
  obtain ⟨cur, b1, _⟩ := h.rm.outer
  refine ⟨h.bt.ne_heap h.obj (by decide) k hk, h.bt.ne_heap b1 (by decide) k hk, ?_, fun e => h.bt.ne h.ac (by decide) k hk e.symm⟩
  rintro (⟨l, hl, e⟩ | e)
  · exact h.bt.ne_heap (h.rm.row l hl) (by decide) k hk e
  · exact h.bt.ne h.rm.mem (by decide) k hk (by rw [e]; rfl)
theorem ORun.ac_ne (h : ORun o w vb va s) : ∀ k, va.ownBlock = some k → k ≠ o.p ∧ k ≠ o.rm.gr ∧ ¬ o.rm.own k ∧ vb.ownBlock ≠ some k := by
  intro k hk
  obtain ⟨cur, b1, _⟩ := h.rm.outer
  refine ⟨h.ac.ne_heap h.obj (by decide) k hk, h.ac.ne_heap b1 (by decide) k hk, ?_, fun e => h.ac.ne h.bt (by decide) k hk e.symm⟩
  rintro (⟨l, hl, e⟩ | e)
  · exact h.ac.ne_heap (h.rm.row l hl) (by decide) k hk e
  · exact h.ac.ne h.rm.mem (by decide) k hk (by rw [e]; rfl)

/-- What happens to the run's blocks between two worlds. -/
def OStep (o : IObj) (w : World) (vb va : Value) (w' : World) (vb' va' : Value) : Prop := Chg (o.own vb va) w w' ∧ Lies w vb vb' ∧ Lies w va va'
theorem OStep.refl (o : IObj) (w : World) (vb va : Value) : OStep o w vb va w vb va := ⟨Chg.refl _ _, fun _g h => .inl h, fun _g h => .inl h⟩
theorem OStep.trans {a b c : World} {u v x u' v' x' : Value} (h : OStep o a u u' b v v') (k : OStep o b v v' c x x') : OStep o a u u' c x x' := by
  refine ⟨h.1.trans' k.1 fun i hi hs => ?_, fun g hg => ?_, fun g hg => ?_⟩
  · rcases hs with hs | hs | hs | hs
    · exact .inl hs
    · exact .inr (.inl hs)
    · rcases h.2.1 i hs with h2 | h2
      · exact .inr (.inr (.inl h2))
      · omega
    · rcases h.2.2 i hs with h2 | h2
      · exact .inr (.inr (.inr h2))
      · omega
  · rcases k.2.1 g hg with h2 | h2
    · exact h.2.1 g h2
    · exact .inr (Nat.le_trans h.1.size h2)
  · rcases k.2.2 g hg with h2 | h2
    · exact h.2.2 g h2
    · exact .inr (Nat.le_trans h.1.size h2)
theorem OStep.of_pure {a b : World} {u v : Value} (h : Pure a b) : OStep o a u v b u v := ⟨Chg.of_pure h, fun _g hg => .inl hg, fun _g hg => .inl hg⟩

/-- A step is noted. -/
theorem ORun.beat {i mask : Nat} (h : ORun o w vb va s) (hp : Pure w w') {wq : World} (ht : OwnO wq o.w0.heap.size 84 2 vb' (s.H.length + 1) (beatsI s.H ++ [.int .i64 (i : Nat), .int .i64 (mask : Nat)]))
    (hg : w'.grownBy wq vb.ownBlock) (hl : Lies w' vb vb') :
    ORun o (wq.setCell ⟨o.p, 3, none⟩ vb') vb' va (beat i mask s) ∧ OStep o w vb va (wq.setCell ⟨o.p, 3, none⟩ vb') vb' va := by
  have h' := h.keep hp
  have hc : Chg (fun k => vb.ownBlock = some k) w' wq := Chg.of_grown hg (fun k hk => hk)
  have hc2 : Chg (fun k => k = o.p) wq (wq.setCell ⟨o.p, 3, none⟩ vb') := Chg.of_set wq _ _ _ rfl
  have hne := h'.bt_ne
  have hap := h'.obj.apart h'.rm
  have hrm : RM o.rm wq s.R s.M := h'.rm.chg hc (fun e => (hne _ e).2.1 rfl) (fun k hk e => (hne _ e).2.2.1 (.inl ⟨k, hk, rfl⟩)) (fun e => (hne _ e).2.2.1 (.inr rfl))
  have hob : Lock7 o wq vb va s.P := h'.obj.chg hc (fun e => (hne _ e).1 rfl)
  have hac : OwnO wq o.w0.heap.size 161 4 va s.A.length (accsL s.A) := h'.ac.chg hc (fun g hg e => (h'.ac_ne g hg).2.2.2 e)
  have hpq : Pure o.w0 wq := Chg.pure h'.pure hc (fun k hk => (h'.bt.lt k hk).1)
  have hbt : OwnO wq o.w0.heap.size 84 2 vb' (Proofs.Ytajaonejpggcbaa.beat i mask s).H.length (beatsI (Proofs.Ytajaonejpggcbaa.beat i mask s).H) := by
    show OwnO wq o.w0.heap.size 84 2 vb' (s.H ++ [(i, mask, s.R)]).length (beatsI (s.H ++ [(i, mask, s.R)]))
    rw [beatsI_append]; simpa using ht
  refine ⟨⟨Chg.pure hpq hc2 (fun k hk => by rw [hk]; exact h.plo), h.codes, h.mach, h.tabs, h.base, ?_, h.n1, hob.setBeats vb', h.plo, ?_, ?_, h.good.beat i mask⟩, ?_, fun g hg2 => ?_, fun g hg => .inl hg⟩
  · exact hrm.chg hc2 (fun e => hap.2.1 e.symm) (fun k hk e => hap.2.2.2 k hk e.symm) (fun e => hap.2.2.1 e.symm)
  · exact hbt.chg hc2 (fun g hg3 e => hbt.ne_heap hob (by decide) g hg3 e)
  · exact hac.chg hc2 (fun g hg3 e => hac.ne_heap hob (by decide) g hg3 e)
  · exact ((Chg.of_pure hp).trans ((hc.mono fun k hk => .inr (.inr (.inl hk))).trans (hc2.mono fun k hk => .inl hk)))
  · rcases hl g hg2 with h1 | h1
    · exact .inl h1
    · exact .inr (Nat.le_trans hp.size h1)
/-- A lane has executed an instruction (its access is noted already). -/
theorem ORun.lane {k : Nat} {c : Cd} (h : ORun o w vb va s) (hk : k < o.rm.n) (hc : CdOk c) (hr : RM o.rm w' (upR s.R k (simR c k o.rm.m (s.R k) s.M)) (simM c o.rm.m (s.R k) s.M)) (hch : Chg (o.rm.lane k) w w') :
    ORun o w' vb va { lane1 c o.rm.m k s with A := s.A } ∧ OStep o w vb va w' vb va := by
  have hlo : ∀ b, o.rm.lane k b → o.rm.own b := by
    rintro b (hb | hb)
    · exact .inl ⟨k, hk, hb⟩
    · exact .inr hb
  have hap := h.obj.apart h.rm
  have hn8 := h.rm.n8
  refine ⟨⟨Chg.pure h.pure hch (fun b hb => by rw [← h.base]; exact h.rm.lane_lo hk b hb), h.codes, h.mach, h.tabs, h.base, hr, h.n1, h.obj.chg hch (fun e => hap.1 (hlo _ e)), h.plo, h.bt.chg hch (fun g hg e => (h.bt_ne g hg).2.2.1 (hlo _ e)), h.ac.chg hch (fun g hg e => (h.ac_ne g hg).2.2.1 (hlo _ e)), h.good.lane1 hc (by omega)⟩,
    hch.mono fun b hb => .inr (.inl (hlo b hb)), fun g hg => .inl hg, fun g hg => .inl hg⟩
/-- The phase is written. -/
theorem ORun.phase (h : ORun o w vb va s) (q : Nat) : ORun o (w.setCell ⟨o.p, 5, none⟩ (.int .i64 (q : Nat))) vb va { s with P := q } ∧ OStep o w vb va (w.setCell ⟨o.p, 5, none⟩ (.int .i64 (q : Nat))) vb va := by
  have hc : Chg (fun k => k = o.p) w (w.setCell ⟨o.p, 5, none⟩ (.int .i64 (q : Nat))) := Chg.of_set w _ _ _ rfl
  have hap := h.obj.apart h.rm
  refine ⟨⟨Chg.pure h.pure hc (fun k hk => by rw [hk]; exact h.plo), h.codes, h.mach, h.tabs, h.base, h.rm.chg hc (fun e => hap.2.1 e.symm) (fun k hk e => hap.2.2.2 k hk e.symm) (fun e => hap.2.2.1 e.symm), h.n1, h.obj.setPh q, h.plo, h.bt.chg hc (fun g hg e => (h.bt_ne g hg).1 e), h.ac.chg hc (fun g hg e => (h.ac_ne g hg).1 e), h.good⟩, hc.mono fun k hk => .inl hk, fun g hg => .inl hg, fun g hg => .inl hg⟩
end

end Go.Proofs.Ytajaonejpggcbaa

namespace Go.Proofs.Ytajaonejpggcbaa
open Go.RowKit

def BoxI (w : World) (g : Nat) (c : Cd) : Prop := w.cell? ⟨g, 0, none⟩ = some (.int .i64 c.op) ∧ w.cell? ⟨g, 1, none⟩ = some (.int .i64 c.a) ∧ w.cell? ⟨g, 2, none⟩ = some (.int .i64 c.b) ∧ w.cell? ⟨g, 3, none⟩ = some (.int .i64 c.c)
theorem BoxI.chg {S : Nat → Prop} {w w' : World} {g : Nat} {c : Cd} (h : BoxI w g c) (hc : Chg S w w') (hn : ¬ S g) : BoxI w' g c := by
  have hg := World.block_lt_of_cell? _ _ h.1
  exact ⟨(hc.cell hg hn).trans h.1, (hc.cell hg hn).trans h.2.1, (hc.cell hg hn).trans h.2.2.1, (hc.cell hg hn).trans h.2.2.2⟩
theorem BoxI.lt {w : World} {g : Nat} {c : Cd} (h : BoxI w g c) : g < w.heap.size := World.block_lt_of_cell? _ _ h.1
theorem BoxI.pure {w w' : World} {g : Nat} {c : Cd} (h : BoxI w g c) (hp : Pure w w') : BoxI w' g c := h.chg (S := fun _ => False) (Chg.of_pure hp) id
theorem BoxI.step {o : IObj} {w w' : World} {u v u' v' : Value} {g : Nat} {c : Cd} (h : BoxI w g c) (hs : OStep o w u v w' u' v') (hn : ¬ o.own u v g) : BoxI w' g c := h.chg hs.1 hn
theorem BoxI.alloc (w : World) (c : Cd) : BoxI (w.alloc (.cells #[.int .i64 c.op, .int .i64 c.a, .int .i64 c.b, .int .i64 c.c] 68)) w.heap.size c := by
  have := boxed (Pure.refl (w.alloc (.cells #[.int .i64 c.op, .int .i64 c.a, .int .i64 c.b, .int .i64 c.c] 68)))
  exact ⟨this.1, this.2.1, this.2.2.1, this.2.2.2.1⟩
theorem keepP {w w' : World} {b i : Nat} {v : Value} (h : Pure w w') (hc : w.cell? ⟨b, i, none⟩ = some v) : w'.cell? ⟨b, i, none⟩ = some v := (h.cell b i (World.block_lt_of_cell? _ _ hc)).trans hc
theorem keepC {S : Nat → Prop} {w w' : World} {b i : Nat} {v : Value} (h : Chg S w w') (hn : ¬ S b) (hc : w.cell? ⟨b, i, none⟩ = some v) : w'.cell? ⟨b, i, none⟩ = some v := (h.cell (World.block_lt_of_cell? _ _ hc) hn).trans hc
end Go.Proofs.Ytajaonejpggcbaa

namespace Go.Proofs.Ytajaonejpggcbaa
open Go.RowKit

structure MO where
  w0 : World
  B : Nat
  C : Nat
  cs : List Cd
  vl : Value
  pm : Nat
  n : Nat
  m : Nat
  gl : Nat
  cl : Nat
  gm : Nat
  cm : Nat
  gc : Nat
  rows : Nat → Nat
def MO.vm (o : MO) : Value := .slice (some ⟨o.gm, 0, none⟩) o.m o.cm
def MO.row (o : MO) (k : Nat) : Value := .slice (some ⟨o.rows k, 0, none⟩) 4 4
def MO.vL (o : MO) : Value := .slice (some ⟨o.gl, 0, none⟩) o.n o.cl
def MO.lw (o : MO) (k : Nat) : Lw.RMo := ⟨o.w0.heap.size, k, o.m, o.gm, o.cm, 4, o.rows⟩

/-- The machine of a program, in blocks of the heap from B to C. -/
def Mach (B C : Nat) (w : World) (p : Nat) (vl : Value) (cs : List Cd) : Prop :=
  ∃ (g c : Nat) (pb : Nat → Nat), (B ≤ p ∧ p < C) ∧ (B ≤ g ∧ g < C) ∧ w.cell? ⟨p, 0, none⟩ = some vl ∧ w.cell? ⟨p, 1, none⟩ = some (.slice (some ⟨g, 0, none⟩) cs.length c) ∧ cs.length ≤ c ∧ c ≤ 9223372036854775807 ∧
    (∀ j, j < cs.length → w.cell? ⟨g, j, none⟩ = some (ownV pb (ownOf cs j))) ∧
    ∀ q, q < cs.length → Opens (cs.getD q default) → (B ≤ pb q ∧ pb q < C) ∧ w.cell? ⟨pb q, 0, none⟩ = some (.int .i64 q) ∧ w.cell? ⟨pb q, 1, none⟩ = some (.int .i64 (endAt cs q).2) ∧ w.cell? ⟨pb q, 2, none⟩ = some (.int .i64 (endAt cs q).1)
theorem Mach.chg {S : Nat → Prop} {B C p : Nat} {w w' : World} {vl : Value} {cs : List Cd} (h : Mach B C w p vl cs) (hC : C ≤ w.heap.size) (hc : Chg S w w') (hS : ∀ b, S b → b < B ∨ C ≤ b) : Mach B C w' p vl cs := by
  obtain ⟨g, c, pb, hp, hg, h1, h2, h3, h4, h5, h6⟩ := h
  have hk : ∀ b i, B ≤ b → b < C → w'.cell? ⟨b, i, none⟩ = w.cell? ⟨b, i, none⟩ := fun b i q1 q2 => hc.cell (by omega) (fun hs => by rcases hS b hs with h | h <;> omega)
  refine ⟨g, c, pb, hp, hg, (hk _ _ hp.1 hp.2).trans h1, (hk _ _ hp.1 hp.2).trans h2, h3, h4, fun j hj => (hk _ _ hg.1 hg.2).trans (h5 j hj), fun q hq ho => ?_⟩
  obtain ⟨a0, a1, a2, a3⟩ := h6 q hq ho
  exact ⟨a0, (hk _ _ a0.1 a0.2).trans a1, (hk _ _ a0.1 a0.2).trans a2, (hk _ _ a0.1 a0.2).trans a3⟩

def LaneC (o : MO) (cur : Array Value) (vt : Nat → Value) (L : Nat → Ln) (k : Nat) : Prop :=
  cur[k * 4]? = some (o.row k) ∧ cur[k * 4 + 1]? = some (.int .i64 ((L k).at_ : Nat)) ∧ cur[k * 4 + 2]? = some (vt k) ∧ cur[k * 4 + 3]? = some (.bool (L k).W)
structure MRun (o : MO) (w : World) (vt : Nat → Value) (L : Nat → Ln) (M : Nat → Int) : Prop where
  pure : Pure o.w0 w
  codes : Codes o.w0 o.vl o.cs
  lo : o.w0.heap.size ≤ o.B
  bc : o.B ≤ o.C
  hC : o.C ≤ w.heap.size
  mach : Mach o.B o.C w o.pm o.vl o.cs
  n1 : 1 ≤ o.n
  n8 : o.n ≤ 8
  m1 : 1 ≤ o.m
  m32 : o.m ≤ 32
  cl1 : o.n ≤ o.cl
  cl2 : o.cl ≤ 9223372036854775807
  crowd : w.heap[o.gc]? = some (.cells #[o.vL, o.vm] 33 (0, 0))
  gcB : o.w0.heap.size ≤ o.gc
  lanes : ∃ cur, w.heap[o.gl]? = some (.cells cur 55 (0, 0)) ∧ ∀ k, k < o.n → LaneC o cur vt L k
  glB : o.w0.heap.size ≤ o.gl ∧ o.gl < o.B
  row : ∀ k, k < o.n → OwnO w o.w0.heap.size 3 1 (o.row k) 4 (row4 (L k).R).toList
  rowB : ∀ k, k < o.n → o.rows k < o.B
  inj : ∀ k l, k < o.n → l < o.n → o.rows k = o.rows l → k = l
  mem : OwnO w o.w0.heap.size 3 1 o.vm o.m (memL o.m M)
  gmB : o.gm < o.B
  ne : ∀ k, k < o.n → o.rows k ≠ o.gm
  trn : ∀ k, k < o.n → OwnO w o.C 3 1 (vt k) (L k).T.length ((L k).T.map (.int .i64))
  tinj : ∀ k l, k < o.n → l < o.n → k ≠ l → ∀ g, (vt k).ownBlock = some g → (vt l).ownBlock ≠ some g
  good : ∀ k, k < o.n → ∀ r, Word ((L k).R r)
  mgood : ∀ j, Word (M j)
def MOwn (o : MO) (vt : Nat → Value) (b : Nat) : Prop := b = o.gl ∨ b = o.gm ∨ (∃ k, k < o.n ∧ b = o.rows k) ∨ ∃ k, k < o.n ∧ (vt k).ownBlock = some b
def MStep (o : MO) (w : World) (vt : Nat → Value) (w' : World) (vt' : Nat → Value) : Prop := Chg (MOwn o vt) w w' ∧ ∀ k, k < o.n → Lies w (vt k) (vt' k)
def upL (L : Nat → Ln) (k : Nat) (l : Ln) : Nat → Ln := fun j => if j = k then l else L j
def upV (vt : Nat → Value) (k : Nat) (v : Value) : Nat → Value := fun j => if j = k then v else vt j
section
variable {o : MO} {w w' : World} {vt : Nat → Value} {L : Nat → Ln} {M : Nat → Int}
theorem MRun.glLt (h : MRun o w vt L M) : o.gl < w.heap.size := Nat.lt_of_lt_of_le h.glB.2 (Nat.le_trans h.bc h.hC)
theorem MRun.rowLo (h : MRun o w vt L M) {k : Nat} (hk : k < o.n) : o.w0.heap.size ≤ o.rows k ∧ o.rows k < w.heap.size := (h.row k hk).lt (o.rows k) rfl
theorem MRun.gmLo (h : MRun o w vt L M) : o.w0.heap.size ≤ o.gm ∧ o.gm < w.heap.size := h.mem.lt o.gm rfl
theorem MRun.trnLo (h : MRun o w vt L M) {k g : Nat} (hk : k < o.n) (hg : (vt k).ownBlock = some g) : o.C ≤ g ∧ g < w.heap.size := (h.trn k hk).lt g hg
theorem MRun.own_lo (h : MRun o w vt L M) : ∀ b, MOwn o vt b → o.w0.heap.size ≤ b := by
  rintro b (rfl | rfl | ⟨k, hk, rfl⟩ | ⟨k, hk, hg⟩)
  · exact h.glB.1
  · exact h.gmLo.1
  · exact (h.rowLo hk).1
  · exact Nat.le_trans h.lo (Nat.le_trans h.bc (h.trnLo hk hg).1)
theorem MRun.own_mach (h : MRun o w vt L M) : ∀ b, MOwn o vt b → b < o.B ∨ o.C ≤ b := by
  rintro b (rfl | rfl | ⟨k, hk, rfl⟩ | ⟨k, hk, hg⟩)
  · exact .inl h.glB.2
  · exact .inl h.gmB
  · exact .inl (h.rowB k hk)
  · exact .inr (h.trnLo hk hg).1
theorem MRun.gm_heap (h : MRun o w vt L M) : ∃ cur, w.heap[o.gm]? = some (.cells cur 3 (0, 0)) := h.mem.heap rfl
theorem MRun.row_heap (h : MRun o w vt L M) {k : Nat} (hk : k < o.n) : ∃ cur, w.heap[o.rows k]? = some (.cells cur 3 (0, 0)) := (h.row k hk).heap rfl
theorem MRun.trn_heap (h : MRun o w vt L M) {k g : Nat} (hk : k < o.n) (hg : (vt k).ownBlock = some g) : ∃ cur, w.heap[g]? = some (.cells cur 3 (0, 0)) := (h.trn k hk).heap hg
theorem MRun.gl_ne (h : MRun o w vt L M) : o.gl ≠ o.gm ∧ (∀ k, k < o.n → o.gl ≠ o.rows k) ∧ (∀ k, k < o.n → (vt k).ownBlock ≠ some o.gl) ∧ o.gl ≠ o.gc := by
  obtain ⟨cur, b1, _⟩ := h.lanes
  obtain ⟨c2, b2⟩ := h.gm_heap
  refine ⟨ne_of_heap b1 b2 (by decide), fun k hk => ?_, fun k hk hg => ?_, ne_of_heap b1 h.crowd (by decide)⟩
  · obtain ⟨c3, b3⟩ := h.row_heap hk
    exact ne_of_heap b1 b3 (by decide)
  · obtain ⟨c3, b3⟩ := h.trn_heap hk hg
    exact ne_of_heap b1 b3 (by decide) rfl
theorem MRun.gc_own (h : MRun o w vt L M) : ¬ MOwn o vt o.gc := by
  obtain ⟨c2, b2⟩ := h.gm_heap
  rintro (e | e | ⟨k, hk, e⟩ | ⟨k, hk, hg⟩)
  · exact h.gl_ne.2.2.2 e.symm
  · exact ne_of_heap h.crowd b2 (by decide) e
  · obtain ⟨c3, b3⟩ := h.row_heap hk
    exact ne_of_heap h.crowd b3 (by decide) e
  · obtain ⟨c3, b3⟩ := h.trn_heap hk hg
    exact ne_of_heap h.crowd b3 (by decide) rfl
theorem MRun.row_trn (h : MRun o w vt L M) {k l g : Nat} (hk : k < o.n) (hl : l < o.n) (hg : (vt l).ownBlock = some g) : g ≠ o.rows k ∧ g ≠ o.gm := by
  have h1 := (h.trnLo hl hg).1
  have h2 := h.rowB k hk
  have h3 := h.gmB
  have h4 := h.bc
  omega
theorem MRun.keep (h : MRun o w vt L M) (hp : Pure w w') : MRun o w' vt L M := by
  obtain ⟨cur, b1, b2⟩ := h.lanes
  have hc : Chg (fun _ => False) w w' := Chg.of_pure hp
  exact ⟨h.pure.trans hp, h.codes, h.lo, h.bc, Nat.le_trans h.hC hp.size, h.mach.chg h.hC hc (fun b hb => hb.elim), h.n1, h.n8, h.m1, h.m32, h.cl1, h.cl2, hc.heap h.crowd id, h.gcB, ⟨cur, hc.heap b1 id, b2⟩, h.glB,
    fun k hk => (h.row k hk).pure hp, h.rowB, h.inj, h.mem.pure hp, h.gmB, h.ne, fun k hk => (h.trn k hk).pure hp, h.tinj, h.good, h.mgood⟩
theorem MStep.refl (o : MO) (w : World) (vt : Nat → Value) : MStep o w vt w vt := ⟨Chg.refl _ _, fun _ _ _ h => .inl h⟩
theorem MStep.of_pure {a b : World} {vt : Nat → Value} (h : Pure a b) : MStep o a vt b vt := ⟨Chg.of_pure h, fun _ _ _ hg => .inl hg⟩
theorem MStep.trans {a b c : World} {u v x : Nat → Value} (h : MStep o a u b v) (k : MStep o b v c x) : MStep o a u c x := by
  refine ⟨h.1.trans' k.1 fun i hi hs => ?_, fun l hl g hg => ?_⟩
  · rcases hs with hs | hs | hs | ⟨l, hl, hs⟩
    · exact .inl hs
    · exact .inr (.inl hs)
    · exact .inr (.inr (.inl hs))
    · rcases h.2 l hl i hs with h2 | h2
      · exact .inr (.inr (.inr ⟨l, hl, h2⟩))
      · omega
  · rcases k.2 l hl g hg with h2 | h2
    · exact h.2 l hl g h2
    · exact .inr (Nat.le_trans h.1.size h2)
theorem MRun.regs (h : MRun o w vt L M) {k : Nat} (hk : k < o.n) : Lw.RM (o.lw k) w (fun l => (L l).R) M :=
  ⟨h.m1, h.m32, h.row k hk, h.mem, h.ne k hk⟩
theorem MRun.regCell (h : MRun o w vt L M) {k : Nat} (hk : k < o.n) {r : Nat} (hr : r < 4) : w.cell? ⟨o.rows k, r, none⟩ = some (.int .i64 ((L k).R r)) :=
  (h.regs hk).regCell (k := k) ⟨rfl, Nat.lt_of_lt_of_le hk h.n8⟩ hr
/-- The frame of a change to some blocks of a run's own. -/
theorem MRun.frame {S : Nat → Prop} {vt' : Nat → Value} {L' : Nat → Ln} {M' : Nat → Int} (h : MRun o w vt L M) (hc : Chg S w w') (hS : ∀ b, S b → MOwn o vt b)
    (hl : ∃ cur, w'.heap[o.gl]? = some (.cells cur 55 (0, 0)) ∧ ∀ k, k < o.n → LaneC o cur vt' L' k)
    (hr : ∀ k, k < o.n → OwnO w' o.w0.heap.size 3 1 (o.row k) 4 (row4 (L' k).R).toList) (hm : OwnO w' o.w0.heap.size 3 1 o.vm o.m (memL o.m M'))
    (ht : ∀ k, k < o.n → OwnO w' o.C 3 1 (vt' k) (L' k).T.length ((L' k).T.map (.int .i64))) (hi : ∀ k l, k < o.n → l < o.n → k ≠ l → ∀ g, (vt' k).ownBlock = some g → (vt' l).ownBlock ≠ some g)
    (hg : ∀ k, k < o.n → ∀ r, Word ((L' k).R r)) (hmg : ∀ j, Word (M' j)) : MRun o w' vt' L' M' :=
  ⟨Chg.pure h.pure hc (fun b hb => h.own_lo b (hS b hb)), h.codes, h.lo, h.bc, Nat.le_trans h.hC hc.size, h.mach.chg h.hC hc (fun b hb => h.own_mach b (hS b hb)), h.n1, h.n8, h.m1, h.m32, h.cl1, h.cl2,
    hc.heap h.crowd (fun e => h.gc_own (hS _ e)), h.gcB, hl, h.glB, hr, h.rowB, h.inj, hm, h.gmB, h.ne, ht, hi, hg, hmg⟩
/-- A cell of a lane is written: its place, or whether it waits. -/
theorem MRun.setCell (h : MRun o w vt L M) {k i : Nat} (hk : k < o.n) {v : Value} {l : Ln} (hR : l.R = (L k).R) (hT : l.T = (L k).T) (hv : (i = 1 ∧ v = .int .i64 (l.at_ : Nat) ∧ l.W = (L k).W) ∨ (i = 3 ∧ v = .bool l.W ∧ l.at_ = (L k).at_)) :
    MRun o (w.setCell ⟨o.gl, k * 4 + i, none⟩ v) vt (upL L k l) M ∧ MStep o w vt (w.setCell ⟨o.gl, k * 4 + i, none⟩ v) vt := by
  obtain ⟨cur, b1, b2⟩ := h.lanes
  have hc : Chg (fun b => b = o.gl) w (w.setCell ⟨o.gl, k * 4 + i, none⟩ v) := Chg.of_set w _ _ _ rfl
  have hne := h.gl_ne
  refine ⟨h.frame hc (fun b hb => .inl hb) ⟨_, heap_setCell_same w o.gl (k * 4 + i) _ _ v b1, fun j hj => ?_⟩ (fun j hj => ?_) (h.mem.chg hc fun g hg e => ?_) (fun j hj => ?_) h.tinj (fun j hj r => ?_) h.mgood, hc.mono fun b hb => .inl hb, fun _ _ _ hg => .inl hg⟩
  · obtain ⟨c0, c1, c2, c3⟩ := b2 j hj
    have hsz : k * 4 + i < cur.size := by
      obtain ⟨d0, d1, d2, d3⟩ := b2 k hk
      have := (Array.getElem?_eq_some_iff.1 d3).1
      omega
    unfold LaneC upL
    by_cases e : j = k
    · subst e
      rcases hv with ⟨rfl, rfl, hw⟩ | ⟨rfl, rfl, ha⟩
      · refine ⟨?_, ?_, ?_, ?_⟩
        · rw [Array.getElem?_setIfInBounds_ne (by omega)]; exact c0
        · rw [Array.getElem?_setIfInBounds_self_of_lt hsz]; simp
        · rw [Array.getElem?_setIfInBounds_ne (by omega)]; exact c2
        · rw [Array.getElem?_setIfInBounds_ne (by omega), c3]; simp [hw]
      · refine ⟨?_, ?_, ?_, ?_⟩
        · rw [Array.getElem?_setIfInBounds_ne (by omega)]; exact c0
        · rw [Array.getElem?_setIfInBounds_ne (by omega), c1]; simp [ha]
        · rw [Array.getElem?_setIfInBounds_ne (by omega)]; exact c2
        · rw [Array.getElem?_setIfInBounds_self_of_lt hsz]; simp
    · have hi : i = 1 ∨ i = 3 := by omega
      rw [if_neg e]
      refine ⟨?_, ?_, ?_, ?_⟩
      · rw [Array.getElem?_setIfInBounds_ne (by omega)]; exact c0
      · rw [Array.getElem?_setIfInBounds_ne (by omega)]; exact c1
      · rw [Array.getElem?_setIfInBounds_ne (by omega)]; exact c2
      · rw [Array.getElem?_setIfInBounds_ne (by omega)]; exact c3
  · have hr := (h.row j hj).chg hc fun g hg e => by
      simp [MO.row, Value.ownBlock] at hg
      exact hne.2.1 j hj (by rw [← e, hg])
    unfold upL
    split
    · rename_i e; subst e; rw [hR]; exact hr
    · exact hr
  · simp [MO.vm, Value.ownBlock] at hg
    exact hne.1 (by rw [← e, hg])
  · have ht := (h.trn j hj).chg hc fun g hg e => hne.2.2.1 j hj (by rw [hg, e])
    unfold upL
    split
    · rename_i e; subst e; rw [hT]; exact ht
    · exact ht
  · unfold upL
    split
    · rename_i e; subst e; rw [hR]; exact h.good j hj r
    · exact h.good j hj r
theorem MRun.setW (h : MRun o w vt L M) {k : Nat} (hk : k < o.n) (b : Bool) : MRun o (w.setCell ⟨o.gl, k * 4 + 3, none⟩ (.bool b)) vt (upL L k { L k with W := b }) M ∧ MStep o w vt (w.setCell ⟨o.gl, k * 4 + 3, none⟩ (.bool b)) vt :=
  h.setCell hk rfl rfl (.inr ⟨rfl, rfl, rfl⟩)
/-- A lane has executed an instruction. -/
theorem MRun.lane (h : MRun o w vt L M) {k : Nat} (hk : k < o.n) {c : Cd} (hc : CdOk c) (hs : Lw.SimPost (o.lw k) c k (fun l => (L l).R) M w (.returned (.tuple #[])) w') :
    MRun o w' vt (upL L k { L k with R := simR c k o.m (L k).R M }) (simM c o.m (L k).R M) ∧ MStep o w vt w' vt := by
  obtain ⟨_, hr, hch⟩ := hs
  have hne := h.gl_ne
  obtain ⟨cur, b1, b2⟩ := h.lanes
  have hS : ∀ b, (o.lw k).lane k b → MOwn o vt b := by
    rintro b (hb | hb)
    · exact .inr (.inr (.inl ⟨k, hk, hb⟩))
    · exact .inr (.inl hb)
  have hk8 : k ≤ 255 := by have := h.n8; omega
  refine ⟨h.frame hch hS ⟨cur, hch.heap b1 ?_, fun j hj => ?_⟩ (fun j hj => ?_) hr.mem (fun j hj => ?_) h.tinj (fun j hj r => ?_) (simM_word (h.good k hk) h.mgood), hch.mono hS, fun _ _ _ hg => .inl hg⟩
  · rintro (e | e)
    · exact hne.2.1 k hk e
    · exact hne.1 e
  · obtain ⟨c0, c1, c2, c3⟩ := b2 j hj
    unfold LaneC upL
    split
    · rename_i e; subst e; exact ⟨c0, c1, c2, c3⟩
    · exact ⟨c0, c1, c2, c3⟩
  · unfold upL
    by_cases e : j = k
    · subst e
      have := hr.row
      rw [if_pos rfl]
      have e2 : upR (fun l => (L l).R) j (simR c j (o.lw j).m (L j).R M) j = simR c j o.m (L j).R M := if_pos rfl
      rw [show (o.lw j).k = j from rfl, e2] at this
      exact this
    · rw [if_neg e]
      refine (h.row j hj).chg hch fun g hg => ?_
      simp [MO.row, Value.ownBlock] at hg
      subst hg
      rintro (e2 | e2)
      · exact e (h.inj j k hj hk e2)
      · exact h.ne j hj e2
  · have ht := (h.trn j hj).chg hch fun g hg => by
      rintro (e | e)
      · exact (h.row_trn hk hj hg).1 e
      · exact (h.row_trn hk hj hg).2 e
    unfold upL
    split
    · rename_i e; subst e; exact ht
    · exact ht
  · unfold upL
    split
    · rename_i e; subst e; exact simR_word hc hk8 (h.good j hj) h.mgood r
    · exact h.good j hj r
end
end Go.Proofs.Ytajaonejpggcbaa

namespace Go.Proofs.Ytajaonejpggcbaa
open Go.RowKit

set_option maxHeartbeats 1000000 in
theorem idone_raw (w : World) (pm b off n c : Nat) (A : Option Addr) (a : Int) (q0 : w.cell? ⟨pm, 0, none⟩ = some (.slice A n c)) (q1 : w.cell? ⟨b, off + 1, none⟩ = some (.int .i64 a)) :
    Calls Try.prog 125 #[.pointer (some ⟨pm, 0, none⟩), .pointer (some ⟨b, off, none⟩)] w fun e w' => e = .returned (.bool (a == (n : Int))) ∧ Pure w w' := by
  go_enter Try.func125, Try.ntmps125
  go_wp2_with fail
  go_quiet (fail)
  go_wp2
  go_ret
  exact ⟨rfl, by exact (by repeat (first | assumption | exact Pure.refl _ | refine Pure.drewN ?_ _ | refine Pure.drew ?_ | refine Pure.alloc ?_ _ | refine Pure.setCell ?_ (by simp <;> omega) _))⟩

set_option maxHeartbeats 1000000 in
theorem igoes_raw (w : World) (pm b off n c : Nat) (A : Option Addr) (a : Int) (W : Bool) (q0 : w.cell? ⟨pm, 0, none⟩ = some (.slice A n c)) (q1 : w.cell? ⟨b, off + 1, none⟩ = some (.int .i64 a)) (q3 : w.cell? ⟨b, off + 3, none⟩ = some (.bool W)) :
    Calls Try.prog 89 #[.pointer (some ⟨pm, 0, none⟩), .pointer (some ⟨b, off, none⟩)] w fun e w' => e = .returned (.bool (!W && !(a == (n : Int)))) ∧ Pure w w' := by
  cases W
  · go_enter Try.func89, Try.ntmps89
    go_wp2_with fail
    refine (idone_raw _ pm b off n c A a q0 q1).mono ?_
    rintro e w1 ⟨rfl, hp1⟩
    go_wp2
    go_ret
    exact ⟨ret_bool (by simp), hp1⟩
  · go_enter Try.func89, Try.ntmps89
    go_wp2
    go_ret
    exact ⟨rfl, Pure.refl _⟩

end Go.Proofs.Ytajaonejpggcbaa

namespace Go.Proofs.Ytajaonejpggcbaa
open Go.RowKit

theorem lnStep_end1 {cs : List Cd} {m id p : Nat} {l : Ln} {M : Nat → Int} (h : (cs.getD l.at_ default).op = 14) (hp : aroundAt cs l.at_ = p) (h13 : (cs.getD p default).op ≠ 13) : lnStep cs m id l M = { l with at_ := l.at_ + 1 } := by
  unfold lnStep; simp only; rw [if_neg (by omega), if_neg (by omega), if_neg (by omega), if_neg (by omega), if_pos h, hp, Int.toNat_natCast, if_neg h13]
theorem lnStep_end2 {cs : List Cd} {m id p : Nat} {l : Ln} {M : Nat → Int} (h : (cs.getD l.at_ default).op = 14) (hp : aroundAt cs l.at_ = p) (h13 : (cs.getD p default).op = 13) (hz : ¬ (0 < l.T.getD (l.T.length - 1) 0 ∧ l.R (cs.getD p default).a.toNat ≠ 0)) : lnStep cs m id l M = { l with at_ := l.at_ + 1, T := l.T.take (l.T.length - 1) } := by
  unfold lnStep; simp only; rw [if_neg (by omega), if_neg (by omega), if_neg (by omega), if_neg (by omega), if_pos h, hp, Int.toNat_natCast, if_pos h13, if_neg hz]
theorem lnStep_end3 {cs : List Cd} {m id p : Nat} {l : Ln} {M : Nat → Int} (h : (cs.getD l.at_ default).op = 14) (hp : aroundAt cs l.at_ = p) (h13 : (cs.getD p default).op = 13) (hz : 0 < l.T.getD (l.T.length - 1) 0 ∧ l.R (cs.getD p default).a.toNat ≠ 0) : lnStep cs m id l M = { l with at_ := p + 1, T := l.T.set (l.T.length - 1) (l.T.getD (l.T.length - 1) 0 - 1) } := by
  unfold lnStep; simp only; rw [if_neg (by omega), if_neg (by omega), if_neg (by omega), if_neg (by omega), if_pos h, hp, Int.toNat_natCast, if_pos h13, if_pos hz]
theorem open_reg {c : Cd} (hc : CdOk c) (ho : Opens c) : Reg c.a := by
  unfold CdOk at hc
  rcases ho with hop | hop
  · rcases hc with h | h | h | h | h | h
    · omega
    · exact h.2.1
    · omega
    · omega
    · omega
    · omega
  · rcases hc with h | h | h | h | h | h
    · omega
    · omega
    · omega
    · omega
    · exact h.2.1
    · omega

end Go.Proofs.Ytajaonejpggcbaa

namespace Go.Proofs.Ytajaonejpggcbaa
open Go.RowKit

theorem lnStep_else {cs : List Cd} {m id : Nat} {l : Ln} {M : Nat → Int} (h : (cs.getD l.at_ default).op = 12) : lnStep cs m id l M = { l with at_ := ((endAt cs (aroundAt cs l.at_).toNat).1 + 1).toNat } := by
  unfold lnStep; simp only; rw [if_neg (by omega), if_neg (by omega), if_pos h]
def stepL (o : MO) (L : Nat → Ln) (M : Nat → Int) (k : Nat) : Nat → Ln := if goesL o.cs.length (L k) = true then upL L k (lnStep o.cs o.m k (L k) M) else L
end Go.Proofs.Ytajaonejpggcbaa

namespace Go.Proofs.Ytajaonejpggcbaa
open Go.RowKit

def passL (o : MO) (L : Nat → Ln) : Nat → Ln := if anyGo o.cs L o.n = true then L else freeL o.n L

end Go.Proofs.Ytajaonejpggcbaa

namespace Go.Proofs.Ytajaonejpggcbaa
open Go.RowKit

/-- Every lane is on its way. -/
def OnW (o : MO) (L : Nat → Ln) : Prop := ∀ l, l < o.n → ∃ W, OnWay o.cs (L l) W
theorem OnW.le {o : MO} {L : Nat → Ln} (h : OnW o L) : ∀ k, k < o.n → (L k).at_ ≤ o.cs.length := fun k hk => (h k hk).elim fun _ h => h.le
theorem OnW.step {o : MO} {L : Nat → Ln} (h : OnW o L) (M : Nat → Int) {k : Nat} (hk : k < o.n) : OnW o (stepL o L M k) := by
  intro l hl
  unfold stepL
  split
  · rename_i hg
    unfold upL
    split
    · obtain ⟨W, hw⟩ := h k hk
      exact ⟨_, (hw.step (m := o.m) (id := k) (M := M) (goes_iff.1 hg).2).2⟩
    · exact h l hl
  · exact h l hl
theorem OnW.pass {o : MO} {L : Nat → Ln} (h : OnW o L) : OnW o (passL o L) := by
  intro l hl
  unfold passL
  split
  · exact h l hl
  · unfold freeL
    rw [if_pos hl]
    obtain ⟨W, hw⟩ := h l hl
    exact ⟨W, hw.pass false⟩
end Go.Proofs.Ytajaonejpggcbaa

namespace Go.Proofs.Ytajaonejpggcbaa
open Go.RowKit

section
variable {P : Program} {ops : Array Oper} {Q : Exit → Act → World → Prop} {md : Region.Mode} {S : World → Prop}
theorem anyK_end {z f : Nat} {l : Array Bool} {a : Act} {w : World} (hr : Region.ready md ops l = []) (h : Q .normal a w) : AnyK P md ops Q S z f l a w := by
  cases f with
  | zero => exact ⟨hr, h⟩
  | succ f => exact ⟨fun _ => h, by rw [hr]; simp⟩
theorem anyK_one {z f i : Nat} {l : Array Bool} {a : Act} {w : World} {o : Oper} (hr : Region.ready md ops l = [i]) (ho : ops[i]? = some o)
    (h : wpList P ops (thenK Q fun b u => (i ≠ z → S u) ∧ AnyK P md ops Q S z f (l.setIfInBounds i true) b u) [o] a w) : AnyK P md ops Q S z (f + 1) l a w := by
  refine ⟨fun h0 => absurd hr (by rw [h0]; simp), fun j hj => ?_⟩
  rw [hr] at hj
  obtain rfl : j = i := by simpa using hj
  exact wpOp_of_one ho h
theorem anyK_two {z f i j : Nat} {l : Array Bool} {a : Act} {w : World} {o p : Oper} (hr : Region.ready md ops l = [i, j]) (ho : ops[i]? = some o) (hp : ops[j]? = some p)
    (h1 : wpList P ops (thenK Q fun b u => (i ≠ z → S u) ∧ AnyK P md ops Q S z f (l.setIfInBounds i true) b u) [o] a w)
    (h2 : wpList P ops (thenK Q fun b u => (j ≠ z → S u) ∧ AnyK P md ops Q S z f (l.setIfInBounds j true) b u) [p] a w) : AnyK P md ops Q S z (f + 1) l a w := by
  refine ⟨fun h0 => absurd hr (by rw [h0]; simp), fun k hk => ?_⟩
  rw [hr] at hk
  have hk' : k = i ∨ k = j := by simpa using hk
  rcases hk' with rfl | rfl
  · exact wpOp_of_one ho h1
  · exact wpOp_of_one hp h2
def setsB (l : Array Bool) : List Nat → Array Bool
  | [] => l
  | i :: r => setsB (l.setIfInBounds i true) r
def hdsW (md : Region.Mode) (ops : Array Oper) : List Nat → Array Bool → Bool
  | [], _ => true
  | i :: r, l => (Region.ready md ops l).contains i && Region.free md ops l i && decide (i + 1 < ops.size) && hdsW md ops r (l.setIfInBounds i true)
theorem heads_way {z k : Nat} (hz : z + 1 = ops.size) (hns : Region.noSelect ops = true) (hk : Region.sinkB md ops z = true) (hc : Region.chainB md ops z = true)
    (hQ : ∀ (c : _) (a : Act) (d : Option Tmp) (v : Value) (w : World), Q (.panic c) (a.put d v) w → Q (.panic c) a w) :
    ∀ (hs : List Nat) (hl : List Oper) (f : Nat) (l : Array Bool) (a : Act) (w : World), hs.map (ops[·]?) = hl.map some → hdsW md ops hs l = true → hs.length + k = f → HeadInv md ops z l → S w →
      Held P ops S (fun b => AnyK P md ops Q S z k (setsB l hs) b w) hl a → AnyK P md ops Q S z f l a w
  | [], hl, f, l, a, w, hm, _, hf, inv, hS, h => by
    obtain rfl : hl = [] := by cases hl with
      | nil => rfl
      | cons => simp at hm
    obtain rfl : k = f := by simpa using hf
    exact h
  | i :: hs, [], _, _, _, _, hm, _, _, _, _, _ => by simp at hm
  | i :: hs, o :: hl, 0, _, _, _, _, _, hf, _, _, _ => by simp at hf
  | i :: hs, o :: hl, f + 1, l, a, w, hm, hB, hf, inv, hS, h => by
    simp only [List.map_cons, List.cons.injEq] at hm
    simp only [hdsW, Bool.and_eq_true, decide_eq_true_eq] at hB
    obtain ⟨⟨⟨hr, hfr⟩, hlt⟩, hB⟩ := hB
    obtain ⟨v, hy, h⟩ := h
    have hr' : i ∈ Region.ready md ops l := by simpa using hr
    exact AnyK.first hm.1 hns (fun c b u => hQ c b o.dst v u) hk hc hz (by omega) f l a w inv (Region.free_spec hm.1 hfr) hr' hy hS
      (heads_way hz hns hk hc hQ hs hl f _ _ w hm.2 hB (by simp at hf; omega) (inv.set hr' (by omega)) hS h)
end
/-- A region: the operations hs only read where S holds; the rest comes in any order. -/
theorem region_way {P : Program} {id : Nat} {Q : Exit → Act → World → Prop} {a : Act} {w : World} {l : List Oper} (S : World → Prop) (hs : List Nat) (k z : Nat) (fH : List Oper → List Oper) (hm : P.follows .mixedOrders = true)
    (hB : (Region.noSelect l.toArray && Region.sinkB .any l.toArray z && Region.chainB .any l.toArray z && decide (z + 1 = l.toArray.size) && decide (hs.length + k = l.toArray.size) && hdsW .any l.toArray hs (Array.replicate l.toArray.size false)) = true)
    (hh : hs.map (l.toArray[·]?) = (fH l).map some)
    (hQ : ∀ (c : _) (a : Act) (d : Option Tmp) (v : Value) (w : World), Q (.panic c) (a.put d v) w → Q (.panic c) a w) (hS : S w.drew)
    (h : Held P l.toArray S (fun b => AnyK P .any l.toArray Q S z k (setsB (Array.replicate l.toArray.size false) hs) b w.drew) (fH l) a) : (Code.region id l.toArray true).wp P Q a w := by
  simp only [Bool.and_eq_true, decide_eq_true_eq] at hB
  obtain ⟨⟨⟨⟨⟨hns, hk⟩, hc⟩, h0⟩, hlen⟩, hB⟩ := hB
  have inv0 : HeadInv .any l.toArray z (Array.replicate l.toArray.size false) :=
    ⟨by simp, fun j p _ hx => (by rw [getD_replicate_false] at hx; cases hx), fun t _ hx => getD_in (by simpa using hx) (getD_replicate_false _ _)⟩
  exact wp_region_any hm (AnyK.any _ _ _ _ (heads_way h0 hns hk hc hQ hs (fH l) _ _ a w.drew hh hB hlen inv0 hS h))

end Go.Proofs.Ytajaonejpggcbaa

namespace Go.Proofs.Ytajaonejpggcbaa
open Go.RowKit

theorem Tabs.own {w : World} {va vo : Value} {cs : List Cd} (h : Tabs w va vo cs) {k : Nat} (hk : k < cs.length) :
    ∃ A c, vo = .slice A cs.length c ∧ cs.length ≤ c ∧ c ≤ 9223372036854775807 ∧ ∃ b o, A = some ⟨b, o, none⟩ ∧ b < w.heap.size ∧
      ((∀ p, ownOf cs k = some p → p < cs.length → Opens (cs.getD p default) → ∃ g, w.cell? ⟨b, o + k, none⟩ = some (.pointer (some ⟨g, 0, none⟩)) ∧ g < w.heap.size ∧ w.cell? ⟨g, 0, none⟩ = some (.int .i64 p) ∧ w.cell? ⟨g, 1, none⟩ = some (.int .i64 (endAt cs p).2) ∧ w.cell? ⟨g, 2, none⟩ = some (.int .i64 (endAt cs p).1)) ∧
       (ownOf cs k = none → w.cell? ⟨b, o + k, none⟩ = some (.pointer none))) := by
  obtain ⟨pb, h1, h2, _⟩ := h
  obtain ⟨A, c, rfl, h3, h4, h5⟩ := h1
  obtain ⟨b, o, rfl, hb, hc⟩ := h5 (by omega)
  refine ⟨_, c, rfl, h3, h4, b, o, rfl, hb, fun p hp hp1 hp2 => ?_, fun hn => ?_⟩
  · obtain ⟨x1, x2, x3, x4⟩ := h2 p hp1 hp2
    refine ⟨pb p, ?_, x1, x2, x3, x4⟩
    rw [hc k (by omega)]; simp only [hp]; rfl
  · rw [hc k (by omega)]; simp only [hn]; rfl

def SuccPost (cs : List Cd) (k : Nat) (w : World) (e : Ending) (w' : World) : Prop :=
  ∃ v, e = .returned v ∧ OwnO w' w.heap.size 3 1 v (succs cs k).length ((succs cs k).map (.int .i64)) ∧ Pure w w'

theorem SuccPost.lit {cs : List Cd} {k n : Nat} {w : World} {xs : List Int} (hx : succs cs k = xs) (hn : xs.length = n) (h63 : n ≤ 64) :
    SuccPost cs k w (.returned (.slice (some ⟨w.heap.size, 0, none⟩) n n)) (w.alloc (.cells (xs.map (.int .i64)).toArray 3)) := by
  subst hn
  refine ⟨_, rfl, ?_, Pure.alloc (Pure.refl _) _⟩
  rw [hx]
  have := OwnO.lit (e := 3) (s := 1) w (xs.map (.int .i64)).toArray xs.length (Nat.le_refl _) (by omega) (by simp)
  simpa using this

/-- The graph under way: the first k rows are there, the others not yet. -/
def RowsM (w : World) (B g N k : Nat) (S : Nat → List Int) : Prop :=
  ∃ ys, OwnO w B 23 1 (.slice (some ⟨g, 0, none⟩) N N) N ys ∧ (∀ j, j < k → ∃ r, ys[j]? = some r ∧ OwnO w B 3 1 r (S j).length ((S j).map (.int .i64))) ∧ ∀ j, k ≤ j → j < N → ys[j]? = some (.slice none 0 0)
theorem RowsM.pure {w w' : World} {B g N k : Nat} {S : Nat → List Int} (h : RowsM w B g N k S) (hp : Pure w w') : RowsM w' B g N k S := by
  obtain ⟨ys, h1, h2, h3⟩ := h
  exact ⟨ys, h1.pure hp, fun j hj => let ⟨r, a, b⟩ := h2 j hj; ⟨r, a, b.pure hp⟩, h3⟩
theorem RowsM.put {w : World} {B g N k : Nat} {r : Value} {S : Nat → List Int} (h : RowsM w B g N k S) (hk : k < N) (hr : OwnO w B 3 1 r (S k).length ((S k).map (.int .i64))) :
    RowsM (w.setCell ⟨g, k, none⟩ r) B g N (k + 1) S := by
  obtain ⟨ys, h1, h2, h3⟩ := h
  have hst := h1.stored k r
  rw [Nat.zero_add] at hst
  have hl : k < ys.length := by have := h1.1; omega
  have hg : w.grownBy (w.setCell ⟨g, k, none⟩ r) (some g) := grown_setCell w ⟨g, k, none⟩ r
  refine ⟨_, hst, fun j hj => ?_, fun j hj hj2 => ?_⟩
  · by_cases e : j = k
    · subst e
      exact ⟨r, by rw [List.getElem?_set_self hl], hr.kept hg (fun g' hg' => hr.ne h1 (by decide) g' hg')⟩
    · obtain ⟨r', a, b⟩ := h2 j (by omega)
      exact ⟨r', by rw [List.getElem?_set_ne (by omega)]; exact a, b.kept hg (fun g' hg' => b.ne h1 (by decide) g' hg')⟩
  · rw [List.getElem?_set_ne (by omega)]; exact h3 j (by omega) hj2
theorem RowsM.rows {w : World} {B g n : Nat} {S : Nat → List Int} (h : RowsM w B g (n + 1) n S) (hS : S n = []) : RowsO w B (.slice (some ⟨g, 0, none⟩) (n + 1) (n + 1)) (n + 1) S (h.choose) := by
  obtain ⟨h1, h2, h3⟩ := h.choose_spec
  refine ⟨h1, fun j hj => ?_⟩
  by_cases e : j = n
  · subst e
    exact ⟨_, h3 j (Nat.le_refl _) hj, by rw [hS]; exact OwnO.of_own (World.ownsRow_nil _ _ _ _)⟩
  · exact h2 j (by omega)

end Go.Proofs.Ytajaonejpggcbaa

namespace Go.Proofs.Ytajaonejpggcbaa
open Go.RowKit

set_option maxHeartbeats 400000 in
theorem imaskall_any (n : Nat) (w : World) (h1 : 1 ≤ n) (h8 : n ≤ 8) :
    Calls Try.prog 57 #[.int .i64 n] w fun e w' => e = .returned (.int .i64 ((2 ^ n - 1 : Nat) : Int)) ∧ w = w' := by
  have hs := shl8 (j := n) (by omega)
  have hp := pow8 h8
  have hp1 : 1 ≤ 2 ^ n := Nat.one_le_two_pow
  have HC : Hid (((2 ^ n - 1 : Nat) : Int) = ((2 ^ n : Nat) : Int) - 1) := Lib.hid (by omega)
  rw [HC.out]
  obtain ⟨q, Hq⟩ : ∃ q, Hid (2 ^ n = q) := ⟨2 ^ n, Lib.hid rfl⟩
  rw [Hq.out] at hs hp hp1 ⊢
  have HS := Lib.hid hs
  go_enter Try.func57, Try.ntmps57
  go_wp2_with fail
  refine (ilanesok_any _ _ true (by simp only [true_iff]; unfold LanesOk; omega)).mono ?_
  rintro e w' ⟨rfl, rfl⟩
  go_wp2
  go_ret
  exact ⟨rfl, rfl⟩

set_option maxHeartbeats 1000000 in
theorem nm_any (v : Value) (cs : List Cd) (w : World) (h : Codes w v cs) (hv : PValid cs) :
    Calls Try.prog 55 #[v] w fun e w' => ∃ p va vo, e = .returned (.pointer (some ⟨p, 0, none⟩)) ∧ Pure w w' ∧ w'.cell? ⟨p, 0, none⟩ = some v ∧ w'.cell? ⟨p, 1, none⟩ = some vo ∧ Tabs w' va vo cs := by
  have H := Lib.hid h
  have HV := Lib.hid hv
  obtain ⟨A, c, rfl, hnc, hcm⟩ := h.form
  clear h hv
  go_enter Try.func55, Try.ntmps55
  go_wp2_with fail
  refine (blocks_any _ cs _ H.out HV.out.2.1).mono ?_
  rintro e w1 ⟨hp, hm⟩
  rw [HV.out.2.2] at hm
  obtain ⟨va, vo, rfl, ht⟩ := hm
  have HT := Lib.hid (ht rfl)
  obtain ⟨_, ⟨Ao, co, rfl, _⟩, _⟩ := ht rfl
  clear ht
  go_wp2
  go_ret
  have hx := heap_alloc_new w1 (.cells #[.slice A cs.length c, .slice Ao cs.length co] 120)
  exact ⟨w1.heap.size, va, _, rfl, hp.trans (by exact (by repeat (first | assumption | exact Pure.refl _ | refine Pure.drewN ?_ _ | refine Pure.drew ?_ | refine Pure.alloc ?_ _ | refine Pure.setCell ?_ (by simp <;> omega) _))), (cell_of_row _ _ 0 _ _ _ hx).trans rfl, (cell_of_row _ _ 1 _ _ _ hx).trans rfl, HT.out.keep (by exact (by repeat (first | assumption | exact Pure.refl _ | refine Pure.drewN ?_ _ | refine Pure.drew ?_ | refine Pure.alloc ?_ _ | refine Pure.setCell ?_ (by simp <;> omega) _)))⟩

end Go.Proofs.Ytajaonejpggcbaa
