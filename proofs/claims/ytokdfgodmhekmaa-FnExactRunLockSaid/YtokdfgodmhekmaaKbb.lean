/- A step of the program in lockstep: it is noted, and executed by the lanes of its mask. The graph of a valid program, as the program makes it. No condition. -/
import Derived.Test.YtokdfgodmhekmaaKaf
import Derived.Test.YtokdfgodmhekmaaKaj
import Derived.Test.YtokdfgodmhekmaaKba

namespace Go.Proofs.Ytokdfgodmhekmaa
open Go.RowKit

/-- An instruction, executed by the lanes of a mask. -/
def execM (c : Cd) (n m mask : Nat) (s : LS) : LS := if c.op = 10 then { lanesTo c m mask n s with P := (lanesTo c m mask n s).P + 1 } else lanesTo c m mask n s
theorem exec_eq (c : Cd) (n m i mask : Nat) (s : LS) : exec c n m i mask s = execM c n m mask (beat i mask s) := rfl
def BoxI (w : World) (g : Nat) (c : Cd) : Prop := w.cell? ⟨g, 0, none⟩ = some (.int .i64 c.op) ∧ w.cell? ⟨g, 1, none⟩ = some (.int .i64 c.a) ∧ w.cell? ⟨g, 2, none⟩ = some (.int .i64 c.b) ∧ w.cell? ⟨g, 3, none⟩ = some (.int .i64 c.c)
theorem BoxI.chg {S : Nat → Prop} {w w' : World} {g : Nat} {c : Cd} (h : BoxI w g c) (hc : Chg S w w') (hn : ¬ S g) : BoxI w' g c := by
  have hg := World.block_lt_of_cell? _ _ h.1
  exact ⟨(hc.cell hg hn).trans h.1, (hc.cell hg hn).trans h.2.1, (hc.cell hg hn).trans h.2.2.1, (hc.cell hg hn).trans h.2.2.2⟩
theorem BoxI.lt {w : World} {g : Nat} {c : Cd} (h : BoxI w g c) : g < w.heap.size := World.block_lt_of_cell? _ _ h.1
theorem BoxI.pure {w w' : World} {g : Nat} {c : Cd} (h : BoxI w g c) (hp : Pure w w') : BoxI w' g c := h.chg (S := fun _ => False) (Chg.of_pure hp) id
theorem BoxI.step {o : IObj} {w w' : World} {u v u' v' : Value} {g : Nat} {c : Cd} (h : BoxI w g c) (hs : OStep o w u v w' u' v') (hn : ¬ o.own u v g) : BoxI w' g c := h.chg hs.1 hn
theorem BoxI.alloc (w : World) (c : Cd) : BoxI (w.alloc (.cells #[.int .i64 c.op, .int .i64 c.a, .int .i64 c.b, .int .i64 c.c] 61)) w.heap.size c := by
  have := boxed (Pure.refl (w.alloc (.cells #[.int .i64 c.op, .int .i64 c.a, .int .i64 c.b, .int .i64 c.c] 61)))
  exact ⟨this.1, this.2.1, this.2.2.1, this.2.2.2.1⟩
theorem alloc_drew (w : World) (o : Obj) : (w.alloc o).drew = w.drew.alloc o := rfl
theorem keepP {w w' : World} {b i : Nat} {v : Value} (h : Pure w w') (hc : w.cell? ⟨b, i, none⟩ = some v) : w'.cell? ⟨b, i, none⟩ = some v := (h.cell b i (World.block_lt_of_cell? _ _ hc)).trans hc
theorem keepC {S : Nat → Prop} {w w' : World} {b i : Nat} {v : Value} (h : Chg S w w') (hn : ¬ S b) (hc : w.cell? ⟨b, i, none⟩ = some v) : w'.cell? ⟨b, i, none⟩ = some v := (h.cell (World.block_lt_of_cell? _ _ hc) hn).trans hc
theorem lane1_acc {c : Cd} {m k : Nat} {s : LS} (h : c.op = 8 ∨ c.op = 9) :
    ({ lane1 c m k { s with A := s.A ++ [⟨k, cellOf c m (s.R k), decide (c.op = 9), s.P⟩] } with A := s.A ++ [⟨k, cellOf c m (s.R k), decide (c.op = 9), s.P⟩] } : LS) = lane1 c m k s := by
  unfold lane1; simp [h]
theorem lane1_no {c : Cd} {m k : Nat} {s : LS} (h : ¬ (c.op = 8 ∨ c.op = 9)) : ({ lane1 c m k s with A := s.A } : LS) = lane1 c m k s := by
  unfold lane1; simp [h]
theorem lanesTo_P (c : Cd) (m mask : Nat) (s : LS) : ∀ j, (lanesTo c m mask j s).P = s.P
  | 0 => rfl
  | j + 1 => by
    show (if _ then _ else _ : LS).P = _
    split
    · exact lanesTo_P c m mask s j
    · exact lanesTo_P c m mask s j
def StepP (o : IObj) (w : World) (vb va : Value) (s : LS) (e : Ending) (w' : World) : Prop := e = .returned (.tuple #[]) ∧ ∃ vb' va', ORun o w' vb' va' s ∧ OStep o w vb va w' vb' va'

set_option maxHeartbeats 1000000 in
set_option maxRecDepth 100000 in
theorem ibeat_any (o : IObj) (w : World) (vb va : Value) (s : LS) (i mask : Nat) (h : ORun o w vb va s) (hl : o.look = .nilFunc) (hlen : s.H.length + 1 ≤ 1099511627776) :
    Calls Try.prog 103 #[.pointer (some ⟨o.p, 0, none⟩), .int .i64 i, .int .i64 mask] w (StepP o w vb va (beat i mask s)) := by
  have H := Lib.hid h
  obtain ⟨p0, p1, p2, p3, p4, p5, p6⟩ := h.obj.facts
  have f3 := h.obj.frozen 3
  have hbase : o.w0.heap.size ≤ w.heap.size := h.pure.size
  obtain ⟨Ab, cb, rfl⟩ := h.bt.form
  have HBT := Lib.hid h.bt
  have HL := Lib.hid hl
  rw [hl] at p6
  clear h p0 p1 p2 p4 p5 hl
  have hnf : ∀ w : World, (binOp BinOp.neq 69 .nilFunc .nilFunc).run Try.prog w = .ok (.bool false) w := fun _ => by kernel_rfl
  go_enter Try.func103, Try.ntmps103
  go_wp2_with (at_builtin; go_must (refine wl_append1F elBeatI rfl _ _ rfl o.w0.heap.size _ s.H.length (beatsI s.H) rfl HBT.out w.heap.size 1 [.int .i64 (i : Int), .int .i64 (mask : Int)] rfl rfl rfl rfl (by decide) hlen hbase ?_); intro q' wq hq' hg' hl'; go_must (obtain ⟨Aq, cq, hqe⟩ := hq'.form; subst hqe; have HT := Lib.hid (ORun.beat (i := i) (mask := mask) H.out (Pure.refl w) hq' hg' hl'); have hgc : Chg (fun k => (Value.slice Ab s.H.length cb).ownBlock = some k) w wq := Chg.of_grown hg' (fun k hk => hk); have HNE := Lib.hid H.out.bt_ne; have z3 := (H.out.obj.chg hgc (fun e => (HNE.out _ e).1 rfl)).facts; have z5 := (H.out.obj.chg hgc (fun e => (HNE.out _ e).1 rfl)).frozen 3; obtain ⟨_, _, _, z33, _, _, z36⟩ := z3; rw [HL.out] at z36; clear hq' hg' hl' hgc))
  go_end0
  exact ⟨rfl, _, _, HT.out.1, HT.out.2⟩

set_option maxHeartbeats 4000000 in
set_option maxRecDepth 100000 in
theorem iexec_any (o : IObj) (w : World) (vb va : Value) (s : LS) (at_ mask : Nat) (cd : Cd) (hv : PValid o.cs) (h : ORun o w vb va s) (hk : at_ < o.cs.length) (hcd : o.cs.getD at_ default = cd) (hpl : Plain cd) (hmn : mask < 2 ^ o.rm.n) (hlen : s.A.length + 8 ≤ 1099511627776) (hlenP : s.P ≤ 1099511627776) :
    Calls Try.prog 105 #[.pointer (some ⟨o.p, 0, none⟩), .int .i64 at_, .int .i64 mask] w (StepP o w vb va (execM cd o.rm.n o.rm.m mask s)) := by
  have H := Lib.hid h
  have HPL := Lib.hid hpl
  have HMN := Lib.hid hmn
  have hsmall := hv.2.1
  have hn8 := h.rm.n8
  have hm256 : mask < 256 := Nat.lt_of_lt_of_le hmn (powI hn8)
  obtain ⟨p0, p1, p2, p3, p4, p5, p6⟩ := h.obj.facts
  obtain ⟨A, cA, hvl, hnc, hcm⟩ := h.codes.form
  have hm0 : w.cell? ⟨o.pm, 0, none⟩ = some o.vl := (h.pure.cell _ _ (World.block_lt_of_cell? _ _ h.mach.1)).trans h.mach.1
  rw [hvl] at hm0
  have hcs := h.codes.keep h.pure
  rw [hvl] at hcs
  obtain ⟨b, ob, rfl, hb, hc⟩ := hcs.at_ hk
  rw [hcd] at hc
  obtain ⟨c0, c1, c2, c3⟩ := hc
  obtain ⟨op, ca, cb, cc⟩ := cd
  simp only at c0 c1 c2 c3
  have hnown : ¬ o.own vb va w.heap.size := fun e => absurd (h.own_hi _ e) (by omega)
  have HNO := Lib.hid hnown
  have hk0 : (0 : Int) ≤ (at_ : Int) := by omega
  clear h hpl hmn hcs hcd p1 p2 p3 p4 p5 p6 hnown
  have HB1 := Lib.hid (BoxI.alloc w ⟨op, ca, cb, cc⟩)
  have HPA := Lib.hid (show Pure w (w.alloc (.cells #[.int .i64 op, .int .i64 ca, .int .i64 cb, .int .i64 cc] 61)) from Pure.alloc (Pure.refl _) _)
  go_enter Try.func105, Try.ntmps105
  go_wp2_with fail
  refine (ilanes_any mask hm256 _).mono ?_
  rintro e w1 ⟨vL, rfl, hvL, hp1⟩
  have HVL := Lib.hid hvL
  obtain ⟨Av, cv, rfl⟩ := hvL.form
  clear hvL
  have hl8 := lanesL_len mask 8
  obtain ⟨L, HL⟩ : ∃ L, Hid (lanesL mask 8 = L) := ⟨_, rfl⟩
  rw [HL.out] at HVL hl8 ⊢
  have HW1 := Lib.hid (HPA.out.trans hp1)
  have HX1 := Lib.hid (HB1.out.pure hp1)
  have H1 := Lib.hid (H.out.keep (HPA.out.trans hp1))
  have HVO : Hid (∀ vb' va', OStep o w vb va w1 vb' va' → True) := Lib.hid (fun _ _ _ => trivial)
  clear hp1 HVO c0 c1 c2 c3 hm0 p0
  -- the list of lanes lies in a block of its own
  have hLne : ∀ g, (Value.slice Av L.length cv).ownBlock = some g → ¬ o.own vb va g := fun g hg e => by
    have h1 := (HVL.out.lt g hg).1
    have h2 := H.out.own_hi g e
    have h3 := HPA.out.size
    omega
  have HLNE := Lib.hid hLne
  clear hLne
  go_wp2_with fail
  go_loopg [22] L.length (fun gk i wr => ∃ (j : Nat) (va2 : Value), gk + j = L.length ∧ i = .int .i64 j ∧ ORun o wr vb va2 (lanesF ⟨op, ca, cb, cc⟩ o.rm.m (L.take j) s) ∧ OStep o w1 vb va wr vb va2 ∧ (lanesF ⟨op, ca, cb, cc⟩ o.rm.m (L.take j) s).A.length ≤ s.A.length + j)
  case atStart => exact ⟨0, va, rfl, rfl, H1.out, OStep.refl _ _ _ _, Nat.le_refl _⟩
  case round =>
    obtain ⟨j, va2, hgk, rfl, hr, hst, hal⟩ := hrel
    have Hgk := Lib.hid hgk
    have Hr := Lib.hid hr
    have Hst := Lib.hid hst
    have Hal := Lib.hid hal
    have hjn : j ≤ L.length := by omega
    have hnb : ¬ o.own vb va w.heap.size := HNO.out
    have hx := HX1.out.step hst hnb
    have hby := hx.lt
    have HXr := Lib.hid hx
    obtain ⟨y0, y1, y2, y3⟩ := hx
    simp only at y0 y1 y2 y3
    clear hgk hst hal hnb
    by_cases hlt : j < L.length
    · have hvr : OwnO wr (w.alloc (.cells #[.int .i64 op, .int .i64 ca, .int .i64 cb, .int .i64 cc] 61)).heap.size 3 1 (.slice Av L.length cv) L.length (L.map fun k => .int .i64 (k : Nat)) := HVL.out.chg Hst.out.1 (fun g hg => HLNE.out g hg)
      obtain ⟨g, off, c', hv', h1, h2, h3, h4⟩ := hvr.formSome (by omega)
      injection hv' with e1 e2 e3
      subst e1 e3
      obtain ⟨k, hk'⟩ : ∃ k, L[j]? = some k := ⟨L[j], List.getElem?_eq_getElem hlt⟩
      have q0 := hvr.cell j (by omega)
      rw [List.getElem?_map, hk'] at q0
      simp only [Option.map_some] at q0
      have hkm : k ∈ lanesL mask 8 := by rw [HL.out]; exact List.mem_of_getElem? hk'
      have hkn : k < o.rm.n := lanesL_lt HMN.out hkm
      have Hnext : Hid (lanesF ⟨op, ca, cb, cc⟩ o.rm.m (L.take (j + 1)) s = lane1 ⟨op, ca, cb, cc⟩ o.rm.m k (lanesF ⟨op, ca, cb, cc⟩ o.rm.m (L.take j) s)) := Lib.hid (by rw [take_snoc' hk', lanesF_snoc])
      obtain ⟨s2, Hs2⟩ : ∃ s2, Hid (lanesF ⟨op, ca, cb, cc⟩ o.rm.m (L.take j) s = s2) := ⟨_, rfl⟩
      rw [Hs2.out] at Hr Hal Hnext hr
      have hkI0 : (0 : Int) ≤ (k : Int) := by omega
      have hkI1 : (k : Int) < (o.rm.n : Int) := by omega
      obtain ⟨p0, p1, p2, p3, p4, p5, p6⟩ := hr.obj.facts
      have q1 := hr.rm.outerCell hkn
      have hcr := hr.rm.cr1
      have hcr2 := hr.rm.cr2
      have hplt := hr.obj.lt
      unfold RMo.vr at p1
      unfold RMo.row at q1
      unfold RMo.vm at p2
      have hgood := Lib.hid hr.good
      clear hk' hkm hvr p0 p3 p6
      by_cases hacc : op = 8 ∨ op = 9
      · have Hacc := Lib.hid hacc
        have hb03 : (0 ≤ cb ∧ cb ≤ 3) := by
          have h0 := HPL.out.1.regs
          rcases hacc with e | e <;> subst e <;> exact ⟨h0.2.1 (by decide), h0.2.2.1 (by decide) (by decide)⟩
        obtain ⟨hb0, hb3⟩ := hb03
        obtain ⟨bn, rfl⟩ := Int.eq_ofNat_of_zero_le hb0
        have hbn : bn < 4 := by omega
        have hbI0 : (0 : Int) ≤ (bn : Int) := by omega
        have hbI4 : (bn : Int) < 4 := by omega
        have q2 := hr.rm.regCell hkn hbn
        obtain ⟨yv, Hyv⟩ : ∃ yv, Hid (s2.R k bn = yv) := ⟨_, rfl⟩
        rw [Hyv.out] at q2
        have hwy : Word yv := by rw [← Hyv.out]; exact hgood.out.1 k bn
        obtain ⟨hy0, hy1⟩ := hwy
        obtain ⟨yn, rfl⟩ := Int.eq_ofNat_of_zero_le hy0
        have hm1 := hr.rm.m1
        have hm32 := hr.rm.m32
        have hmn0 : ¬ o.rm.m = 0 := by omega
        have hmi : ¬ ((o.rm.m : Int) = 0) := by omega
        have htm : (yn : Int).tmod (o.rm.m : Int) = ((yn % o.rm.m : Nat) : Int) := by rw [Int.tmod_eq_emod_of_nonneg (by omega)]; norm_cast
        have hem : (yn : Int) % (o.rm.m : Int) = ((yn % o.rm.m : Nat) : Int) := by norm_cast
        have HC : Hid (cellOf ⟨op, ca, bn, cc⟩ o.rm.m (s2.R k) = yn % o.rm.m) := Lib.hid (by unfold cellOf; rw [Int.toNat_natCast, Hyv.out, Int.toNat_natCast])
        obtain ⟨ce, Hce⟩ : ∃ ce, Hid (yn % o.rm.m = ce) := ⟨_, rfl⟩
        rw [Hce.out] at htm hem HC
        obtain ⟨W, HW⟩ : ∃ W, Hid (decide (op = 9) = W) := ⟨_, rfl⟩
        have hw9 : (op == 9) = W := by rw [← HW.out, Bool.eq_iff_iff, beq_iff_eq, decide_eq_true_eq]
        obtain ⟨ph, Hph⟩ : ∃ ph, Hid (s2.P = ph) := ⟨_, rfl⟩
        rw [Hph.out] at p5
        obtain ⟨Aa, ca2, rfl⟩ := hr.ac.form
        have HAC := Lib.hid hr.ac
        have hlenA : s2.A.length + 1 ≤ 1099511627776 := by have := Hal.out; omega
        have hbaseA : o.w0.heap.size ≤ wr.heap.size := hr.pure.size
        have HAN := Lib.hid hr.ac_ne
        have hcases : (op == 8) = true ∨ ((op == 8) = false ∧ (op == 9) = true) := by
          rcases hacc with e | e
          · exact .inl (by simp [e])
          · exact .inr ⟨by simp [e], by simp [e]⟩
        obtain ⟨wo, rfl⟩ : ∃ wo : World, wo = wr := ⟨_, rfl⟩
        have HNB2 : Hid (¬ o.own vb (.slice Aa s2.A.length ca2) w.heap.size) := Lib.hid (IObj.own_lies HNO.out Hst.out.2.1 Hst.out.2.2 HX1.out.lt)
        have hap := hr.obj.apart hr.rm
        have hpg1 : o.p ≠ o.rm.gr := hap.2.1
        have hpg2 : o.rm.gr ≠ o.p := fun e => hap.2.1 e.symm
        have hpr1 : o.p ≠ o.rm.rows k := hap.2.2.2 k hkn
        have hpr2 : o.rm.rows k ≠ o.p := fun e => hap.2.2.2 k hkn e.symm
        have hpb1 : o.p ≠ w.heap.size := fun e => HNB2.out (.inl e.symm)
        have hpb2 : w.heap.size ≠ o.p := fun e => HNB2.out (.inl e)
        clear hr hap
        rcases hcases with hd8 | ⟨hd8, hd9⟩
        · go_wp2_with fail
          refine region_heldF (fun w' => w'.cell? ⟨o.p, 1, none⟩ = some (.slice (some ⟨o.rm.gr, 0, none⟩) o.rm.n o.rm.cr) ∧ w'.cell? ⟨o.p, 2, none⟩ = some (.slice (some ⟨o.rm.gm, 0, none⟩) o.rm.m o.rm.cm) ∧ w'.cell? ⟨o.p, 4, none⟩ = some (.slice Aa s2.A.length ca2) ∧ w'.cell? ⟨o.p, 5, none⟩ = some (.int .i64 (ph : Nat)) ∧ w'.cell? ⟨o.rm.gr, k, none⟩ = some (.slice (some ⟨o.rm.rows k, 0, none⟩) 4 4) ∧ w'.cell? ⟨o.rm.rows k, bn, none⟩ = some (.int .i64 (yn : Nat)) ∧ w'.cell? ⟨w.heap.size, 0, none⟩ = some (.int .i64 op) ∧ w'.cell? ⟨w.heap.size, 2, none⟩ = some (.int .i64 (bn : Nat)))
            (List.range 31) [31, 32, 33, 34, 35] (fun l => List.take 31 l) (fun l => List.drop 31 l) (by kernel_rfl) (by kernel_rfl) (by kernel_rfl) (by kernel_rfl) (fun c a d v w h => by cases d <;> exact h) (by exact ⟨p1, p2, p4, p5, q1, q2, y0, y2⟩) ?_
          simp only [List.take_succ_cons, List.take_zero, List.drop_succ_cons, List.drop_zero, List.cons_append, List.nil_append]
          apply held_of
          · exact rfl
          · intro w' hS
            obtain ⟨s1, s2, s3, s4, s5, s6, s7, s8⟩ := hS
            go_simp
            try exact rfl
          try go_simp
          apply held_of
          · exact rfl
          · intro w' hS
            obtain ⟨s1, s2, s3, s4, s5, s6, s7, s8⟩ := hS
            go_simp
            try exact rfl
          try go_simp
          apply held_of
          · exact rfl
          · intro w' hS
            obtain ⟨s1, s2, s3, s4, s5, s6, s7, s8⟩ := hS
            go_simp
            try exact rfl
          try go_simp
          apply held_of
          · exact rfl
          · intro w' hS
            obtain ⟨s1, s2, s3, s4, s5, s6, s7, s8⟩ := hS
            go_simp
            try exact rfl
          try go_simp
          apply held_of
          · exact rfl
          · intro w' hS
            obtain ⟨s1, s2, s3, s4, s5, s6, s7, s8⟩ := hS
            go_simp
            try exact rfl
          try go_simp
          apply held_of
          · exact rfl
          · intro w' hS
            obtain ⟨s1, s2, s3, s4, s5, s6, s7, s8⟩ := hS
            go_simp
            try exact rfl
          try go_simp
          apply held_of
          · exact rfl
          · intro w' hS
            obtain ⟨s1, s2, s3, s4, s5, s6, s7, s8⟩ := hS
            go_simp
            try exact rfl
          try go_simp
          apply held_of
          · exact rfl
          · intro w' hS
            obtain ⟨s1, s2, s3, s4, s5, s6, s7, s8⟩ := hS
            go_simp
            try exact rfl
          try go_simp
          apply held_of
          · exact rfl
          · intro w' hS
            obtain ⟨s1, s2, s3, s4, s5, s6, s7, s8⟩ := hS
            go_simp
            try exact rfl
          try go_simp
          apply held_of
          · exact rfl
          · intro w' hS
            obtain ⟨s1, s2, s3, s4, s5, s6, s7, s8⟩ := hS
            go_simp
            try exact rfl
          try go_simp
          apply held_of
          · exact rfl
          · intro w' hS
            obtain ⟨s1, s2, s3, s4, s5, s6, s7, s8⟩ := hS
            go_simp
            try exact rfl
          try go_simp
          apply held_of
          · exact rfl
          · intro w' hS
            obtain ⟨s1, s2, s3, s4, s5, s6, s7, s8⟩ := hS
            go_simp
            try exact rfl
          try go_simp
          apply held_of
          · exact rfl
          · intro w' hS
            obtain ⟨s1, s2, s3, s4, s5, s6, s7, s8⟩ := hS
            go_simp
            try exact rfl
          try go_simp
          apply held_of
          · exact rfl
          · intro w' hS
            obtain ⟨s1, s2, s3, s4, s5, s6, s7, s8⟩ := hS
            go_simp
            try exact rfl
          try go_simp
          apply held_of
          · exact rfl
          · intro w' hS
            obtain ⟨s1, s2, s3, s4, s5, s6, s7, s8⟩ := hS
            go_simp
            try exact rfl
          try go_simp
          apply held_of
          · exact rfl
          · intro w' hS
            obtain ⟨s1, s2, s3, s4, s5, s6, s7, s8⟩ := hS
            go_simp
            try exact rfl
          try go_simp
          apply held_of
          · exact rfl
          · intro w' hS
            obtain ⟨s1, s2, s3, s4, s5, s6, s7, s8⟩ := hS
            go_simp
            try exact rfl
          try go_simp
          apply held_of
          · exact rfl
          · intro w' hS
            obtain ⟨s1, s2, s3, s4, s5, s6, s7, s8⟩ := hS
            go_simp
            try exact rfl
          try go_simp
          apply held_of
          · exact rfl
          · intro w' hS
            obtain ⟨s1, s2, s3, s4, s5, s6, s7, s8⟩ := hS
            go_simp
            try exact rfl
          try go_simp
          apply held_of
          · exact rfl
          · intro w' hS
            obtain ⟨s1, s2, s3, s4, s5, s6, s7, s8⟩ := hS
            go_simp
            try exact rfl
          try go_simp
          apply held_of
          · exact rfl
          · intro w' hS
            obtain ⟨s1, s2, s3, s4, s5, s6, s7, s8⟩ := hS
            go_simp
            try exact rfl
          try go_simp
          apply held_of
          · exact rfl
          · intro w' hS
            obtain ⟨s1, s2, s3, s4, s5, s6, s7, s8⟩ := hS
            go_simp
            try exact rfl
          try go_simp
          apply held_of
          · exact rfl
          · intro w' hS
            obtain ⟨s1, s2, s3, s4, s5, s6, s7, s8⟩ := hS
            go_simp
            try exact rfl
          try go_simp
          apply held_of
          · exact rfl
          · intro w' hS
            obtain ⟨s1, s2, s3, s4, s5, s6, s7, s8⟩ := hS
            go_simp
            try exact rfl
          try go_simp
          apply held_of
          · exact rfl
          · intro w' hS
            obtain ⟨s1, s2, s3, s4, s5, s6, s7, s8⟩ := hS
            go_simp
            try exact rfl
          try go_simp
          apply held_of
          · exact rfl
          · intro w' hS
            obtain ⟨s1, s2, s3, s4, s5, s6, s7, s8⟩ := hS
            go_simp
            try exact rfl
          try go_simp
          apply held_of
          · exact rfl
          · intro w' hS
            obtain ⟨s1, s2, s3, s4, s5, s6, s7, s8⟩ := hS
            go_simp
            try exact rfl
          try go_simp
          apply held_of
          · exact rfl
          · intro w' hS
            obtain ⟨s1, s2, s3, s4, s5, s6, s7, s8⟩ := hS
            go_simp
            try exact rfl
          try go_simp
          apply held_of
          · exact rfl
          · intro w' hS
            obtain ⟨s1, s2, s3, s4, s5, s6, s7, s8⟩ := hS
            go_simp
            try exact rfl
          try go_simp
          apply held_of
          · exact rfl
          · intro w' hS
            obtain ⟨s1, s2, s3, s4, s5, s6, s7, s8⟩ := hS
            go_simp
            try exact rfl
          try go_simp
          apply held_of
          · exact rfl
          · intro w' hS
            obtain ⟨s1, s2, s3, s4, s5, s6, s7, s8⟩ := hS
            go_simp
            try exact rfl
          try go_simp
          refine held_nil ?_
          unfold Tail
          go_wp2
          refine And.intro ?_ ?_
          · exact ⟨keepP (by repeat (first | assumption | exact Pure.refl _ | refine Pure.drewN ?_ _ | refine Pure.drew ?_ | refine Pure.alloc ?_ _ | refine Pure.setCell ?_ (by simp <;> omega) _)) p1, keepP (by repeat (first | assumption | exact Pure.refl _ | refine Pure.drewN ?_ _ | refine Pure.drew ?_ | refine Pure.alloc ?_ _ | refine Pure.setCell ?_ (by simp <;> omega) _)) p2, keepP (by repeat (first | assumption | exact Pure.refl _ | refine Pure.drewN ?_ _ | refine Pure.drew ?_ | refine Pure.alloc ?_ _ | refine Pure.setCell ?_ (by simp <;> omega) _)) p4, keepP (by repeat (first | assumption | exact Pure.refl _ | refine Pure.drewN ?_ _ | refine Pure.drew ?_ | refine Pure.alloc ?_ _ | refine Pure.setCell ?_ (by simp <;> omega) _)) p5, keepP (by repeat (first | assumption | exact Pure.refl _ | refine Pure.drewN ?_ _ | refine Pure.drew ?_ | refine Pure.alloc ?_ _ | refine Pure.setCell ?_ (by simp <;> omega) _)) q1, keepP (by repeat (first | assumption | exact Pure.refl _ | refine Pure.drewN ?_ _ | refine Pure.drew ?_ | refine Pure.alloc ?_ _ | refine Pure.setCell ?_ (by simp <;> omega) _)) q2, keepP (by repeat (first | assumption | exact Pure.refl _ | refine Pure.drewN ?_ _ | refine Pure.drew ?_ | refine Pure.alloc ?_ _ | refine Pure.setCell ?_ (by simp <;> omega) _)) y0, keepP (by repeat (first | assumption | exact Pure.refl _ | refine Pure.drewN ?_ _ | refine Pure.drew ?_ | refine Pure.alloc ?_ _ | refine Pure.setCell ?_ (by simp <;> omega) _)) y2⟩
          unfold Tail
          rw [alloc_drew]
          refine wl_append1F elAcc rfl _ _ rfl o.w0.heap.size _ s2.A.length (accsL s2.A) rfl (HAC.out.pure (w' := wo.drew) (by repeat (first | assumption | exact Pure.refl _ | refine Pure.drewN ?_ _ | refine Pure.drew ?_ | refine Pure.alloc ?_ _ | refine Pure.setCell ?_ (by simp <;> omega) _))) wo.heap.size 1 [.int .i64 (k : Int), .int .i64 (ce : Int), .bool W, .int .i64 (ph : Int)] rfl rfl rfl rfl (by decide) hlenA hbaseA ?_
          intro q' wq hq' hg' hl'
          obtain ⟨Aq, cq, hqe⟩ := hq'.form
          subst hqe
          have HT := Lib.hid (ORun.acc (x := ⟨k, ce, W, ph⟩) Hr.out (Pure.drew (Pure.refl wo)) hq' hg' hl')
          have hgc : Chg (fun b => (Value.slice Aa s2.A.length ca2).ownBlock = some b) wo.drew wq := Chg.of_grown hg' (fun b hb => hb)
          have HGC := Lib.hid ((Chg.of_pure (S := fun b => (Value.slice Aa s2.A.length ca2).ownBlock = some b) (show Pure wo wo.drew from (by repeat (first | assumption | exact Pure.refl _ | refine Pure.drewN ?_ _ | refine Pure.drew ?_ | refine Pure.alloc ?_ _ | refine Pure.setCell ?_ (by simp <;> omega) _)))).trans hgc)
          clear hq' hg' hl' hgc
          go_wp2
          have z1 := keepC HGC.out (fun e => (HAN.out _ e).1 rfl) p1
          have z2 := keepC HGC.out (fun e => (HAN.out _ e).1 rfl) p2
          have z4 := keepC HGC.out (fun e => (HAN.out _ e).1 rfl) p4
          have z5 := keepC HGC.out (fun e => (HAN.out _ e).1 rfl) p5
          have x1 := keepC HGC.out (fun e => (HAN.out _ e).2.1 rfl) q1
          have x2 := keepC HGC.out (fun e => (HAN.out _ e).2.2.1 (.inl ⟨k, hkn, rfl⟩)) q2
          have v0 := keepC HGC.out (fun e => HNB2.out (.inr (.inr (.inr e)))) y0
          have v1 := keepC HGC.out (fun e => HNB2.out (.inr (.inr (.inr e)))) y1
          have v2 := keepC HGC.out (fun e => HNB2.out (.inr (.inr (.inr e)))) y2
          have v3 := keepC HGC.out (fun e => HNB2.out (.inr (.inr (.inr e)))) y3
          have hfz : wq.frozen? ⟨o.p, 4, none⟩ = false := (Lock7.chg Hr.out.obj HGC.out (fun e => (HAN.out _ e).1 rfl)).frozen 4
          have hszq := HGC.out.size
          clear p1 p2 p4 p5 q1 q2 y0 y1 y2 y3
          refine And.intro (by exact ⟨z1, z2, z4, z5, x1, x2, v0, v2⟩) ?_
          unfold Tail
          go_wp2
          refine And.intro (by exact ⟨z1, z2, z4, z5, x1, x2, v0, v2⟩) ?_
          unfold Tail
          go_wp2
          refine And.intro (by exact ⟨z1, z2, z4, z5, x1, x2, v0, v2⟩) ?_
          unfold Tail
          go_wp2
          have H3 := Lib.hid HT.out.1
          have H3s := Lib.hid HT.out.2
          refine region_tail 13 (by kernel_rfl) (by kernel_rfl) ?_
          simp only [List.take_succ_cons, List.take_zero, List.drop_succ_cons, List.drop_zero]
          repeat still_step
          refine wpStill_nil ?_
          go_wp2_with fail
          refine (i6_any o.rm ⟨op, ca, bn, cc⟩ k _ s2.R s2.M (H3.out.rm.pure (by exact (by repeat (first | assumption | exact Pure.refl _ | refine Pure.drewN ?_ _ | refine Pure.drew ?_ | refine Pure.alloc ?_ _ | refine Pure.setCell ?_ (by simp <;> omega) _)))) hkn HPL.out (hgood.out.1 k)).mono ?_
          rintro e w7 ⟨rfl, hrm7, hch7⟩
          have h7 := ORun.lane (H3.out.keep (w' := (wq.setCell ⟨o.p, 4, none⟩ (.slice Aq (s2.A.length + 1) cq)).drew) (by exact (by repeat (first | assumption | exact Pure.refl _ | refine Pure.drewN ?_ _ | refine Pure.drew ?_ | refine Pure.alloc ?_ _ | refine Pure.setCell ?_ (by simp <;> omega) _)))) hkn HPL.out.1 hrm7 hch7
          clear hrm7 hch7
          have hx : (⟨k, ce, W, ph⟩ : Ac) = ⟨k, cellOf ⟨op, ca, bn, cc⟩ o.rm.m (s2.R k), decide ((⟨op, ca, bn, cc⟩ : Cd).op = 9), s2.P⟩ := by
            have h9 : decide ((⟨op, ca, bn, cc⟩ : Cd).op = 9) = W := HW.out
            rw [HC.out, h9, Hph.out]
          have hlan : ({ lane1 ⟨op, ca, bn, cc⟩ o.rm.m k { s2 with A := s2.A ++ [⟨k, ce, W, ph⟩] } with A := s2.A ++ [⟨k, ce, W, ph⟩] } : LS) = lane1 ⟨op, ca, bn, cc⟩ o.rm.m k s2 := by
            rw [hx]; exact lane1_acc Hacc.out
          have H7 : Hid (ORun o w7 vb (.slice Aq (s2.A.length + 1) cq) (lane1 ⟨op, ca, bn, cc⟩ o.rm.m k s2)) := Lib.hid (by rw [← hlan]; exact h7.1)
          have H7s := Lib.hid ((Hst.out.trans H3s.out).trans ((OStep.of_pure (show Pure (wq.setCell ⟨o.p, 4, none⟩ (.slice Aq (s2.A.length + 1) cq)) _ from (by repeat (first | assumption | exact Pure.refl _ | refine Pure.drewN ?_ _ | refine Pure.drew ?_ | refine Pure.alloc ?_ _ | refine Pure.setCell ?_ (by simp <;> omega) _)))).trans h7.2))
          clear h7 hlan
          go_wp2
          go_roundg (L.length - (j + 1))
          case measure => have := Hgk.out; omega
          case rel => exact ⟨j + 1, _, by have := Hgk.out; omega, by go_num, by rw [Hnext.out]; exact H7.out, H7s.out, by rw [Hnext.out]; have := Hal.out; show (if _ then _ else _ : List Ac).length ≤ _; rw [if_pos Hacc.out]; simp; omega⟩
        · obtain rfl : W = true := by rw [← hw9]; exact hd9
          clear hw9
          go_wp2_with fail
          refine region_heldF (fun w' => w'.cell? ⟨o.p, 1, none⟩ = some (.slice (some ⟨o.rm.gr, 0, none⟩) o.rm.n o.rm.cr) ∧ w'.cell? ⟨o.p, 2, none⟩ = some (.slice (some ⟨o.rm.gm, 0, none⟩) o.rm.m o.rm.cm) ∧ w'.cell? ⟨o.p, 4, none⟩ = some (.slice Aa s2.A.length ca2) ∧ w'.cell? ⟨o.p, 5, none⟩ = some (.int .i64 (ph : Nat)) ∧ w'.cell? ⟨o.rm.gr, k, none⟩ = some (.slice (some ⟨o.rm.rows k, 0, none⟩) 4 4) ∧ w'.cell? ⟨o.rm.rows k, bn, none⟩ = some (.int .i64 (yn : Nat)) ∧ w'.cell? ⟨w.heap.size, 0, none⟩ = some (.int .i64 op) ∧ w'.cell? ⟨w.heap.size, 2, none⟩ = some (.int .i64 (bn : Nat)))
            (List.range 31) [31, 32, 33, 34, 35] (fun l => List.take 31 l) (fun l => List.drop 31 l) (by kernel_rfl) (by kernel_rfl) (by kernel_rfl) (by kernel_rfl) (fun c a d v w h => by cases d <;> exact h) (by exact ⟨p1, p2, p4, p5, q1, q2, y0, y2⟩) ?_
          simp only [List.take_succ_cons, List.take_zero, List.drop_succ_cons, List.drop_zero, List.cons_append, List.nil_append]
          apply held_of
          · exact rfl
          · intro w' hS
            obtain ⟨s1, s2, s3, s4, s5, s6, s7, s8⟩ := hS
            go_simp
            try exact rfl
          try go_simp
          apply held_of
          · exact rfl
          · intro w' hS
            obtain ⟨s1, s2, s3, s4, s5, s6, s7, s8⟩ := hS
            go_simp
            try exact rfl
          try go_simp
          apply held_of
          · exact rfl
          · intro w' hS
            obtain ⟨s1, s2, s3, s4, s5, s6, s7, s8⟩ := hS
            go_simp
            try exact rfl
          try go_simp
          apply held_of
          · exact rfl
          · intro w' hS
            obtain ⟨s1, s2, s3, s4, s5, s6, s7, s8⟩ := hS
            go_simp
            try exact rfl
          try go_simp
          apply held_of
          · exact rfl
          · intro w' hS
            obtain ⟨s1, s2, s3, s4, s5, s6, s7, s8⟩ := hS
            go_simp
            try exact rfl
          try go_simp
          apply held_of
          · exact rfl
          · intro w' hS
            obtain ⟨s1, s2, s3, s4, s5, s6, s7, s8⟩ := hS
            go_simp
            try exact rfl
          try go_simp
          apply held_of
          · exact rfl
          · intro w' hS
            obtain ⟨s1, s2, s3, s4, s5, s6, s7, s8⟩ := hS
            go_simp
            try exact rfl
          try go_simp
          apply held_of
          · exact rfl
          · intro w' hS
            obtain ⟨s1, s2, s3, s4, s5, s6, s7, s8⟩ := hS
            go_simp
            try exact rfl
          try go_simp
          apply held_of
          · exact rfl
          · intro w' hS
            obtain ⟨s1, s2, s3, s4, s5, s6, s7, s8⟩ := hS
            go_simp
            try exact rfl
          try go_simp
          apply held_of
          · exact rfl
          · intro w' hS
            obtain ⟨s1, s2, s3, s4, s5, s6, s7, s8⟩ := hS
            go_simp
            try exact rfl
          try go_simp
          apply held_of
          · exact rfl
          · intro w' hS
            obtain ⟨s1, s2, s3, s4, s5, s6, s7, s8⟩ := hS
            go_simp
            try exact rfl
          try go_simp
          apply held_of
          · exact rfl
          · intro w' hS
            obtain ⟨s1, s2, s3, s4, s5, s6, s7, s8⟩ := hS
            go_simp
            try exact rfl
          try go_simp
          apply held_of
          · exact rfl
          · intro w' hS
            obtain ⟨s1, s2, s3, s4, s5, s6, s7, s8⟩ := hS
            go_simp
            try exact rfl
          try go_simp
          apply held_of
          · exact rfl
          · intro w' hS
            obtain ⟨s1, s2, s3, s4, s5, s6, s7, s8⟩ := hS
            go_simp
            try exact rfl
          try go_simp
          apply held_of
          · exact rfl
          · intro w' hS
            obtain ⟨s1, s2, s3, s4, s5, s6, s7, s8⟩ := hS
            go_simp
            try exact rfl
          try go_simp
          apply held_of
          · exact rfl
          · intro w' hS
            obtain ⟨s1, s2, s3, s4, s5, s6, s7, s8⟩ := hS
            go_simp
            try exact rfl
          try go_simp
          apply held_of
          · exact rfl
          · intro w' hS
            obtain ⟨s1, s2, s3, s4, s5, s6, s7, s8⟩ := hS
            go_simp
            try exact rfl
          try go_simp
          apply held_of
          · exact rfl
          · intro w' hS
            obtain ⟨s1, s2, s3, s4, s5, s6, s7, s8⟩ := hS
            go_simp
            try exact rfl
          try go_simp
          apply held_of
          · exact rfl
          · intro w' hS
            obtain ⟨s1, s2, s3, s4, s5, s6, s7, s8⟩ := hS
            go_simp
            try exact rfl
          try go_simp
          apply held_of
          · exact rfl
          · intro w' hS
            obtain ⟨s1, s2, s3, s4, s5, s6, s7, s8⟩ := hS
            go_simp
            try exact rfl
          try go_simp
          apply held_of
          · exact rfl
          · intro w' hS
            obtain ⟨s1, s2, s3, s4, s5, s6, s7, s8⟩ := hS
            go_simp
            try exact rfl
          try go_simp
          apply held_of
          · exact rfl
          · intro w' hS
            obtain ⟨s1, s2, s3, s4, s5, s6, s7, s8⟩ := hS
            go_simp
            try exact rfl
          try go_simp
          apply held_of
          · exact rfl
          · intro w' hS
            obtain ⟨s1, s2, s3, s4, s5, s6, s7, s8⟩ := hS
            go_simp
            try exact rfl
          try go_simp
          apply held_of
          · exact rfl
          · intro w' hS
            obtain ⟨s1, s2, s3, s4, s5, s6, s7, s8⟩ := hS
            go_simp
            try exact rfl
          try go_simp
          apply held_of
          · exact rfl
          · intro w' hS
            obtain ⟨s1, s2, s3, s4, s5, s6, s7, s8⟩ := hS
            go_simp
            try exact rfl
          try go_simp
          apply held_of
          · exact rfl
          · intro w' hS
            obtain ⟨s1, s2, s3, s4, s5, s6, s7, s8⟩ := hS
            go_simp
            try exact rfl
          try go_simp
          apply held_of
          · exact rfl
          · intro w' hS
            obtain ⟨s1, s2, s3, s4, s5, s6, s7, s8⟩ := hS
            go_simp
            try exact rfl
          try go_simp
          apply held_of
          · exact rfl
          · intro w' hS
            obtain ⟨s1, s2, s3, s4, s5, s6, s7, s8⟩ := hS
            go_simp
            try exact rfl
          try go_simp
          apply held_of
          · exact rfl
          · intro w' hS
            obtain ⟨s1, s2, s3, s4, s5, s6, s7, s8⟩ := hS
            go_simp
            try exact rfl
          try go_simp
          apply held_of
          · exact rfl
          · intro w' hS
            obtain ⟨s1, s2, s3, s4, s5, s6, s7, s8⟩ := hS
            go_simp
            try exact rfl
          try go_simp
          apply held_of
          · exact rfl
          · intro w' hS
            obtain ⟨s1, s2, s3, s4, s5, s6, s7, s8⟩ := hS
            go_simp
            try exact rfl
          try go_simp
          refine held_nil ?_
          unfold Tail
          go_wp2
          refine And.intro ?_ ?_
          · exact ⟨keepP (by repeat (first | assumption | exact Pure.refl _ | refine Pure.drewN ?_ _ | refine Pure.drew ?_ | refine Pure.alloc ?_ _ | refine Pure.setCell ?_ (by simp <;> omega) _)) p1, keepP (by repeat (first | assumption | exact Pure.refl _ | refine Pure.drewN ?_ _ | refine Pure.drew ?_ | refine Pure.alloc ?_ _ | refine Pure.setCell ?_ (by simp <;> omega) _)) p2, keepP (by repeat (first | assumption | exact Pure.refl _ | refine Pure.drewN ?_ _ | refine Pure.drew ?_ | refine Pure.alloc ?_ _ | refine Pure.setCell ?_ (by simp <;> omega) _)) p4, keepP (by repeat (first | assumption | exact Pure.refl _ | refine Pure.drewN ?_ _ | refine Pure.drew ?_ | refine Pure.alloc ?_ _ | refine Pure.setCell ?_ (by simp <;> omega) _)) p5, keepP (by repeat (first | assumption | exact Pure.refl _ | refine Pure.drewN ?_ _ | refine Pure.drew ?_ | refine Pure.alloc ?_ _ | refine Pure.setCell ?_ (by simp <;> omega) _)) q1, keepP (by repeat (first | assumption | exact Pure.refl _ | refine Pure.drewN ?_ _ | refine Pure.drew ?_ | refine Pure.alloc ?_ _ | refine Pure.setCell ?_ (by simp <;> omega) _)) q2, keepP (by repeat (first | assumption | exact Pure.refl _ | refine Pure.drewN ?_ _ | refine Pure.drew ?_ | refine Pure.alloc ?_ _ | refine Pure.setCell ?_ (by simp <;> omega) _)) y0, keepP (by repeat (first | assumption | exact Pure.refl _ | refine Pure.drewN ?_ _ | refine Pure.drew ?_ | refine Pure.alloc ?_ _ | refine Pure.setCell ?_ (by simp <;> omega) _)) y2⟩
          unfold Tail
          rw [alloc_drew]
          refine wl_append1F elAcc rfl _ _ rfl o.w0.heap.size _ s2.A.length (accsL s2.A) rfl (HAC.out.pure (w' := wo.drew) (by repeat (first | assumption | exact Pure.refl _ | refine Pure.drewN ?_ _ | refine Pure.drew ?_ | refine Pure.alloc ?_ _ | refine Pure.setCell ?_ (by simp <;> omega) _))) wo.heap.size 1 [.int .i64 (k : Int), .int .i64 (ce : Int), .bool true, .int .i64 (ph : Int)] rfl rfl rfl rfl (by decide) hlenA hbaseA ?_
          intro q' wq hq' hg' hl'
          obtain ⟨Aq, cq, hqe⟩ := hq'.form
          subst hqe
          have HT := Lib.hid (ORun.acc (x := ⟨k, ce, true, ph⟩) Hr.out (Pure.drew (Pure.refl wo)) hq' hg' hl')
          have hgc : Chg (fun b => (Value.slice Aa s2.A.length ca2).ownBlock = some b) wo.drew wq := Chg.of_grown hg' (fun b hb => hb)
          have HGC := Lib.hid ((Chg.of_pure (S := fun b => (Value.slice Aa s2.A.length ca2).ownBlock = some b) (show Pure wo wo.drew from (by repeat (first | assumption | exact Pure.refl _ | refine Pure.drewN ?_ _ | refine Pure.drew ?_ | refine Pure.alloc ?_ _ | refine Pure.setCell ?_ (by simp <;> omega) _)))).trans hgc)
          clear hq' hg' hl' hgc
          go_wp2
          have z1 := keepC HGC.out (fun e => (HAN.out _ e).1 rfl) p1
          have z2 := keepC HGC.out (fun e => (HAN.out _ e).1 rfl) p2
          have z4 := keepC HGC.out (fun e => (HAN.out _ e).1 rfl) p4
          have z5 := keepC HGC.out (fun e => (HAN.out _ e).1 rfl) p5
          have x1 := keepC HGC.out (fun e => (HAN.out _ e).2.1 rfl) q1
          have x2 := keepC HGC.out (fun e => (HAN.out _ e).2.2.1 (.inl ⟨k, hkn, rfl⟩)) q2
          have v0 := keepC HGC.out (fun e => HNB2.out (.inr (.inr (.inr e)))) y0
          have v1 := keepC HGC.out (fun e => HNB2.out (.inr (.inr (.inr e)))) y1
          have v2 := keepC HGC.out (fun e => HNB2.out (.inr (.inr (.inr e)))) y2
          have v3 := keepC HGC.out (fun e => HNB2.out (.inr (.inr (.inr e)))) y3
          have hfz : wq.frozen? ⟨o.p, 4, none⟩ = false := (Lock7.chg Hr.out.obj HGC.out (fun e => (HAN.out _ e).1 rfl)).frozen 4
          have hszq := HGC.out.size
          clear p1 p2 p4 p5 q1 q2 y0 y1 y2 y3
          refine And.intro (by exact ⟨z1, z2, z4, z5, x1, x2, v0, v2⟩) ?_
          unfold Tail
          go_wp2
          refine And.intro (by exact ⟨z1, z2, z4, z5, x1, x2, v0, v2⟩) ?_
          unfold Tail
          go_wp2
          refine And.intro (by exact ⟨z1, z2, z4, z5, x1, x2, v0, v2⟩) ?_
          unfold Tail
          go_wp2
          have H3 := Lib.hid HT.out.1
          have H3s := Lib.hid HT.out.2
          refine region_tail 13 (by kernel_rfl) (by kernel_rfl) ?_
          simp only [List.take_succ_cons, List.take_zero, List.drop_succ_cons, List.drop_zero]
          repeat still_step
          refine wpStill_nil ?_
          go_wp2_with fail
          refine (i6_any o.rm ⟨op, ca, bn, cc⟩ k _ s2.R s2.M (H3.out.rm.pure (by exact (by repeat (first | assumption | exact Pure.refl _ | refine Pure.drewN ?_ _ | refine Pure.drew ?_ | refine Pure.alloc ?_ _ | refine Pure.setCell ?_ (by simp <;> omega) _)))) hkn HPL.out (hgood.out.1 k)).mono ?_
          rintro e w7 ⟨rfl, hrm7, hch7⟩
          have h7 := ORun.lane (H3.out.keep (w' := (wq.setCell ⟨o.p, 4, none⟩ (.slice Aq (s2.A.length + 1) cq)).drew) (by exact (by repeat (first | assumption | exact Pure.refl _ | refine Pure.drewN ?_ _ | refine Pure.drew ?_ | refine Pure.alloc ?_ _ | refine Pure.setCell ?_ (by simp <;> omega) _)))) hkn HPL.out.1 hrm7 hch7
          clear hrm7 hch7
          have hx : (⟨k, ce, true, ph⟩ : Ac) = ⟨k, cellOf ⟨op, ca, bn, cc⟩ o.rm.m (s2.R k), decide ((⟨op, ca, bn, cc⟩ : Cd).op = 9), s2.P⟩ := by
            have h9 : decide ((⟨op, ca, bn, cc⟩ : Cd).op = 9) = true := HW.out
            rw [HC.out, h9, Hph.out]
          have hlan : ({ lane1 ⟨op, ca, bn, cc⟩ o.rm.m k { s2 with A := s2.A ++ [⟨k, ce, true, ph⟩] } with A := s2.A ++ [⟨k, ce, true, ph⟩] } : LS) = lane1 ⟨op, ca, bn, cc⟩ o.rm.m k s2 := by
            rw [hx]; exact lane1_acc Hacc.out
          have H7 : Hid (ORun o w7 vb (.slice Aq (s2.A.length + 1) cq) (lane1 ⟨op, ca, bn, cc⟩ o.rm.m k s2)) := Lib.hid (by rw [← hlan]; exact h7.1)
          have H7s := Lib.hid ((Hst.out.trans H3s.out).trans ((OStep.of_pure (show Pure (wq.setCell ⟨o.p, 4, none⟩ (.slice Aq (s2.A.length + 1) cq)) _ from (by repeat (first | assumption | exact Pure.refl _ | refine Pure.drewN ?_ _ | refine Pure.drew ?_ | refine Pure.alloc ?_ _ | refine Pure.setCell ?_ (by simp <;> omega) _)))).trans h7.2))
          clear h7 hlan
          go_wp2
          go_roundg (L.length - (j + 1))
          case measure => have := Hgk.out; omega
          case rel => exact ⟨j + 1, _, by have := Hgk.out; omega, by go_num, by rw [Hnext.out]; exact H7.out, H7s.out, by rw [Hnext.out]; have := Hal.out; show (if _ then _ else _ : List Ac).length ≤ _; rw [if_pos Hacc.out]; simp; omega⟩
      · have H3 := Hr
        have Hacc := Lib.hid hacc
        have hd8 : (op == 8) = false := by rw [beq_eq_false_iff_ne]; exact fun e => hacc (.inl e)
        have hd9 : (op == 9) = false := by rw [beq_eq_false_iff_ne]; exact fun e => hacc (.inr e)
        clear hacc hr
        go_wp2_with fail
        refine region_tail 13 (by kernel_rfl) (by kernel_rfl) ?_
        simp only [List.take_succ_cons, List.take_zero, List.drop_succ_cons, List.drop_zero]
        repeat still_step
        refine wpStill_nil ?_
        go_wp2_with fail
        refine (i6_any o.rm ⟨op, ca, cb, cc⟩ k _ s2.R s2.M (H3.out.rm.pure (by exact (by repeat (first | assumption | exact Pure.refl _ | refine Pure.drewN ?_ _ | refine Pure.drew ?_ | refine Pure.alloc ?_ _ | refine Pure.setCell ?_ (by simp <;> omega) _)))) hkn HPL.out (hgood.out.1 k)).mono ?_
        rintro e w7 ⟨rfl, hrm7, hch7⟩
        have h7 := ORun.lane (H3.out.keep (w' := wr.drew) (by exact (by repeat (first | assumption | exact Pure.refl _ | refine Pure.drewN ?_ _ | refine Pure.drew ?_ | refine Pure.alloc ?_ _ | refine Pure.setCell ?_ (by simp <;> omega) _)))) hkn HPL.out.1 hrm7 hch7
        clear hrm7 hch7
        have hlan := lane1_no (c := ⟨op, ca, cb, cc⟩) (m := o.rm.m) (k := k) (s := s2) Hacc.out
        have H7 : Hid (ORun o w7 vb va2 (lane1 ⟨op, ca, cb, cc⟩ o.rm.m k s2)) := Lib.hid (by rw [← hlan]; exact h7.1)
        have H7s := Lib.hid (Hst.out.trans ((OStep.of_pure (show Pure wr wr.drew from (by repeat (first | assumption | exact Pure.refl _ | refine Pure.drewN ?_ _ | refine Pure.drew ?_ | refine Pure.alloc ?_ _ | refine Pure.setCell ?_ (by simp <;> omega) _)))).trans h7.2))
        clear h7 hlan
        go_wp2
        go_roundg (L.length - (j + 1))
        case measure => have := Hgk.out; omega
        case rel => exact ⟨j + 1, _, by have := Hgk.out; omega, by go_num, by rw [Hnext.out]; exact H7.out, H7s.out, by rw [Hnext.out]; have := Hal.out; show (if _ then _ else _ : List Ac).length ≤ _; rw [if_neg Hacc.out]; omega⟩
    · have hjl : j = L.length := by omega
      have hfin : lanesF ⟨op, ca, cb, cc⟩ o.rm.m (L.take j) s = lanesTo ⟨op, ca, cb, cc⟩ o.rm.m mask o.rm.n s := by
        rw [hjl, List.take_length, ← HL.out, lanesF_eq, lanesTo_stop _ _ HMN.out _ 8 hn8]
      rw [hfin] at Hr hr
      have hpfr := hr.obj.frozen 5
      obtain ⟨p0, p1, p2, p3, p4, p5, p6⟩ := hr.obj.facts
      have hpb1 : o.p ≠ w.heap.size := fun e => HNO.out (.inl e.symm)
      clear hfin hr p0 p1 p2 p3 p4 p6
      by_cases h10 : op = 10
      · subst h10
        have HP := Lib.hid (Hr.out.phase ((lanesTo ⟨10, ca, cb, cc⟩ o.rm.m mask o.rm.n s).P + 1))
        obtain ⟨ph, Hph⟩ : ∃ ph, Hid ((lanesTo ⟨10, ca, cb, cc⟩ o.rm.m mask o.rm.n s).P = ph) := ⟨_, rfl⟩
        rw [Hph.out] at p5
        have hphb : ph ≤ 1099511627776 := by rw [← Hph.out, lanesTo_P]; exact hlenP
        go_wp2_with fail
        go_end0
        have e : execM ⟨10, ca, cb, cc⟩ o.rm.n o.rm.m mask s = { lanesTo ⟨10, ca, cb, cc⟩ o.rm.m mask o.rm.n s with P := (lanesTo ⟨10, ca, cb, cc⟩ o.rm.m mask o.rm.n s).P + 1 } := by unfold execM; first | rfl | simp
        refine ⟨rfl, vb, va2, ?_, ?_⟩
        · rw [e]; have := HP.out.1; rw [Hph.out] at this ⊢; exact this
        · have := HP.out.2; rw [Hph.out] at this; exact (((OStep.of_pure HW1.out).trans Hst.out).trans this)
      · have d10 : (op == 10) = false := by rw [beq_eq_false_iff_ne]; exact h10
        have H10 := Lib.hid h10
        clear h10
        go_wp2_with fail
        go_end0
        have e : execM ⟨op, ca, cb, cc⟩ o.rm.n o.rm.m mask s = lanesTo ⟨op, ca, cb, cc⟩ o.rm.m mask o.rm.n s := by unfold execM; rw [if_neg H10.out]
        exact ⟨rfl, vb, va2, by rw [e]; exact Hr.out, (OStep.of_pure HW1.out).trans Hst.out⟩

end Go.Proofs.Ytokdfgodmhekmaa

namespace Go.Proofs.Ytokdfgodmhekmaa
open Go.RowKit

theorem Tabs.own {w : World} {va vo : Value} {cs : List Cd} (h : Tabs w va vo cs) {k : Nat} (hk : k < cs.length) :
    ∃ A c, vo = .slice A cs.length c ∧ cs.length ≤ c ∧ c ≤ 9223372036854775807 ∧ ∃ b o, A = some ⟨b, o, none⟩ ∧ b < w.heap.size ∧
      ((∀ p, ownOf cs k = some p → p < cs.length → Opens (cs.getD p default) → ∃ g, w.cell? ⟨b, o + k, none⟩ = some (.pointer (some ⟨g, 0, none⟩)) ∧ g < w.heap.size ∧ w.cell? ⟨g, 0, none⟩ = some (.int .i64 p) ∧ w.cell? ⟨g, 1, none⟩ = some (.int .i64 (endAt cs p).2) ∧ w.cell? ⟨g, 2, none⟩ = some (.int .i64 (endAt cs p).1)) ∧
       (ownOf cs k = none → w.cell? ⟨b, o + k, none⟩ = some (.pointer none))) := by
  obtain ⟨pb, h1, h2, _⟩ := h
  obtain ⟨A, c, rfl, h3, h4, h5⟩ := h1
  obtain ⟨b, o, rfl, hb, hc⟩ := h5 (by omega)
  refine ⟨_, c, rfl, h3, h4, b, o, rfl, hb, fun p hp hp1 hp2 => ?_, fun hn => ?_⟩
  · obtain ⟨x1, x2, x3, x4⟩ := h2 p hp1 hp2
    refine ⟨pb p, ?_, x1, x2, x3, x4⟩
    rw [hc k (by omega)]; simp only [hp]; rfl
  · rw [hc k (by omega)]; simp only [hn]; rfl

def SuccPost (cs : List Cd) (k : Nat) (w : World) (e : Ending) (w' : World) : Prop :=
  ∃ v, e = .returned v ∧ OwnO w' w.heap.size 3 1 v (succs cs k).length ((succs cs k).map (.int .i64)) ∧ Pure w w'

theorem SuccPost.lit {cs : List Cd} {k n : Nat} {w : World} {xs : List Int} (hx : succs cs k = xs) (hn : xs.length = n) (h63 : n ≤ 64) :
    SuccPost cs k w (.returned (.slice (some ⟨w.heap.size, 0, none⟩) n n)) (w.alloc (.cells (xs.map (.int .i64)).toArray 3)) := by
  subst hn
  refine ⟨_, rfl, ?_, Pure.alloc (Pure.refl _) _⟩
  rw [hx]
  have := OwnO.lit (e := 3) (s := 1) w (xs.map (.int .i64)).toArray xs.length (Nat.le_refl _) (by omega) (by simp)
  simpa using this

/-- The graph under way: the first k rows are there, the others not yet. -/
def RowsM (w : World) (B g N k : Nat) (S : Nat → List Int) : Prop :=
  ∃ ys, OwnO w B 23 1 (.slice (some ⟨g, 0, none⟩) N N) N ys ∧ (∀ j, j < k → ∃ r, ys[j]? = some r ∧ OwnO w B 3 1 r (S j).length ((S j).map (.int .i64))) ∧ ∀ j, k ≤ j → j < N → ys[j]? = some (.slice none 0 0)
theorem RowsM.pure {w w' : World} {B g N k : Nat} {S : Nat → List Int} (h : RowsM w B g N k S) (hp : Pure w w') : RowsM w' B g N k S := by
  obtain ⟨ys, h1, h2, h3⟩ := h
  exact ⟨ys, h1.pure hp, fun j hj => let ⟨r, a, b⟩ := h2 j hj; ⟨r, a, b.pure hp⟩, h3⟩
theorem RowsM.facts {w : World} {B g N k : Nat} {S : Nat → List Int} (h : RowsM w B g N k S) (hk : k < N) :
    (∃ u, w.cell? ⟨g, k, none⟩ = some u) ∧ w.frozen? ⟨g, k, none⟩ = false ∧ g < w.heap.size ∧ B ≤ g := by
  obtain ⟨ys, h1, h2, h3⟩ := h
  have := h1.cellSome k (by omega)
  rw [Nat.zero_add] at this
  exact ⟨this, h1.frozen k, (h1.lt g rfl).2, (h1.lt g rfl).1⟩
theorem RowsM.put {w : World} {B g N k : Nat} {r : Value} {S : Nat → List Int} (h : RowsM w B g N k S) (hk : k < N) (hr : OwnO w B 3 1 r (S k).length ((S k).map (.int .i64))) :
    RowsM (w.setCell ⟨g, k, none⟩ r) B g N (k + 1) S := by
  obtain ⟨ys, h1, h2, h3⟩ := h
  have hst := h1.stored k r
  rw [Nat.zero_add] at hst
  have hl : k < ys.length := by have := h1.1; omega
  have hg : w.grownBy (w.setCell ⟨g, k, none⟩ r) (some g) := grown_setCell w ⟨g, k, none⟩ r
  refine ⟨_, hst, fun j hj => ?_, fun j hj hj2 => ?_⟩
  · by_cases e : j = k
    · subst e
      exact ⟨r, by rw [List.getElem?_set_self hl], hr.kept hg (fun g' hg' => hr.ne h1 (by decide) g' hg')⟩
    · obtain ⟨r', a, b⟩ := h2 j (by omega)
      exact ⟨r', by rw [List.getElem?_set_ne (by omega)]; exact a, b.kept hg (fun g' hg' => b.ne h1 (by decide) g' hg')⟩
  · rw [List.getElem?_set_ne (by omega)]; exact h3 j (by omega) hj2
theorem RowsM.rows {w : World} {B g n : Nat} {S : Nat → List Int} (h : RowsM w B g (n + 1) n S) (hS : S n = []) : RowsO w B (.slice (some ⟨g, 0, none⟩) (n + 1) (n + 1)) (n + 1) S (h.choose) := by
  obtain ⟨h1, h2, h3⟩ := h.choose_spec
  refine ⟨h1, fun j hj => ?_⟩
  by_cases e : j = n
  · subst e
    exact ⟨_, h3 j (Nat.le_refl _) hj, by rw [hS]; exact OwnO.of_own (World.ownsRow_nil _ _ _ _)⟩
  · exact h2 j (by omega)

end Go.Proofs.Ytokdfgodmhekmaa
