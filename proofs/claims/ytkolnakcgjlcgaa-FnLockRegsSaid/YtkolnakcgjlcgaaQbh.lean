/- A block of instructions in lockstep, as the reference walks through it. No condition. -/
import Derived.Test.YtkolnakcgjlcgaaQaj
import Derived.Test.YtkolnakcgjlcgaaQba
import Derived.Test.YtkolnakcgjlcgaaQbg

namespace Go.Proofs.Ytkolnakcgjlcgaa
open Go.RowKit

/-- The run under way, with its two flags. -/
structure SRunF (o : SO) (w : World) (vt : Value) (s : LS) (sp un : Bool) : Prop where
  pure : Pure o.w0 w
  codes : Codes o.w0 o.vl o.cs
  base : o.rm.B = o.w0.heap.size
  rm : RM o.rm w s.R s.M
  n1 : 1 ≤ o.rm.n
  obj : Obj8 o w vt sp un
  plo : o.w0.heap.size ≤ o.p
  tr : OwnO w o.w0.heap.size 33 2 vt s.H.length (beatsL s.H)
  good : Good s
  noChk : o.chk = false → o.vc = .slice none 0 0
  chkS : o.chk = true → (∀ k, o.sets k < 16) ∧ Cells o.w0 o.vc o.cs.length 1 fun j => .int .i64 (o.sets j : Nat)
section
variable {o : SO} {w w' : World} {vt vt' : Value} {s : LS} {sp un : Bool}
theorem SRunF.of (h : SRun o w vt s) : SRunF o w vt s (splitH o.cs o.rm.n s.H) (o.un s.H) := ⟨h.1, h.2, h.3, h.4, h.5, h.6, h.7, h.8, h.9, h.10, h.11⟩
theorem SRunF.run (h : SRunF o w vt s sp un) (h1 : splitH o.cs o.rm.n s.H = sp) (h2 : o.un s.H = un) : SRun o w vt s := ⟨h.1, h.2, h.3, h.4, h.5, by rw [h1, h2]; exact h.6, h.7, h.8, h.9, h.10, h.11⟩
theorem SRunF.keep (h : SRunF o w vt s sp un) (hp : Pure w w') : SRunF o w' vt s sp un :=
  ⟨h.pure.trans hp, h.codes, h.base, h.rm.pure hp, h.n1, h.obj.pure hp, h.plo, h.tr.pure hp, h.good, h.noChk, h.chkS⟩
theorem SRunF.own_lo (h : SRunF o w vt s sp un) : ∀ k, o.own vt k → o.w0.heap.size ≤ k := by
  rintro k (rfl | hk | hk)
  · exact h.plo
  · rw [← h.base]; exact h.rm.own_lo k hk
  · exact (h.tr.lt k hk).1
theorem SRunF.own_hi (h : SRunF o w vt s sp un) : ∀ k, o.own vt k → k < w.heap.size := by
  rintro k (rfl | (⟨l, hl, rfl⟩ | rfl) | hk)
  · exact h.obj.lt
  · exact (Array.getElem?_eq_some_iff.1 (h.rm.row l hl)).1
  · exact h.rm.gmlo.2
  · exact (h.tr.lt k hk).2
theorem SRunF.tr_ne (h : SRunF o w vt s sp un) : ∀ k, vt.ownBlock = some k → k ≠ o.p ∧ k ≠ o.rm.gr ∧ ¬ o.rm.own k := by
  intro k hk
  obtain ⟨cur, b1, _⟩ := h.rm.outer
  refine ⟨h.tr.ne_heap h.obj (by decide) k hk, h.tr.ne_heap b1 (by decide) k hk, ?_⟩
  rintro (⟨l, hl, e⟩ | e)
  · exact h.tr.ne_heap (h.rm.row l hl) (by decide) k hk e
  · exact h.tr.ne h.rm.mem (by decide) k hk (by rw [e]; rfl)
/-- A step is noted: the trace grows, and the object is told where it lies. -/
theorem SRunF.trace {i mask : Nat} (h : SRunF o w vt s sp un) (hp : Pure w w') {wq : World} (ht : OwnO wq o.w0.heap.size 33 2 vt' (s.H.length + 1) (beatsL s.H ++ [.int .i64 (i : Nat), .int .i64 (mask : Nat)]))
    (hg : w'.grownBy wq vt.ownBlock) (hl : Lies w' vt vt') :
    SRunF o (wq.setCell ⟨o.p, 4, none⟩ vt') vt' (beat i mask s) sp un ∧ SStep o w vt (wq.setCell ⟨o.p, 4, none⟩ vt') vt' := by
  have h' := h.keep hp
  have hc : Chg (fun k => vt.ownBlock = some k) w' wq := Chg.of_grown hg (fun k hk => hk)
  have hc2 : Chg (fun k => k = o.p) wq (wq.setCell ⟨o.p, 4, none⟩ vt') := Chg.of_set wq _ _ _ rfl
  have hne := h'.tr_ne
  have hap := h'.obj.apart h'.rm
  have hrm : RM o.rm wq s.R s.M := h'.rm.chg hc (fun e => (hne _ e).2.1 rfl) (fun k hk e => (hne _ e).2.2 (.inl ⟨k, hk, rfl⟩)) (fun e => (hne _ e).2.2 (.inr rfl))
  have hob : Obj8 o wq vt sp un := h'.obj.chg hc (fun e => (hne _ e).1 rfl)
  have hpq : Pure o.w0 wq := Chg.pure h'.pure hc (fun k hk => (h'.tr.lt k hk).1)
  have hstep : Chg (o.own vt) w (wq.setCell ⟨o.p, 4, none⟩ vt') :=
    ((Chg.of_pure hp).trans ((hc.mono fun k hk => .inr (.inr hk)).trans (hc2.mono fun k hk => .inl hk)))
  refine ⟨⟨Chg.pure hpq hc2 (fun k hk => by rw [hk]; exact h.plo), h.codes, h.base, ?_, h.n1, hob.setTrace vt', h.plo, ?_, h.good.beat i mask, h.noChk, h.chkS⟩, hstep, fun g hg2 => ?_⟩
  · exact hrm.chg hc2 (fun e => hap.2.1 e.symm) (fun k hk e => hap.2.2.2 k hk e.symm) (fun e => hap.2.2.1 e.symm)
  · have : OwnO wq o.w0.heap.size 33 2 vt' (beat i mask s).H.length (beatsL (beat i mask s).H) := by
      show OwnO wq o.w0.heap.size 33 2 vt' (s.H ++ [(i, mask, s.R)]).length (beatsL (s.H ++ [(i, mask, s.R)]))
      rw [beatsL_append]; simpa using ht
    exact this.chg hc2 (fun g hg3 e => this.ne_heap hob (by decide) g hg3 e)
  · rcases hl g hg2 with h1 | h1
    · exact .inl h1
    · exact .inr (Nat.le_trans hp.size h1)
/-- A lane has executed an instruction. -/
theorem SRunF.lane {k : Nat} {c : Cd} (h : SRunF o w vt s sp un) (hk : k < o.rm.n) (hc : CdOk c) (hr : RM o.rm w' (upR s.R k (simR c k o.rm.m (s.R k) s.M)) (simM c o.rm.m (s.R k) s.M)) (hch : Chg (o.rm.lane k) w w') :
    SRunF o w' vt (lane1 c o.rm.m k s) sp un ∧ SStep o w vt w' vt := by
  have hlo : ∀ b, o.rm.lane k b → o.rm.own b := by
    rintro b (hb | hb)
    · exact .inl ⟨k, hk, hb⟩
    · exact .inr hb
  have hap := h.obj.apart h.rm
  have hn8 := h.rm.n8
  refine ⟨⟨Chg.pure h.pure hch (fun b hb => by rw [← h.base]; exact h.rm.lane_lo hk b hb), h.codes, h.base, hr, h.n1, h.obj.chg hch (fun e => hap.1 (hlo _ e)), h.plo, h.tr.chg hch (fun g hg e => (h.tr_ne g hg).2.2 (hlo _ e)), h.good.lane1 hc (by omega), h.noChk, h.chkS⟩, hch.mono fun b hb => .inr (.inl (hlo b hb)), fun g hg => .inl hg⟩
/-- The flag for split barriers is written. -/
theorem SRunF.split (h : SRunF o w vt s sp un) (b : Bool) : SRunF o (w.setCell ⟨o.p, 5, none⟩ (.bool b)) vt s b un ∧ SStep o w vt (w.setCell ⟨o.p, 5, none⟩ (.bool b)) vt := by
  have hc : Chg (fun k => k = o.p) w (w.setCell ⟨o.p, 5, none⟩ (.bool b)) := Chg.of_set w _ _ _ rfl
  have hap := h.obj.apart h.rm
  refine ⟨⟨Chg.pure h.pure hc (fun k hk => by rw [hk]; exact h.plo), h.codes, h.base, h.rm.chg hc (fun e => hap.2.1 e.symm) (fun k hk e => hap.2.2.2 k hk e.symm) (fun e => hap.2.2.1 e.symm), h.n1, h.obj.setSplit b, h.plo, h.tr.chg hc (fun g hg e => (h.tr_ne g hg).1 e), h.good, h.noChk, h.chkS⟩, hc.mono fun k hk => .inl hk, fun g hg => .inl hg⟩
theorem SRunF.phase (h : SRunF o w vt s sp un) (P : Nat) : SRunF o w vt { s with P := P } sp un := ⟨h.1, h.2, h.3, h.4, h.5, h.6, h.7, h.8, h.9, h.10, h.11⟩
/-- An instruction that lies in a block of its own is still there behind a step of the run. -/
theorem SStep.box {a b : World} {u v : Value} (h : SStep o a u b v) {g : Nat} (hg : g < a.heap.size) (hn : ¬ o.own u g) (i : Nat) : b.cell? ⟨g, i, none⟩ = a.cell? ⟨g, i, none⟩ := h.1.cell hg hn
end
theorem splitH_append (cs : List Cd) (n : Nat) (H : List (Nat × Nat × (Nat → Nat → Int))) (x : Nat × Nat × (Nat → Nat → Int)) :
    splitH cs n (H ++ [x]) = (splitH cs n H || (decide ((cs.getD x.1 default).op = 10) && !decide (x.2.1 = 2 ^ n - 1))) := by
  simp [splitH]
theorem un_off (o : SO) (H : List (Nat × Nat × (Nat → Nat → Int))) (hc : o.chk = false) : o.un H = false := by
  simp [SO.un, hc]
theorem beat_H (k mask : Nat) (s : LS) : (beat k mask s).H.length = s.H.length + 1 := by simp [beat]
theorem SO.own_lies {o : SO} {vt q : Value} {W : World} {g : Nat} (h : ¬ o.own vt g) (hl : Lies W vt q) (hg : g < W.heap.size) : ¬ o.own q g := by
  rintro (e | e | e)
  · exact h (.inl e)
  · exact h (.inr (.inl e))
  · rcases hl g e with h2 | h2
    · exact h (.inr (.inr h2))
    · omega
/-- An instruction that lies in a block of its own. -/
def Box (w : World) (g : Nat) (c : Cd) : Prop := w.cell? ⟨g, 0, none⟩ = some (.int .i64 c.op) ∧ w.cell? ⟨g, 1, none⟩ = some (.int .i64 c.a) ∧ w.cell? ⟨g, 2, none⟩ = some (.int .i64 c.b) ∧ w.cell? ⟨g, 3, none⟩ = some (.int .i64 c.c)
theorem Box.chg {S : Nat → Prop} {w w' : World} {g : Nat} {c : Cd} (h : Box w g c) (hc : Chg S w w') (hn : ¬ S g) : Box w' g c := by
  have hg := World.block_lt_of_cell? _ _ h.1
  exact ⟨(hc.cell hg hn).trans h.1, (hc.cell hg hn).trans h.2.1, (hc.cell hg hn).trans h.2.2.1, (hc.cell hg hn).trans h.2.2.2⟩
theorem Box.lt {w : World} {g : Nat} {c : Cd} (h : Box w g c) : g < w.heap.size := World.block_lt_of_cell? _ _ h.1
theorem Box.pure {w w' : World} {g : Nat} {c : Cd} (h : Box w g c) (hp : Pure w w') : Box w' g c := h.chg (S := fun _ => False) (Chg.of_pure hp) id
theorem Box.step {o : SO} {w w' : World} {u v : Value} {g : Nat} {c : Cd} (h : Box w g c) (hs : SStep o w u w' v) (hn : ¬ o.own u g) : Box w' g c := h.chg hs.1 hn
def BlkP (o : SO) (w : World) (vt : Value) (s : LS) (e : Ending) (w' : World) : Prop := e = .returned (.tuple #[]) ∧ ∃ vt', SRun o w' vt' s ∧ SStep o w vt w' vt'
set_option maxHeartbeats 8000000 in
set_option maxRecDepth 100000 in
theorem sblock_any (o : SO) (hv : PValid o.cs) (hck : o.chk = false) : ∀ (sz : Nat) (t : Tr) (i mask : Nat) (s : LS) (vt : Value) (w : World) (fr to : Int), t.len ≤ sz → t.Ok → Seg o.cs i t → i + t.len ≤ o.cs.length → mask < 2 ^ o.rm.n →
    s.H.length + t.cost ≤ 1099511627775 → SRun o w vt s → fr = (i : Nat) → to = ((i + t.len : Nat) : Int) →
    Calls Try.prog 87 #[.pointer (some ⟨o.p, 0, none⟩), .int .i64 fr, .int .i64 to, .int .i64 mask] w (BlkP o w vt (run o.rm.n o.rm.m t i mask s)) := by
  intro sz
  induction sz with
  | zero =>
    intro t i mask s vt w fr to hsz hok hseg hic hmask hcost hrun hfr hto
    obtain rfl := Tr.len_zero (show t.len = 0 by omega)
    subst hfr hto
    have HR := Lib.hid hrun
    clear hrun
    have hl0 : Tr.nil.len = 0 := rfl
    rw [hl0, Nat.add_zero]
    clear hl0 hsz hcost
    go_enter Try.func87, Try.ntmps87
    go_wp2_with fail
    go_loopg [8] 0 (fun gk i' wr => i' = .int .i64 i ∧ wr = w)
    case atStart => exact ⟨rfl, rfl⟩
    case round =>
      obtain ⟨rfl, rfl⟩ := hrel
      go_wp2_with fail
      go_end0
      exact ⟨rfl, vt, HR.out, SStep.refl _ _ _⟩
  | succ sz ih =>
    intro t i mask s vt w fr to hsz hok hseg hic hmask hcost hrun hfr hto
    subst hfr
    have HIH := Lib.hid ih
    have HV := Lib.hid hv
    have HTO := Lib.hid hto
    have HR := Lib.hid hrun
    have HSEG := Lib.hid hseg
    have HOK := Lib.hid hok
    have HCO := Lib.hid hcost
    have HSZ := Lib.hid hsz
    have hn8 := hrun.rm.n8
    have hn1 := hrun.n1
    have hsmall := hv.2.1
    have hm256 : mask < 256 := Nat.lt_of_lt_of_le hmask (pow8 hn8)
    have HMASK := Lib.hid hmask
    have HCK := Lib.hid hck
    obtain ⟨A, cA, hvl, hnc, hcm⟩ := hrun.codes.form
    have HVL := Lib.hid hvl
    have htoc : to ≤ (o.cs.length : Int) := by rw [hto]; exact_mod_cast hic
    clear ih hv hto hrun hseg hok hcost hsz hck hic hvl
    go_enter Try.func87, Try.ntmps87
    go_wp2_with fail
    go_loopg [8] t.len (fun gk kk wr => ∃ (t' : Tr) (k : Nat) (s' : LS) (vt' : Value), gk = t'.len ∧ ((k + t'.len : Nat) : Int) = to ∧ t'.len ≤ t.len ∧ kk = .int .i64 k ∧ t'.Ok ∧ Seg o.cs k t' ∧ s'.H.length + t'.cost ≤ 1099511627775 ∧ SRun o wr vt' s' ∧ SStep o w vt wr vt' ∧ run o.rm.n o.rm.m t' k mask s' = run o.rm.n o.rm.m t i mask s)
    case atStart => exact ⟨t, i, s, vt, rfl, HTO.out.symm, Nat.le_refl _, rfl, HOK.out, HSEG.out, HCO.out, HR.out, SStep.refl _ _ _, rfl⟩
    case round =>
      clear HR HSEG HOK HCO HTO
      obtain ⟨t', k, s', vt', hgk, hto, htl, rfl, hok, hseg, hco, hr, hst, hrun⟩ := hrel
      have Hgk := Lib.hid hgk
      have Hto := Lib.hid hto
      have Htl := Lib.hid htl
      have Hok := Lib.hid hok
      have Hseg := Lib.hid hseg
      have Hco := Lib.hid hco
      have Hr := Lib.hid hr
      have Hst := Lib.hid hst
      have Hrun := Lib.hid hrun
      clear hgk hto htl hok hseg hco hst hrun
      by_cases hm0 : mask = 0
      · subst hm0
        clear hr
        have hfin : run o.rm.n o.rm.m t i 0 s = s' := by rw [← Hrun.out, run_zero]
        have Hfin := Lib.hid hfin
        clear hfin
        by_cases hlt : (k : Int) < to
        · go_wp2_with fail
          go_end0
          exact ⟨rfl, vt', by rw [Hfin.out]; exact Hr.out, Hst.out⟩
        · go_wp2_with fail
          go_end0
          exact ⟨rfl, vt', by rw [Hfin.out]; exact Hr.out, Hst.out⟩
      by_cases hlt : (k : Int) < to
      case neg =>
        have hz : t' = .nil := Tr.len_zero (by have := Hto.out; omega)
        subst hz
        have Hfin : Hid (run o.rm.n o.rm.m t i mask s = s') := Lib.hid (by rw [← Hrun.out]; rfl)
        clear hr hm0
        go_wp2_with fail
        go_end0
        exact ⟨rfl, vt', by rw [Hfin.out]; exact Hr.out, Hst.out⟩
      case pos =>
        have HM0 := Lib.hid hm0
        have hmne : ((mask : Int) != 0) = true := by rw [bne_iff_ne]; omega
        clear hm0
        have hk : k < o.cs.length := by omega
        obtain ⟨p0, p1, p2, p3, p4, p5, p6, p7⟩ := hr.obj.facts
        rw [HVL.out] at p0
        have hcd := hr.codes.keep hr.pure
        rw [HVL.out] at hcd
        obtain ⟨b, ob, rfl, hb, hc⟩ := hcd.at_ hk
        obtain ⟨cd, Hcd⟩ : ∃ cd, Hid (o.cs.getD k default = cd) := ⟨_, rfl⟩
        rw [Hcd.out] at hc
        obtain ⟨c0, c1, c2, c3⟩ := hc
        have hcok : CdOk cd := by rw [← Hcd.out]; exact HV.out.1 _ (cdOk_mem hk)
        have HCOK := Lib.hid hcok
        obtain ⟨op, ca, cb, cc⟩ := cd
        simp only at c0 c1 c2 c3
        have hlen : s'.H.length + 1 ≤ 1099511627776 := by have := Hco.out; omega
        have hplt : o.p < wr.heap.size := hr.obj.lt
        have hpfr : ∀ i, wr.frozen? ⟨o.p, i, none⟩ = false := hr.obj.frozen
        have HPF := Lib.hid hpfr
        have hbase : o.w0.heap.size ≤ wr.heap.size := hr.pure.size
        obtain ⟨wo, rfl⟩ : ∃ wo : World, wo = wr := ⟨_, rfl⟩
        have hnown : ¬ o.own vt' wo.heap.size := fun e => absurd (hr.own_hi _ e) (by omega)
        have HNO := Lib.hid hnown
        have hvc := hr.noChk
        have hvcs := hr.chkS
        clear hr hcd hcok hpfr hnown p1 p2 p3 p5 p7
        rw [hvc HCK.out] at p6
        clear hvc hvcs
        have HB1 := Lib.hid (show Pure wo (wo.alloc (.cells #[.int .i64 op, .int .i64 ca, .int .i64 cb, .int .i64 cc] 36)) from Pure.alloc (Pure.refl _) _)
        have HXB := Lib.hid (boxed (Pure.refl (wo.alloc (.cells #[.int .i64 op, .int .i64 ca, .int .i64 cb, .int .i64 cc] 36))))
        have HOW := Lib.hid (Hr.out.tr.pure HB1.out)
        obtain ⟨At, ct, rfl⟩ := Hr.out.tr.form
        go_wp2_with (at_builtin; go_must (refine wl_append1F elBeat rfl _ _ rfl o.w0.heap.size _ s'.H.length (beatsL s'.H) rfl HOW.out (wo.heap.size + 1) 1 [.int .i64 (k : Int), .int .i64 (mask : Int)] rfl (by simp) rfl rfl (by decide) hlen (Nat.le_trans hbase HB1.out.size) ?_); intro q' wq hq' hg' hl'; go_must (obtain ⟨Aq, cq, hqe⟩ := hq'.form; subst hqe; have HT := Lib.hid (SRunF.trace (i := k) (mask := mask) (SRunF.of Hr.out) HB1.out hq' hg' hl'); have hgc : Chg (fun k => (Value.slice At s'.H.length ct).ownBlock = some k) _ wq := Chg.of_grown hg' (fun k hk => hk); have HNE := Lib.hid ((SRunF.of Hr.out).keep HB1.out).tr_ne; have z4 := (((SRunF.of Hr.out).keep HB1.out).obj.chg hgc (fun e => (HNE.out _ e).1 rfl)).facts; have z5 := (((SRunF.of Hr.out).keep HB1.out).obj.chg hgc (fun e => (HNE.out _ e).1 rfl)).frozen 4; obtain ⟨z40, _, _, _, z44, _, z46, _⟩ := z4; rw [HVL.out] at z40; rw [Hr.out.noChk HCK.out] at z46; have HNQ := Lib.hid (SO.own_lies HNO.out hl' (World.block_lt_of_cell? _ _ HXB.out.1)); have nb : ¬ (Value.slice At s'.H.length ct).ownBlock = some wo.heap.size := fun e => HNO.out (.inr (.inr e)); have hb1 := World.block_lt_of_cell? _ _ HXB.out.1; have x0 := (hgc.cell (i := 0) hb1 nb).trans HXB.out.1; have x1 := (hgc.cell (i := 1) hb1 nb).trans HXB.out.2.1; have x2 := (hgc.cell (i := 2) hb1 nb).trans HXB.out.2.2.1; have x3 := (hgc.cell (i := 3) hb1 nb).trans HXB.out.2.2.2.1; have hbq : wo.heap.size < wq.heap.size := Nat.lt_of_lt_of_le hb1 hgc.size; clear hq' hg' hl' hgc nb hb1))
        obtain ⟨B, HB⟩ : ∃ B, Hid (decide (Opens ⟨op, ca, cb, cc⟩) = B) := ⟨_, rfl⟩
        refine (l4Opens_any ⟨op, ca, cb, cc⟩ _ B (by rw [← HB.out]; simp)).mono ?_
        rintro e w4 ⟨rfl, hp4⟩
        obtain ⟨sp, Hsp⟩ : ∃ sp, Hid (splitH o.cs o.rm.n s'.H = sp) := ⟨_, rfl⟩
        obtain ⟨un, Hun⟩ : ∃ un, Hid (o.un s'.H = un) := ⟨_, rfl⟩
        have ht4 := HT.out.1.keep hp4
        rw [Hsp.out, Hun.out] at ht4
        have HT4 := Lib.hid ht4
        have HST := Lib.hid (Hst.out.trans (HT.out.2.trans (SStep.of_pure hp4)))
        have HX4 : Hid (Box w4 wo.heap.size ⟨op, ca, cb, cc⟩) := Lib.hid ((Box.chg (⟨x0, x1, x2, x3⟩ : Box wq wo.heap.size ⟨op, ca, cb, cc⟩) (Chg.of_set wq o.p 4 _ (S := fun k => k = o.p) rfl) (by omega)).pure hp4)
        obtain ⟨p0, p1, p2, p3, p4, p5, p6, p7⟩ := ht4.obj.facts
        rw [HVL.out] at p0
        have hpfr : ∀ i, w4.frozen? ⟨o.p, i, none⟩ = false := ht4.obj.frozen
        have HPF4 := Lib.hid hpfr
        have hcw4 := Lib.hid (ht4.codes.keep ht4.pure)
        have HUNN : Hid (o.un (beat k mask s').H = un) := Lib.hid (by rw [un_off o _ HCK.out, ← Hun.out, un_off o _ HCK.out])
        obtain ⟨y0, y1, y2, y3⟩ := HX4.out
        have hby := HX4.out.lt
        clear ht4 hp4 z40 z44 z46 z5 x0 x1 x2 x3 hpfr p2 p3 p4 p6 p7 hb c0 c1 c2 c3
        simp only at y0 y1 y2 y3
        cases t' with
        | nil => exact absurd Hto.out (by have : Tr.nil.len = 0 := rfl; omega)
        | op c0 tk =>
          have hce : c0 = ⟨op, ca, cb, cc⟩ := Hseg.out.op.1.symm.trans Hcd.out
          subst hce
          have HPL := Lib.hid Hok.out.1
          have hB : B = false := by rw [← HB.out]; have h := HPL.out; exact decide_eq_false (by rintro (h1 | h1); exact h.2.1 h1; exact h.2.2.2.1 h1)
          subst hB
          by_cases h10 : op = 10
          · subst h10
            have HE : Hid (exec ⟨10, ca, cb, cc⟩ o.rm.n o.rm.m k mask s' = { lanesTo ⟨10, ca, cb, cc⟩ o.rm.m mask o.rm.n (beat k mask s') with P := (lanesTo ⟨10, ca, cb, cc⟩ o.rm.m mask o.rm.n (beat k mask s')).P + 1 }) := Lib.hid (by unfold exec; first | rfl | simp)
            have hsplit : splitH o.cs o.rm.n (beat k mask s').H = (sp || !decide (mask = 2 ^ o.rm.n - 1)) := by
              show splitH o.cs o.rm.n (s'.H ++ [(k, mask, s'.R)]) = _
              rw [splitH_append, Hsp.out]
              simp only
              rw [Hcd.out]; simp
            have f5 := HPF4.out 5
            cases sp
            · obtain ⟨D, HD⟩ : ∃ D, Hid ((!decide (mask = 2 ^ o.rm.n - 1)) = D) := ⟨_, rfl⟩
              have hne : ((mask : Int) != ((2 ^ o.rm.n - 1 : Nat) : Int)) = D := by rw [← HD.out, Bool.eq_iff_iff, bne_iff_ne]; simp; omega
              rw [HD.out, Bool.false_or] at hsplit
              have HSPL := Lib.hid hsplit
              obtain ⟨hal, Hal⟩ : ∃ x, Hid (2 ^ o.rm.n - 1 = x) := ⟨2 ^ o.rm.n - 1, Lib.hid rfl⟩
              rw [Hal.out] at hne
              have hRL := HT4.out.split D
              have HRL := Lib.hid hRL.1
              have HSTL := Lib.hid hRL.2
              have HXL := Lib.hid (HX4.out.step hRL.2 HNQ.out)
              clear hsplit hRL
              go_wp2_with (go_at_call 72; go_must (refine (smaskall_any o.rm.n _ hn1 hn8).mono ?_); rintro e w' ⟨rfl, rfl⟩; rw [Hal.out])
              go_loopg [15] o.rm.n (fun g2 i wr => ∃ j : Nat, g2 + j = o.rm.n ∧ i = .int .i64 j ∧ SRunF o wr (Value.slice Aq (s'.H.length + 1) cq) (lanesTo ⟨10, ca, cb, cc⟩ o.rm.m mask j (beat k mask s')) D un ∧ SStep o (w4.setCell ⟨o.p, 5, none⟩ (.bool D)) (Value.slice Aq (s'.H.length + 1) cq) wr (Value.slice Aq (s'.H.length + 1) cq))
              case atStart => exact ⟨0, rfl, rfl, HRL.out, SStep.refl _ _ _⟩
              case round =>
                obtain ⟨j, hg2, rfl, hr2, hs2⟩ := hrel
                have Hg2 := Lib.hid hg2
                have HR2 := Lib.hid hr2
                have HS2 := Lib.hid hs2
                have hjn : j ≤ o.rm.n := by omega
                obtain ⟨p0, p1, p2, p3, p4, p5, p6, p7⟩ := hr2.obj.facts
                obtain ⟨y0, y1, y2, y3⟩ := HXL.out.step hs2 HNQ.out
                have hby := (HXL.out.step hs2 HNQ.out).lt
                clear hg2 hr2 hs2 p0 p4 p5 p6 p7
                simp only at y0 y1 y2 y3
                by_cases hlt : j < o.rm.n
                · have hnn := digit_nonneg mask j
                  have hbit := digit_eq1 mask j
                  have hnext : lanesTo ⟨10, ca, cb, cc⟩ o.rm.m mask (j + 1) (beat k mask s') = if mask.testBit j then lane1 ⟨10, ca, cb, cc⟩ o.rm.m j (lanesTo ⟨10, ca, cb, cc⟩ o.rm.m mask j (beat k mask s')) else lanesTo ⟨10, ca, cb, cc⟩ o.rm.m mask j (beat k mask s') := rfl
                  obtain ⟨D, HD⟩ : ∃ D, Hid (mask.testBit j = D) := ⟨_, rfl⟩
                  rw [HD.out] at hbit hnext
                  have Hnext := Lib.hid hnext
                  clear hnext
                  cases D
                  · go_wp2
                    go_roundg (o.rm.n - (j + 1))
                    case measure => have := Hg2.out; omega
                    case rel => exact ⟨j + 1, by have := Hg2.out; omega, by go_num, by rw [Hnext.out]; exact HR2.out, HS2.out⟩
                  · have hj0 : (0 : Int) ≤ (j : Int) := by omega
                    have hj1 : (j : Int) < (o.rm.n : Int) := by omega
                    have q1 := HR2.out.rm.outerCell hlt
                    have hcr := HR2.out.rm.cr1
                    have hcr2 := HR2.out.rm.cr2
                    unfold RMo.vr at p2
                    unfold RMo.row at q1
                    unfold RMo.vm at p3
                    go_wp2
                    refine region_tail 13 (by kernel_rfl) (by kernel_rfl) ?_
                    simp only [List.take_succ_cons, List.take_zero, List.drop_succ_cons, List.drop_zero]
                    repeat still_step
                    refine wpStill_nil ?_
                    go_wp2_with fail
                    refine (s6_any o.rm ⟨10, ca, cb, cc⟩ j _ (lanesTo ⟨10, ca, cb, cc⟩ o.rm.m mask j (beat k mask s')).R (lanesTo ⟨10, ca, cb, cc⟩ o.rm.m mask j (beat k mask s')).M (HR2.out.rm.pure (by exact (by repeat (first | assumption | exact Pure.refl _ | refine Pure.drewN ?_ _ | refine Pure.drew ?_ | refine Pure.alloc ?_ _ | refine Pure.setCell ?_ (by simp <;> omega) _)))) hlt HPL.out (HR2.out.good.1 j)).mono ?_
                    rintro e w7 ⟨rfl, hrm7, hch7⟩
                    have h7 := SRunF.lane (HR2.out.keep (w' := wr.drew) (by exact (by repeat (first | assumption | exact Pure.refl _ | refine Pure.drewN ?_ _ | refine Pure.drew ?_ | refine Pure.alloc ?_ _ | refine Pure.setCell ?_ (by simp <;> omega) _)))) hlt HPL.out.1 hrm7 hch7
                    have H7 := Lib.hid h7.1
                    have H7s := Lib.hid (HS2.out.trans ((SStep.of_pure (b := wr.drew) (by exact (by repeat (first | assumption | exact Pure.refl _ | refine Pure.drewN ?_ _ | refine Pure.drew ?_ | refine Pure.alloc ?_ _ | refine Pure.setCell ?_ (by simp <;> omega) _)))).trans h7.2))
                    clear h7 hrm7 hch7
                    go_wp2
                    go_roundg (o.rm.n - (j + 1))
                    case measure => have := Hg2.out; omega
                    case rel => exact ⟨j + 1, by have := Hg2.out; omega, by go_num, by rw [Hnext.out]; exact H7.out, H7s.out⟩
                · have hjl : j = o.rm.n := by omega
                  subst hjl
                  have HF : Hid (SRun o wr (Value.slice Aq (s'.H.length + 1) cq) (exec ⟨10, ca, cb, cc⟩ o.rm.n o.rm.m k mask s')) := Lib.hid (by rw [HE.out]; exact SRunF.run (HR2.out.phase _) (by show splitH _ _ (lanesTo _ _ _ _ _).H = _; rw [lanesTo_H]; exact HSPL.out) (by show o.un (lanesTo _ _ _ _ _).H = _; rw [lanesTo_H]; exact HUNN.out))
                  go_wp2
                  go_roundg tk.len
                  case measure => have := Hgk.out; have := Tr.len_op ⟨10, ca, cb, cc⟩ tk; omega
                  case rel =>
                    exact ⟨tk, k + 1, _, (Value.slice Aq (s'.H.length + 1) cq), rfl, by have := Hto.out; have := Tr.len_op ⟨10, ca, cb, cc⟩ tk; omega, by have := Htl.out; have := Tr.len_op ⟨10, ca, cb, cc⟩ tk; omega, by go_num, Hok.out.2, Hseg.out.op.2.2, by rw [exec_H]; have := Hco.out; simp only [Tr.cost, List.length_append, List.length_cons, List.length_nil] at this ⊢; omega, HF.out, (HST.out.trans HSTL.out).trans HS2.out, by rw [← Hrun.out]; show _ = (if mask = 0 then _ else _ : LS); rw [if_neg HM0.out]⟩
            · have HSPL : Hid (splitH o.cs o.rm.n (beat k mask s').H = true) := Lib.hid (by rw [hsplit]; rfl)
              have hRL := HT4.out.split true
              have HRL := Lib.hid hRL.1
              have HSTL := Lib.hid hRL.2
              have HXL := Lib.hid (HX4.out.step hRL.2 HNQ.out)
              clear hsplit hRL
              go_wp2_with fail
              go_loopg [15] o.rm.n (fun g2 i wr => ∃ j : Nat, g2 + j = o.rm.n ∧ i = .int .i64 j ∧ SRunF o wr (Value.slice Aq (s'.H.length + 1) cq) (lanesTo ⟨10, ca, cb, cc⟩ o.rm.m mask j (beat k mask s')) true un ∧ SStep o (w4.setCell ⟨o.p, 5, none⟩ (.bool true)) (Value.slice Aq (s'.H.length + 1) cq) wr (Value.slice Aq (s'.H.length + 1) cq))
              case atStart => exact ⟨0, rfl, rfl, HRL.out, SStep.refl _ _ _⟩
              case round =>
                obtain ⟨j, hg2, rfl, hr2, hs2⟩ := hrel
                have Hg2 := Lib.hid hg2
                have HR2 := Lib.hid hr2
                have HS2 := Lib.hid hs2
                have hjn : j ≤ o.rm.n := by omega
                obtain ⟨p0, p1, p2, p3, p4, p5, p6, p7⟩ := hr2.obj.facts
                obtain ⟨y0, y1, y2, y3⟩ := HXL.out.step hs2 HNQ.out
                have hby := (HXL.out.step hs2 HNQ.out).lt
                clear hg2 hr2 hs2 p0 p4 p5 p6 p7
                simp only at y0 y1 y2 y3
                by_cases hlt : j < o.rm.n
                · have hnn := digit_nonneg mask j
                  have hbit := digit_eq1 mask j
                  have hnext : lanesTo ⟨10, ca, cb, cc⟩ o.rm.m mask (j + 1) (beat k mask s') = if mask.testBit j then lane1 ⟨10, ca, cb, cc⟩ o.rm.m j (lanesTo ⟨10, ca, cb, cc⟩ o.rm.m mask j (beat k mask s')) else lanesTo ⟨10, ca, cb, cc⟩ o.rm.m mask j (beat k mask s') := rfl
                  obtain ⟨D, HD⟩ : ∃ D, Hid (mask.testBit j = D) := ⟨_, rfl⟩
                  rw [HD.out] at hbit hnext
                  have Hnext := Lib.hid hnext
                  clear hnext
                  cases D
                  · go_wp2
                    go_roundg (o.rm.n - (j + 1))
                    case measure => have := Hg2.out; omega
                    case rel => exact ⟨j + 1, by have := Hg2.out; omega, by go_num, by rw [Hnext.out]; exact HR2.out, HS2.out⟩
                  · have hj0 : (0 : Int) ≤ (j : Int) := by omega
                    have hj1 : (j : Int) < (o.rm.n : Int) := by omega
                    have q1 := HR2.out.rm.outerCell hlt
                    have hcr := HR2.out.rm.cr1
                    have hcr2 := HR2.out.rm.cr2
                    unfold RMo.vr at p2
                    unfold RMo.row at q1
                    unfold RMo.vm at p3
                    go_wp2
                    refine region_tail 13 (by kernel_rfl) (by kernel_rfl) ?_
                    simp only [List.take_succ_cons, List.take_zero, List.drop_succ_cons, List.drop_zero]
                    repeat still_step
                    refine wpStill_nil ?_
                    go_wp2_with fail
                    refine (s6_any o.rm ⟨10, ca, cb, cc⟩ j _ (lanesTo ⟨10, ca, cb, cc⟩ o.rm.m mask j (beat k mask s')).R (lanesTo ⟨10, ca, cb, cc⟩ o.rm.m mask j (beat k mask s')).M (HR2.out.rm.pure (by exact (by repeat (first | assumption | exact Pure.refl _ | refine Pure.drewN ?_ _ | refine Pure.drew ?_ | refine Pure.alloc ?_ _ | refine Pure.setCell ?_ (by simp <;> omega) _)))) hlt HPL.out (HR2.out.good.1 j)).mono ?_
                    rintro e w7 ⟨rfl, hrm7, hch7⟩
                    have h7 := SRunF.lane (HR2.out.keep (w' := wr.drew) (by exact (by repeat (first | assumption | exact Pure.refl _ | refine Pure.drewN ?_ _ | refine Pure.drew ?_ | refine Pure.alloc ?_ _ | refine Pure.setCell ?_ (by simp <;> omega) _)))) hlt HPL.out.1 hrm7 hch7
                    have H7 := Lib.hid h7.1
                    have H7s := Lib.hid (HS2.out.trans ((SStep.of_pure (b := wr.drew) (by exact (by repeat (first | assumption | exact Pure.refl _ | refine Pure.drewN ?_ _ | refine Pure.drew ?_ | refine Pure.alloc ?_ _ | refine Pure.setCell ?_ (by simp <;> omega) _)))).trans h7.2))
                    clear h7 hrm7 hch7
                    go_wp2
                    go_roundg (o.rm.n - (j + 1))
                    case measure => have := Hg2.out; omega
                    case rel => exact ⟨j + 1, by have := Hg2.out; omega, by go_num, by rw [Hnext.out]; exact H7.out, H7s.out⟩
                · have hjl : j = o.rm.n := by omega
                  subst hjl
                  have HF : Hid (SRun o wr (Value.slice Aq (s'.H.length + 1) cq) (exec ⟨10, ca, cb, cc⟩ o.rm.n o.rm.m k mask s')) := Lib.hid (by rw [HE.out]; exact SRunF.run (HR2.out.phase _) (by show splitH _ _ (lanesTo _ _ _ _ _).H = _; rw [lanesTo_H]; exact HSPL.out) (by show o.un (lanesTo _ _ _ _ _).H = _; rw [lanesTo_H]; exact HUNN.out))
                  go_wp2
                  go_roundg tk.len
                  case measure => have := Hgk.out; have := Tr.len_op ⟨10, ca, cb, cc⟩ tk; omega
                  case rel =>
                    exact ⟨tk, k + 1, _, (Value.slice Aq (s'.H.length + 1) cq), rfl, by have := Hto.out; have := Tr.len_op ⟨10, ca, cb, cc⟩ tk; omega, by have := Htl.out; have := Tr.len_op ⟨10, ca, cb, cc⟩ tk; omega, by go_num, Hok.out.2, Hseg.out.op.2.2, by rw [exec_H]; have := Hco.out; simp only [Tr.cost, List.length_append, List.length_cons, List.length_nil] at this ⊢; omega, HF.out, (HST.out.trans HSTL.out).trans HS2.out, by rw [← Hrun.out]; show _ = (if mask = 0 then _ else _ : LS); rw [if_neg HM0.out]⟩
          · have d10 : (op == 10) = false := by rw [beq_eq_false_iff_ne]; exact h10
            have HE : Hid (exec ⟨op, ca, cb, cc⟩ o.rm.n o.rm.m k mask s' = lanesTo ⟨op, ca, cb, cc⟩ o.rm.m mask o.rm.n (beat k mask s')) := Lib.hid (by unfold exec; simp only; rw [if_neg h10])
            have HSPL : Hid (splitH o.cs o.rm.n (beat k mask s').H = sp) := Lib.hid (by
              show splitH o.cs o.rm.n (s'.H ++ [(k, mask, s'.R)]) = _
              rw [splitH_append, Hsp.out]
              simp only
              rw [Hcd.out]; simp [h10])
            have HRL := HT4
            have HXL := HX4
            have HSTL := Lib.hid (SStep.refl o w4 (Value.slice Aq (s'.H.length + 1) cq))
            clear h10 p5
            go_wp2_with fail
            go_loopg [15] o.rm.n (fun g2 i wr => ∃ j : Nat, g2 + j = o.rm.n ∧ i = .int .i64 j ∧ SRunF o wr (Value.slice Aq (s'.H.length + 1) cq) (lanesTo ⟨op, ca, cb, cc⟩ o.rm.m mask j (beat k mask s')) sp un ∧ SStep o w4 (Value.slice Aq (s'.H.length + 1) cq) wr (Value.slice Aq (s'.H.length + 1) cq))
            case atStart => exact ⟨0, rfl, rfl, HRL.out, SStep.refl _ _ _⟩
            case round =>
              obtain ⟨j, hg2, rfl, hr2, hs2⟩ := hrel
              have Hg2 := Lib.hid hg2
              have HR2 := Lib.hid hr2
              have HS2 := Lib.hid hs2
              have hjn : j ≤ o.rm.n := by omega
              obtain ⟨p0, p1, p2, p3, p4, p5, p6, p7⟩ := hr2.obj.facts
              obtain ⟨y0, y1, y2, y3⟩ := HXL.out.step hs2 HNQ.out
              have hby := (HXL.out.step hs2 HNQ.out).lt
              clear hg2 hr2 hs2 p0 p4 p5 p6 p7
              simp only at y0 y1 y2 y3
              by_cases hlt : j < o.rm.n
              · have hnn := digit_nonneg mask j
                have hbit := digit_eq1 mask j
                have hnext : lanesTo ⟨op, ca, cb, cc⟩ o.rm.m mask (j + 1) (beat k mask s') = if mask.testBit j then lane1 ⟨op, ca, cb, cc⟩ o.rm.m j (lanesTo ⟨op, ca, cb, cc⟩ o.rm.m mask j (beat k mask s')) else lanesTo ⟨op, ca, cb, cc⟩ o.rm.m mask j (beat k mask s') := rfl
                obtain ⟨D, HD⟩ : ∃ D, Hid (mask.testBit j = D) := ⟨_, rfl⟩
                rw [HD.out] at hbit hnext
                have Hnext := Lib.hid hnext
                clear hnext
                cases D
                · go_wp2
                  go_roundg (o.rm.n - (j + 1))
                  case measure => have := Hg2.out; omega
                  case rel => exact ⟨j + 1, by have := Hg2.out; omega, by go_num, by rw [Hnext.out]; exact HR2.out, HS2.out⟩
                · have hj0 : (0 : Int) ≤ (j : Int) := by omega
                  have hj1 : (j : Int) < (o.rm.n : Int) := by omega
                  have q1 := HR2.out.rm.outerCell hlt
                  have hcr := HR2.out.rm.cr1
                  have hcr2 := HR2.out.rm.cr2
                  unfold RMo.vr at p2
                  unfold RMo.row at q1
                  unfold RMo.vm at p3
                  go_wp2
                  refine region_tail 13 (by kernel_rfl) (by kernel_rfl) ?_
                  simp only [List.take_succ_cons, List.take_zero, List.drop_succ_cons, List.drop_zero]
                  repeat still_step
                  refine wpStill_nil ?_
                  go_wp2_with fail
                  refine (s6_any o.rm ⟨op, ca, cb, cc⟩ j _ (lanesTo ⟨op, ca, cb, cc⟩ o.rm.m mask j (beat k mask s')).R (lanesTo ⟨op, ca, cb, cc⟩ o.rm.m mask j (beat k mask s')).M (HR2.out.rm.pure (by exact (by repeat (first | assumption | exact Pure.refl _ | refine Pure.drewN ?_ _ | refine Pure.drew ?_ | refine Pure.alloc ?_ _ | refine Pure.setCell ?_ (by simp <;> omega) _)))) hlt HPL.out (HR2.out.good.1 j)).mono ?_
                  rintro e w7 ⟨rfl, hrm7, hch7⟩
                  have h7 := SRunF.lane (HR2.out.keep (w' := wr.drew) (by exact (by repeat (first | assumption | exact Pure.refl _ | refine Pure.drewN ?_ _ | refine Pure.drew ?_ | refine Pure.alloc ?_ _ | refine Pure.setCell ?_ (by simp <;> omega) _)))) hlt HPL.out.1 hrm7 hch7
                  have H7 := Lib.hid h7.1
                  have H7s := Lib.hid (HS2.out.trans ((SStep.of_pure (b := wr.drew) (by exact (by repeat (first | assumption | exact Pure.refl _ | refine Pure.drewN ?_ _ | refine Pure.drew ?_ | refine Pure.alloc ?_ _ | refine Pure.setCell ?_ (by simp <;> omega) _)))).trans h7.2))
                  clear h7 hrm7 hch7
                  go_wp2
                  go_roundg (o.rm.n - (j + 1))
                  case measure => have := Hg2.out; omega
                  case rel => exact ⟨j + 1, by have := Hg2.out; omega, by go_num, by rw [Hnext.out]; exact H7.out, H7s.out⟩
              · have hjl : j = o.rm.n := by omega
                subst hjl
                have HF : Hid (SRun o wr (Value.slice Aq (s'.H.length + 1) cq) (exec ⟨op, ca, cb, cc⟩ o.rm.n o.rm.m k mask s')) := Lib.hid (by rw [HE.out]; exact SRunF.run HR2.out (by rw [lanesTo_H]; exact HSPL.out) (by rw [lanesTo_H]; exact HUNN.out))
                go_wp2
                go_roundg tk.len
                case measure => have := Hgk.out; have := Tr.len_op ⟨op, ca, cb, cc⟩ tk; omega
                case rel =>
                  exact ⟨tk, k + 1, _, (Value.slice Aq (s'.H.length + 1) cq), rfl, by have := Hto.out; have := Tr.len_op ⟨op, ca, cb, cc⟩ tk; omega, by have := Htl.out; have := Tr.len_op ⟨op, ca, cb, cc⟩ tk; omega, by go_num, Hok.out.2, Hseg.out.op.2.2, by rw [exec_H]; have := Hco.out; simp only [Tr.cost, List.length_append, List.length_cons, List.length_nil] at this ⊢; omega, HF.out, (HST.out.trans HSTL.out).trans HS2.out, by rw [← Hrun.out]; show _ = (if mask = 0 then _ else _ : LS); rw [if_neg HM0.out]⟩
        | ite a t1 tk =>
          have hce : (⟨op, ca, cb, cc⟩ : Cd) = cIf a := Hcd.out.symm.trans Hseg.out.ite.1
          injection hce with e1 e2 e3 e4
          subst e1 e2 e3 e4
          have hB : B = true := by rw [← HB.out]; exact decide_eq_true (.inl rfl)
          subst hB
          obtain ⟨ha0, ha3⟩ := Hok.out.1
          obtain ⟨an, rfl⟩ := Int.eq_ofNat_of_zero_le ha0
          have han : an < 4 := by omega
          have HSPN : Hid (splitH o.cs o.rm.n (beat k mask s').H = sp) := Lib.hid (by
            show splitH o.cs o.rm.n (s'.H ++ [(k, mask, s'.R)]) = _
            rw [splitH_append, Hsp.out]
            simp only
            rw [Hcd.out]; simp)
          clear p1 p5
          have hend := (end_ite Hok.out Hseg.out).1
          obtain ⟨en, Hen⟩ : ∃ en, Hid (k + 1 + t1.len = en) := ⟨_, rfl⟩
          rw [Hen.out] at hend
          go_wp2_with fail
          refine (l4End_any _ o.cs k _ _ (by have := hcw4.out; rw [HVL.out] at this; exact this) (by omega) hk hend).mono ?_
          rintro e w5 ⟨rfl, hp5⟩
          clear hend p0
          have HP5 := Lib.hid hp5
          obtain ⟨y0, y1, y2, y3⟩ := HX4.out.pure hp5
          have HX5 := Lib.hid (HX4.out.pure hp5)
          have HT5 := Lib.hid (HT4.out.keep hp5)
          have hby := (HX4.out.pure hp5).lt
          have H45 := Lib.hid (SStep.of_pure (o := o) (u := (Value.slice Aq (s'.H.length + 1) cq)) hp5)
          have HR5 := Lib.hid (SRunF.run HT5.out HSPN.out HUNN.out)
          clear hp5
          simp only at y0 y1 y2 y3
          obtain ⟨y, Hy⟩ : ∃ y, Hid (onesTo s'.R mask an o.rm.n = y) := ⟨_, rfl⟩
          have hy : y < 2 ^ o.rm.n := by rw [← Hy.out]; exact onesTo_lt _ _ _ _
          have hy256 := Nat.lt_of_lt_of_le hy (pow8 hn8)
          have HYM := Lib.hid hy
          clear hy
          go_wp2_with fail
          refine (sones_any o _ (Value.slice Aq (s'.H.length + 1) cq) sp un s'.R s'.M mask an HT5.out.obj HT5.out.rm hm256 han).mono ?_
          rintro e w6 ⟨rfl, rfl⟩
          rw [Hy.out]
          have hen1 : en < o.cs.length := by rw [← Hen.out]; exact Hseg.out.ite.2.2.2.1
          have HL := Lib.hid (Tr.len_ite (an : Int) t1 tk)
          go_wp2_with fail
          refine (HIH.out t1 (k + 1) y (beat k mask s') (Value.slice Aq (s'.H.length + 1) cq) _ _ _ (by have := HL.out; have := HSZ.out; have := Htl.out; omega) Hok.out.2.1 Hseg.out.ite.2.1 (by have := Hen.out; omega) HYM.out (by have := Hco.out; simp only [Tr.cost] at this; simp only [beat, List.length_append, List.length_cons, List.length_nil]; omega) HR5.out (by omega) (by have := Hen.out; omega)).mono ?_
          rintro e w7 ⟨rfl, vt7, hr7, hs7⟩
          have H7 := Lib.hid hr7
          have H7s := Lib.hid hs7
          clear hr7 hs7
          go_wp2_with fail
          go_roundg tk.len
          case measure => have := Hgk.out; have := HL.out; omega
          case rel =>
            exact ⟨tk, en + 1, _, vt7, rfl, by have := Hto.out; have := HL.out; have := Hen.out; omega, by have := Htl.out; have := HL.out; omega, by go_num, Hok.out.2.2, by rw [← Hen.out]; exact Hseg.out.ite.2.2.2.2, by have := Hco.out; have h1 := run_H o.rm.n o.rm.m t1 (k + 1) y (beat k mask s'); simp only [Tr.cost] at this; rw [beat_H] at h1; omega, H7.out, (HST.out.trans H45.out).trans H7s.out, by rw [← Hrun.out, ← Hen.out]; show _ = (if mask = 0 then _ else _ : LS); rw [if_neg HM0.out, Int.toNat_natCast, Hy.out]⟩
        | itee a t1 t2 tk =>
          have hce : (⟨op, ca, cb, cc⟩ : Cd) = cIf a := Hcd.out.symm.trans Hseg.out.itee.1
          injection hce with e1 e2 e3 e4
          subst e1 e2 e3 e4
          have hB : B = true := by rw [← HB.out]; exact decide_eq_true (.inl rfl)
          subst hB
          obtain ⟨ha0, ha3⟩ := Hok.out.1
          obtain ⟨an, rfl⟩ := Int.eq_ofNat_of_zero_le ha0
          have han : an < 4 := by omega
          have HSPN : Hid (splitH o.cs o.rm.n (beat k mask s').H = sp) := Lib.hid (by
            show splitH o.cs o.rm.n (s'.H ++ [(k, mask, s'.R)]) = _
            rw [splitH_append, Hsp.out]
            simp only
            rw [Hcd.out]; simp)
          clear p1 p5
          have hend := (end_itee Hok.out Hseg.out).1
          obtain ⟨on, Hon⟩ : ∃ on, Hid (k + 1 + t1.len = on) := ⟨_, rfl⟩
          obtain ⟨en, Hen⟩ : ∃ en, Hid (k + 1 + t1.len + 1 + t2.len = en) := ⟨_, rfl⟩
          rw [Hen.out, Hon.out] at hend
          go_wp2_with fail
          refine (l4End_any _ o.cs k _ _ (by have := hcw4.out; rw [HVL.out] at this; exact this) (by omega) hk hend).mono ?_
          rintro e w5 ⟨rfl, hp5⟩
          clear hend p0
          have HP5 := Lib.hid hp5
          obtain ⟨y0, y1, y2, y3⟩ := HX4.out.pure hp5
          have HX5 := Lib.hid (HX4.out.pure hp5)
          have HT5 := Lib.hid (HT4.out.keep hp5)
          have hby := (HX4.out.pure hp5).lt
          have H45 := Lib.hid (SStep.of_pure (o := o) (u := (Value.slice Aq (s'.H.length + 1) cq)) hp5)
          have HR5 := Lib.hid (SRunF.run HT5.out HSPN.out HUNN.out)
          clear hp5
          simp only at y0 y1 y2 y3
          obtain ⟨y, Hy⟩ : ∃ y, Hid (onesTo s'.R mask an o.rm.n = y) := ⟨_, rfl⟩
          have hy : y < 2 ^ o.rm.n := by rw [← Hy.out]; exact onesTo_lt _ _ _ _
          have hy256 := Nat.lt_of_lt_of_le hy (pow8 hn8)
          have HYM := Lib.hid hy
          clear hy
          go_wp2_with fail
          refine (sones_any o _ (Value.slice Aq (s'.H.length + 1) cq) sp un s'.R s'.M mask an HT5.out.obj HT5.out.rm hm256 han).mono ?_
          rintro e w6 ⟨rfl, rfl⟩
          rw [Hy.out]
          have hen1 : en < o.cs.length := by rw [← Hen.out]; exact Hseg.out.itee.2.2.2.2.2.1
          have hon1 : on < en := by have := Hen.out; have := Hon.out; omega
          have HL := Lib.hid (Tr.len_itee (an : Int) t1 t2 tk)
          go_wp2_with fail
          refine (HIH.out t1 (k + 1) y (beat k mask s') (Value.slice Aq (s'.H.length + 1) cq) _ _ _ (by have := HL.out; have := HSZ.out; have := Htl.out; omega) Hok.out.2.1 Hseg.out.itee.2.1 (by have := Hon.out; omega) HYM.out (by have := Hco.out; simp only [Tr.cost] at this; simp only [beat, List.length_append, List.length_cons, List.length_nil]; omega) HR5.out (by omega) (by have := Hon.out; omega)).mono ?_
          rintro e w7 ⟨rfl, vt7, hr7, hs7⟩
          have H7 := Lib.hid hr7
          have H7s := Lib.hid hs7
          clear hr7 hs7
          obtain ⟨d, Hd⟩ : ∃ d, Hid (del mask y = d) := ⟨_, rfl⟩
          have hdel : bits .andNot .i64 (mask : Int) (y : Int) = (d : Int) := by rw [bits_andNot (by omega) (by omega)]; exact congrArg _ Hd.out
          have HDM : Hid (d < 2 ^ o.rm.n) := Lib.hid (by rw [← Hd.out]; exact del_lt2 y HMASK.out)
          have HCC : Hid (s'.H.length + 1 + t1.cost + t2.cost + tk.cost ≤ 1099511627775) := Lib.hid (by have := Hco.out; simp only [Tr.cost] at this; omega)
          have hc1 : Hid ((run o.rm.n o.rm.m t1 (k + 1) y (beat k mask s')).H.length ≤ s'.H.length + 1 + t1.cost) := Lib.hid (by have h1 := run_H o.rm.n o.rm.m t1 (k + 1) y (beat k mask s'); simp only [beat, List.length_append, List.length_cons, List.length_nil] at h1; exact h1)
          go_wp2_with fail
          refine (HIH.out t2 (on + 1) d (run o.rm.n o.rm.m t1 (k + 1) y (beat k mask s')) vt7 _ _ _ (by have := HL.out; have := HSZ.out; have := Htl.out; omega) Hok.out.2.2.1 (by rw [← Hon.out]; exact Hseg.out.itee.2.2.2.1) (by have := Hon.out; have := Hen.out; omega) HDM.out (by have h1 := HCC.out; have h2 := hc1.out; omega) H7.out (by omega) (by have := Hon.out; have := Hen.out; omega)).mono ?_
          rintro e w8 ⟨rfl, vt8, hr8, hs8⟩
          have H8 := Lib.hid hr8
          have H8s := Lib.hid hs8
          have hc2 := Lib.hid (run_H o.rm.n o.rm.m t2 (on + 1) d (run o.rm.n o.rm.m t1 (k + 1) y (beat k mask s')))
          clear hr8 hs8
          go_wp2_with fail
          go_roundg tk.len
          case measure => have := Hgk.out; have := HL.out; omega
          case rel =>
            exact ⟨tk, en + 1, _, vt8, rfl, by have := Hto.out; have := HL.out; have := Hen.out; omega, by have := Htl.out; have := HL.out; omega, by go_num, Hok.out.2.2.2, by rw [← Hen.out]; exact Hseg.out.itee.2.2.2.2.2.2, by have h1 := HCC.out; have h2 := hc1.out; have h3 := hc2.out; omega, H8.out, ((HST.out.trans H45.out).trans H7s.out).trans H8s.out, by rw [← Hrun.out, ← Hen.out, ← Hon.out]; show _ = (if mask = 0 then _ else _ : LS); rw [if_neg HM0.out, Int.toNat_natCast, Hy.out, Hd.out]⟩
        | loop a lb t1 tk =>
          have hce : (⟨op, ca, cb, cc⟩ : Cd) = cLoop a lb := Hcd.out.symm.trans Hseg.out.loop.1
          injection hce with e1 e2 e3 e4
          subst e1 e2 e3 e4
          obtain ⟨hb1, hb4⟩ := Hok.out.2.1
          obtain ⟨bn, rfl⟩ := Int.eq_ofNat_of_zero_le (show (0 : Int) ≤ cb by omega)
          have hB : B = true := by rw [← HB.out]; exact decide_eq_true (.inr rfl)
          subst hB
          obtain ⟨ha0, ha3⟩ := Hok.out.1
          obtain ⟨an, rfl⟩ := Int.eq_ofNat_of_zero_le ha0
          have han : an < 4 := by omega
          have HSPN : Hid (splitH o.cs o.rm.n (beat k mask s').H = sp) := Lib.hid (by
            show splitH o.cs o.rm.n (s'.H ++ [(k, mask, s'.R)]) = _
            rw [splitH_append, Hsp.out]
            simp only
            rw [Hcd.out]; simp)
          clear p1 p5
          have hend := (end_loop Hok.out Hseg.out).1
          obtain ⟨en, Hen⟩ : ∃ en, Hid (k + 1 + t1.len = en) := ⟨_, rfl⟩
          rw [Hen.out] at hend
          go_wp2_with fail
          refine (l4End_any _ o.cs k _ _ (by have := hcw4.out; rw [HVL.out] at this; exact this) (by omega) hk hend).mono ?_
          rintro e w5 ⟨rfl, hp5⟩
          clear hend p0
          have HP5 := Lib.hid hp5
          obtain ⟨y0, y1, y2, y3⟩ := HX4.out.pure hp5
          have HX5 := Lib.hid (HX4.out.pure hp5)
          have HT5 := Lib.hid (HT4.out.keep hp5)
          have hby := (HX4.out.pure hp5).lt
          have H45 := Lib.hid (SStep.of_pure (o := o) (u := (Value.slice Aq (s'.H.length + 1) cq)) hp5)
          have HR5 := Lib.hid (SRunF.run HT5.out HSPN.out HUNN.out)
          clear hp5
          simp only at y0 y1 y2 y3
          obtain ⟨y, Hy⟩ : ∃ y, Hid (onesTo s'.R mask an o.rm.n = y) := ⟨_, rfl⟩
          have hy : y < 2 ^ o.rm.n := by rw [← Hy.out]; exact onesTo_lt _ _ _ _
          have hy256 := Nat.lt_of_lt_of_le hy (pow8 hn8)
          have HYM := Lib.hid hy
          clear hy
          go_wp2_with fail
          refine (sones_any o _ (Value.slice Aq (s'.H.length + 1) cq) sp un s'.R s'.M mask an HT5.out.obj HT5.out.rm hm256 han).mono ?_
          rintro e w6 ⟨rfl, rfl⟩
          rw [Hy.out]
          have hen1 : en < o.cs.length := by rw [← Hen.out]; exact Hseg.out.loop.2.2.2.1
          have HL := Lib.hid (Tr.len_loop (an : Int) (bn : Int) t1 tk)
          have HTE := Lib.hid (turns_eq (run o.rm.n o.rm.m t1 (k + 1)) o.rm.n an bn mask (beat k mask s'))
          have hTE : turns (run o.rm.n o.rm.m t1 (k + 1)) o.rm.n an bn mask (beat k mask s') = turnsR (run o.rm.n o.rm.m t1 (k + 1)) o.rm.n an bn y (beat k mask s') := by rw [HTE.out]; show turnsR _ _ _ _ (onesTo s'.R mask an o.rm.n) _ = _; rw [Hy.out]
          have HTR := Lib.hid hTE
          clear hTE HTE
          go_wp2_with fail
          go_loopg [14, 13] bn (fun g2 i l wr => ∃ (j y2 : Nat) (s2 : LS) (vt2 : Value), g2 + j = bn ∧ i = .int .i64 j ∧ l = .int .i64 y2 ∧ y2 < 2 ^ o.rm.n ∧ SRun o wr vt2 s2 ∧ SStep o w4 (Value.slice Aq (s'.H.length + 1) cq) wr vt2 ∧ s2.H.length + g2 * t1.cost + tk.cost ≤ 1099511627775 ∧ turnsR (run o.rm.n o.rm.m t1 (k + 1)) o.rm.n an bn y (beat k mask s') = turnsR (run o.rm.n o.rm.m t1 (k + 1)) o.rm.n an g2 y2 s2)
          case atStart => exact ⟨0, y, beat k mask s', (Value.slice Aq (s'.H.length + 1) cq), rfl, rfl, rfl, HYM.out, HR5.out, H45.out, by have := Hco.out; simp only [Tr.cost, Int.toNat_natCast] at this; simp only [beat, List.length_append, List.length_cons, List.length_nil]; omega, rfl⟩
          case round =>
            obtain ⟨j, y2, s2, vt2, hg2, rfl, rfl, hy2, hr2, hs2, hc2, ht2⟩ := hrel
            have Hg2 := Lib.hid hg2
            have HY2 := Lib.hid hy2
            have HR2 := Lib.hid hr2
            have HS2 := Lib.hid hs2
            have HC2 := Lib.hid hc2
            have HTT := Lib.hid ht2
            have hjn : j ≤ bn := by omega
            have hy2256 := Nat.lt_of_lt_of_le hy2 (pow8 hn8)
            have HX2 := Lib.hid (HX4.out.step hs2 HNQ.out)
            obtain ⟨y0, y1, y2', y3⟩ := HX4.out.step hs2 HNQ.out
            have hby := (HX4.out.step hs2 HNQ.out).lt
            clear hg2 hy2 hr2 hs2 hc2 ht2
            simp only at y0 y1 y2' y3
            by_cases hgo : j < bn ∧ y2 ≠ 0
            · obtain ⟨hjb, hy20⟩ := hgo
              have hyb : ((y2 : Int) != 0) = true := by rw [bne_iff_ne]; omega
              obtain ⟨g3, rfl⟩ : ∃ g3, gk = g3 + 1 := ⟨gk - 1, by have := Hg2.out; omega⟩
              clear hy20
              have HC9 : Hid (s2.H.length + (g3 * t1.cost + t1.cost) + tk.cost ≤ 1099511627775) := Lib.hid (by have h := HC2.out; rwa [Nat.succ_mul] at h)
              go_wp2_with fail
              refine (HIH.out t1 (k + 1) y2 s2 vt2 _ _ _ (by have := HL.out; have := HSZ.out; have := Htl.out; omega) Hok.out.2.2.1 Hseg.out.loop.2.1 (by have := Hen.out; omega) HY2.out (by have h := HC9.out; generalize g3 * t1.cost = X at h; omega) HR2.out (by omega) (by have := Hen.out; omega)).mono ?_
              rintro e w7 ⟨rfl, vt7, hr7, hs7⟩
              have H7 := Lib.hid hr7
              have H7s := Lib.hid (HS2.out.trans hs7)
              obtain ⟨y0, y1, y2', y3⟩ := HX4.out.step (HS2.out.trans hs7) HNQ.out
              have hby := (HX4.out.step (HS2.out.trans hs7) HNQ.out).lt
              clear hr7 hs7
              simp only at y0 y1 y2' y3
              obtain ⟨y3n, Hy3⟩ : ∃ y3n, Hid (onesTo (run o.rm.n o.rm.m t1 (k + 1) y2 s2).R y2 an o.rm.n = y3n) := ⟨_, rfl⟩
              have HY3 : Hid (y3n < 2 ^ o.rm.n) := Lib.hid (by rw [← Hy3.out]; exact onesTo_lt _ _ _ _)
              go_wp2_with fail
              refine (sones_any o _ vt7 _ _ (run o.rm.n o.rm.m t1 (k + 1) y2 s2).R (run o.rm.n o.rm.m t1 (k + 1) y2 s2).M y2 an H7.out.obj H7.out.rm hy2256 han).mono ?_
              rintro e w8 ⟨rfl, rfl⟩
              rw [Hy3.out]
              go_wp2_with fail
              go_roundg g3
              case measure => omega
              case rel =>
                exact ⟨j + 1, y3n, _, vt7, by have := Hg2.out; omega, by go_num, rfl, HY3.out, H7.out, H7s.out, by have h := HC9.out; have h1 := run_H o.rm.n o.rm.m t1 (k + 1) y2 s2; generalize g3 * t1.cost = X at h ⊢; omega, by rw [HTT.out, turnsR_succ, Hy3.out]⟩
            · have hfin : turns (run o.rm.n o.rm.m t1 (k + 1)) o.rm.n an bn mask (beat k mask s') = s2 := by
                rw [HTR.out, HTT.out]
                by_cases hj : j < bn
                · have hz : y2 = 0 := by
                    by_cases h : y2 = 0
                    · exact h
                    · exact absurd ⟨hj, h⟩ hgo
                  rw [hz, turnsR_zero]
                · have hz : gk = 0 := by have := Hg2.out; omega
                  rw [hz]; rfl
              have Hfin := Lib.hid hfin
              have HC3 : Hid (s2.H.length + tk.cost ≤ 1099511627775) := Lib.hid (by have h := HC2.out; generalize gk * t1.cost = X at h; omega)
              clear hfin
              have go : True := trivial
              by_cases hj : j < bn
              · have hyb : ((y2 : Int) != 0) = false := by
                  rw [bne_eq_false_iff_eq]
                  by_cases h : y2 = 0
                  · omega
                  · exact absurd ⟨hj, h⟩ hgo
                clear hgo
                go_wp2_with fail
                go_roundg tk.len
                case measure => have := Hgk.out; have := HL.out; omega
                case rel =>
                  exact ⟨tk, en + 1, _, vt2, rfl, by have := Hto.out; have := HL.out; have := Hen.out; omega, by have := Htl.out; have := HL.out; omega, by go_num, Hok.out.2.2.2, by rw [← Hen.out]; exact Hseg.out.loop.2.2.2.2, HC3.out, HR2.out, HST.out.trans HS2.out, by rw [← Hrun.out, ← Hen.out]; show _ = (if mask = 0 then _ else _ : LS); rw [if_neg HM0.out, Int.toNat_natCast, Int.toNat_natCast, Hfin.out]⟩
              · clear hgo
                go_wp2_with fail
                go_roundg tk.len
                case measure => have := Hgk.out; have := HL.out; omega
                case rel =>
                  exact ⟨tk, en + 1, _, vt2, rfl, by have := Hto.out; have := HL.out; have := Hen.out; omega, by have := Htl.out; have := HL.out; omega, by go_num, Hok.out.2.2.2, by rw [← Hen.out]; exact Hseg.out.loop.2.2.2.2, HC3.out, HR2.out, HST.out.trans HS2.out, by rw [← Hrun.out, ← Hen.out]; show _ = (if mask = 0 then _ else _ : LS); rw [if_neg HM0.out, Int.toNat_natCast, Int.toNat_natCast, Hfin.out]⟩
end Go.Proofs.Ytkolnakcgjlcgaa
