/- A crowd and a program that are drawn: any whatever, of bounded length. What the laws on drawn inputs share: that the program is alive; which arguments a run takes; equal lists are found equal. A region that draws its order, whose operations each yield a known value in every world that meets S, and leave such a world: whatever the order, the same values lie there behind it. No condition. -/
import Derived.Test.YtajaonejpggcbaaQad
import Derived.Test.YtajaonejpggcbaaQae
import Derived.Test.YtajaonejpggcbaaQaf
import Derived.Test.YtajaonejpggcbaaQag
import Derived.Test.YtajaonejpggcbaaQah
import Derived.Test.YtajaonejpggcbaaQba
import Derived.Test.YtajaonejpggcbaaQbd
import Derived.Test.YtajaonejpggcbaaQbh
import Derived.Test.YtajaonejpggcbaaQca

namespace Go.Proofs.Ytajaonejpggcbaa
open Go.RowKit

def CrowdDP (w0 : World) (e : Ending) (w' : World) : Prop :=
  ∃ (x y v : Value) (c : Cx) (cs : List Cd), e = .returned (.tuple #[.agg #[x, y], v]) ∧ Lanes w' x c.ls ∧ Ints w' y c.mem ∧ Codes w' v cs ∧ cs.length ≤ 300000 ∧ c.ls.length ≤ 8 ∧ c.mem.length ≤ 33 ∧ Pure w0 w'
theorem StepC.v {w w' : World} {e : Ending} (h : StepC w e w') : ∃ A n c A' n' c', e = .returned (.agg #[.slice A n c, .slice A' n' c']) ∧ CrV w.heap.size w' (.slice A n c) (.slice A' n' c') ∧ Pure w w' := by
  rcases h with ⟨rfl, hp⟩ | ⟨n, gl, cl, gm, m, cm, vr, vt, L, M, rfl, hc, hp⟩
  · exact ⟨_, _, _, _, _, _, rfl, .inl ⟨rfl, rfl⟩, hp⟩
  · exact ⟨_, _, _, _, _, _, rfl, .inr ⟨n, gl, cl, gm, m, cm, vr, vt, L, M, rfl, rfl, hc⟩, hp⟩
theorem snewcrowd_v (v : Value) (mem : List Int) (n : Nat) (w : World) (h : Ints w v mem) (hlen : mem.length ≤ 33) (hn1 : 1 ≤ n) (hn8 : n ≤ 8) :
    Calls Try.prog 91 #[.int .i64 (n : Nat), v] w fun e w' => ∃ A n c A' n' c', e = .returned (.agg #[.slice A n c, .slice A' n' c']) ∧ CrV w.heap.size w' (.slice A n c) (.slice A' n' c') ∧ Pure w w' := by
  by_cases hm : MemOk mem
  · refine (snewcrowd_any v mem n w h hm hn1 hn8).mono ?_
    rintro e w' ⟨gl, cl, gm, cm, rows, rfl, hc, h1, h2, hp⟩
    exact ⟨_, _, _, _, _, _, rfl, .inr ⟨_, _, _, _, _, _, _, _, _, _, rfl, rfl, crowd_w hm hn1 hn8 hc h1 h2⟩, hp⟩
  · refine (snewcrowd_no v mem n w h (by omega) hm hn1 hn8).mono ?_
    rintro e w' ⟨rfl, hp⟩
    exact ⟨_, _, _, _, _, _, rfl, .inl ⟨rfl, rfl⟩, hp⟩

set_option maxHeartbeats 8000000 in
set_option maxRecDepth 100000 in
theorem crowdd_any (w0 w : World) (p C n : Nat) (vb : Value) (bs : List Int) (N : Int) (hN : N = n) (hn : n ≤ 1048576) (h : Rb w0 w p vb bs C) (hc : C ≤ 1000000) :
    Calls Try.prog 65 #[.pointer (some ⟨p, 0, none⟩), .int .i64 N] w (CrowdDP w0) := by
  have H := Lib.hid h
  have HN := Lib.hid hN
  have h00 := h.pure.size
  have hpw := h.lt
  clear h hN
  obtain ⟨wz, Hwz⟩ : ∃ wz, Hid (w.alloc (.cells #[.slice none 0 0, .slice none 0 0] 33) = wz) := ⟨_, Lib.hid rfl⟩
  have HPZ : Hid (Pure w wz) := Lib.hid (by rw [← Hwz.out]; exact (by repeat (first | assumption | exact Pure.refl _ | refine Pure.drewN ?_ _ | refine Pure.drew ?_ | refine Pure.alloc ?_ _ | refine Pure.setCell ?_ (by simp <;> omega) _)))
  have HZR : Hid (wz.heap[w.heap.size]? = some (.cells #[.slice none 0 0, .slice none 0 0] 33 (0, 0))) := Lib.hid (by rw [← Hwz.out]; exact heap_alloc_new w _)
  have HZS : Hid (wz.heap.size = w.heap.size + 1) := Lib.hid (by rw [← Hwz.out]; simp)
  have hpz : p < wz.heap.size := by have := HZS.out; omega
  go_enter Try.func65, Try.ntmps65
  go_wp2_with fail
  rw [Hwz.out]
  refine (prog_any w0 wz p C n vb bs N HN.out hn (H.out.keep HPZ.out) (by omega)).mono ?_
  rintro e w1 ⟨v, cs, rfl, ho1⟩
  obtain ⟨A, cc, rfl⟩ := ho1.own.form
  have S1 := Lib.hid ho1
  clear ho1
  go_wp2_with fail
  refine (pick_t w0 _ p (C + 2000000) vb bs 4 4 rfl S1.out.rb (by omega) (by decide) (by decide)).mono ?_
  rintro e w2 ⟨x1, rfl, hx1, hr2, hg2⟩
  have S2 := Lib.hid (S1.out.step hr2 hg2)
  clear hr2 hg2 S1
  go_wp2_with fail
  refine (mem_any w0 w2 p (C + 2000000 + 1) n vb bs N HN.out hn S2.out.rb (by omega)).mono ?_
  rintro e w3 ⟨vm, xs, rfl, hom⟩
  have S3 := Lib.hid (S2.out.step hom.rb hom.at_)
  have HOM := Lib.hid hom
  obtain ⟨Am, cm0, rfl⟩ := hom.own.form
  have hxl := hom.len
  clear hom S2
  obtain ⟨nl, hnl⟩ : ∃ nl : Nat, (1 : Int) + x1 = nl := ⟨1 + x1, by omega⟩
  go_wp2_with fail
  refine (snewcrowd_v _ xs nl _ HOM.out.ints hxl (by omega) (by omega)).mono ?_
  rintro e w4 ⟨Ax, nx, cx, Ay, ny, cy, rfl, hcv, hp4⟩
  obtain ⟨w5, Hw5⟩ : ∃ w5, Hid (w4.alloc (.cells #[.slice Ax nx cx, .slice Ay ny cy] 33) = w5) := ⟨_, Lib.hid rfl⟩
  have hp5 : Pure w4 w5 := by rw [← Hw5.out]; exact (by repeat (first | assumption | exact Pure.refl _ | refine Pure.drewN ?_ _ | refine Pure.drew ?_ | refine Pure.alloc ?_ _ | refine Pure.setCell ?_ (by simp <;> omega) _))
  have S5 : Hid (CrX w0 wz p vb bs (C + 2000000 + 1 + 200) (.slice A cs.length cc) cs w4.heap.size (.slice Ax nx cx) (.slice Ay ny cy) w5) := Lib.hid
    ⟨S3.out.keep (hp4.trans hp5), by rw [← Hw5.out]; exact heap_alloc_new w4 _, Nat.le_trans S3.out.at_.size hp4.size, hpz, (hcv.chg (Chg.of_pure (S := fun _ => False) hp5) (fun _ e => e.elim)).less S3.out.at_.size⟩
  have HG4 : Hid (w3.heap.size ≤ w4.heap.size) := Lib.hid hp4.size
  obtain ⟨gx, Hgx⟩ : ∃ gx, Hid (w4.heap.size = gx) := ⟨_, Lib.hid rfl⟩
  rw [Hgx.out] at S5
  clear hcv hp4 hp5 S3 HOM
  go_wp2_with fail
  rw [Hw5.out, Hgx.out]
  refine (pick_t w0 _ p (C + 2000000 + 1 + 200) vb bs 40 40 rfl S5.out.o.rb (by omega) (by decide) (by decide)).mono ?_
  rintro e w6 ⟨k40, rfl, hk40, hr6, hg6⟩
  have S6 := Lib.hid (S5.out.step hr6 hg6)
  clear hr6 hg6 S5
  go_wp2_with fail
  go_loopg [8] k40 (fun gk kk wr => ∃ (Ax : Option Addr) (nx cx : Nat) (Ay : Option Addr) (ny cy : Nat), gk ≤ k40 ∧ kk = .int .i64 (gk : Int) ∧ CrX w0 wz p vb bs (C + 2000202 + (k40 - gk)) (.slice A cs.length cc) cs gx (.slice Ax nx cx) (.slice Ay ny cy) wr)
  case atStart => exact ⟨Ax, nx, cx, Ay, ny, cy, Nat.le_refl _, rfl, S6.out.more (by omega)⟩
  case round =>
    clear S6
    obtain ⟨Ax, nx, cx, Ay, ny, cy, hgk, rfl, hS⟩ := hrel
    have S := Lib.hid hS
    have x0 := (cell_of_row _ _ 0 _ _ _ hS.box).trans (show _ = some (Value.slice Ax nx cx) from rfl)
    have x1 := (cell_of_row _ _ 1 _ _ _ hS.box).trans (show _ = some (Value.slice Ay ny cy) from rfl)
    have hlo := hS.lo
    have hsz := hS.o.at_.size
    have hgx := (Array.getElem?_eq_some_iff.1 hS.box).1
    have hrz := hS.o.at_.heap HZR.out (fun e => by have h1 : w.heap.size = p := e; omega)
    have k0 := (cell_of_row _ _ 0 _ _ _ hrz).trans (show _ = some (Value.slice none 0 0) from rfl)
    have k1 := (cell_of_row _ _ 1 _ _ _ hrz).trans (show _ = some (Value.slice none 0 0) from rfl)
    have kf0 := frozen_of_row _ _ 0 _ _ hrz
    have kf1 := frozen_of_row _ _ 1 _ _ hrz
    have hwz := HZS.out
    have hw0 : w0.heap.size ≤ w.heap.size := h00
    rcases hS.cr with ⟨e1, e2⟩ | ⟨n', gl, cl, gm, m', cm', vr, vt, L, M, e1, e2, hcw⟩
    · injection e1 with e11 e12 e13
      injection e2 with e21 e22 e23
      subst e11 e12 e13 e21 e22 e23
      clear hS hrz
      by_cases hg0 : gk = 0
      · subst hg0
        go_wp2
        refine bodyPost_ret (v := .tuple #[.agg #[.slice none 0 0, .slice none 0 0], .slice A cs.length cc]) (by simp [results, Try.results65, go_sem, k0, k1]) rfl ?_
        have hcw : ∀ (u : World) (i : Nat) (x : Value), Chg (fun b => b = w.heap.size) u (u.setCell ⟨w.heap.size, i, none⟩ x) := fun u i x => Chg.of_set u _ _ _ rfl
        have hcc := (hcw wr 0 (.slice none 0 0)).trans (hcw _ 1 (.slice none 0 0))
        refine ⟨_, _, _, ⟨[], []⟩, cs, rfl, ⟨none, 0, rfl, by simp, by omega, fun h => absurd h (by simp)⟩, ⟨none, 0, rfl, by simp, by omega, fun h => absurd h (by simp)⟩, ?_, S.out.o.len, by simp, by simp, Chg.pure S.out.o.rb.pure hcc (fun b e => by omega)⟩
        exact Codes.of_ownO (S.out.o.own.chg hcc (fun g hg e => by have := (S.out.o.own.lt g hg).1; omega)) rfl (flat_cdf cs)
      · have hgp : (gk : Int) > 0 := by omega
        go_wp2
        refine bodyPost_ret (v := .tuple #[.agg #[.slice none 0 0, .slice none 0 0], .slice A cs.length cc]) (by simp [results, Try.results65, go_sem, k0, k1]) rfl ?_
        have hcw : ∀ (u : World) (i : Nat) (x : Value), Chg (fun b => b = w.heap.size) u (u.setCell ⟨w.heap.size, i, none⟩ x) := fun u i x => Chg.of_set u _ _ _ rfl
        have hcc := (hcw wr 0 (.slice none 0 0)).trans (hcw _ 1 (.slice none 0 0))
        refine ⟨_, _, _, ⟨[], []⟩, cs, rfl, ⟨none, 0, rfl, by simp, by omega, fun h => absurd h (by simp)⟩, ⟨none, 0, rfl, by simp, by omega, fun h => absurd h (by simp)⟩, ?_, S.out.o.len, by simp, by simp, Chg.pure S.out.o.rb.pure hcc (fun b e => by omega)⟩
        exact Codes.of_ownO (S.out.o.own.chg hcc (fun g hg e => by have := (S.out.o.own.lt g hg).1; omega)) rfl (flat_cdf cs)
    · injection e1 with e11 e12 e13
      injection e2 with e21 e22 e23
      subst e11 e12 e13 e21 e22 e23
      have hn1 := hcw.n1
      have hn8 := hcw.n8
      have hglb := hcw.gl0
      have HCW := Lib.hid hcw
      clear hS hrz hcw
      by_cases hg0 : gk = 0
      · subst hg0
        go_wp2_with fail
        refine (odd_any w0 _ p (C + 2000202 + (k40 - 0)) vb bs n N HN.out S.out.o.rb (by omega) hn).mono ?_
        rintro e wb ⟨B, rfl, hrb, hgb⟩
        have Sb := Lib.hid (S.out.step hrb hgb)
        have HCb := Lib.hid (HCW.out.chg hgb (fun b e => by have h1 : b = p := e; omega))
        have hszb := Sb.out.o.at_.size
        have x0 := (cell_of_row _ _ 0 _ _ _ Sb.out.box).trans (show _ = some (Value.slice (some ⟨gl, 0, none⟩) nx cx) from rfl)
        have x1 := (cell_of_row _ _ 1 _ _ _ Sb.out.box).trans (show _ = some (Value.slice (some ⟨gm, 0, none⟩) ny cy) from rfl)
        have hrz := Sb.out.o.at_.heap HZR.out (fun e => by have h1 : w.heap.size = p := e; omega)
        have k0 := (cell_of_row _ _ 0 _ _ _ hrz).trans (show _ = some (Value.slice none 0 0) from rfl)
        have k1 := (cell_of_row _ _ 1 _ _ _ hrz).trans (show _ = some (Value.slice none 0 0) from rfl)
        have kf0 := frozen_of_row _ _ 0 _ _ hrz
        have kf1 := frozen_of_row _ _ 1 _ _ hrz
        clear hrb hgb hrz S HCW
        cases B
        · skip
          go_wp2
          refine bodyPost_ret (v := .tuple #[.agg #[.slice (some ⟨gl, 0, none⟩) nx cx, .slice (some ⟨gm, 0, none⟩) ny cy], .slice A cs.length cc]) (by simp [results, Try.results65, go_sem, k0, k1]) rfl ?_
          have hcw : ∀ (u : World) (i : Nat) (x : Value), Chg (fun b => b = w.heap.size) u (u.setCell ⟨w.heap.size, i, none⟩ x) := fun u i x => Chg.of_set u _ _ _ rfl
          have hcc := (hcw wb 0 (.slice (some ⟨gl, 0, none⟩) nx cx)).trans (hcw _ 1 (.slice (some ⟨gm, 0, none⟩) ny cy))
          have hce := HCb.out.chg hcc (fun b e => by omega)
          refine ⟨_, _, _, cxOf nx ny L M, cs, rfl, hce.lanesR, hce.memR, ?_, Sb.out.o.len, by rw [(cxOf_len nx ny L M).1]; exact hn8, by rw [(cxOf_len nx ny L M).2]; have := hce.mem.m32; omega, Chg.pure Sb.out.o.rb.pure hcc (fun b e => by omega)⟩
          exact Codes.of_ownO (Sb.out.o.own.chg hcc (fun g hg e => by have := (Sb.out.o.own.lt g hg).1; omega)) rfl (flat_cdf cs)
        go_wp2_with fail
        refine (pick_t w0 _ p (C + 2000202 + (k40 - 0) + 1) vb bs 3 3 rfl Sb.out.o.rb (by omega) (by decide) (by decide)).mono ?_
        rintro e wd ⟨x3, rfl, hx3, hrd, hgd⟩
        have Sd := Lib.hid (Sb.out.step hrd hgd)
        have HCd := Lib.hid (HCb.out.chg hgd (fun b e => by have h1 : b = p := e; omega))
        have hszd := Sd.out.o.at_.size
        have hgxd := (Array.getElem?_eq_some_iff.1 Sd.out.box).1
        have x0 := (cell_of_row _ _ 0 _ _ _ Sd.out.box).trans (show _ = some (Value.slice (some ⟨gl, 0, none⟩) nx cx) from rfl)
        have x1 := (cell_of_row _ _ 1 _ _ _ Sd.out.box).trans (show _ = some (Value.slice (some ⟨gm, 0, none⟩) ny cy) from rfl)
        have xf0 := frozen_of_row _ _ 0 _ _ Sd.out.box
        have xf1 := frozen_of_row _ _ 1 _ _ Sd.out.box
        have hrz := Sd.out.o.at_.heap HZR.out (fun e => by have h1 : w.heap.size = p := e; omega)
        have k0 := (cell_of_row _ _ 0 _ _ _ hrz).trans (show _ = some (Value.slice none 0 0) from rfl)
        have k1 := (cell_of_row _ _ 1 _ _ _ hrz).trans (show _ = some (Value.slice none 0 0) from rfl)
        have kf0 := frozen_of_row _ _ 0 _ _ hrz
        have kf1 := frozen_of_row _ _ 1 _ _ hrz
        have hgxr : gx ≠ w.heap.size := by omega
        have hwd : w.heap.size < wd.heap.size := by omega
        have HRZ := Lib.hid hrz
        clear hrd hgd hrz Sb HCb
        have hx3' : x3 = 0 ∨ x3 = 1 ∨ x3 = 2 := by omega
        rcases hx3' with rfl | rfl | rfl
        · go_wp2
          have hfin : ((((wd.setCell ⟨gx, 0, none⟩ (.slice (some ⟨wd.heap.size, 0, none⟩) 0 0)).setCell ⟨w.heap.size, 0, none⟩ (.slice (some ⟨wd.heap.size, 0, none⟩) 0 0)).setCell ⟨w.heap.size, 1, none⟩ (.slice (some ⟨gm, 0, none⟩) ny cy)).alloc (.cells #[] 55)).heap[w.heap.size]? = some (.cells #[.slice (some ⟨wd.heap.size, 0, none⟩) 0 0, .slice (some ⟨gm, 0, none⟩) ny cy] 33 (0, 0)) := by
            refine (Chg.of_pure (S := fun _ => False) (show Pure (((wd.setCell ⟨gx, 0, none⟩ (.slice (some ⟨wd.heap.size, 0, none⟩) 0 0)).setCell ⟨w.heap.size, 0, none⟩ (.slice (some ⟨wd.heap.size, 0, none⟩) 0 0)).setCell ⟨w.heap.size, 1, none⟩ (.slice (some ⟨gm, 0, none⟩) ny cy)) ((((wd.setCell ⟨gx, 0, none⟩ (.slice (some ⟨wd.heap.size, 0, none⟩) 0 0)).setCell ⟨w.heap.size, 0, none⟩ (.slice (some ⟨wd.heap.size, 0, none⟩) 0 0)).setCell ⟨w.heap.size, 1, none⟩ (.slice (some ⟨gm, 0, none⟩) ny cy)).alloc (.cells #[] 55)) from (by repeat (first | assumption | exact Pure.refl _ | refine Pure.drewN ?_ _ | refine Pure.drew ?_ | refine Pure.alloc ?_ _ | refine Pure.setCell ?_ (by simp <;> omega) _)))).heap ?_ id
            rw [heap_setCell_same _ _ 1 _ _ _ (heap_setCell_same _ _ 0 _ _ _ ((Chg.of_set (S := fun b => b = gx) wd gx _ _ rfl).heap HRZ.out (fun e => hgxr e.symm)))]; rfl
          have k0 := (cell_of_row _ _ 0 _ _ _ hfin).trans (show _ = some (Value.slice (some ⟨wd.heap.size, 0, none⟩) 0 0) from rfl)
          have k1 := (cell_of_row _ _ 1 _ _ _ hfin).trans (show _ = some (Value.slice (some ⟨gm, 0, none⟩) ny cy) from rfl)
          refine bodyPost_ret (v := .tuple #[.agg #[.slice (some ⟨wd.heap.size, 0, none⟩) 0 0, .slice (some ⟨gm, 0, none⟩) ny cy], .slice A cs.length cc]) (by simp [results, Try.results65, go_sem, k0, k1]) rfl ?_
          have hcc : Chg (fun b => b = gx ∨ b = w.heap.size) wd ((((wd.setCell ⟨gx, 0, none⟩ (.slice (some ⟨wd.heap.size, 0, none⟩) 0 0)).setCell ⟨w.heap.size, 0, none⟩ (.slice (some ⟨wd.heap.size, 0, none⟩) 0 0)).setCell ⟨w.heap.size, 1, none⟩ (.slice (some ⟨gm, 0, none⟩) ny cy)).alloc (.cells #[] 55)) :=
            (((Chg.of_set wd gx _ _ (.inl rfl)).trans (Chg.of_set _ w.heap.size _ _ (.inr rfl))).trans (Chg.of_set _ w.heap.size _ _ (.inr rfl))).trans (Chg.of_pure (show Pure _ _ from (by repeat (first | assumption | exact Pure.refl _ | refine Pure.drewN ?_ _ | refine Pure.drew ?_ | refine Pure.alloc ?_ _ | refine Pure.setCell ?_ (by simp <;> omega) _))))
          have hgmx := HCd.out.mem.own.ne_heap Sd.out.o.rb.cell.choose_spec (by decide) gm rfl
          have hgmg := HCd.out.mem.own.ne_heap Sd.out.box (by decide) gm rfl
          have hgmb := (HCd.out.mem.own.lt gm rfl).1
          refine ⟨_, _, _, ⟨[], (List.range ny).map M⟩, cs, rfl, ⟨_, 0, rfl, by simp, by omega, fun h => absurd h (by simp)⟩, (HCd.out.mem.chg hcc (fun e => by rcases e with e | e <;> omega)).ints, ?_, Sd.out.o.len, by simp, by have := HCd.out.mem.m32; simp; omega, Chg.pure Sd.out.o.rb.pure hcc (fun b e => by omega)⟩
          exact Codes.of_ownO (Sd.out.o.own.chg hcc (fun g hg e => by
            have h1 := (Sd.out.o.own.lt g hg).1
            have h2 := Sd.out.o.own.ne_heap Sd.out.box (by decide) g hg
            rcases e with e | e <;> omega)) rfl (flat_cdf cs)
        · have hlane := HCd.out.lane (k := 0) (by omega)
          have l1 : wd.cell? ⟨gl, 1, none⟩ = some (.int .i64 (lxOf (L 0)).at_) := by simpa using hlane.c1
          obtain ⟨cur, hb1, _⟩ := HCd.out.lanes
          have lf1 := frozen_of_row wd gl 1 _ _ hb1
          have hglx : gl ≠ gx := fun e => ne_of_heap hb1 Sd.out.box (by decide) e
          have hglr : gl ≠ w.heap.size := by omega
          have HB1 := Lib.hid hb1
          clear hlane hb1
          go_wp2
          refine bodyPost_ret (v := .tuple #[.agg #[.slice (some ⟨gl, 0, none⟩) nx cx, .slice (some ⟨gm, 0, none⟩) ny cy], .slice A cs.length cc]) (by simp [results, Try.results65, go_sem, k0, k1]) rfl ?_
          have hc2 : Chg (fun b => b = w.heap.size) (wd.setCell ⟨gl, 1, none⟩ (.int .i64 (-1))) (((wd.setCell ⟨gl, 1, none⟩ (.int .i64 (-1))).setCell ⟨w.heap.size, 0, none⟩ (.slice (some ⟨gl, 0, none⟩) nx cx)).setCell ⟨w.heap.size, 1, none⟩ (.slice (some ⟨gm, 0, none⟩) ny cy)) :=
            (Chg.of_set (S := fun b => b = w.heap.size) _ w.heap.size _ _ rfl).trans (Chg.of_set (S := fun b => b = w.heap.size) _ w.heap.size _ _ rfl)
          have hcc := (Chg.of_set (S := fun b => b = gl ∨ b = w.heap.size) wd gl 1 (.int .i64 (-1)) (.inl rfl)).trans ((Chg.of_set (S := fun b => b = gl ∨ b = w.heap.size) (wd.setCell ⟨gl, 1, none⟩ (.int .i64 (-1))) w.heap.size 0 (.slice (some ⟨gl, 0, none⟩) nx cx) (.inr rfl)).trans (Chg.of_set _ w.heap.size 1 (.slice (some ⟨gm, 0, none⟩) ny cy) (.inr rfl)))
          obtain ⟨_, _, hve, h1, h2⟩ := HCd.out.bad hc2 (fun b e => by omega)
          unfold crwV at hve
          injection hve with hve
          injection hve with hve
          injection hve with hve1 hve
          injection hve with hve2 hve
          subst hve1 hve2
          refine ⟨_, _, _, badAt nx ny L M, cs, rfl, h1, h2, ?_, Sd.out.o.len, by simp [badAt]; exact hn8, by have := HCd.out.mem.m32; simp [badAt]; omega, Chg.pure Sd.out.o.rb.pure hcc (fun b e => by omega)⟩
          exact Codes.of_ownO (Sd.out.o.own.chg hcc (fun g hg e => by
            have h1 := (Sd.out.o.own.lt g hg).1
            have h2 := Sd.out.o.own.ne_heap HB1.out (by decide) g hg
            rcases e with e | e <;> omega)) rfl (flat_cdf cs)
        · have hgmx := HCd.out.mem.own.ne_heap Sd.out.box (by decide) gm rfl
          have hgmb := (HCd.out.mem.own.lt gm rfl).1
          have hm32 := HCd.out.mem.m32
          go_wp2_with (at_builtin; go_must (refine wl_appendLF elInt rfl _ _ rfl wz.heap.size _ ny (memL ny M) rfl HCd.out.mem.own _ 1 _ [.int .i64 256] rfl rfl rfl rfl (by decide) (by omega) hszd ?_); intro v' wq r1 r2 r3; go_must (obtain ⟨A9, c9, hv9⟩ := r1.form; subst hv9; have HOW := Lib.hid r1; have hcg : Chg (fun b => b = gm) wd wq := Chg.of_grown r2 (fun k hk => by have hk2 : some gm = some k := hk; injection hk2 with hk2; exact hk2.symm); have HCG := Lib.hid hcg; have hbx := hcg.heap Sd.out.box (fun e => hgmx e.symm); have hbr := hcg.heap HRZ.out (fun e => by have h1 : w.heap.size = gm := e; omega); have x0 := (cell_of_row _ _ 0 _ _ _ hbx).trans (show _ = some (Value.slice (some ⟨gl, 0, none⟩) nx cx) from rfl); have x1 := (cell_of_row _ _ 1 _ _ _ hbx).trans (show _ = some (Value.slice (some ⟨gm, 0, none⟩) ny cy) from rfl); have xf0 := frozen_of_row _ _ 0 _ _ hbx; have xf1 := frozen_of_row _ _ 1 _ _ hbx; have k0 := (cell_of_row _ _ 0 _ _ _ hbr).trans (show _ = some (Value.slice none 0 0) from rfl); have k1 := (cell_of_row _ _ 1 _ _ _ hbr).trans (show _ = some (Value.slice none 0 0) from rfl); have kf0 := frozen_of_row _ _ 0 _ _ hbr; have kf1 := frozen_of_row _ _ 1 _ _ hbr; clear r1 r2 r3 hcg hbx hbr))
          refine bodyPost_ret (v := .tuple #[.agg #[.slice (some ⟨gl, 0, none⟩) nx cx, .slice A9 (ny + 1) c9], .slice A cs.length cc]) (by simp [results, Try.results65, go_sem, k0, k1]) rfl ?_
          have hcc : Chg (fun b => b = gx ∨ b = w.heap.size) wq (((wq.setCell ⟨gx, 1, none⟩ (.slice A9 (ny + 1) c9)).setCell ⟨w.heap.size, 0, none⟩ (.slice (some ⟨gl, 0, none⟩) nx cx)).setCell ⟨w.heap.size, 1, none⟩ (.slice A9 (ny + 1) c9)) :=
            ((Chg.of_set wq gx _ _ (.inl rfl)).trans (Chg.of_set _ w.heap.size _ _ (.inr rfl))).trans (Chg.of_set _ w.heap.size _ _ (.inr rfl))
          have hall : Chg (fun b => b = gm ∨ b = gx ∨ b = w.heap.size) wd (((wq.setCell ⟨gx, 1, none⟩ (.slice A9 (ny + 1) c9)).setCell ⟨w.heap.size, 0, none⟩ (.slice (some ⟨gl, 0, none⟩) nx cx)).setCell ⟨w.heap.size, 1, none⟩ (.slice A9 (ny + 1) c9)) :=
            (HCG.out.mono (fun b e => .inl e)).trans (hcc.mono (fun b e => .inr e))
          have hbq := HCG.out.heap Sd.out.box (fun e => hgmx e.symm)
          have hln := HCd.out.lanesC hall (fun e => by
            obtain ⟨cur, hb1, _⟩ := HCd.out.lanes
            have h1 := HCd.out.ne_gl.1
            have h2 : gl ≠ gx := fun e => ne_of_heap hb1 Sd.out.box (by decide) e
            rcases e with e | e | e <;> omega) (fun k hk g hg e => by
            have hlb := HCd.out.lnb k hk
            have hne := HCd.out.ne k hk
            rcases hg with hg | hg
            · have h1 := (hlb.2.1.lt g hg).1
              have h2 := hlb.2.1.ne_heap Sd.out.box (by decide) g hg
              rcases e with e | e | e
              · exact hne.1 (by rw [hg, e])
              · omega
              · omega
            · have h1 := (hlb.2.2.lt g hg).1
              have h2 := hlb.2.2.ne_heap Sd.out.box (by decide) g hg
              rcases e with e | e | e
              · exact hne.2 (by rw [hg, e])
              · omega
              · omega)
          have hmo := HOW.out.chg hcc (fun g hg e => by
            have h1 := (HOW.out.lt g hg).1
            have h2 := HOW.out.ne_heap hbq (by decide) g hg
            rcases e with e | e <;> omega)
          refine ⟨_, _, _, ⟨(cxOf nx ny L M).ls, (List.range ny).map M ++ [256]⟩, cs, rfl, hln, Ints.of_ownO' (B := wz.heap.size) (e := 3) ?_, ?_, Sd.out.o.len, by show (cxOf nx ny L M).ls.length ≤ 8; rw [(cxOf_len nx ny L M).1]; exact hn8, by simp; omega, Chg.pure Sd.out.o.rb.pure hall (fun b e => by omega)⟩
          · have e1 : ((List.range ny).map M ++ [256]).length = ny + 1 := by simp
            have e2 : ((List.range ny).map M ++ [256]).map (Value.int .i64) = memL ny M ++ [.int .i64 256] := by simp [memL]
            rw [e1, e2]; exact hmo
          · exact Codes.of_ownO (Sd.out.o.own.chg hall (fun g hg e => by
              have h1 := (Sd.out.o.own.lt g hg).1
              have h2 := Sd.out.o.own.ne_heap Sd.out.box (by decide) g hg
              obtain ⟨cur, hbm⟩ := HCd.out.mem.own.heap (g := gm) rfl
              have h3 := Sd.out.o.own.ne_heap hbm (by decide) g hg
              rcases e with e | e | e <;> omega)) rfl (flat_cdf cs)
      · have hgp : (gk : Int) > 0 := by omega
        go_wp2
        refine region_heldF (fun w' => w'.cell? ⟨gx, 0, none⟩ = some (.slice (some ⟨gl, 0, none⟩) nx cx) ∧ w'.cell? ⟨gx, 1, none⟩ = some (.slice (some ⟨gm, 0, none⟩) ny cy))
          (List.range 6) [6, 7, 8] (fun l => List.take 6 l) (fun l => List.drop 6 l) (by kernel_rfl) (by kernel_rfl) (by kernel_rfl) (by kernel_rfl) (fun c a d v w h => by cases d <;> exact h) (by exact ⟨keepP (by repeat (first | assumption | exact Pure.refl _ | refine Pure.drewN ?_ _ | refine Pure.drew ?_ | refine Pure.alloc ?_ _ | refine Pure.setCell ?_ (by simp <;> omega) _)) x0, keepP (by repeat (first | assumption | exact Pure.refl _ | refine Pure.drewN ?_ _ | refine Pure.drew ?_ | refine Pure.alloc ?_ _ | refine Pure.setCell ?_ (by simp <;> omega) _)) x1⟩) ?_
        simp only [List.take_succ_cons, List.take_zero, List.drop_succ_cons, List.drop_zero]
        iterate 6
          apply held_of
          · exact rfl
          · intro w' hS
            obtain ⟨s0, s1⟩ := hS
            go_simp
            try exact rfl
          try go_simp
        refine held_nil ?_
        unfold Tail
        have SD := Lib.hid (S.out.keep (show Pure wr wr.drew from (by repeat (first | assumption | exact Pure.refl _ | refine Pure.drewN ?_ _ | refine Pure.drew ?_ | refine Pure.alloc ?_ _ | refine Pure.setCell ?_ (by simp <;> omega) _))))
        have HCD := Lib.hid (HCW.out.keep (show Pure wr wr.drew from (by repeat (first | assumption | exact Pure.refl _ | refine Pure.drewN ?_ _ | refine Pure.drew ?_ | refine Pure.alloc ?_ _ | refine Pure.setCell ?_ (by simp <;> omega) _))))
        go_wp2_with fail
        refine (pick_t w0 _ p (C + 2000202 + (k40 - gk)) vb bs nx nx rfl SD.out.o.rb (by omega) (by omega) (by omega)).mono ?_
        rintro e wb ⟨x2, rfl, hx2, hrb, hgb⟩
        have Sb := Lib.hid (SD.out.step hrb hgb)
        have HCb := Lib.hid (HCD.out.chg hgb (fun b e => by have h1 : b = p := e; omega))
        have x0 := (cell_of_row _ _ 0 _ _ _ Sb.out.box).trans (show _ = some (Value.slice (some ⟨gl, 0, none⟩) nx cx) from rfl)
        have x1 := (cell_of_row _ _ 1 _ _ _ Sb.out.box).trans (show _ = some (Value.slice (some ⟨gm, 0, none⟩) ny cy) from rfl)
        clear hrb hgb SD HCD
        go_wp2_with fail
        refine And.intro (by exact ⟨x0, x1⟩) ?_
        unfold Tail
        go_wp2_with fail
        refine (sstepc_any _ _ _ (cxOf nx ny L M) cs x2 _ HCb.out.lanesR HCb.out.memR Sb.out.o.codes (by have := Sb.out.o.len; omega) (by rw [(cxOf_len nx ny L M).1]; omega) (by rw [(cxOf_len nx ny L M).2]; have := HCb.out.mem.m32; omega) (by rw [(cxOf_len nx ny L M).1]; exact hx2)).mono ?_
        intro e wc hst
        obtain ⟨Az, nz, cz, Aw, nw, cw, rfl, hcv, hpc⟩ := hst.v
        have hbc := (Chg.of_pure (S := fun _ => False) hpc).heap Sb.out.box id
        have x0 := (cell_of_row _ _ 0 _ _ _ hbc).trans (show _ = some (Value.slice (some ⟨gl, 0, none⟩) nx cx) from rfl)
        have x1 := (cell_of_row _ _ 1 _ _ _ hbc).trans (show _ = some (Value.slice (some ⟨gm, 0, none⟩) ny cy) from rfl)
        have xf0 := frozen_of_row _ _ 0 _ _ hbc
        have xf1 := frozen_of_row _ _ 1 _ _ hbc
        have SF := Lib.hid (Sb.out.put hpc hcv)
        clear hst hcv hpc hbc
        go_wp2_with fail
        refine And.intro (by exact ⟨x0, x1⟩) ?_
        unfold Tail
        go_wp2
        go_roundg (gk - 1)
        case measure => omega
        case rel =>
          have hgk1 : ((gk - 1 : Nat) : Int) = (gk : Int) - 1 := by omega
          exact ⟨Az, nz, cz, Aw, nw, cw, by omega, by rw [hgk1], SF.out.more (by omega)⟩

end Go.Proofs.Ytajaonejpggcbaa

namespace Go.Proofs.Ytajaonejpggcbaa
open Go.RowKit

set_option maxHeartbeats 400000 in
theorem alive_any (w : World) : Calls Try.prog 34 #[] w fun e w' => e = .returned (.bool true) ∧ Pure w w' := by
  go_enter Try.func34, Try.ntmps34
  go_wp2_with fail
  refine (imaskall_any 3 _ (by decide) (by decide)).mono ?_
  rintro e w' ⟨rfl, rfl⟩
  go_wp2
  go_ret
  exact ⟨rfl, Pure.refl _⟩

end Go.Proofs.Ytajaonejpggcbaa

namespace Go.Proofs.Ytajaonejpggcbaa
open Go.RowKit

def foldPut : Act → List Oper → List Value → Act
  | a, o :: r, v :: vs => foldPut (a.put o.dst v) r vs
  | a, _, _ => a
def nowhere : Exit → Act → World → Prop := fun _ _ _ => False
def PureOps (P : Program) (ops : Array Oper) (S : World → Prop) (aF : Act) : List Oper → List Value → Prop
  | o :: r, v :: vs => (∀ u, S u → wpList P ops (thenK nowhere fun b u' => S u' ∧ b = aF.put o.dst v) [o] aF u) ∧ PureOps P ops S aF r vs
  | _, _ => True
def dsts (l : List Oper) : List Tmp := l.filterMap (·.dst)
def looksB (ops : Array Oper) : Bool := (List.range ops.size).all fun i => ((ops[i]?).map fun o => (o.looksAt ops).all fun t => (List.range ops.size).all fun j => ((ops[j]?).map fun o' => o'.dst != some t || o.after.any fun e => e.on == j && Region.binds .any e).getD true).getD true
def pureB (l : List Oper) : Bool := Region.noSelect l.toArray && looksB l.toArray && decide (dsts l).Nodup
def sizeB (a : Act) (l : List Oper) : Bool := (dsts l).all fun d => decide (d < a.tmps.size)

theorem put_size (a : Act) (d : Option Tmp) (v : Value) : (a.put d v).tmps.size = a.tmps.size := by
  cases d <;> simp [Act.put]
theorem put_def (a : Act) (d : Option Tmp) (v : Value) : (a.put d v).defers = a.defers := by
  cases d <;> rfl
theorem foldPut_size : ∀ (l : List Oper) (vs : List Value) (a : Act), (foldPut a l vs).tmps.size = a.tmps.size
  | [], _, _ => rfl
  | _ :: _, [], _ => rfl
  | o :: r, v :: vs, a => by
    show (foldPut (a.put o.dst v) r vs).tmps.size = _
    rw [foldPut_size r vs, put_size]
theorem foldPut_def : ∀ (l : List Oper) (vs : List Value) (a : Act), (foldPut a l vs).defers = a.defers
  | [], _, _ => rfl
  | _ :: _, [], _ => rfl
  | o :: r, v :: vs, a => by
    show (foldPut (a.put o.dst v) r vs).defers = _
    rw [foldPut_def r vs, put_def]
theorem put_get_ne (a : Act) {d : Option Tmp} {t : Tmp} (v : Value) (h : d ≠ some t) : (a.put d v).tmps[t]? = a.tmps[t]? := by
  cases d with
  | none => rfl
  | some d => simp [Act.put, Array.getElem?_setIfInBounds_ne (show d ≠ t from fun e => h (by rw [e]))]
theorem put_get_same (a : Act) {t : Tmp} (v : Value) (h : t < a.tmps.size) : (a.put (some t) v).tmps[t]? = some v := by
  simp [Act.put, Array.getElem?_setIfInBounds_self_of_lt h]
theorem foldPut_keep : ∀ (l : List Oper) (vs : List Value) (a : Act) (t : Tmp), t ∉ dsts l → (foldPut a l vs).tmps[t]? = a.tmps[t]?
  | [], _, _, _, _ => rfl
  | _ :: _, [], _, _, _ => rfl
  | o :: r, v :: vs, a, t, h => by
    show (foldPut (a.put o.dst v) r vs).tmps[t]? = _
    have h1 : o.dst ≠ some t := fun e => h (by unfold dsts; exact List.mem_filterMap.2 ⟨o, by simp, e⟩)
    have h2 : t ∉ dsts r := fun e => h (by
      unfold dsts at e ⊢
      obtain ⟨x, hx, he⟩ := List.mem_filterMap.1 e
      exact List.mem_filterMap.2 ⟨x, by simp [hx], he⟩)
    rw [foldPut_keep r vs _ t h2, put_get_ne a v h1]
theorem foldPut_hit : ∀ (l : List Oper) (vs : List Value) (a : Act) (j : Nat) (o : Oper) (v : Value) (t : Tmp), (dsts l).Nodup → l[j]? = some o → vs[j]? = some v → o.dst = some t → t < a.tmps.size → (foldPut a l vs).tmps[t]? = some v
  | [], _, _, j, _, _, _, _, h, _, _, _ => by simp at h
  | _ :: _, [], _, j, _, _, _, _, _, h, _, _ => by simp at h
  | o :: r, v :: vs, a, 0, o', v', t, hn, h1, h2, h3, h4 => by
    simp at h1 h2
    subst h1 h2
    have e : dsts (o :: r) = t :: dsts r := by unfold dsts; simp [h3]
    rw [e] at hn
    show (foldPut (a.put o.dst v) r vs).tmps[t]? = _
    rw [foldPut_keep r vs _ t (List.nodup_cons.1 hn).1, h3, put_get_same a v h4]
  | o :: r, v :: vs, a, j + 1, o', v', t, hn, h1, h2, h3, h4 => by
    have hn' : (dsts r).Nodup := by
      unfold dsts at hn ⊢
      cases hd : o.dst with
      | none => simpa [hd] using hn
      | some d => simp [hd] at hn; exact hn.2
    exact foldPut_hit r vs (a.put o.dst v) j o' v' t hn' (by simpa using h1) (by simpa using h2) h3 (by rw [put_size]; exact h4)
theorem PureOps.get {P : Program} {ops : Array Oper} {S : World → Prop} {aF : Act} : ∀ {l : List Oper} {vs : List Value} {j : Nat} {o : Oper} {v : Value}, PureOps P ops S aF l vs → l[j]? = some o → vs[j]? = some v → ∀ u, S u → wpList P ops (thenK nowhere fun b u' => S u' ∧ b = aF.put o.dst v) [o] aF u
  | [], _, _, _, _, _, h, _ => by simp at h
  | _ :: _, [], _, _, _, _, _, h => by simp at h
  | _ :: _, _ :: _, 0, _, _, hp, h1, h2 => by
    simp at h1 h2; subst h1 h2; exact hp.1
  | _ :: _, _ :: _, j + 1, _, _, hp, h1, h2 => PureOps.get hp.2 (by simpa using h1) (by simpa using h2)
theorem put_inj {aF a : Act} {d : Option Tmp} {x v : Value} (hd : ∀ t, d = some t → t < aF.tmps.size) (h : aF.put d x = aF.put d v) : a.put d x = a.put d v := by
  cases d with
  | none => rfl
  | some t =>
    have h1 := put_get_same aF x (hd t rfl)
    rw [h, put_get_same aF v (hd t rfl)] at h1
    injection h1 with h1
    rw [h1]
theorem transfer {P : Program} {ops : Array Oper} {S : World → Prop} {Q : Exit → Act → World → Prop} {K : Act → World → Prop} {o : Oper} {a aF : Act} {v : Value} {u : World} (he : execOp a.eval o = execOp aF.eval o)
    (hw : Region.wanted o (yielded ops a.tmps) = Region.wanted o (yielded ops aF.tmps)) (hd : ∀ t, o.dst = some t → t < aF.tmps.size) (h : wpList P ops (thenK nowhere fun b u' => S u' ∧ b = aF.put o.dst v) [o] aF u)
    (hK : ∀ u', S u' → K (a.put o.dst v) u') : wpList P ops (thenK Q K) [o] a u := by
  unfold wpList at h ⊢
  rw [hw]
  split
  · rename_i hwt
    rw [if_pos hwt] at h
    rcases h with h | ⟨_, b, u', h2⟩
    · left
      unfold Oper.wp at h ⊢
      rw [he]
      generalize (execOp aF.eval o).run P u = r at h
      cases r with
      | ok n w' =>
        cases n with
        | value x => obtain ⟨h1, h2⟩ := h; show K _ _; rw [put_inj hd h2]; exact hK _ h1
        | skip => obtain ⟨h1, h2⟩ := h; show K _ _; rw [put_inj hd h2]; exact hK _ h1
        | defer d =>
          obtain ⟨_, h2⟩ := h
          exfalso
          have := congrArg Act.defers h2
          rw [put_def, put_def] at this
          exact absurd (congrArg List.length this) (by simp)
        | enter f xs =>
          refine Calls.mono h fun e w'' k => ?_
          cases e with
          | returned x => obtain ⟨h1, h2⟩ := k; show K _ _; rw [put_inj hd h2]; exact hK _ h1
          | panicked c => exact (k : False).elim
          | outgrown => obtain ⟨_, _, k⟩ := k; exact (k : False).elim
        | row r xs =>
          refine Rows.mono h fun x w'' k => ?_
          obtain ⟨h1, h2⟩ := k; show K _ _; rw [put_inj hd h2]; exact hK _ h1
        | _ => exact (h : False).elim
      | halt x w' => cases x <;> exact (h : False).elim
    · exact (h2 : False).elim
  · rename_i hwt
    rw [if_neg hwt] at h
    obtain ⟨h1, h2⟩ := h
    show K _ _
    rw [put_inj hd h2]
    exact hK _ h1
theorem eval_eq {a aF : Act} {x : Operand} (h : ∀ t, x = .tmp t → a.tmps[t]? = aF.tmps[t]?) : a.eval x = aF.eval x := by
  cases x with
  | tmp t => simp [Act.eval, h t rfl]
  | _ => rfl
theorem wanted_eq {ops : Array Oper} {o : Oper} {a aF : Act} (h : ∀ t ∈ o.looksAt ops, a.tmps[t]? = aF.tmps[t]?) : Region.wanted o (yielded ops a.tmps) = Region.wanted o (yielded ops aF.tmps) := by
  unfold Region.wanted
  cases hg : o.guard with
  | none => rfl
  | some gw =>
    obtain ⟨g, want⟩ := gw
    have hy : yielded ops a.tmps g = yielded ops aF.tmps g := by
      unfold yielded
      cases ht : (ops[g]?).bind (·.dst) with
      | none => rfl
      | some t =>
        have := h t (by simp [Oper.looksAt, hg, ht])
        simp only [Option.bind_some, this]
    simp only [hy]
theorem looksB_spec {ops : Array Oper} (h : looksB ops = true) {i j : Nat} {o o' : Oper} {t : Tmp} (ho : ops[i]? = some o) (ht : t ∈ o.looksAt ops) (ho' : ops[j]? = some o') (hd : o'.dst = some t) : ∃ e ∈ o.after, e.on = j ∧ Region.binds .any e = true := by
  have hi := (Array.getElem?_eq_some_iff.1 ho).1
  have hj := (Array.getElem?_eq_some_iff.1 ho').1
  have h1 := (List.all_eq_true.1 h) i (List.mem_range.2 hi)
  rw [ho] at h1
  simp only [Option.map_some, Option.getD_some] at h1
  have h2 := (List.all_eq_true.1 ((List.all_eq_true.1 h1) t ht)) j (List.mem_range.2 hj)
  rw [ho'] at h2
  simp only [Option.map_some, Option.getD_some, hd, bne_self_eq_false, Bool.false_or] at h2
  obtain ⟨k, hk, h3⟩ := Array.any_eq_true.1 h2
  simp only [Bool.and_eq_true, beq_iff_eq] at h3
  exact ⟨o.after[k], Array.getElem_mem hk, h3⟩

theorem getD_setS' (l : Array Bool) (i j : Nat) (h : (l.setIfInBounds i true).getD j false = true) (hij : i ≠ j) : l.getD j false = true := (getD_setB l i j h).resolve_right hij

theorem region_pure {P : Program} {id : Nat} {Q : Exit → Act → World → Prop} {a : Act} {w : World} {l : List Oper} (vals : List Value) (S : World → Prop) (hm : P.follows .mixedOrders = true) (hB : pureB l = true) (hl : vals.length = l.length) (hz : sizeB a l = true)
    (hS : S w.drew) (hops : PureOps P l.toArray S (foldPut a l vals) l vals) (hend : ∀ u, S u → Q .normal (foldPut a l vals) u) (hback : backB l.toArray = true) : (Code.region id l.toArray true).wp P Q a w := by
  simp only [pureB, Bool.and_eq_true, decide_eq_true_eq] at hB
  obtain ⟨⟨hsel, hlook⟩, hnd⟩ := hB
  have hsz : ∀ o ∈ l, ∀ t, o.dst = some t → t < a.tmps.size := fun o ho t ht => by
    have := (List.all_eq_true.1 hz) t (List.mem_filterMap.2 ⟨o, ho, ht⟩)
    simpa using this
  have hval : ∀ j o, l[j]? = some o → ∃ v, vals[j]? = some v := fun j o ho => by
    have : j < vals.length := by have := (List.getElem?_eq_some_iff.1 ho).1; omega
    exact ⟨vals[j], List.getElem?_eq_getElem this⟩
  refine region_inv hm (fun l' b u => S u ∧ b.defers = a.defers ∧ b.tmps.size = a.tmps.size ∧ l'.size = l.length ∧ (∀ j o t, l[j]? = some o → o.dst = some t → l'.getD j false = true → b.tmps[t]? = (foldPut a l vals).tmps[t]?) ∧ ∀ t, t ∉ dsts l → b.tmps[t]? = (foldPut a l vals).tmps[t]?) ?_ ?_ ?_
  · refine ⟨hS, rfl, rfl, by simp, fun j o t _ _ h => ?_, fun t ht => (foldPut_keep l vals a t ht).symm⟩
    rw [Array.getD_eq_getD_getElem?] at h
    by_cases hj : j < l.length
    · simp [hj] at h
    · simp [hj] at h
  · rintro l' b u ⟨h1, h2, h3, h4, h5, h6⟩ hr
    have hall := ready_nil hback (by simpa using h4) hr
    have : b = foldPut a l vals := by
      have ht : b.tmps = (foldPut a l vals).tmps := by
        apply Array.ext_getElem?
        intro t
        by_cases ht : t ∈ dsts l
        · obtain ⟨o, ho, hd⟩ := List.mem_filterMap.1 ht
          obtain ⟨j, hj, rfl⟩ := List.getElem_of_mem ho
          exact h5 j l[j] t (List.getElem?_eq_getElem hj) hd (hall j (by simpa using hj))
        · exact h6 t ht
      have hd : b.defers = (foldPut a l vals).defers := by rw [h2, foldPut_def]
      cases b
      cases hF : foldPut a l vals
      rw [hF] at ht hd
      simp only at ht hd
      rw [ht, hd]
    rw [this]
    exact hend u h1
  · rintro l' b u i o ⟨h1, h2, h3, h4, h5, h6⟩ ho hun hdep
    have ho' : l[i]? = some o := by simpa using ho
    obtain ⟨v, hv⟩ := hval i o ho'
    have hlooks : ∀ t ∈ o.looksAt l.toArray, b.tmps[t]? = (foldPut a l vals).tmps[t]? := fun t ht => by
      by_cases hd : t ∈ dsts l
      · obtain ⟨oj, hoj, hdj⟩ := List.mem_filterMap.1 hd
        obtain ⟨j, hj, rfl⟩ := List.getElem_of_mem hoj
        obtain ⟨e, he, e1, e2⟩ := looksB_spec hlook ho ht (show l.toArray[j]? = some l[j] by simp [hj]) hdj
        exact h5 j _ t (List.getElem?_eq_getElem hj) hdj (by rw [← e1]; exact hdep e he e2)
      · exact h6 t hd
    refine transfer (execOp_congr o (fun cs c => Region.noSelect_spec hsel i o cs c ho) fun x hx => eval_eq fun t ht => hlooks t ?_) (wanted_eq hlooks) (fun t ht => by rw [foldPut_size]; exact hsz o (List.mem_of_getElem? ho') t ht) (PureOps.get hops ho' hv u h1) fun u' hu' => ?_
    · subst ht
      exact List.mem_append_left _ (List.mem_filterMap.2 ⟨.tmp t, by simpa using hx, rfl⟩)
    · refine ⟨hu', by rw [put_def, h2], by rw [put_size, h3], by simpa using h4, fun j oj t hj hdj hlj => ?_, fun t ht => ?_⟩
      · by_cases hij : i = j
        · subst hij
          rw [ho'] at hj
          injection hj with hj
          subst hj
          have hlt := hsz o (List.mem_of_getElem? ho') t hdj
          rw [foldPut_hit l vals a i o v t hnd ho' hv hdj hlt, hdj, put_get_same b v (by rw [h3]; exact hlt)]
        · by_cases hdd : o.dst = some t
          · exfalso
            have hlt := hsz o (List.mem_of_getElem? ho') t hdd
            -- two operations with the same slot
            have : ∀ (l : List Oper) (i j : Nat) (x y : Oper), (dsts l).Nodup → l[i]? = some x → l[j]? = some y → x.dst = some t → y.dst = some t → i = j := by
              intro l
              induction l with
              | nil => intro i j x y _ h; simp at h
              | cons z r ih =>
                intro i j x y hn hx hy dx dy
                have hn' : (dsts r).Nodup := by
                  unfold dsts at hn ⊢
                  cases hd : z.dst with
                  | none => simpa [hd] using hn
                  | some d => simp [hd] at hn; exact hn.2
                have hz0 : z.dst = some t → t ∉ dsts r := fun e => by
                  have : dsts (z :: r) = t :: dsts r := by unfold dsts; simp [e]
                  rw [this] at hn
                  exact (List.nodup_cons.1 hn).1
                cases i with
                | zero =>
                  cases j with
                  | zero => rfl
                  | succ j =>
                    simp at hx hy; subst hx
                    exact absurd (List.mem_filterMap.2 ⟨y, List.mem_of_getElem? hy, dy⟩) (hz0 dx)
                | succ i =>
                  cases j with
                  | zero =>
                    simp at hx hy; subst hy
                    exact absurd (List.mem_filterMap.2 ⟨x, List.mem_of_getElem? hx, dx⟩) (hz0 dy)
                  | succ j => rw [ih i j x y hn' (by simpa using hx) (by simpa using hy) dx dy]
            exact hij (this l i j o oj hnd ho' hj hdd hdj)
          · rw [put_get_ne b v hdd]
            exact h5 j oj t hj hdj (getD_setS' l' i j hlj hij)
      · have hdd : o.dst ≠ some t := fun e => ht (List.mem_filterMap.2 ⟨o, List.mem_of_getElem? ho', e⟩)
        rw [put_get_ne b v hdd]
        exact h6 t ht

end Go.Proofs.Ytajaonejpggcbaa
