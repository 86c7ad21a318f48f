/- The reference's lanes in a crowd: what lies in memory; whether they are done; the barrier; the least place. The reference's lanes: a barrier is passed; the least place. The reference's least place of a crowd that came in. The reference's LeastMask. The program's least place of a crowd that came in. Which lanes are valid, as the program finds it: words in a row; the loops around a place. No condition. -/
import Derived.Test.YtajaonejpggcbaaQac
import Derived.Test.YtajaonejpggcbaaQae
import Derived.Test.YtajaonejpggcbaaQah
import Derived.Test.YtajaonejpggcbaaQai
import Derived.Test.YtajaonejpggcbaaQbd

namespace Go.Proofs.Ytajaonejpggcbaa
open Go.RowKit

structure QO where
  w0 : World
  cs : List Cd
  vl : Value
  n : Nat
  m : Nat
  gl : Nat
  cl : Nat
  gm : Nat
  cm : Nat
def QO.crowd (o : QO) : Value := .agg #[.slice (some ⟨o.gl, 0, none⟩) o.n o.cl, .slice (some ⟨o.gm, 0, none⟩) o.m o.cm]
def QLaneC (cur : Array Value) (vr vt : Nat → Value) (L : Nat → Ln) (k : Nat) : Prop :=
  cur[k * 4]? = some (vr k) ∧ cur[k * 4 + 1]? = some (.int .i64 ((L k).at_ : Nat)) ∧ cur[k * 4 + 2]? = some (vt k) ∧ cur[k * 4 + 3]? = some (.bool (L k).W)
structure QRun (o : QO) (w : World) (vr vt : Nat → Value) (L : Nat → Ln) (M : Nat → Int) : Prop where
  pure : Pure o.w0 w
  codes : Codes o.w0 o.vl o.cs
  n1 : 1 ≤ o.n
  n8 : o.n ≤ 8
  cl1 : o.n ≤ o.cl
  cl2 : o.cl ≤ 9223372036854775807
  gl0 : o.w0.heap.size ≤ o.gl
  lanes : ∃ cur, w.heap[o.gl]? = some (.cells cur 55 (0, 0)) ∧ ∀ k, k < o.n → QLaneC cur vr vt L k
  lnb : ∀ k, k < o.n → LnB w o.w0.heap.size (vr k) (vt k) (L k)
  mem : SMem w o.w0.heap.size o.gm o.m o.cm M
  ne : ∀ k, k < o.n → (vr k).ownBlock ≠ some o.gm ∧ (vt k).ownBlock ≠ some o.gm
  good : ∀ k, k < o.n → ∀ r, Word ((L k).R r)
section
variable {o : QO} {w w' : World} {vr vt : Nat → Value} {L : Nat → Ln} {M : Nat → Int}
theorem SMem.chg {S : Nat → Prop} {B gm m cm : Nat} (h : SMem w B gm m cm M) (hc : Chg S w w') (hn : ¬ S gm) : SMem w' B gm m cm M := ⟨h.m1, h.m32, h.own.chg hc (fun g hg => by
  have hg2 : some gm = some g := hg
  injection hg2 with hg2
  subst hg2; exact hn), h.good⟩
theorem QRun.glLt (h : QRun o w vr vt L M) : o.gl < w.heap.size := by
  obtain ⟨cur, b1, _⟩ := h.lanes
  exact (Array.getElem?_eq_some_iff.1 b1).1
theorem QRun.gmLo (h : QRun o w vr vt L M) : o.w0.heap.size ≤ o.gm ∧ o.gm < w.heap.size := h.mem.own.lt o.gm rfl
theorem QRun.ne_gl (h : QRun o w vr vt L M) : o.gm ≠ o.gl ∧ ∀ k, k < o.n → (vr k).ownBlock ≠ some o.gl ∧ (vt k).ownBlock ≠ some o.gl := by
  obtain ⟨cur, b1, _⟩ := h.lanes
  refine ⟨?_, fun k hk => ⟨fun e => ?_, fun e => ?_⟩⟩
  · exact h.mem.own.ne_heap b1 (by decide) o.gm rfl
  · exact (h.lnb k hk).2.1.ne_heap b1 (by decide) _ e rfl
  · exact (h.lnb k hk).2.2.ne_heap b1 (by decide) _ e rfl
theorem QRun.other {S : Nat → Prop} (h : QRun o w vr vt L M) (hc : Chg S w w') (hS : ∀ b, S b → o.w0.heap.size ≤ b) (h1 : ¬ S o.gl) (h2 : ¬ S o.gm) (h3 : ∀ k, k < o.n → ∀ g, ((vr k).ownBlock = some g ∨ (vt k).ownBlock = some g) → ¬ S g) : QRun o w' vr vt L M := by
  obtain ⟨cur, b1, b2⟩ := h.lanes
  exact ⟨Chg.pure h.pure hc hS, h.codes, h.n1, h.n8, h.cl1, h.cl2, h.gl0, ⟨cur, hc.heap b1 h1, b2⟩, fun k hk => (h.lnb k hk).chg hc (fun g hg => h3 k hk g (.inl hg)) (fun g hg => h3 k hk g (.inr hg)), h.mem.chg hc h2, h.ne, h.good⟩
theorem QRun.keep (h : QRun o w vr vt L M) (hp : Pure w w') : QRun o w' vr vt L M := h.other (S := fun _ => False) (Chg.of_pure hp) (fun _ e => e.elim) id id (fun _ _ _ _ => id)
theorem QRun.cells (h : QRun o w vr vt L M) {k : Nat} (hk : k < o.n) : w.cell? ⟨o.gl, k * 4, none⟩ = some (vr k) ∧ w.cell? ⟨o.gl, k * 4 + 1, none⟩ = some (.int .i64 ((L k).at_ : Nat)) ∧ w.cell? ⟨o.gl, k * 4 + 2, none⟩ = some (vt k) ∧ w.cell? ⟨o.gl, k * 4 + 3, none⟩ = some (.bool (L k).W) ∧
    ∀ i, w.frozen? ⟨o.gl, i, none⟩ = false := by
  obtain ⟨cur, b1, b2⟩ := h.lanes
  obtain ⟨c0, c1, c2, c3⟩ := b2 k hk
  refine ⟨?_, ?_, ?_, ?_, fun i => frozen_of_row w o.gl i _ _ b1⟩ <;> (rw [cell_of_row w o.gl _ cur _ _ b1]; assumption)
end

end Go.Proofs.Ytajaonejpggcbaa

namespace Go.Proofs.Ytajaonejpggcbaa
open Go.RowKit

theorem QRun.setW {o : QO} {w : World} {vr vt : Nat → Value} {L : Nat → Ln} {M : Nat → Int} (h : QRun o w vr vt L M) {k : Nat} (hk : k < o.n) (b : Bool) :
    QRun o (w.setCell ⟨o.gl, k * 4 + 3, none⟩ (.bool b)) vr vt (upL L k { L k with W := b }) M ∧ Chg (fun c => c = o.gl) w (w.setCell ⟨o.gl, k * 4 + 3, none⟩ (.bool b)) := by
  have hc : Chg (fun c => c = o.gl) w (w.setCell ⟨o.gl, k * 4 + 3, none⟩ (.bool b)) := Chg.of_set w _ _ _ rfl
  have hne := h.ne_gl
  obtain ⟨cur, b1, b2⟩ := h.lanes
  refine ⟨⟨Chg.pure h.pure hc (fun c e => by rw [e]; exact h.gl0), h.codes, h.n1, h.n8, h.cl1, h.cl2, h.gl0, ⟨_, heap_setCell_same w o.gl _ _ _ _ b1, fun j hj => ?_⟩, fun j hj => ?_, h.mem.chg hc hne.1, h.ne, fun j hj r => ?_⟩, hc⟩
  · obtain ⟨c0, c1, c2, c3⟩ := b2 j hj
    unfold QLaneC upL
    by_cases e : j = k
    · subst e
      rw [if_pos rfl]
      have hlt : j * 4 + 3 < cur.size := (Array.getElem?_eq_some_iff.1 c3).1
      refine ⟨by rw [Array.getElem?_setIfInBounds_ne (by omega)]; exact c0, by rw [Array.getElem?_setIfInBounds_ne (by omega)]; exact c1, by rw [Array.getElem?_setIfInBounds_ne (by omega)]; exact c2, by rw [Array.getElem?_setIfInBounds_self_of_lt hlt]⟩
    · rw [if_neg e]
      refine ⟨by rw [Array.getElem?_setIfInBounds_ne (by omega)]; exact c0, by rw [Array.getElem?_setIfInBounds_ne (by omega)]; exact c1, by rw [Array.getElem?_setIfInBounds_ne (by omega)]; exact c2, by rw [Array.getElem?_setIfInBounds_ne (by omega)]; exact c3⟩
  · have hl := (h.lnb j hj).chg hc (fun g hg e => (hne.2 j hj).1 (by rw [hg, e])) (fun g hg e => (hne.2 j hj).2 (by rw [hg, e]))
    unfold upL
    split
    · rename_i e; subst e; exact hl
    · exact hl
  · unfold upL
    split
    · rename_i e; subst e; exact h.good j hj r
    · exact h.good j hj r
theorem freeL_succ (L : Nat → Ln) (j : Nat) : freeL (j + 1) L = upL (freeL j L) j { freeL j L j with W := false } := funext fun l => by
  unfold freeL upL
  by_cases e : l = j
  · subst e; simp
  · by_cases hl : l < j
    · have : l < j + 1 := by omega
      simp [e, hl, this]
    · have : ¬ l < j + 1 := by omega
      simp [e, hl, this]
theorem freeL_zero (L : Nat → Ln) : freeL 0 L = L := funext fun l => by unfold freeL; simp
def FreeP (o : QO) (w : World) (vr vt : Nat → Value) (L : Nat → Ln) (M : Nat → Int) (e : Ending) (w' : World) : Prop :=
  e = .returned (.tuple #[]) ∧ QRun o w' vr vt (if anyGo o.cs L o.n = true then L else freeL o.n L) M ∧ Chg (fun b => b = o.gl) w w'

set_option maxHeartbeats 2000000 in
set_option maxRecDepth 100000 in
theorem sfree_any (o : QO) (w : World) (vr vt : Nat → Value) (L : Nat → Ln) (M : Nat → Int) (h : QRun o w vr vt L M) (_h40 : o.cs.length ≤ 40) (hat : ∀ k, k < o.n → (L k).at_ ≤ o.cs.length) :
    Calls Try.prog 94 #[o.crowd, o.vl] w (FreeP o w vr vt L M) := by
  have H := Lib.hid h
  have HAT := Lib.hid hat
  obtain ⟨A, c, hvl, hnc, hcm⟩ := h.codes.form
  have hn8 := h.n8
  have hn1 := h.n1
  have hcl1 := h.cl1
  have hcl2 := h.cl2
  have hglt := h.glLt
  have hbx := heap_alloc_new w (.cells #[.slice (some ⟨o.gl, 0, none⟩) o.n o.cl, .slice (some ⟨o.gm, 0, none⟩) o.m o.cm] 33)
  have HBX := Lib.hid hbx
  unfold QO.crowd
  rw [hvl]
  clear h hat hvl hbx
  go_enter Try.func94, Try.ntmps94
  go_wp2_with fail
  go_loopg [4] o.n (fun gk i wr => ∃ j : Nat, gk + j = o.n ∧ i = .int .i64 j ∧ (∀ k, k < j → goesL o.cs.length (L k) = false) ∧ Pure (w.alloc (.cells #[.slice (some ⟨o.gl, 0, none⟩) o.n o.cl, .slice (some ⟨o.gm, 0, none⟩) o.m o.cm] 33)) wr)
  case atStart => exact ⟨0, rfl, rfl, fun k hk => absurd hk (Nat.not_lt_zero _), by exact (by repeat (first | assumption | exact Pure.refl _ | refine Pure.drewN ?_ _ | refine Pure.drew ?_ | refine Pure.alloc ?_ _ | refine Pure.setCell ?_ (by simp <;> omega) _))⟩
  case round =>
    obtain ⟨j, hgk, rfl, hdn, hp⟩ := hrel
    have Hgk := Lib.hid hgk
    have HDN := Lib.hid hdn
    have HP := Lib.hid hp
    have HPW := Lib.hid ((show Pure w (w.alloc (.cells #[.slice (some ⟨o.gl, 0, none⟩) o.n o.cl, .slice (some ⟨o.gm, 0, none⟩) o.m o.cm] 33)) from (by repeat (first | assumption | exact Pure.refl _ | refine Pure.drewN ?_ _ | refine Pure.drew ?_ | refine Pure.alloc ?_ _ | refine Pure.setCell ?_ (by simp <;> omega) _))).trans hp)
    have hjn : j ≤ o.n := by omega
    have hx := (Chg.of_pure (S := fun _ => False) hp).heap HBX.out id
    have HX := Lib.hid hx
    have x0 := cell_of_row _ _ 0 _ _ _ hx
    simp only [List.getElem?_toArray, List.getElem?_cons_zero] at x0
    clear hgk hdn hp hx
    by_cases hlt : j < o.n
    · have hcl := (H.out.keep HPW.out).cells hlt
      obtain ⟨_, c1, _, c3, _⟩ := hcl
      have hjI : (j : Int) < (o.n : Int) := by omega
      have hj0 : (0 : Int) ≤ (j : Int) := by omega
      have hat := HAT.out j hlt
      have HGB : Hid (goesL o.cs.length (L j) = (!(L j).W && decide ((L j).at_ < o.cs.length))) := Lib.hid rfl
      obtain ⟨a, Ha⟩ : ∃ a, Hid ((L j).at_ = a) := ⟨_, Lib.hid rfl⟩
      obtain ⟨W, HW⟩ : ∃ W, Hid ((L j).W = W) := ⟨_, Lib.hid rfl⟩
      rw [Ha.out] at c1 hat HGB
      rw [HW.out] at c3 HGB
      by_cases hgo : W = false ∧ a < o.cs.length
      · obtain ⟨rfl, hlt2⟩ := hgo
        have hd : decide ((a : Int) < (o.cs.length : Int)) = true := by rw [decide_eq_true_iff]; omega
        have HAG : Hid (anyGo o.cs L o.n = true) := Lib.hid (anyGo_iff.2 ⟨j, hlt, by rw [HGB.out]; simp [hlt2]⟩)
        go_wp2
        go_end0
        refine ⟨rfl, ?_, Chg.of_pure HPW.out⟩
        rw [HAG.out]
        exact H.out.keep HPW.out
      · have HGF : Hid (goesL o.cs.length (L j) = false) := Lib.hid (by
          rw [HGB.out]
          cases W
          · have : ¬ a < o.cs.length := fun h => hgo ⟨rfl, h⟩
            simp [this]
          · rfl)
        have hrel2 : ∀ k, k < j + 1 → goesL o.cs.length (L k) = false := fun k hk => by
          by_cases e : k = j
          · rw [e]; exact HGF.out
          · exact HDN.out k (by omega)
        have HR2 := Lib.hid hrel2
        cases W
        · have hnl : ¬ a < o.cs.length := fun h => hgo ⟨rfl, h⟩
          have hle2 : o.cs.length ≤ a := by omega
          have hd : decide ((a : Int) < (o.cs.length : Int)) = false := by rw [decide_eq_false_iff_not]; omega
          clear hnl
          clear hgo hrel2
          go_wp2
          go_roundg (o.n - (j + 1))
          case measure => have := Hgk.out; omega
          case rel => exact ⟨j + 1, by have := Hgk.out; omega, by go_num, HR2.out, HP.out⟩
        · clear hgo hrel2
          go_wp2
          go_roundg (o.n - (j + 1))
          case measure => have := Hgk.out; omega
          case rel => exact ⟨j + 1, by have := Hgk.out; omega, by go_num, HR2.out, HP.out⟩
    · have hjl : j = o.n := by omega
      have HAG : Hid (anyGo o.cs L o.n = false) := Lib.hid (by
        cases hq : anyGo o.cs L o.n
        · rfl
        · obtain ⟨l, h1, h2⟩ := anyGo_iff.1 hq
          rw [HDN.out l (by omega)] at h2; cases h2)
      have HQ := Lib.hid (H.out.keep HPW.out)
      have hglr : o.gl ≠ w.heap.size := by omega
      obtain ⟨bx, Hbx⟩ : ∃ bx, Hid (w.heap.size = bx) := ⟨_, Lib.hid rfl⟩
      obtain ⟨wz, rfl⟩ : ∃ wz, wz = wr := ⟨_, rfl⟩
      go_wp2_with fail
      go_loopg [5] o.n (fun gk i wr' => ∃ j : Nat, gk + j = o.n ∧ i = .int .i64 j ∧ QRun o wr' vr vt (freeL j L) M ∧ Chg (fun b => b = o.gl) wz wr')
      case atStart => exact ⟨0, rfl, rfl, by rw [freeL_zero]; exact HQ.out, Chg.refl _ _⟩
      case round =>
        obtain ⟨k, hgk2, rfl, hq, hch⟩ := hrel
        have Hgk2 := Lib.hid hgk2
        have HQK := Lib.hid hq
        have HCH := Lib.hid hch
        have hx2 := hch.heap HX.out (fun e => hglr e.symm)
        have x0 := cell_of_row _ _ 0 _ _ _ hx2
        simp only [List.getElem?_toArray, List.getElem?_cons_zero] at x0
        have hkn : k ≤ o.n := by omega
        clear hgk2 hq hch hx2
        by_cases hlt2 : k < o.n
        · obtain ⟨_, _, _, c3, cf⟩ := HQK.out.cells hlt2
          have hkI : (k : Int) < (o.n : Int) := by omega
          have hk0 : (0 : Int) ≤ (k : Int) := by omega
          have cf3 := cf (k * 4 + 3)
          clear cf
          have HS := Lib.hid (HQK.out.setW hlt2 false)
          rw [← freeL_succ] at HS
          go_wp2
          go_roundg (o.n - (k + 1))
          case measure => have := Hgk2.out; omega
          case rel => exact ⟨k + 1, by have := Hgk2.out; omega, by go_num, HS.out.1, HCH.out.trans HS.out.2⟩
        · have hkl : k = o.n := by omega
          subst hkl
          go_wp2
          go_end0
          refine ⟨rfl, ?_, (Chg.of_pure HPW.out).trans HCH.out⟩
          rw [HAG.out]
          exact HQK.out

end Go.Proofs.Ytajaonejpggcbaa

namespace Go.Proofs.Ytajaonejpggcbaa
open Go.RowKit

def lnOf (l : Lx) : Ln := ⟨fun r => l.rs.getD r 0, l.at_.toNat, l.ts, l.wt⟩
def lnX (c : Cx) (k : Nat) : Ln := lnOf (c.ls.getD k default)

set_option maxHeartbeats 4000000 in
set_option maxRecDepth 100000 in
theorem sleastx_any (vl vm v : Value) (c : Cx) (cs : List Cd) (n : Nat) (w : World) (hl : Lanes w vl c.ls) (hm : Ints w vm c.mem) (h : Codes w v cs) (hok : CrowdOk cs c) (hnn : c.ls.length = n) :
    Calls Try.prog 51 #[.agg #[vl, vm], v] w fun e w' => e = .returned (.tuple #[.int .i64 ((leastTo cs (lnX c) n).1 : Nat), .int .i64 ((leastTo cs (lnX c) n).2 : Nat)]) ∧ Pure w w' := by
  have H := Lib.hid h
  have HL := Lib.hid hl
  have HOK := Lib.hid hok
  have HNN := Lib.hid hnn
  have hn8 : n ≤ 8 := by rw [← hnn]; exact hok.n8
  have hn1 : 1 ≤ n := by rw [← hnn]; exact hok.n1
  have h40 := hok.p.2.1
  obtain ⟨A, cc, rfl, hnc, hcm⟩ := h.form
  obtain ⟨Al, cl, rfl, _⟩ := hl.form
  obtain ⟨Am, cm, rfl⟩ := hm.form
  have hbx := heap_alloc_new w (.cells #[.slice Al n cl, .slice Am c.mem.length cm] 33)
  have HBX := Lib.hid hbx
  rw [hnn] at HL ⊢
  obtain ⟨L, HLL⟩ : ∃ L, Hid (lnX c = L) := ⟨_, Lib.hid rfl⟩
  have HA : Hid (∀ k, k < n → 0 ≤ (c.ls.getD k default).at_) := Lib.hid (fun k hk => (HOK.out.l k (by rw [HNN.out]; exact hk)).a0)
  have HAT : Hid (∀ k, k < n → (L k).at_ ≤ cs.length) := Lib.hid (fun k hk => by
    rw [← HLL.out]
    have h1 := (HOK.out.l k (by rw [HNN.out]; exact hk)).a1
    have h0 := (HOK.out.l k (by rw [HNN.out]; exact hk)).a0
    show (c.ls.getD k default).at_.toNat ≤ cs.length
    omega)
  rw [HLL.out]
  clear h hl hm hbx hok hnn
  go_enter Try.func51, Try.ntmps51
  go_wp2_with fail
  go_loopg [8, 6, 7, 9] n (fun gk i a6 a7 a9 wr => ∃ j : Nat, gk + j = n ∧ i = .int .i64 j ∧ a6 = .int .i64 ((leastTo cs L j).1 : Nat) ∧ a7 = .int .i64 ((leastTo cs L j).2 : Nat) ∧ Pure (w.alloc (.cells #[.slice Al n cl, .slice Am c.mem.length cm] 33)) wr)
  case atStart => exact ⟨0, rfl, rfl, rfl, rfl, by exact (by repeat (first | assumption | exact Pure.refl _ | refine Pure.drewN ?_ _ | refine Pure.drew ?_ | refine Pure.alloc ?_ _ | refine Pure.setCell ?_ (by simp <;> omega) _))⟩
  case round =>
    obtain ⟨j, hgk, rfl, rfl, rfl, hp⟩ := hrel
    have Hgk := Lib.hid hgk
    have HP := Lib.hid hp
    have HPW := Lib.hid ((show Pure w (w.alloc (.cells #[.slice Al n cl, .slice Am c.mem.length cm] 33)) from (by repeat (first | assumption | exact Pure.refl _ | refine Pure.drewN ?_ _ | refine Pure.drew ?_ | refine Pure.alloc ?_ _ | refine Pure.setCell ?_ (by simp <;> omega) _))).trans hp)
    have hjn : j ≤ n := by omega
    have hx := (Chg.of_pure (S := fun _ => False) hp).heap HBX.out id
    have x0 := cell_of_row _ _ 0 _ _ _ hx
    simp only [List.getElem?_toArray, List.getElem?_cons_zero] at x0
    have HL8 := least_bits cs L j (by omega)
    obtain ⟨hs2, _, _, _, _⟩ := least_spec (cs := cs) (L := L) j
    have HSU := Lib.hid (least_succ cs L j)
    obtain ⟨mk, Hmk⟩ : ∃ mk, Hid ((leastTo cs L j).1 = mk) := ⟨_, Lib.hid rfl⟩
    obtain ⟨pl, Hpl⟩ : ∃ pl, Hid ((leastTo cs L j).2 = pl) := ⟨_, Lib.hid rfl⟩
    have hpair : leastTo cs L j = (mk, pl) := by rw [← Hmk.out, ← Hpl.out]
    have HPR := Lib.hid hpair
    rw [Hmk.out] at HL8 ⊢
    rw [Hpl.out] at hs2 ⊢
    rw [hpair] at HSU
    clear hgk hp hx hpair
    by_cases hlt : j < n
    · obtain ⟨b, o, rfl, hb, R, T, hx⟩ := (HL.out.keep HPW.out).at_ (show j < c.ls.length by rw [HNN.out]; exact hlt)
      obtain ⟨x, Hx⟩ : ∃ x, Hid (c.ls.getD j default = x) := ⟨_, Lib.hid rfl⟩
      have hat := HAT.out j hlt
      have HLJ : Hid (L j = lnOf x) := Lib.hid (by rw [← HLL.out, ← Hx.out]; rfl)
      have HA0 := HA.out j hlt
      rw [Hx.out] at hx HA0
      obtain ⟨c0, c1, c2, c3, hr, ht⟩ := hx
      obtain ⟨Ar, cr, rfl⟩ := hr.form
      obtain ⟨At, ct, rfl⟩ := ht.form
      clear hr ht
      have hjI : (j : Int) < (n : Int) := by omega
      have hj0 : (0 : Int) ≤ (j : Int) := by omega
      have HGB : Hid (goesL cs.length (L j) = (!(L j).W && decide ((L j).at_ < cs.length))) := Lib.hid rfl
      obtain ⟨a, Ha⟩ : ∃ a, Hid ((L j).at_ = a) := ⟨_, Lib.hid rfl⟩
      obtain ⟨W, HW⟩ : ∃ W, Hid ((L j).W = W) := ⟨_, Lib.hid rfl⟩
      have hxa : x.at_ = (a : Int) := by
        have h1 : (lnOf x).at_ = a := by rw [← HLJ.out]; exact Ha.out
        have h2 : x.at_.toNat = a := h1
        omega
      have hxw : x.wt = W := by rw [← HW.out, HLJ.out]; rfl
      rw [hxa] at c1
      rw [hxw] at c3
      rw [Ha.out] at hat HGB HSU
      rw [HW.out] at HGB
      have hs := shlI (j := j) (by omega)
      have hor : bits .or .i64 (mk : Int) ((2 ^ j : Nat) : Int) = ((mk ||| 2 ^ j : Nat) : Int) := bits_or (Nat.lt_trans HL8 (by decide)) (Nat.lt_of_le_of_lt (powI (show j ≤ 8 by omega)) (by decide))
      have hor0 : bits .or .i64 (0 : Int) ((2 ^ j : Nat) : Int) = ((2 ^ j : Nat) : Int) := by
        have := bits_or (a := 0) (b := 2 ^ j) (by decide) (Nat.lt_of_le_of_lt (powI (show j ≤ 8 by omega)) (by decide))
        rw [Nat.zero_or] at this
        exact this
      obtain ⟨s, Hs⟩ : ∃ s, Hid (2 ^ j = s) := ⟨2 ^ j, Lib.hid rfl⟩
      rw [Hs.out] at hs hor hor0 HSU
      obtain ⟨mk', Hmk'⟩ : ∃ mk', Hid (mk ||| s = mk') := ⟨_, Lib.hid rfl⟩
      rw [Hmk'.out] at hor HSU
      clear hxa hxw
      cases W
      case true =>
        have HN : Hid (leastTo cs L (j + 1) = (mk, pl)) := Lib.hid (by rw [HSU.out, HGB.out]; simp)
        go_wp2
        go_roundg (n - (j + 1))
        case measure => have := Hgk.out; omega
        case rel => exact ⟨j + 1, by have := Hgk.out; omega, by go_num, by rw [HN.out], by rw [HN.out], by exact HP.out.trans (by repeat (first | assumption | exact Pure.refl _ | refine Pure.drewN ?_ _ | refine Pure.drew ?_ | refine Pure.alloc ?_ _ | refine Pure.setCell ?_ (by simp <;> omega) _))⟩
      case false =>
        by_cases hge : cs.length ≤ a
        · have HN : Hid (leastTo cs L (j + 1) = (mk, pl)) := Lib.hid (by rw [HSU.out, HGB.out]; simp [show ¬ a < cs.length by omega])
          have hd : decide ((a : Int) ≥ (cs.length : Int)) = true := by rw [decide_eq_true_iff]; omega
          go_wp2
          go_roundg (n - (j + 1))
          case measure => have := Hgk.out; omega
          case rel => exact ⟨j + 1, by have := Hgk.out; omega, by go_num, by rw [HN.out], by rw [HN.out], by exact HP.out.trans (by repeat (first | assumption | exact Pure.refl _ | refine Pure.drewN ?_ _ | refine Pure.drew ?_ | refine Pure.alloc ?_ _ | refine Pure.setCell ?_ (by simp <;> omega) _))⟩
        · have hd : decide ((a : Int) ≥ (cs.length : Int)) = false := by rw [decide_eq_false_iff_not]; omega
          have hlt3 : a < cs.length := by omega
          have HG1 : Hid (goesL cs.length (L j) = true) := Lib.hid (by rw [HGB.out]; simp [hlt3])
          clear hge
          by_cases hgt : pl < a
          · have HN : Hid (leastTo cs L (j + 1) = (mk, pl)) := Lib.hid (by rw [HSU.out, HG1.out, if_pos rfl, if_neg (by omega), if_neg (by omega)])
            have hd2 : decide ((a : Int) > (pl : Int)) = true := by rw [decide_eq_true_iff]; omega
            go_wp2
            go_roundg (n - (j + 1))
            case measure => have := Hgk.out; omega
            case rel => exact ⟨j + 1, by have := Hgk.out; omega, by go_num, by rw [HN.out], by rw [HN.out], by exact HP.out.trans (by repeat (first | assumption | exact Pure.refl _ | refine Pure.drewN ?_ _ | refine Pure.drew ?_ | refine Pure.alloc ?_ _ | refine Pure.setCell ?_ (by simp <;> omega) _))⟩
          · have hle3 : a ≤ pl := by omega
            have hd2 : decide ((a : Int) > (pl : Int)) = false := by rw [decide_eq_false_iff_not]; omega
            clear hgt
            by_cases hlt2 : a < pl
            · have HN : Hid (leastTo cs L (j + 1) = (s, a)) := Lib.hid (by rw [HSU.out, HG1.out, if_pos rfl, if_pos hlt2])
              have hd3 : decide ((a : Int) < (pl : Int)) = true := by rw [decide_eq_true_iff]; omega
              go_wp2
              go_roundg (n - (j + 1))
              case measure => have := Hgk.out; omega
              case rel => exact ⟨j + 1, by have := Hgk.out; omega, by go_num, by rw [HN.out], by rw [HN.out], by exact HP.out.trans (by repeat (first | assumption | exact Pure.refl _ | refine Pure.drewN ?_ _ | refine Pure.drew ?_ | refine Pure.alloc ?_ _ | refine Pure.setCell ?_ (by simp <;> omega) _))⟩
            · have heq : a = pl := by omega
              have HN : Hid (leastTo cs L (j + 1) = (mk', pl)) := Lib.hid (by rw [HSU.out, HG1.out, if_pos rfl, if_neg hlt2, if_pos heq])
              have hd3 : decide ((a : Int) < (pl : Int)) = false := by rw [decide_eq_false_iff_not]; omega
              have hge3 : pl ≤ a := by omega
              clear hlt2 heq
              go_wp2
              go_roundg (n - (j + 1))
              case measure => have := Hgk.out; omega
              case rel => exact ⟨j + 1, by have := Hgk.out; omega, by go_num, by rw [HN.out], by rw [HN.out], by exact HP.out.trans (by repeat (first | assumption | exact Pure.refl _ | refine Pure.drewN ?_ _ | refine Pure.drew ?_ | refine Pure.alloc ?_ _ | refine Pure.setCell ?_ (by simp <;> omega) _))⟩
    · have hjl : j = n := by omega
      subst hjl
      go_wp2
      refine bodyPost_ret (results_tmp2 rfl _ _ _) rfl ?_
      exact ⟨by rw [HPR.out]; rfl, HPW.out⟩

end Go.Proofs.Ytajaonejpggcbaa

namespace Go.Proofs.Ytajaonejpggcbaa
open Go.RowKit

open Classical in
/-- The mask of the lanes at the least place, and the place; -1 and -1 for crowds that are not valid. -/
noncomputable def leastC (cs : List Cd) (c : Cx) : Int × Int := if CrowdOk cs c then ((((leastTo cs (lnX c) c.ls.length).1 : Nat) : Int), (((leastTo cs (lnX c) c.ls.length).2 : Nat) : Int)) else (-1, -1)
theorem leastC_ok {cs : List Cd} {c : Cx} (h : CrowdOk cs c) : leastC cs c = ((((leastTo cs (lnX c) c.ls.length).1 : Nat) : Int), (((leastTo cs (lnX c) c.ls.length).2 : Nat) : Int)) := by
  unfold leastC; rw [if_pos h]
theorem leastC_no {cs : List Cd} {c : Cx} (h : ¬ CrowdOk cs c) : leastC cs c = (-1, -1) := by
  unfold leastC; rw [if_neg h]

set_option maxHeartbeats 2000000 in
set_option maxRecDepth 100000 in
theorem slm_any (vl vm v : Value) (c : Cx) (cs : List Cd) (w : World) (hl : Lanes w vl c.ls) (hm : Ints w vm c.mem) (h : Codes w v cs) (hs : cs.length ≤ 1048576) (hs1 : c.ls.length ≤ 1048576) (hs2 : c.mem.length ≤ 1048576) :
    Calls Try.prog 15 #[.agg #[vl, vm], v] w fun e w' => e = .returned (.tuple #[.int .i64 (leastC cs c).1, .int .i64 (leastC cs c).2]) ∧ Pure w w' := by
  have H := Lib.hid h
  have HL := Lib.hid hl
  have HM := Lib.hid hm
  obtain ⟨A, cc, rfl, hnc, hcm⟩ := h.form
  obtain ⟨Al, cl, rfl, _⟩ := hl.form
  obtain ⟨Am, cm, rfl⟩ := hm.form
  clear h hl hm
  obtain ⟨B, hB⟩ : ∃ B : Bool, B = true ↔ CrowdOk cs c := by classical exact ⟨decide (CrowdOk cs c), by simp⟩
  have HB := Lib.hid hB
  clear hB
  cases B
  · have HN : Hid (leastC cs c = (-1, -1)) := Lib.hid (leastC_no (fun h => by have := HB.out.2 h; cases this))
    rw [HN.out]
    go_enter Try.func15, Try.ntmps15
    go_wp2_with fail
    refine (scv2_any _ _ _ c cs _ (HL.out.keep (by exact (by repeat (first | assumption | exact Pure.refl _ | refine Pure.drewN ?_ _ | refine Pure.drew ?_ | refine Pure.alloc ?_ _ | refine Pure.setCell ?_ (by simp <;> omega) _)))) (HM.out.keep (by exact (by repeat (first | assumption | exact Pure.refl _ | refine Pure.drewN ?_ _ | refine Pure.drew ?_ | refine Pure.alloc ?_ _ | refine Pure.setCell ?_ (by simp <;> omega) _)))) (H.out.keep (by exact (by repeat (first | assumption | exact Pure.refl _ | refine Pure.drewN ?_ _ | refine Pure.drew ?_ | refine Pure.alloc ?_ _ | refine Pure.setCell ?_ (by simp <;> omega) _)))) hs hs1 hs2 false HB.out).mono ?_
    rintro e w1 ⟨rfl, hp1⟩
    go_wp2
    refine bodyPost_ret (results_tmp2 rfl _ _ _) rfl ?_
    exact ⟨rfl, by exact Pure.trans (by repeat (first | assumption | exact Pure.refl _ | refine Pure.drewN ?_ _ | refine Pure.drew ?_ | refine Pure.alloc ?_ _ | refine Pure.setCell ?_ (by simp <;> omega) _)) hp1⟩
  · have HOK : Hid (CrowdOk cs c) := Lib.hid (HB.out.1 rfl)
    rw [leastC_ok HOK.out]
    go_enter Try.func15, Try.ntmps15
    go_wp2_with fail
    refine (scv2_any _ _ _ c cs _ (HL.out.keep (by exact (by repeat (first | assumption | exact Pure.refl _ | refine Pure.drewN ?_ _ | refine Pure.drew ?_ | refine Pure.alloc ?_ _ | refine Pure.setCell ?_ (by simp <;> omega) _)))) (HM.out.keep (by exact (by repeat (first | assumption | exact Pure.refl _ | refine Pure.drewN ?_ _ | refine Pure.drew ?_ | refine Pure.alloc ?_ _ | refine Pure.setCell ?_ (by simp <;> omega) _)))) (H.out.keep (by exact (by repeat (first | assumption | exact Pure.refl _ | refine Pure.drewN ?_ _ | refine Pure.drew ?_ | refine Pure.alloc ?_ _ | refine Pure.setCell ?_ (by simp <;> omega) _)))) hs hs1 hs2 true (by simp only [true_iff]; exact HOK.out)).mono ?_
    rintro e w1 ⟨rfl, hp1⟩
    have HP1 : Hid (Pure w w1) := Lib.hid (by exact Pure.trans (by repeat (first | assumption | exact Pure.refl _ | refine Pure.drewN ?_ _ | refine Pure.drew ?_ | refine Pure.alloc ?_ _ | refine Pure.setCell ?_ (by simp <;> omega) _)) hp1)
    obtain ⟨k0, _⟩ := row_pure hp1 (heap_alloc_new w _) 0
    obtain ⟨k1, _⟩ := row_pure hp1 (heap_alloc_new w _) 1
    simp only [List.getElem?_toArray, List.getElem?_cons_zero, List.getElem?_cons_succ] at k0 k1
    clear hp1
    go_wp2_with fail
    refine (sleastx_any _ _ _ c cs c.ls.length _ (HL.out.keep HP1.out) (HM.out.keep HP1.out) (H.out.keep HP1.out) HOK.out rfl).mono ?_
    rintro e w2 ⟨rfl, hp2⟩
    go_wp2
    refine bodyPost_ret (results_tmp2 rfl _ _ _) rfl ?_
    exact ⟨rfl, HP1.out.trans hp2⟩

end Go.Proofs.Ytajaonejpggcbaa

namespace Go.Proofs.Ytajaonejpggcbaa
open Go.RowKit

set_option maxHeartbeats 4000000 in
set_option maxRecDepth 100000 in
theorem ileastx_any (pm gc bl ol cA cl : Nat) (A : Option Addr) (c : Cx) (cs : List Cd) (n : Nat) (w : World) (m0 : w.cell? ⟨pm, 0, none⟩ = some (.slice A cs.length cA)) (g0 : w.cell? ⟨gc, 0, none⟩ = some (.slice (some ⟨bl, ol, none⟩) n cl)) (hln : ∀ k, k < n → ∃ R T, LnAt w bl (ol + k * 4) (c.ls.getD k default) R T) (hok : CrowdOk cs c) (hnn : c.ls.length = n) :
    Calls Try.prog 56 #[.pointer (some ⟨pm, 0, none⟩), .pointer (some ⟨gc, 0, none⟩), .int .i64 ((2 ^ n - 1 : Nat) : Int)] w fun e w' => e = .returned (.tuple #[.int .i64 ((leastTo cs (lnX c) n).1 : Nat), .int .i64 ((leastTo cs (lnX c) n).2 : Nat)]) ∧ Pure w w' := by
  have HLN := Lib.hid hln
  have HOK := Lib.hid hok
  have HNN := Lib.hid hnn
  have hn8 : n ≤ 8 := by rw [← hnn]; exact hok.n8
  have hn1 : 1 ≤ n := by rw [← hnn]; exact hok.n1
  have h40 := hok.p.2.1
  obtain ⟨L, HLL⟩ : ∃ L, Hid (lnX c = L) := ⟨_, Lib.hid rfl⟩
  have HA0 : Hid (∀ k, k < n → 0 ≤ (c.ls.getD k default).at_) := Lib.hid (fun k hk => (HOK.out.l k (by rw [HNN.out]; exact hk)).a0)
  have HLE : Hid (∀ k, k < n → (L k).at_ ≤ cs.length) := Lib.hid (fun k hk => by
    rw [← HLL.out]
    have h1 := (HOK.out.l k (by rw [HNN.out]; exact hk)).a1
    have h0 := (HOK.out.l k (by rw [HNN.out]; exact hk)).a0
    show (c.ls.getD k default).at_.toNat ≤ cs.length
    omega)
  rw [HLL.out]
  clear hln hok hnn
  obtain ⟨msk, Hmsk⟩ : ∃ msk, Hid (2 ^ n - 1 = msk) := ⟨2 ^ n - 1, Lib.hid rfl⟩
  have hmsk : msk < 256 := by rw [← Hmsk.out]; have := powI hn8; have := Nat.pow_pos (a := 2) (n := n) (by decide); omega
  have HLF : Hid (lanesL msk 8 = List.range n) := Lib.hid (by rw [← Hmsk.out]; exact lanes_full n hn8)
  rw [Hmsk.out]
  go_enter Try.func56, Try.ntmps56
  go_wp2_with fail
  go_quiet (fail)
  go_wp2_with fail
  refine (ilanes_any msk hmsk _).mono ?_
  rintro e w1 ⟨v1, rfl, ho1, hp1⟩
  rw [HLF.out] at ho1
  simp only [List.length_range] at ho1
  have HO1 := Lib.hid ho1
  have HP1 := Lib.hid ((show Pure w (w.drewN nq) from (by repeat (first | assumption | exact Pure.refl _ | refine Pure.drewN ?_ _ | refine Pure.drew ?_ | refine Pure.alloc ?_ _ | refine Pure.setCell ?_ (by simp <;> omega) _))).trans hp1)
  obtain ⟨A1, c1, rfl⟩ := ho1.form
  have hfs := ho1.formSome (by omega)
  obtain ⟨g1, o1, c1', hv1, hc11, hc12, _, hg1⟩ := hfs
  injection hv1 with hA _ hC
  subst hA hC
  clear ho1 hp1
  go_wp2_with fail
  go_loopg [21, 8, 9, 11, 12, 51, 58] n (fun gk i a8 a9 a11 a12 a51 a58 wr => ∃ j : Nat, gk + j = n ∧ i = .int .i64 j ∧ a8 = .int .i64 ((leastTo cs L j).1 : Nat) ∧ a9 = .int .i64 ((leastTo cs L j).2 : Nat) ∧ Pure w1 wr)
  case atStart => exact ⟨0, rfl, rfl, rfl, rfl, Pure.refl _⟩
  case round =>
    obtain ⟨j, hgk, rfl, rfl, rfl, hp⟩ := hrel
    have Hgk := Lib.hid hgk
    have HP := Lib.hid hp
    have hjn : j ≤ n := by omega
    have g0 := keepP (HP1.out.trans hp) g0
    have HL8 := least_bits cs L j (by omega)
    obtain ⟨hs2, _, _, _, _⟩ := least_spec (cs := cs) (L := L) j
    have HSU := Lib.hid (least_succ cs L j)
    obtain ⟨mk, Hmk⟩ : ∃ mk, Hid ((leastTo cs L j).1 = mk) := ⟨_, Lib.hid rfl⟩
    obtain ⟨pl, Hpl⟩ : ∃ pl, Hid ((leastTo cs L j).2 = pl) := ⟨_, Lib.hid rfl⟩
    have hpair : leastTo cs L j = (mk, pl) := by rw [← Hmk.out, ← Hpl.out]
    have HPR := Lib.hid hpair
    rw [Hmk.out] at HL8 ⊢
    rw [Hpl.out] at hs2 ⊢
    rw [hpair] at HSU
    clear hgk hp hpair
    by_cases hlt : j < n
    · have hj0 : (0 : Int) ≤ (j : Int) := by omega
      have hjI : (j : Int) < (n : Int) := by omega
      have hj8 : j < 8 := by omega
      have q1 := HO1.out.cell j (by omega)
      rw [List.getElem?_map, List.getElem?_range hlt] at q1
      have q1 := keepP HP.out q1
      simp only at q1
      obtain ⟨R, T, hx⟩ := HLN.out j hlt
      have hx := hx.keep (HP1.out.trans HP.out)
      have hxc1 := hx.c1
      have hxc3 := hx.c3
      obtain ⟨x, Hx⟩ : ∃ x, Hid (c.ls.getD j default = x) := ⟨_, Lib.hid rfl⟩
      have HLJ : Hid (L j = lnOf x) := Lib.hid (by rw [← HLL.out, ← Hx.out]; rfl)
      have hx0 := HA0.out j hlt
      rw [Hx.out] at hxc1 hxc3 hx0
      have hxa : x.at_ = (((L j).at_ : Nat) : Int) := by rw [HLJ.out]; show x.at_ = (x.at_.toNat : Int); omega
      have hxw : x.wt = (L j).W := by rw [HLJ.out]; rfl
      rw [hxa] at hxc1
      rw [hxw] at hxc3
      have m0' := keepP (HP1.out.trans HP.out) m0
      have HG : Hid (∀ u : World, Pure wr u → Calls Try.prog 89 #[.pointer (some ⟨pm, 0, none⟩), .pointer (some ⟨bl, ol + j * 4, none⟩)] u fun e w' => e = .returned (.bool (goesL cs.length (L j))) ∧ Pure u w') := Lib.hid fun u hu =>
        (igoes_raw u pm bl (ol + j * 4) cs.length cA A _ _ (keepP hu m0') (keepP hu hxc1) (keepP hu hxc3)).mono (by
          rintro e w' ⟨rfl, hp⟩
          refine ⟨ret_bool ?_, hp⟩
          unfold goesL
          congr 1
          have hq := HLE.out j hlt
          rw [Bool.eq_iff_iff, Bool.not_eq_true', beq_eq_false_iff_ne, decide_eq_true_iff]
          omega)
      obtain ⟨gb, Hgb⟩ : ∃ gb, Hid (goesL cs.length (L j) = gb) := ⟨_, Lib.hid rfl⟩
      have hlc := hxc1
      clear hx hxc1 hxc3 hx0 hxa hxw m0'
      obtain ⟨a, Ha⟩ : ∃ a, Hid ((L j).at_ = a) := ⟨_, Lib.hid rfl⟩
      rw [Ha.out] at hlc HSU
      rw [Hgb.out] at HG HSU
      have ha40 : a ≤ 40 := by have := HLE.out j hlt; rw [Ha.out] at this; omega
      have hs := shlI (j := j) (by omega)
      have hor : bits .or .i64 (mk : Int) ((2 ^ j : Nat) : Int) = ((mk ||| 2 ^ j : Nat) : Int) := bits_or (Nat.lt_trans HL8 (by decide)) (Nat.lt_of_le_of_lt (powI (show j ≤ 8 by omega)) (by decide))
      obtain ⟨s, Hs⟩ : ∃ s, Hid (2 ^ j = s) := ⟨2 ^ j, Lib.hid rfl⟩
      rw [Hs.out] at hs hor HSU
      have HSH := Lib.hid hs
      obtain ⟨mk', Hmk'⟩ : ∃ mk', Hid (mk ||| s = mk') := ⟨_, Lib.hid rfl⟩
      rw [Hmk'.out] at hor HSU
      go_wp2_with fail
      refine (HG.out _ (Pure.refl _)).mono ?_
      rintro e w2 ⟨rfl, hp2⟩
      have HP2 := Lib.hid (HP.out.trans hp2)
      have hlc := keepP hp2 hlc
      have g0 := keepP hp2 g0
      cases gb
      · have HN : Hid (leastTo cs L (j + 1) = (mk, pl)) := Lib.hid (by rw [HSU.out]; simp)
        go_wp2
        go_roundg (n - (j + 1))
        case measure => have := Hgk.out; omega
        case rel => exact ⟨j + 1, by have := Hgk.out; omega, by go_num, by rw [HN.out], by rw [HN.out], HP2.out⟩
      · by_cases hlt2 : a < pl
        · have HN : Hid (leastTo cs L (j + 1) = (s, a)) := Lib.hid (by rw [HSU.out, if_pos rfl, if_pos hlt2])
          have hd : decide ((a : Int) < (pl : Int)) = true := by rw [decide_eq_true_iff]; omega
          have hd2 : decide (a < pl) = true := by rw [decide_eq_true_iff]; exact hlt2
          go_wp2
          go_roundg (n - (j + 1))
          case measure => have := Hgk.out; omega
          case rel => exact ⟨j + 1, by have := Hgk.out; omega, by go_num, by rw [HN.out, HSH.out], by rw [HN.out], HP2.out⟩
        · by_cases heq : a = pl
          · have HN : Hid (leastTo cs L (j + 1) = (mk', pl)) := Lib.hid (by rw [HSU.out, if_pos rfl, if_neg hlt2, if_pos heq])
            have hd : decide ((a : Int) < (pl : Int)) = false := by rw [decide_eq_false_iff_not]; omega
            have hd2 : decide (a < pl) = false := by rw [decide_eq_false_iff_not]; exact hlt2
            have hq : ((a : Int) == (pl : Int)) = true := by rw [beq_iff_eq]; omega
            clear hlt2 heq
            go_wp2
            go_roundg (n - (j + 1))
            case measure => have := Hgk.out; omega
            case rel => exact ⟨j + 1, by have := Hgk.out; omega, by go_num, by rw [HN.out], by rw [HN.out], HP2.out⟩
          · have HN : Hid (leastTo cs L (j + 1) = (mk, pl)) := Lib.hid (by rw [HSU.out, if_pos rfl, if_neg hlt2, if_neg heq])
            have hd : decide ((a : Int) < (pl : Int)) = false := by rw [decide_eq_false_iff_not]; omega
            have hd2 : decide (a < pl) = false := by rw [decide_eq_false_iff_not]; exact hlt2
            have hq : ((a : Int) == (pl : Int)) = false := by rw [beq_eq_false_iff_ne]; omega
            clear hlt2 heq
            go_wp2
            go_roundg (n - (j + 1))
            case measure => have := Hgk.out; omega
            case rel => exact ⟨j + 1, by have := Hgk.out; omega, by go_num, by rw [HN.out], by rw [HN.out], HP2.out⟩
    · have hjl : j = n := by omega
      subst hjl
      have hpf := HP1.out.trans HP.out
      go_wp2
      refine bodyPost_ret (results_tmp2 rfl _ _ _) rfl ?_
      exact ⟨by rw [HPR.out]; rfl, hpf⟩

end Go.Proofs.Ytajaonejpggcbaa

namespace Go.Proofs.Ytajaonejpggcbaa
open Go.RowKit

/-- The numbers of turns of the loops among places. -/
def lbs (cs : List Cd) (xs : List Nat) : List Int := (xs.filter fun p => decide ((cs.getD p default).op = 13)).map fun p => (cs.getD p default).b
theorem lpsTo_filter {cs : List Cd} {k : Nat} : ∀ i, i ≤ (stkOf cs k).length → lpsTo cs k i = (((stkOf cs k).take i).reverse).filter fun p => decide ((cs.getD p default).op = 13)
  | 0, _ => by simp [lpsTo]
  | i + 1, hi => by
    have ih := lpsTo_filter (cs := cs) (k := k) i (by omega)
    have e : (stkOf cs k).take (i + 1) = (stkOf cs k).take i ++ [(stkOf cs k).getD i 0] := by
      rw [List.take_succ_eq_append_getElem (show i < (stkOf cs k).length by omega)]
      simp [List.getD_eq_getElem?_getD, show i < (stkOf cs k).length by omega]
    rw [e, List.reverse_append, List.reverse_singleton, List.singleton_append]
    unfold lpsTo
    rw [ih, List.filter_cons]
    by_cases h : (cs.getD ((stkOf cs k).getD i 0) default).op = 13
    · rw [if_pos h, if_pos (decide_eq_true h)]
    · rw [if_neg h, if_neg (by rw [decide_eq_true_iff]; exact h)]
theorem lbs_all {cs : List Cd} {k : Nat} : lbs cs (stkPos cs k) = (lps cs k).map fun p => (cs.getD p default).b := by
  unfold lbs lps
  rw [lpsTo_filter _ (Nat.le_refl _), List.take_length, stkOf_pos]
theorem lbs_step {cs : List Cd} {xs : List Nat} {i : Nat} (hi : i < xs.length) : lbs cs (xs.take (i + 1)) = if (cs.getD (xs.getD i 0) default).op = 13 then lbs cs (xs.take i) ++ [(cs.getD (xs.getD i 0) default).b] else lbs cs (xs.take i) := by
  have e : xs.take (i + 1) = xs.take i ++ [xs.getD i 0] := by
    rw [List.take_succ_eq_append_getElem hi]
    simp [List.getD_eq_getElem?_getD, hi]
  unfold lbs
  rw [e, List.filter_append, List.map_append]
  by_cases h : (cs.getD (xs.getD i 0) default).op = 13
  · rw [if_pos h, List.filter_cons, if_pos (decide_eq_true h)]; rfl
  · rw [if_neg h, List.filter_cons, if_neg (by rw [decide_eq_true_iff]; exact h)]; simp
theorem lbs_le {cs : List Cd} {xs : List Nat} : (lbs cs xs).length ≤ xs.length := by
  unfold lbs
  rw [List.length_map]
  exact List.length_filter_le _ _

set_option maxHeartbeats 400000 in
theorem ilnv1_any (x : Int) (w : World) (B : Bool) (hB : B = true ↔ Word x) :
    Calls Try.prog 124 #[.int .i64 x] w fun e w' => e = .returned (.bool (!B)) ∧ w = w' := by
  have HB := Lib.hid hB; clear hB
  go_enter Try.func124, Try.ntmps124
  go_wp2_with fail
  refine (isWord_any _ _ B HB.out).mono ?_
  rintro e w' ⟨rfl, rfl⟩
  go_wp2
  go_ret
  exact ⟨rfl, rfl⟩

set_option maxHeartbeats 1000000 in
set_option maxRecDepth 100000 in
theorem ilnvix_any (v : Value) (mem : List Int) (w : World) (h : Ints w v mem) (hsmall : mem.length ≤ 1099511627776) :
    Calls Try.prog 146 #[v, .func (.func 124) #[] #[]] w fun e w' => ∃ r, e = .returned (.int .i64 r) ∧ memBadAt mem 0 r ∧ Pure w w' := by
  obtain ⟨A, c, rfl, hnc, hcm, hread⟩ := h
  have HRD := Lib.hid hread
  clear hread
  go_enter Try.func146, Try.ntmps146
  go_wp2
  go_loopg [8] mem.length (fun gk i wr => ∃ k : Nat, gk + k = mem.length ∧ i = .int .i64 k ∧ Pure w wr ∧ ∀ j, j < k → Word (mem.getD j 0))
  case atStart => exact ⟨0, rfl, rfl, Pure.refl _, fun j hj => absurd hj (by omega)⟩
  case round =>
    obtain ⟨k, hgk, rfl, hp, hall⟩ := hrel
    have Hgk := Lib.hid hgk
    have Hall := Lib.hid hall
    have hkn : k ≤ mem.length := by omega
    clear hgk hall
    by_cases hlt : k < mem.length
    · obtain ⟨b, o, rfl, hb, hc⟩ := HRD.out (by omega)
      obtain ⟨x, Hx⟩ : ∃ x, Hid (mem.getD k 0 = x) := ⟨_, rfl⟩
      have hx := (hp.cell b (o + k) hb).trans (hc k (by omega))
      try simp only [Nat.mod_one, Nat.div_one] at hx
      rw [Hx.out] at hx
      clear hc
      by_cases hok : Word x
      · have Hok := Lib.hid hok; clear hok
        have Hnext : Hid (∀ j, j < k + 1 → Word (mem.getD j 0)) := Lib.hid fun j hj => by
          by_cases e : j = k
          · rw [e, Hx.out]; exact Hok.out
          · exact Hall.out j (by omega)
        go_wp2_with fail
        refine (ilnv1_any x _ true (by simp [Hok.out])).mono ?_
        rintro e w1 ⟨rfl, rfl⟩
        go_wp2
        go_roundg (mem.length - (k + 1))
        case measure => have := Hgk.out; omega
        case rel => exact ⟨k + 1, by have := Hgk.out; omega, by go_num, hp, Hnext.out⟩
      · have Hok := Lib.hid hok; clear hok
        have Hbad : Hid (memBadAt mem 0 (k : Nat)) := Lib.hid (.inl ⟨k, hlt, rfl, by rw [Hx.out]; exact Hok.out⟩)
        go_wp2_with fail
        refine (ilnv1_any x _ false (by simp [Hok.out])).mono ?_
        rintro e w1 ⟨rfl, rfl⟩
        go_wp2
        go_ret
        exact ⟨_, rfl, Hbad.out, hp⟩
    · have hw : Hid (memBadAt mem 0 (-1)) := Lib.hid (.inr ⟨rfl, fun j hj => Hall.out j (by omega)⟩)
      go_wp2
      go_ret
      exact ⟨_, rfl, hw.out, hp⟩

set_option maxHeartbeats 1000000 in
set_option maxRecDepth 100000 in
theorem ilnvcf_any (v : Value) (mem : List Int) (w : World) (h : Ints w v mem) (hsmall : mem.length ≤ 1099511627776) (B : Bool) (hB : B = true ↔ ∀ x ∈ mem, Word x) :
    Calls Try.prog 112 #[v, .func (.func 124) #[] #[]] w fun e w' => e = .returned (.bool (!B)) ∧ Pure w w' := by
  have H := Lib.hid h
  have HB := Lib.hid hB
  obtain ⟨A, c, rfl⟩ := h.form
  clear h hB
  go_enter Try.func112, Try.ntmps112
  go_wp2_with fail
  refine (ilnvix_any _ mem _ H.out hsmall).mono ?_
  rintro e w1 ⟨r, rfl, hr, hp⟩
  rcases hr with ⟨j, hj, rfl, hbad⟩ | ⟨rfl, hall⟩
  · have hf : B = false := by
      cases hb : B
      · rfl
      · exact absurd (HB.out.1 hb _ (getD_mem hj)) hbad
    subst hf
    clear hbad
    go_wp2
    go_ret
    exact ⟨rfl, hp⟩
  · have ht : B = true := HB.out.2 (words_of hall)
    subst ht
    clear hall
    go_wp2
    go_ret
    exact ⟨rfl, hp⟩

end Go.Proofs.Ytajaonejpggcbaa
