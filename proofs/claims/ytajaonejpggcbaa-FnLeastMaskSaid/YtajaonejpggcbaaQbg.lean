/- The program's LeastMask. The program's run by the least places. The reference's run by the least places. Lanes of any kind under way in a slice of one's own: what lies in memory while a crowd is copied. Crowds that came in: copies of slices of lanes and of crowds. A crowd of one's own beside other blocks; it is read as a crowd of any kind. A copy of a crowd, as the reference makes it. No condition. -/
import Derived.Test.YtajaonejpggcbaaQaa
import Derived.Test.YtajaonejpggcbaaQad
import Derived.Test.YtajaonejpggcbaaQah
import Derived.Test.YtajaonejpggcbaaQba
import Derived.Test.YtajaonejpggcbaaQbd
import Derived.Test.YtajaonejpggcbaaQbe
import Derived.Test.YtajaonejpggcbaaQbf

namespace Go.Proofs.Ytajaonejpggcbaa
open Go.RowKit

set_option maxHeartbeats 2000000 in
set_option maxRecDepth 100000 in
theorem ilm_any (vl vm v : Value) (c : Cx) (cs : List Cd) (w : World) (hl : Lanes w vl c.ls) (hm : Ints w vm c.mem) (h : Codes w v cs) (hs : cs.length ≤ 1048576) (hs1 : c.ls.length ≤ 1048576) (hs2 : c.mem.length ≤ 1048576) :
    Calls Try.prog 18 #[.agg #[vl, vm], v] w fun e w' => e = .returned (.tuple #[.int .i64 (leastC cs c).1, .int .i64 (leastC cs c).2]) ∧ Pure w w' := by
  have H := Lib.hid h
  have HL := Lib.hid hl
  have HM := Lib.hid hm
  obtain ⟨A, cc, rfl, hnc, hcm⟩ := h.form
  obtain ⟨Al, cl, rfl, _⟩ := hl.form
  obtain ⟨Am, cm, rfl⟩ := hm.form
  clear h hl hm
  obtain ⟨B, hB⟩ : ∃ B : Bool, B = true ↔ CrowdOk cs c := by classical exact ⟨decide (CrowdOk cs c), by simp⟩
  have HB := Lib.hid hB
  clear hB
  cases B
  · have HN : Hid (leastC cs c = (-1, -1)) := Lib.hid (leastC_no (fun h => by have := HB.out.2 h; cases this))
    rw [HN.out]
    go_enter Try.func18, Try.ntmps18
    go_wp2_with fail
    refine (icv2_any _ _ _ c cs _ (HL.out.keep (by exact (by repeat (first | assumption | exact Pure.refl _ | refine Pure.drewN ?_ _ | refine Pure.drew ?_ | refine Pure.alloc ?_ _ | refine Pure.setCell ?_ (by simp <;> omega) _)))) (HM.out.keep (by exact (by repeat (first | assumption | exact Pure.refl _ | refine Pure.drewN ?_ _ | refine Pure.drew ?_ | refine Pure.alloc ?_ _ | refine Pure.setCell ?_ (by simp <;> omega) _)))) (H.out.keep (by exact (by repeat (first | assumption | exact Pure.refl _ | refine Pure.drewN ?_ _ | refine Pure.drew ?_ | refine Pure.alloc ?_ _ | refine Pure.setCell ?_ (by simp <;> omega) _)))) hs hs1 hs2 false HB.out).mono ?_
    rintro e w1 ⟨rfl, hp1⟩
    go_wp2
    refine bodyPost_ret (results_tmp2 rfl _ _ _) rfl ?_
    exact ⟨rfl, by exact Pure.trans (by repeat (first | assumption | exact Pure.refl _ | refine Pure.drewN ?_ _ | refine Pure.drew ?_ | refine Pure.alloc ?_ _ | refine Pure.setCell ?_ (by simp <;> omega) _)) hp1⟩
  · have HOK : Hid (CrowdOk cs c) := Lib.hid (HB.out.1 rfl)
    have h40 := HOK.out.p.2.1
    have hn8 := HOK.out.n8
    have hn1 := HOK.out.n1
    rw [leastC_ok HOK.out]
    go_enter Try.func18, Try.ntmps18
    go_wp2_with fail
    refine (icv2_any _ _ _ c cs _ (HL.out.keep (by exact (by repeat (first | assumption | exact Pure.refl _ | refine Pure.drewN ?_ _ | refine Pure.drew ?_ | refine Pure.alloc ?_ _ | refine Pure.setCell ?_ (by simp <;> omega) _)))) (HM.out.keep (by exact (by repeat (first | assumption | exact Pure.refl _ | refine Pure.drewN ?_ _ | refine Pure.drew ?_ | refine Pure.alloc ?_ _ | refine Pure.setCell ?_ (by simp <;> omega) _)))) (H.out.keep (by exact (by repeat (first | assumption | exact Pure.refl _ | refine Pure.drewN ?_ _ | refine Pure.drew ?_ | refine Pure.alloc ?_ _ | refine Pure.setCell ?_ (by simp <;> omega) _)))) hs hs1 hs2 true (by simp only [true_iff]; exact HOK.out)).mono ?_
    rintro e w1 ⟨rfl, hp1⟩
    have HP1 : Hid (Pure w w1) := Lib.hid (by exact Pure.trans (by repeat (first | assumption | exact Pure.refl _ | refine Pure.drewN ?_ _ | refine Pure.drew ?_ | refine Pure.alloc ?_ _ | refine Pure.setCell ?_ (by simp <;> omega) _)) hp1)
    have HZ1 := Lib.hid ((Chg.of_pure (S := fun _ => False) hp1).heap (heap_alloc_new w _) id)
    obtain ⟨k0, _⟩ := row_pure (Pure.refl _) HZ1.out 0
    simp only [List.getElem?_toArray, List.getElem?_cons_zero] at k0
    clear hp1
    obtain ⟨bl, ol, hAl, HLN⟩ : ∃ bl ol, Al = some ⟨bl, ol, none⟩ ∧ Hid (∀ k, k < c.ls.length → ∃ R T, LnAt w bl (ol + k * 4) (c.ls.getD k default) R T) := by
      obtain ⟨A', c', hv, _, _, h4⟩ := HL.out
      injection hv with e1 e2 e3
      subst e1
      obtain ⟨bl, ol, e, _, hln⟩ := h4 (by omega)
      exact ⟨bl, ol, e, Lib.hid hln⟩
    subst hAl
    have HNM : Hid (∀ u : World, Pure w1 u → Calls Try.prog 55 #[.slice A cs.length cc] u fun e w' => ∃ p va vo, e = .returned (.pointer (some ⟨p, 0, none⟩)) ∧ Pure u w' ∧ w'.cell? ⟨p, 0, none⟩ = some (.slice A cs.length cc) ∧ w'.cell? ⟨p, 1, none⟩ = some vo ∧ Tabs w' va vo cs) := Lib.hid fun u hu => nm_any _ cs u (H.out.keep (HP1.out.trans hu)) HOK.out.p
    have HMA : Hid (∀ u : World, Calls Try.prog 57 #[.int .i64 (c.ls.length : Int)] u fun e w' => e = .returned (.int .i64 ((2 ^ c.ls.length - 1 : Nat) : Int)) ∧ w' = u) := Lib.hid fun u => (imaskall_any _ u hn1 hn8).mono (by rintro e w' ⟨rfl, rfl⟩; exact ⟨rfl, rfl⟩)
    go_wp2_with fail
    go_region_with (first
      | (go_at_call 55; refine (HNM.out _ (by exact (by repeat (first | assumption | exact Pure.refl _ | refine Pure.drewN ?_ _ | refine Pure.drew ?_ | refine Pure.alloc ?_ _ | refine Pure.setCell ?_ (by simp <;> omega) _)))).mono ?_; rintro e w2 ⟨p, va, vo, rfl, hp2, hpc, _, _⟩; have k0 := keepP hp2 (show (World.cell? _ ⟨w.heap.size, 0, none⟩) = some (Value.slice (some ⟨bl, ol, none⟩) c.ls.length cl) from k0))
      | (go_at_call 57; refine (HMA.out _).mono ?_; rintro e w3 ⟨rfl, rfl⟩)
      | (go_at_call 56; refine (ileastx_any p w.heap.size bl ol cc cl A c cs c.ls.length _ hpc k0 (fun k hk => by obtain ⟨R, T, hx⟩ := HLN.out k hk; exact ⟨R, T, (hx.keep HP1.out).keep (Pure.trans (by repeat (first | assumption | exact Pure.refl _ | refine Pure.drewN ?_ _ | refine Pure.drew ?_ | refine Pure.alloc ?_ _ | refine Pure.setCell ?_ (by simp <;> omega) _)) hp2)⟩) HOK.out rfl).mono ?_; rintro e w5 ⟨rfl, hp5⟩))
    all_goals
      go_wp2
      refine bodyPost_ret (results_tmp2 rfl _ _ _) rfl ?_
      exact ⟨rfl, (HP1.out.trans (by exact Pure.trans (by repeat (first | assumption | exact Pure.refl _ | refine Pure.drewN ?_ _ | refine Pure.drew ?_ | refine Pure.alloc ?_ _ | refine Pure.setCell ?_ (by simp <;> omega) _)) hp2)).trans hp5⟩

end Go.Proofs.Ytajaonejpggcbaa

namespace Go.Proofs.Ytajaonejpggcbaa
open Go.RowKit

/-- A change to blocks that lie behind the machine and are none of a run's own. -/
theorem MRun.other {o : MO} {w w' : World} {vt : Nat → Value} {L : Nat → Ln} {M : Nat → Int} {S : Nat → Prop} (h : MRun o w vt L M) (hc : Chg S w w') (hS : ∀ b, S b → o.C ≤ b ∧ ¬ MOwn o vt b ∧ b ≠ o.gc) : MRun o w' vt L M := by
  obtain ⟨cur, b1, b2⟩ := h.lanes
  have hn : ∀ b, MOwn o vt b → ¬ S b := fun b hb hs => (hS b hs).2.1 hb
  refine ⟨Chg.pure h.pure hc (fun b hb => Nat.le_trans h.lo (Nat.le_trans h.bc (hS b hb).1)), h.codes, h.lo, h.bc, Nat.le_trans h.hC hc.size, h.mach.chg h.hC hc (fun b hb => .inr (hS b hb).1), h.n1, h.n8, h.m1, h.m32, h.cl1, h.cl2,
    hc.heap h.crowd (fun e => (hS _ e).2.2 rfl), h.gcB, ⟨cur, hc.heap b1 (hn _ (.inl rfl)), b2⟩, h.glB, fun k hk => (h.row k hk).chg hc fun g hg => ?_, h.rowB, h.inj, h.mem.chg hc fun g hg => ?_, h.gmB, h.ne, fun k hk => (h.trn k hk).chg hc fun g hg => hn _ (.inr (.inr (.inr ⟨k, hk, hg⟩))), h.tinj, h.good, h.mgood⟩
  · simp [MO.row, Value.ownBlock] at hg
    subst hg; exact hn _ (.inr (.inr (.inl ⟨k, hk, rfl⟩)))
  · simp [MO.vm, Value.ownBlock] at hg
    subst hg; exact hn _ (.inr (.inl rfl))
end Go.Proofs.Ytajaonejpggcbaa

namespace Go.Proofs.Ytajaonejpggcbaa
open Go.RowKit

def OnC (cs : List Cd) (n : Nat) (L : Nat → Ln) : Prop := ∀ l, l < n → ∃ W, OnWay cs (L l) W
theorem OnC.le {cs : List Cd} {n : Nat} {L : Nat → Ln} (h : OnC cs n L) : ∀ k, k < n → (L k).at_ ≤ cs.length := fun k hk => (h k hk).elim fun _ h => h.le
theorem OnC.start {cs : List Cd} (hv : PValid cs) (n : Nat) (mem : List Int) : OnC cs n (startCS mem).L := fun l _ => by
  obtain ⟨h1, h2, h3⟩ := treeOf_spec hv
  exact ⟨_, OnWay.start h1 h2⟩
theorem OnC.pass {cs : List Cd} {n : Nat} {s : CS} (h : OnC cs n s.L) : OnC cs n (passS cs n s).L := by
  intro l hl
  rw [pass_L]
  split
  · exact h l hl
  · unfold freeL
    rw [if_pos hl]
    obtain ⟨W, hw⟩ := h l hl
    exact ⟨W, hw.pass false⟩
theorem lnStep_good {cs : List Cd} {m id : Nat} {l : Ln} {M : Nat → Int} (hv : PValid cs) (hlt : l.at_ < cs.length) (hid : id ≤ 255) (hR : ∀ r, Word (l.R r)) (hM : ∀ j, Word (M j)) (r : Nat) : Word ((lnStep cs m id l M).R r) := by
  have hc : CdOk (cs.getD l.at_ default) := hv.1 _ (cdOk_mem hlt)
  unfold lnStep
  simp only
  split
  · exact hR r
  split
  · split <;> exact hR r
  split
  · exact hR r
  split
  · split <;> exact hR r
  split
  · split
    · split <;> exact hR r
    · exact hR r
  · exact simR_word hc hid hR hM r

/-- A lane is stepped and laid back. -/
theorem QRun.laid {o : QO} {w w2 : World} {vr vt : Nat → Value} {L : Nat → Ln} {M M' : Nat → Int} {l' : Ln} {vr' vt' : Value} (h : QRun o w vr vt L M) {k : Nat} (hk : k < o.n) (hb : LnB w2 w.heap.size vr' vt' l') (hm : SMem w2 o.w0.heap.size o.gm o.m o.cm M') (hc : Chg (fun b => b = o.gm) w w2) (hg : ∀ r, Word (l'.R r)) :
    QRun o ((((w2.setCell ⟨o.gl, k * 4, none⟩ vr').setCell ⟨o.gl, k * 4 + 1, none⟩ (.int .i64 (l'.at_ : Nat))).setCell ⟨o.gl, k * 4 + 2, none⟩ vt').setCell ⟨o.gl, k * 4 + 3, none⟩ (.bool l'.W)) (upV vr k vr') (upV vt k vt') (upL L k l') M' ∧
    Chg (fun b => b = o.gl) w2 ((((w2.setCell ⟨o.gl, k * 4, none⟩ vr').setCell ⟨o.gl, k * 4 + 1, none⟩ (.int .i64 (l'.at_ : Nat))).setCell ⟨o.gl, k * 4 + 2, none⟩ vt').setCell ⟨o.gl, k * 4 + 3, none⟩ (.bool l'.W)) := by
  obtain ⟨cur, b1, b2⟩ := h.lanes
  have hne := h.ne_gl
  have hgm := h.gmLo
  have hw0 : o.w0.heap.size ≤ w.heap.size := h.pure.size
  have hb2' : w2.heap[o.gl]? = some (.cells cur 55 (0, 0)) := hc.heap b1 (fun e => hne.1 e.symm)
  have hcs : ∀ (u : World) (i : Nat) (x : Value), Chg (fun b => b = o.gl) u (u.setCell ⟨o.gl, i, none⟩ x) := fun u i x => Chg.of_set u _ _ _ rfl
  have hch := (((hcs w2 (k * 4) vr').trans (hcs _ (k * 4 + 1) (.int .i64 (l'.at_ : Nat)))).trans (hcs _ (k * 4 + 2) vt')).trans (hcs _ (k * 4 + 3) (.bool l'.W))
  have hrl := (hb.2.1).ne_heap hb2' (by decide)
  have htl := (hb.2.2).ne_heap hb2' (by decide)
  refine ⟨⟨Chg.pure (Chg.pure h.pure hc (fun b e => by rw [e]; exact hgm.1)) hch (fun b e => by rw [e]; exact h.gl0), h.codes, h.n1, h.n8, h.cl1, h.cl2, h.gl0,
    ⟨_, heap_setCell_same _ o.gl _ _ _ _ (heap_setCell_same _ o.gl _ _ _ _ (heap_setCell_same _ o.gl _ _ _ _ (heap_setCell_same _ o.gl _ _ _ _ hb2'))), fun j hj => ?_⟩, fun j hj => ?_, hm.chg hch hne.1, fun j hj => ?_, fun j hj r => ?_⟩, hch⟩
  · obtain ⟨c0, c1, c2, c3⟩ := b2 j hj
    unfold QLaneC upL upV
    by_cases e : j = k
    · subst e
      simp only [if_true]
      have hlt : j * 4 + 3 < cur.size := (Array.getElem?_eq_some_iff.1 c3).1
      refine ⟨?_, ?_, ?_, ?_⟩
      · rw [Array.getElem?_setIfInBounds_ne (by omega), Array.getElem?_setIfInBounds_ne (by omega), Array.getElem?_setIfInBounds_ne (by omega), Array.getElem?_setIfInBounds_self_of_lt (by omega)]
      · rw [Array.getElem?_setIfInBounds_ne (by omega), Array.getElem?_setIfInBounds_ne (by omega), Array.getElem?_setIfInBounds_self_of_lt (by simp; omega)]
      · rw [Array.getElem?_setIfInBounds_ne (by omega), Array.getElem?_setIfInBounds_self_of_lt (by simp; omega)]
      · rw [Array.getElem?_setIfInBounds_self_of_lt (by simp; omega)]
    · simp only [e, if_false]
      refine ⟨?_, ?_, ?_, ?_⟩ <;> (rw [Array.getElem?_setIfInBounds_ne (by omega), Array.getElem?_setIfInBounds_ne (by omega), Array.getElem?_setIfInBounds_ne (by omega), Array.getElem?_setIfInBounds_ne (by omega)]; assumption)
  · unfold upL upV
    by_cases e : j = k
    · subst e
      simp only [if_true]
      exact ⟨hb.1, (OwnO.base' hb.2.1 hw0).chg hch (fun g hg e => hrl g hg e), (OwnO.base' hb.2.2 hw0).chg hch (fun g hg e => htl g hg e)⟩
    · simp only [e, if_false]
      exact ((h.lnb j hj).chg hc (fun g hg e2 => (h.ne j hj).1 (by rw [hg, e2])) (fun g hg e2 => (h.ne j hj).2 (by rw [hg, e2]))).chg hch (fun g hg e2 => (hne.2 j hj).1 (by rw [hg, e2])) (fun g hg e2 => (hne.2 j hj).2 (by rw [hg, e2]))
  · unfold upV
    by_cases e : j = k
    · subst e
      simp only [if_true]
      exact ⟨fun e2 => by have := (hb.2.1.lt o.gm e2).1; omega, fun e2 => by have := (hb.2.2.lt o.gm e2).1; omega⟩
    · simp only [e, if_false]
      exact h.ne j hj
  · unfold upL
    by_cases e : j = k
    · subst e
      simp only [if_true]
      exact hg r
    · simp only [e, if_false]
      exact h.good j hj r

end Go.Proofs.Ytajaonejpggcbaa

namespace Go.Proofs.Ytajaonejpggcbaa
open Go.RowKit

def laneGv (vr vt : Value) (l : Ln) : List Value := [vr, .int .i64 (l.at_ : Nat), vt, .bool l.W]
/-- Lanes so far, in a slice. -/
def laneGs (vr vt : Nat → Value) (L : Nat → Ln) (j : Nat) : List Value := (List.range j).flatMap fun i => laneGv (vr i) (vt i) (L i)
theorem laneGs_len (vr vt : Nat → Value) (L : Nat → Ln) : ∀ j, (laneGs vr vt L j).length = j * 4
  | 0 => rfl
  | j + 1 => by
    have := laneGs_len vr vt L j
    unfold laneGs at this ⊢
    rw [List.range_succ, List.flatMap_append, List.length_append, this]
    simp [laneGv]; omega
theorem laneGs_succ (vr vt : Nat → Value) (L : Nat → Ln) (j : Nat) : laneGs vr vt L (j + 1) = laneGs vr vt L j ++ laneGv (vr j) (vt j) (L j) := by
  unfold laneGs; rw [List.range_succ, List.flatMap_append]; simp
theorem laneGs_congr {vr vt vr' vt' : Nat → Value} {L : Nat → Ln} {j : Nat} (h : ∀ i, i < j → vr i = vr' i ∧ vt i = vt' i) : laneGs vr vt L j = laneGs vr' vt' L j := by
  induction j with
  | zero => rfl
  | succ j ih => rw [laneGs_succ, laneGs_succ, ih fun i hi => h i (by omega), (h j (by omega)).1, (h j (by omega)).2]
theorem laneGs_at (vr vt : Nat → Value) (L : Nat → Ln) : ∀ {j k i : Nat}, k < j → i < 4 → (laneGs vr vt L j)[k * 4 + i]? = (laneGv (vr k) (vt k) (L k))[i]?
  | 0, _, _, h, _ => by omega
  | j + 1, k, i, h, hi => by
    rw [laneGs_succ]
    by_cases e : k = j
    · subst e
      rw [List.getElem?_append_right (by rw [laneGs_len]; omega), laneGs_len]
      congr 1; omega
    · rw [List.getElem?_append_left (by rw [laneGs_len]; omega)]
      exact laneGs_at vr vt L (by omega) hi

theorem LnB.base {w : World} {B B' : Nat} {vr vt : Value} {l : Ln} (h : LnB w B vr vt l) (hB : B' ≤ B) : LnB w B' vr vt l := ⟨h.1, OwnO.base' h.2.1 hB, OwnO.base' h.2.2 hB⟩
theorem LnB.pure {w w' : World} {B : Nat} {vr vt : Value} {l : Ln} (h : LnB w B vr vt l) (hp : Pure w w') : LnB w' B vr vt l := ⟨h.1, h.2.1.pure hp, h.2.2.pure hp⟩
theorem LnO.lnb {w0 w : World} {B : Nat} {vr vt : Value} {l : Ln} (h : LnO w0 w B vr vt l) : LnB w B vr vt l := by
  obtain ⟨g, c, hv, _⟩ := own_form h.l (by decide)
  exact ⟨⟨g, c, hv⟩, OwnO.of_own h.l, OwnO.of_own h.r⟩

structure CrG (B : Nat) (w : World) (vL : Value) (j : Nat) (vr vt : Nat → Value) (L : Nat → Ln) (gm : Nat) : Prop where
  own : w.ownsRow B 55 4 vL j (laneGs vr vt L j)
  lnb : ∀ i, i < j → LnB w B (vr i) (vt i) (L i)
  ne : ∀ i, i < j → (vr i).ownBlock ≠ some gm ∧ (vt i).ownBlock ≠ some gm
section
variable {w w' w1 w2 : World} {B j gm : Nat} {vL : Value} {vr vt : Nat → Value} {L : Nat → Ln}
theorem CrG.pure (h : CrG B w vL j vr vt L gm) (hp : Pure w w') : CrG B w' vL j vr vt L gm := ⟨own_pure h.own hp, fun i hi => (h.lnb i hi).pure hp, h.ne⟩
theorem CrG.base {B' : Nat} (h : CrG B w vL j vr vt L gm) (hB : B' ≤ B) : CrG B' w vL j vr vt L gm := ⟨own_base h.own hB, fun i hi => (h.lnb i hi).base hB, h.ne⟩
theorem CrG.chg {S : Nat → Prop} (h : CrG B w vL j vr vt L gm) (hc : Chg S w w') (h1 : ∀ g, vL.ownBlock = some g → ¬ S g) (h2 : ∀ i, i < j → ∀ g, ((vr i).ownBlock = some g ∨ (vt i).ownBlock = some g) → ¬ S g) : CrG B w' vL j vr vt L gm :=
  ⟨own_chg h.own hc h1, fun i hi => (h.lnb i hi).chg hc (fun g hg => h2 i hi g (.inl hg)) (fun g hg => h2 i hi g (.inr hg)), h.ne⟩
theorem CrG.push {vL' vr' vt' : Value} (h : CrG B w vL j vr vt L gm) (hp : Pure w w1) (hB : B ≤ w.heap.size) (hgm : gm < w.heap.size) (hl : LnB w1 w.heap.size vr' vt' (L j))
    (ho : w2.ownsRow B 55 4 vL' (j + 1) (laneGs vr vt L j ++ laneGv vr' vt' (L j))) (hgr : w1.grownBy w2 vL.ownBlock) : CrG B w2 vL' (j + 1) (upV vr j vr') (upV vt j vt') L gm := by
  have h1 := h.pure hp
  have hc : Chg (fun k => vL.ownBlock = some k) w1 w2 := Chg.of_grown hgr (fun k hk => hk)
  have hV := OwnO.of_own h1.own
  refine ⟨?_, fun i hi => ?_, fun i hi => ?_⟩
  · rw [laneGs_succ, show upV vr j vr' j = vr' from if_pos rfl, show upV vt j vt' j = vt' from if_pos rfl, laneGs_congr (vr := upV vr j vr') (vt := upV vt j vt') (vr' := vr) (vt' := vt) (fun i hi => ⟨if_neg (by omega), if_neg (by omega)⟩)]; exact ho
  · unfold upV
    by_cases e : i = j
    · subst e
      simp only [if_true]
      exact (hl.base hB).chg hc (fun g hg e => hl.2.1.ne hV (by decide) g hg e.symm) (fun g hg e => hl.2.2.ne hV (by decide) g hg e.symm)
    · simp only [e, if_false]
      have hb := h1.lnb i (by omega)
      exact hb.chg hc (fun g hg e => hb.2.1.ne hV (by decide) g hg e.symm) (fun g hg e => hb.2.2.ne hV (by decide) g hg e.symm)
  · unfold upV
    by_cases e : i = j
    · subst e
      simp only [if_true]
      exact ⟨fun e2 => by have := (hl.2.1.lt gm e2).1; omega, fun e2 => by have := (hl.2.2.lt gm e2).1; omega⟩
    · simp only [e, if_false]
      exact h.ne i (by omega)
end
/-- A lane more in a crowd. -/
theorem crowdG_next {wq wr w1 w5 : World} {B' j gm cm n : Nat} {vL v5 vr' vt' : Value} {vr vt : Nat → Value} {L : Nat → Ln} {xs : List Value} (h : CrG wq.heap.size wr vL j vr vt L gm) (hp : Pure wr w1) (hqr : Pure wq wr) (hgm : gm < wr.heap.size) (hl : LnB w1 wr.heap.size vr' vt' (L j))
    (hO : wr.heap[wq.heap.size]? = some (.cells #[vL, .slice (some ⟨gm, 0, none⟩) n cm] 33 (0, 0))) (hM : OwnO wr B' 3 1 (.slice (some ⟨gm, 0, none⟩) n cm) n xs)
    (ho : w5.ownsRow wq.heap.size 55 4 v5 (j + 1) (laneGs vr vt L j ++ laneGv vr' vt' (L j))) (hgr : w1.grownBy w5 vL.ownBlock) :
    Pure wq (w5.setCell ⟨wq.heap.size, 0, none⟩ v5) ∧ CrG wq.heap.size (w5.setCell ⟨wq.heap.size, 0, none⟩ v5) v5 (j + 1) (upV vr j vr') (upV vt j vt') L gm ∧
    (w5.setCell ⟨wq.heap.size, 0, none⟩ v5).heap[wq.heap.size]? = some (.cells #[v5, .slice (some ⟨gm, 0, none⟩) n cm] 33 (0, 0)) ∧ OwnO (w5.setCell ⟨wq.heap.size, 0, none⟩ v5) B' 3 1 (.slice (some ⟨gm, 0, none⟩) n cm) n xs := by
  have hc5 : Chg (fun k => vL.ownBlock = some k) w1 w5 := Chg.of_grown hgr (fun k hk => hk)
  have hvlp : ∀ k, vL.ownBlock = some k → k ≠ wq.heap.size := own_ne_heap h.own hO (by decide)
  have hO5 : w5.heap[wq.heap.size]? = some (.cells #[vL, .slice (some ⟨gm, 0, none⟩) n cm] 33 (0, 0)) := hc5.heap ((Chg.of_pure (S := fun _ => False) hp).heap hO id) (fun e => hvlp _ e rfl)
  have hR5 := h.push hp hqr.size hgm hl ho hgr
  have hM1 := hM.pure hp
  have hM5 := hM1.chg hc5 (fun k hk e => (OwnO.of_own (own_pure h.own hp)).ne hM1 (by decide) k e hk.symm)
  have hP5 : Pure wq w5 := Chg.pure (hqr.trans hp) hc5 (fun k hk => (own_lt h.own k hk).1)
  have hc6 : Chg (fun k => k = wq.heap.size) w5 (w5.setCell ⟨wq.heap.size, 0, none⟩ v5) := Chg.of_set w5 _ _ _ rfl
  refine ⟨Chg.pure hP5 hc6 (fun k hk => by rw [hk]; exact Nat.le_refl _), hR5.chg hc6 (fun g hg e => own_ne_heap hR5.own hO5 (by decide) g hg e) (fun i hi g hg e => ?_), ?_, hM5.chg hc6 (fun g hg e => hM5.ne_heap hO5 (by decide) g hg e)⟩
  · rcases hg with hg | hg
    · exact (hR5.lnb i hi).2.1.ne_heap hO5 (by decide) g hg e
    · exact (hR5.lnb i hi).2.2.ne_heap hO5 (by decide) g hg e
  · rw [heap_setCell_same w5 wq.heap.size 0 _ _ _ hO5]; rfl

end Go.Proofs.Ytajaonejpggcbaa

namespace Go.Proofs.Ytajaonejpggcbaa
open Go.RowKit

/-- A lane in a row of cells, with rows behind the block of that row. -/
def LnIn (w : World) (B : Nat) (ys : List Value) (j : Nat) (l : Lx) : Prop :=
  ∃ R T, ys[j * 4]? = some R ∧ ys[j * 4 + 1]? = some (.int .i64 l.at_) ∧ ys[j * 4 + 2]? = some T ∧ ys[j * 4 + 3]? = some (.bool l.wt) ∧ Ints w R l.rs ∧ Ints w T l.ts ∧ (∀ g, R.ownBlock = some g → B < g) ∧ (∀ g, T.ownBlock = some g → B < g)
theorem LnIn.chg {w w' : World} {B : Nat} {ys ys' : List Value} {j : Nat} {l : Lx} (h : LnIn w B ys j l) (hc : w.grownBy w' (some B)) (hy : ∀ i, i < 4 → ys'[j * 4 + i]? = ys[j * 4 + i]?) : LnIn w' B ys' j l := by
  obtain ⟨R, T, a, b, c, d, r, t, e, f⟩ := h
  exact ⟨R, T, (hy 0 (by omega)).trans a, (hy 1 (by omega)).trans b, (hy 2 (by omega)).trans c, (hy 3 (by omega)).trans d, r.other hc (fun g hg => by have := e g hg; simp; omega), t.other hc (fun g hg => by have := f g hg; simp; omega), e, f⟩
theorem LnIn.pure {w w' : World} {B : Nat} {ys : List Value} {j : Nat} {l : Lx} (h : LnIn w B ys j l) (hp : Pure w w') : LnIn w' B ys j l := by
  obtain ⟨R, T, a, b, c, d, r, t, e, f⟩ := h
  exact ⟨R, T, a, b, c, d, r.keep hp, t.keep hp, e, f⟩
theorem Lanes.of_own {w : World} {B B' e : Nat} {v : Value} {ys : List Value} {ls : List Lx} (h : OwnO w B e 4 v ls.length ys) (hf : ∀ j, j < ls.length → LnIn w B' ys j (ls.getD j default)) : Lanes w v ls := by
  rcases h.2 with ⟨rfl, h0⟩ | ⟨g, off, cap, cur, rfl, h1, h2, h3, h4, h5, h6⟩
  · exact ⟨none, 0, by rw [h0], by omega, by omega, fun h => absurd h (by omega)⟩
  · refine ⟨_, cap, rfl, h3, by omega, fun hn => ⟨g, off, rfl, (Array.getElem?_eq_some_iff.1 h2).1, fun k hk => ?_⟩⟩
    obtain ⟨R, T, a, b, c, d, r, t, _, _⟩ := hf k hk
    refine ⟨R, T, (h.cell (k * 4) (by omega)).trans a, ?_, ?_, ?_, r, t⟩
    · rw [Nat.add_assoc]; exact (h.cell (k * 4 + 1) (by omega)).trans b
    · rw [Nat.add_assoc]; exact (h.cell (k * 4 + 2) (by omega)).trans c
    · rw [Nat.add_assoc]; exact (h.cell (k * 4 + 3) (by omega)).trans d

/-- A slice of lanes of the call's own. -/
def LanesO (w : World) (B : Nat) (v : Value) (ls : List Lx) : Prop := ∃ ys, OwnO w B 55 4 v ls.length ys ∧ ∀ j, j < ls.length → LnIn w B ys j (ls.getD j default)
theorem LanesO.lanes {w : World} {B : Nat} {v : Value} {ls : List Lx} (h : LanesO w B v ls) : Lanes w v ls := by
  obtain ⟨ys, h1, h2⟩ := h
  exact Lanes.of_own h1 h2
theorem LanesO.pure {w w' : World} {B : Nat} {v : Value} {ls : List Lx} (h : LanesO w B v ls) (hp : Pure w w') : LanesO w' B v ls := by
  obtain ⟨ys, h1, h2⟩ := h
  exact ⟨ys, h1.pure hp, fun j hj => (h2 j hj).pure hp⟩
theorem LanesO.set {w w' : World} {B g : Nat} {v : Value} {ls : List Lx} (h : LanesO w B v ls) (hg : w.grownBy w' (some g)) (hB : g < B) : LanesO w' B v ls := by
  obtain ⟨ys, h1, h2⟩ := h
  refine ⟨ys, h1.kept hg (fun k hk => by have := (h1.lt k hk).1; simp; omega), fun j hj => ?_⟩
  obtain ⟨R, T, a, b, c, d, r, t, e, f⟩ := h2 j hj
  exact ⟨R, T, a, b, c, d, r.other hg (fun g hg => by have := e g hg; simp; omega), t.other hg (fun g hg => by have := f g hg; simp; omega), e, f⟩
theorem LanesO.form {w : World} {B : Nat} {v : Value} {ls : List Lx} (h : LanesO w B v ls) : ∃ A c, v = .slice A ls.length c := by
  obtain ⟨ys, h1, h2⟩ := h
  exact h1.form

end Go.Proofs.Ytajaonejpggcbaa

namespace Go.Proofs.Ytajaonejpggcbaa
open Go.RowKit

structure CrW (B : Nat) (w : World) (n gl cl gm m cm : Nat) (vr vt : Nat → Value) (L : Nat → Ln) (M : Nat → Int) : Prop where
  n1 : 1 ≤ n
  n8 : n ≤ 8
  cl1 : n ≤ cl
  cl2 : cl ≤ 9223372036854775807
  gl0 : B ≤ gl
  lanes : ∃ cur, w.heap[gl]? = some (.cells cur 55 (0, 0)) ∧ ∀ k, k < n → QLaneC cur vr vt L k
  lnb : ∀ k, k < n → LnB w B (vr k) (vt k) (L k)
  mem : SMem w B gm m cm M
  ne : ∀ k, k < n → (vr k).ownBlock ≠ some gm ∧ (vt k).ownBlock ≠ some gm
def crwV (n gl cl gm m cm : Nat) : Value := .agg #[.slice (some ⟨gl, 0, none⟩) n cl, .slice (some ⟨gm, 0, none⟩) m cm]
def lxOf (l : Ln) : Lx := ⟨(List.range 4).map l.R, (l.at_ : Nat), l.T, l.W⟩
def cxOf (n m : Nat) (L : Nat → Ln) (M : Nat → Int) : Cx := ⟨(List.range n).map fun k => lxOf (L k), (List.range m).map M⟩
theorem cxOf_at {n m k : Nat} {L : Nat → Ln} {M : Nat → Int} (hk : k < n) : (cxOf n m L M).ls.getD k default = lxOf (L k) := by
  simp [cxOf, List.getD_eq_getElem?_getD, hk]
theorem cxOf_len (n m : Nat) (L : Nat → Ln) (M : Nat → Int) : (cxOf n m L M).ls.length = n ∧ (cxOf n m L M).mem.length = m := by simp [cxOf]

theorem QRun.crw {o : QO} {w : World} {vr vt : Nat → Value} {L : Nat → Ln} {M : Nat → Int} (h : QRun o w vr vt L M) : CrW o.w0.heap.size w o.n o.gl o.cl o.gm o.m o.cm vr vt L M :=
  ⟨h.n1, h.n8, h.cl1, h.cl2, h.gl0, h.lanes, h.lnb, h.mem, h.ne⟩
section
variable {B : Nat} {w w' : World} {n gl cl gm m cm : Nat} {vr vt : Nat → Value} {L : Nat → Ln} {M : Nat → Int}
theorem LnB.ints {vr vt : Value} {l : Ln} (h : LnB w B vr vt l) : Ints w vr (lxOf l).rs ∧ Ints w vt (lxOf l).ts := by
  refine ⟨Ints.of_ownO' (B := B) (e := 3) ?_, Ints.of_ownO' (B := B) (e := 3) h.2.2⟩
  exact h.2.1
theorem CrW.lane (h : CrW B w n gl cl gm m cm vr vt L M) {k : Nat} (hk : k < n) : LnAt w gl (k * 4) (lxOf (L k)) (vr k) (vt k) := by
  obtain ⟨cur, b1, b2⟩ := h.lanes
  obtain ⟨c0, c1, c2, c3⟩ := b2 k hk
  obtain ⟨r, t⟩ := (h.lnb k hk).ints
  refine ⟨?_, ?_, ?_, ?_, r, t⟩ <;> (rw [cell_of_row w gl _ cur _ _ b1]; assumption)
theorem CrW.gl_lt (h : CrW B w n gl cl gm m cm vr vt L M) : gl < w.heap.size := by
  obtain ⟨cur, b1, _⟩ := h.lanes
  exact (Array.getElem?_eq_some_iff.1 b1).1
theorem CrW.ne_gl (h : CrW B w n gl cl gm m cm vr vt L M) : gm ≠ gl ∧ ∀ k, k < n → (vr k).ownBlock ≠ some gl ∧ (vt k).ownBlock ≠ some gl := by
  obtain ⟨cur, b1, _⟩ := h.lanes
  refine ⟨?_, fun k hk => ⟨fun e => ?_, fun e => ?_⟩⟩
  · exact h.mem.own.ne_heap b1 (by decide) gm rfl
  · exact (h.lnb k hk).2.1.ne_heap b1 (by decide) _ e rfl
  · exact (h.lnb k hk).2.2.ne_heap b1 (by decide) _ e rfl
theorem CrW.lanesR (h : CrW B w n gl cl gm m cm vr vt L M) : Lanes w (.slice (some ⟨gl, 0, none⟩) n cl) (cxOf n m L M).ls := by
  refine ⟨_, cl, by rw [(cxOf_len n m L M).1], by rw [(cxOf_len n m L M).1]; exact h.cl1, h.cl2, fun _ => ⟨gl, 0, rfl, h.gl_lt, fun k hk => ?_⟩⟩
  rw [(cxOf_len n m L M).1] at hk
  rw [cxOf_at hk, Nat.zero_add]
  exact ⟨_, _, h.lane hk⟩
theorem SMem.ints (h : SMem w B gm m cm M) : Ints w (.slice (some ⟨gm, 0, none⟩) m cm) ((List.range m).map M) := by
  refine Ints.of_ownO' (B := B) (e := 3) ?_
  have e : ((List.range m).map M).map (Value.int .i64) = memL m M := by unfold memL; simp
  rw [e]; simpa using h.own
theorem CrW.memR (h : CrW B w n gl cl gm m cm vr vt L M) : Ints w (.slice (some ⟨gm, 0, none⟩) m cm) (cxOf n m L M).mem := h.mem.ints
theorem CrW.crowd (h : CrW B w n gl cl gm m cm vr vt L M) : Crowd w (crwV n gl cl gm m cm) (cxOf n m L M) := ⟨_, _, rfl, h.lanesR, h.memR⟩
theorem CrW.chg {S : Nat → Prop} (h : CrW B w n gl cl gm m cm vr vt L M) (hc : Chg S w w') (hS : ∀ b, S b → b < B) : CrW B w' n gl cl gm m cm vr vt L M := by
  obtain ⟨cur, b1, b2⟩ := h.lanes
  refine ⟨h.n1, h.n8, h.cl1, h.cl2, h.gl0, ⟨cur, hc.heap b1 (fun e => by have := hS _ e; have := h.gl0; omega), b2⟩, fun k hk => ?_, h.mem.chg hc (fun e => ?_), h.ne⟩
  · have hb := h.lnb k hk
    exact hb.chg hc (fun g hg e => by have := hS g e; have := (hb.2.1.lt g hg).1; omega) (fun g hg e => by have := hS g e; have := (hb.2.2.lt g hg).1; omega)
  · have := hS _ e; have := (h.mem.own.lt gm rfl).1; omega
theorem CrW.keep (h : CrW B w n gl cl gm m cm vr vt L M) (hp : Pure w w') : CrW B w' n gl cl gm m cm vr vt L M := h.chg (S := fun _ => False) (Chg.of_pure hp) (fun _ e => e.elim)
theorem CrW.less {B' : Nat} (h : CrW B w n gl cl gm m cm vr vt L M) (hB : B' ≤ B) : CrW B' w n gl cl gm m cm vr vt L M :=
  ⟨h.n1, h.n8, h.cl1, h.cl2, Nat.le_trans hB h.gl0, h.lanes, fun k hk => (h.lnb k hk).base hB, ⟨h.mem.m1, h.mem.m32, OwnO.base' h.mem.own hB, h.mem.good⟩, h.ne⟩

theorem CrW.lanesC {S : Nat → Prop} (h : CrW B w n gl cl gm m cm vr vt L M) (hc : Chg S w w') (h1 : ¬ S gl) (h2 : ∀ k, k < n → ∀ g, ((vr k).ownBlock = some g ∨ (vt k).ownBlock = some g) → ¬ S g) : Lanes w' (.slice (some ⟨gl, 0, none⟩) n cl) (cxOf n m L M).ls := by
  obtain ⟨cur, b1, b2⟩ := h.lanes
  have b1' := hc.heap b1 h1
  refine ⟨_, cl, by rw [(cxOf_len n m L M).1], by rw [(cxOf_len n m L M).1]; exact h.cl1, h.cl2, fun _ => ⟨gl, 0, rfl, (Array.getElem?_eq_some_iff.1 b1').1, fun k hk => ?_⟩⟩
  rw [(cxOf_len n m L M).1] at hk
  rw [cxOf_at hk, Nat.zero_add]
  obtain ⟨c0, c1, c2, c3⟩ := b2 k hk
  obtain ⟨r, t⟩ := ((h.lnb k hk).chg hc (fun g hg => h2 k hk g (.inl hg)) (fun g hg => h2 k hk g (.inr hg))).ints
  refine ⟨vr k, vt k, ⟨?_, ?_, ?_, ?_, r, t⟩⟩ <;> (rw [cell_of_row w' gl _ cur _ _ b1']; assumption)

/-- The crowd with a first lane that is nowhere. -/
def badAt (n m : Nat) (L : Nat → Ln) (M : Nat → Int) : Cx := ⟨(List.range n).map fun k => if k = 0 then { lxOf (L k) with at_ := -1 } else lxOf (L k), (List.range m).map M⟩
theorem CrW.bad {S : Nat → Prop} {u : World} (h : CrW B w n gl cl gm m cm vr vt L M) (hc2 : Chg S (w.setCell ⟨gl, 1, none⟩ (.int .i64 (-1))) u) (hS : ∀ b, S b → b < B) : Crowd u (crwV n gl cl gm m cm) (badAt n m L M) := by
  have hc : Chg (fun b => b = gl) w (w.setCell ⟨gl, 1, none⟩ (.int .i64 (-1))) := Chg.of_set w gl _ _ rfl
  have hne := h.ne_gl
  have hgl0 := h.gl0
  obtain ⟨cur, b1, b2⟩ := h.lanes
  have b1' := hc2.heap (heap_setCell_same w gl 1 _ _ (.int .i64 (-1)) b1) (fun e => by have := hS _ e; omega)
  have hl : (badAt n m L M).ls.length = n := by simp [badAt]
  refine ⟨_, _, rfl, ⟨_, cl, by rw [hl], by rw [hl]; exact h.cl1, h.cl2, fun _ => ⟨gl, 0, rfl, (Array.getElem?_eq_some_iff.1 b1').1, fun k hk => ?_⟩⟩, ((h.mem.chg hc hne.1).chg hc2 (fun e => by have := hS _ e; have := (h.mem.own.lt gm rfl).1; omega)).ints⟩
  rw [hl] at hk
  have hd : (badAt n m L M).ls.getD k default = if k = 0 then { lxOf (L k) with at_ := -1 } else lxOf (L k) := by
    simp [badAt, List.getD_eq_getElem?_getD, hk]
  rw [hd, Nat.zero_add]
  obtain ⟨c0, c1, c2, c3⟩ := b2 k hk
  have hlb := (h.lnb k hk).chg hc (fun g hg e => (hne.2 k hk).1 (by rw [hg, e])) (fun g hg e => (hne.2 k hk).2 (by rw [hg, e]))
  obtain ⟨r, t⟩ := (hlb.chg hc2 (fun g hg e => by have := hS _ e; have := (hlb.2.1.lt g hg).1; omega) (fun g hg e => by have := hS _ e; have := (hlb.2.2.lt g hg).1; omega)).ints
  have hlt : 1 < cur.size := by
    have := (Array.getElem?_eq_some_iff.1 c1).1; omega
  by_cases e : k = 0
  · subst e
    simp only [if_true]
    refine ⟨vr 0, vt 0, ⟨?_, ?_, ?_, ?_, r, t⟩⟩ <;> rw [cell_of_row _ gl _ _ _ _ b1']
    · rw [Array.getElem?_setIfInBounds_ne (by omega)]; exact c0
    · rw [Nat.zero_mul, Nat.zero_add, Array.getElem?_setIfInBounds_self_of_lt hlt]
    · rw [Array.getElem?_setIfInBounds_ne (by omega)]; exact c2
    · rw [Array.getElem?_setIfInBounds_ne (by omega)]; exact c3
  · simp only [e, if_false]
    refine ⟨vr k, vt k, ⟨?_, ?_, ?_, ?_, r, t⟩⟩ <;> (rw [cell_of_row _ gl _ _ _ _ b1', Array.getElem?_setIfInBounds_ne (by omega)]; assumption)
end

end Go.Proofs.Ytajaonejpggcbaa

namespace Go.Proofs.Ytajaonejpggcbaa
open Go.RowKit

theorem lnX_at (c : Cx) (k : Nat) : lnX c k = lnOf (c.ls.getD k default) := rfl
theorem LnAt.read {w : World} {b o : Nat} {l : Lx} {R T : Value} (h : LnAt w b o l R T) (h4 : l.rs.length = 4) : LnR w R T (lnOf l) := by
  have hr := h.r
  unfold Ints at hr
  rw [h4] at hr
  exact ⟨hr, h.t⟩
theorem CrG.crw {B : Nat} {w : World} {n gl cl gm m cm : Nat} {vr vt : Nat → Value} {L : Nat → Ln} {M : Nat → Int} (h : CrG B w (.slice (some ⟨gl, 0, none⟩) n cl) n vr vt L gm) (h1 : 1 ≤ n) (h8 : n ≤ 8) (h3 : n ≤ cl) (h4 : cl ≤ 9223372036854775807) (hm : SMem w B gm m cm M) : CrW B w n gl cl gm m cm vr vt L M := by
  refine ⟨h1, h8, h3, h4, (own_lt h.own gl rfl).1, ?_, h.lnb, hm, h.ne⟩
  rcases h.own.2 with ⟨hv, _⟩ | ⟨g, cap, cur, hv, h1, h2, h3, h4, h5, h6⟩
  · cases hv
  · injection hv with hv _ hcc
    injection hv with hv
    injection hv with e1 e2
    subst e1
    refine ⟨cur, h2, fun k hk => ?_⟩
    have hat : ∀ i, i < 4 → cur[k * 4 + i]? = (laneGv (vr k) (vt k) (L k))[i]? := fun i hi => by
      rw [← laneGs_at vr vt L hk hi, ← h6, List.getElem?_take, if_pos (by omega), Array.getElem?_toList]
    exact ⟨(hat 0 (by decide)).trans rfl, (hat 1 (by decide)).trans rfl, (hat 2 (by decide)).trans rfl, (hat 3 (by decide)).trans rfl⟩
def CopyC (n m : Nat) (L : Nat → Ln) (M : Nat → Int) (w : World) (e : Ending) (w' : World) : Prop :=
  ∃ gl cl gm cm vr vt, e = .returned (crwV n gl cl gm m cm) ∧ CrW w.heap.size w' n gl cl gm m cm vr vt L M ∧ Pure w w'

set_option maxHeartbeats 4000000 in
set_option maxRecDepth 100000 in
theorem l7copy_any (vl vm : Value) (c : Cx) (cs : List Cd) (n m : Nat) (w : World) (hl : Lanes w vl c.ls) (hm : Ints w vm c.mem) (hok : CrowdOk cs c) (hnn : c.ls.length = n) (hmm : c.mem.length = m) :
    Calls Try.prog 138 #[.agg #[vl, vm]] w (CopyC n m (lnX c) (fun j => c.mem.getD j 0) w) := by
  have HL := Lib.hid hl
  have HM := Lib.hid hm
  have HOK := Lib.hid hok
  have HNN := Lib.hid hnn
  have hn8 : n ≤ 8 := by rw [← hnn]; exact hok.n8
  have hn1 : 1 ≤ n := by rw [← hnn]; exact hok.n1
  have hm1 : 1 ≤ m := by rw [← hmm]; exact hok.m.small.1
  have hm2 : m ≤ 32 := by rw [← hmm]; exact hok.m.small.2
  have HWD : Hid (∀ j, Word (c.mem.getD j 0)) := Lib.hid (fun j => by
    by_cases hj : j < c.mem.length
    · exact hok.m.2 _ (getD_mem hj)
    · have : c.mem.getD j 0 = 0 := by rw [List.getD_eq_getElem?_getD, List.getElem?_eq_none (by omega)]; rfl
      rw [this]; exact ⟨Int.le_refl 0, by decide⟩)
  obtain ⟨Al, c0, rfl, _⟩ := hl.form
  obtain ⟨Am, m0, rfl⟩ := hm.form
  have hmc : Cells w (.slice Am c.mem.length m0) c.mem.length 1 (fun j => .int .i64 (c.mem.getD j 0)) := hm
  rw [hnn] at HL ⊢
  rw [hmm] at HM hmc ⊢
  obtain ⟨L, HLL⟩ : ∃ L, Hid (lnX c = L) := ⟨_, Lib.hid rfl⟩
  obtain ⟨M, HMM⟩ : ∃ M : Nat → Int, Hid ((fun j => c.mem.getD j 0) = M) := ⟨_, Lib.hid rfl⟩
  rw [HLL.out, HMM.out]
  rw [show (fun j => Value.int .i64 (c.mem.getD j 0)) = fun j => Value.int .i64 (M j) from by rw [← HMM.out]] at hmc
  have HMC := Lib.hid hmc
  have HWM : Hid (∀ j, Word (M j)) := Lib.hid (by rw [← HMM.out]; exact HWD.out)
  obtain ⟨wz, Hwz⟩ : ∃ wz, Hid ((w.alloc (.cells #[.slice Al n c0, .slice Am m m0] 33)).alloc (.cells #[.slice none 0 0, .slice none 0 0] 33) = wz) := ⟨_, Lib.hid rfl⟩
  have HPZ : Hid (Pure w wz) := Lib.hid (by rw [← Hwz.out]; exact (by repeat (first | assumption | exact Pure.refl _ | refine Pure.drewN ?_ _ | refine Pure.drew ?_ | refine Pure.alloc ?_ _ | refine Pure.setCell ?_ (by simp <;> omega) _)))
  have HZC : Hid (wz.heap[w.heap.size]? = some (.cells #[.slice Al n c0, .slice Am m m0] 33 (0, 0))) := Lib.hid (by
    rw [← Hwz.out]; exact (Chg.of_pure (S := fun _ => False) ((Pure.refl (w.alloc _)).alloc _)).heap (heap_alloc_new w _) id)
  have HZR : Hid (wz.heap[w.heap.size + 1]? = some (.cells #[.slice none 0 0, .slice none 0 0] 33 (0, 0))) := Lib.hid (by
    rw [← Hwz.out]
    have := heap_alloc_new (w.alloc (.cells #[.slice Al n c0, .slice Am m m0] 33)) (.cells #[.slice none 0 0, .slice none 0 0] 33)
    simpa using this)
  have HZS : Hid (wz.heap.size = w.heap.size + 2) := Lib.hid (by rw [← Hwz.out]; simp)
  clear hl hm hok hnn hmm hmc HWD HMM
  have z0 := (cell_of_row _ _ 0 _ _ _ HZC.out).trans (show _ = some (Value.slice Al n c0) from rfl)
  have z1 := (cell_of_row _ _ 1 _ _ _ HZC.out).trans (show _ = some (Value.slice Am m m0) from rfl)
  have hEM : (wz.alloc (.cells #[] 3)).ownsRow w.heap.size 3 1 (.slice (some ⟨w.heap.size + 1 + 1, 0, none⟩) 0 0) 0 [] := by
    have := own_empty (w := wz) (B := w.heap.size) (e := 3) (s := 1) (by have := HZS.out; omega)
    rw [HZS.out] at this
    exact this
  have HEM := Lib.hid hEM
  have HCM := Lib.hid (show Cells (wz.alloc (.cells #[] 3)) (.slice Am m m0) m 1 (fun j => .int .i64 (M j)) from (HMC.out.keep HPZ.out).keep (by repeat (first | assumption | exact Pure.refl _ | refine Pure.drewN ?_ _ | refine Pure.drew ?_ | refine Pure.alloc ?_ _ | refine Pure.setCell ?_ (by simp <;> omega) _)))
  clear hEM HMC
  have hwze := Hwz.out
  clear Hwz
  subst hwze
  go_enter Try.func138, Try.ntmps138
  go_wp2_with (at_builtin; go_must (refine wl_appendR elInt rfl _ _ rfl w.heap.size _ 0 [] rfl HEM.out _ rfl _ m HCM.out (fun j _ => rfl) (by decide) (by omega) (by simp; omega) ?_); intro vm9 wq r1 r2 r3; go_must (obtain ⟨gm, cmm, hvm, hgm1, hgm2, hcm1, hcm2⟩ := own_form r1 (by omega); subst hvm; have HOW := Lib.hid r1; have HPq := Lib.hid ((show Pure ((w.alloc (.cells #[.slice Al n c0, .slice Am m m0] 33)).alloc (.cells #[.slice none 0 0, .slice none 0 0] 33)) _ from (by repeat (first | assumption | exact Pure.refl _ | refine Pure.drewN ?_ _ | refine Pure.drew ?_ | refine Pure.alloc ?_ _ | refine Pure.setCell ?_ (by simp <;> omega) _))).grown r2 (fun k hk => by have hk2 : some (w.heap.size + 1 + 1) = some k := hk; injection hk2 with hk2; have := HZS.out; omega)); clear r1 r2 r3))
  have HRESq := Lib.hid ((Chg.of_pure (S := fun _ => False) HPq.out).heap HZR.out id)
  have HCq := Lib.hid ((Chg.of_pure (S := fun _ => False) HPq.out).heap HZC.out id)
  have HOWN : Hid (OwnO wq w.heap.size 3 1 (.slice (some ⟨gm, 0, none⟩) m cmm) m (memL m M)) := Lib.hid (by have := OwnO.of_own HOW.out; simpa [memL] using this)
  have hwq : w.heap.size + 2 ≤ wq.heap.size := by have := HPq.out.size; have := HZS.out; omega
  have HPo : Hid ((wq.alloc (.cells #[.slice none 0 0, .slice (some ⟨gm, 0, none⟩) m cmm] 33)).heap[wq.heap.size]? = some (.cells #[.slice none 0 0, .slice (some ⟨gm, 0, none⟩) m cmm] 33 (0, 0))) := Lib.hid (heap_alloc_new wq _)
  clear HEM HCM HOW HZC HZR z0 z1
  go_loopg [4] n (fun gk i wr => ∃ (j : Nat) (vL : Value) (vr vt : Nat → Value), gk + j = n ∧ i = .int .i64 j ∧ Pure wq wr ∧ CrG wq.heap.size wr vL j vr vt L gm ∧
    wr.heap[wq.heap.size]? = some (.cells #[vL, .slice (some ⟨gm, 0, none⟩) m cmm] 33 (0, 0)) ∧ OwnO wr w.heap.size 3 1 (.slice (some ⟨gm, 0, none⟩) m cmm) m (memL m M))
  case atStart =>
    exact ⟨0, .slice none 0 0, fun _ => .slice none 0 0, fun _ => .slice none 0 0, rfl, rfl, by exact (by repeat (first | assumption | exact Pure.refl _ | refine Pure.drewN ?_ _ | refine Pure.drew ?_ | refine Pure.alloc ?_ _ | refine Pure.setCell ?_ (by simp <;> omega) _)), ⟨World.ownsRow_nil _ _ _ _, fun i hi => absurd hi (by omega), fun i hi => absurd hi (by omega)⟩, HPo.out, HOWN.out.pure (by exact (by repeat (first | assumption | exact Pure.refl _ | refine Pure.drewN ?_ _ | refine Pure.drew ?_ | refine Pure.alloc ?_ _ | refine Pure.setCell ?_ (by simp <;> omega) _)))⟩
  case round =>
    obtain ⟨j, vL, vr, vt, hgk, rfl, hp, hcr, hobj, hmem⟩ := hrel
    have Hgk := Lib.hid hgk
    have HCr := Lib.hid hcr
    have HO := Lib.hid hobj
    have HMe := Lib.hid hmem
    have HPr := Lib.hid hp
    have hjn : j ≤ n := by omega
    have HPwr : Hid (Pure w wr) := Lib.hid ((HPZ.out.trans HPq.out).trans hp)
    clear hgk hcr hmem HPo
    have p0 := (cell_of_row wr wq.heap.size 0 _ _ _ hobj).trans (show _ = some vL from rfl)
    have p1 := (cell_of_row wr wq.heap.size 1 _ _ _ hobj).trans (show _ = some (Value.slice (some ⟨gm, 0, none⟩) m cmm) from rfl)
    have hpfr := frozen_of_row wr wq.heap.size 0 _ _ hobj
    have hplt : wq.heap.size < wr.heap.size := (Array.getElem?_eq_some_iff.1 hobj).1
    have hcw := (Chg.of_pure (S := fun _ => False) hp).heap HCq.out id
    have q0 := (cell_of_row wr w.heap.size 0 _ _ _ hcw).trans (show _ = some (Value.slice Al n c0) from rfl)
    clear hobj hcw
    by_cases hlt : j < n
    · have hgmr : gm < wr.heap.size := Nat.lt_of_lt_of_le hgm2 hp.size
      have hwr : w.heap.size ≤ wr.heap.size := Nat.le_trans (by omega) hp.size
      obtain ⟨b, o, rfl, hb, R, T, hx0⟩ := HL.out.at_ (show j < c.ls.length by rw [HNN.out]; exact hlt)
      have hx := hx0.keep HPwr.out
      clear hx0
      have hlk := HOK.out.l j (by rw [HNN.out]; exact hlt)
      obtain ⟨x, Hx⟩ : ∃ x, Hid (c.ls.getD j default = x) := ⟨_, Lib.hid rfl⟩
      rw [Hx.out] at hx hlk
      obtain ⟨l, Hl⟩ : ∃ l, Hid (L j = l) := ⟨_, Lib.hid rfl⟩
      have hlx : l = lnOf x := by rw [← Hl.out, ← HLL.out, lnX_at, Hx.out]
      have HRd : Hid (LnR wr R T l) := Lib.hid (by rw [hlx]; exact hx.read hlk.n)
      have hT3 : l.T.length ≤ 1048576 := by
        rw [hlx]
        show x.ts.length ≤ 1048576
        have h1 := hlk.tl
        have h2 := lpsTo_len cs x.at_.toNat (stkOf cs x.at_.toNat).length
        have h3 := stkOf_len hlk.p (k := x.at_.toNat) (by have := hlk.a1; have := hlk.a0; omega)
        unfold lps at h1
        omega
      have y0 := hx.c0
      have y1 : wr.cell? ⟨b, o + j * 4 + 1, none⟩ = some (.int .i64 (l.at_ : Nat)) := by
        rw [hx.c1, hlx]
        show some (Value.int .i64 x.at_) = some (Value.int .i64 ((x.at_.toNat : Nat) : Int))
        rw [Int.toNat_of_nonneg hlk.a0]
      have y2 := hx.c2
      have y3 : wr.cell? ⟨b, o + j * 4 + 3, none⟩ = some (.bool l.W) := by rw [hx.c3, hlx]; rfl
      clear hx hlk hlx
      go_wp2
      refine region_heldF (fun w' => w'.cell? ⟨wq.heap.size, 0, none⟩ = some vL ∧ w'.cell? ⟨w.heap.size, 0, none⟩ = some (.slice (some ⟨b, o, none⟩) n c0) ∧ w'.cell? ⟨b, o + j * 4, none⟩ = some R ∧ w'.cell? ⟨b, o + j * 4 + 1, none⟩ = some (.int .i64 (l.at_ : Nat)) ∧ w'.cell? ⟨b, o + j * 4 + 2, none⟩ = some T ∧ w'.cell? ⟨b, o + j * 4 + 3, none⟩ = some (.bool l.W))
        (List.range 7) [7, 8, 9, 10, 11] (fun l => List.take 7 l) (fun l => List.drop 7 l) (by kernel_rfl) (by kernel_rfl) (by kernel_rfl) (by kernel_rfl) (fun c a d v w h => by cases d <;> exact h) (by exact ⟨keepP (by repeat (first | assumption | exact Pure.refl _ | refine Pure.drewN ?_ _ | refine Pure.drew ?_ | refine Pure.alloc ?_ _ | refine Pure.setCell ?_ (by simp <;> omega) _)) p0, keepP (by repeat (first | assumption | exact Pure.refl _ | refine Pure.drewN ?_ _ | refine Pure.drew ?_ | refine Pure.alloc ?_ _ | refine Pure.setCell ?_ (by simp <;> omega) _)) q0, keepP (by repeat (first | assumption | exact Pure.refl _ | refine Pure.drewN ?_ _ | refine Pure.drew ?_ | refine Pure.alloc ?_ _ | refine Pure.setCell ?_ (by simp <;> omega) _)) y0, keepP (by repeat (first | assumption | exact Pure.refl _ | refine Pure.drewN ?_ _ | refine Pure.drew ?_ | refine Pure.alloc ?_ _ | refine Pure.setCell ?_ (by simp <;> omega) _)) y1, keepP (by repeat (first | assumption | exact Pure.refl _ | refine Pure.drewN ?_ _ | refine Pure.drew ?_ | refine Pure.alloc ?_ _ | refine Pure.setCell ?_ (by simp <;> omega) _)) y2, keepP (by repeat (first | assumption | exact Pure.refl _ | refine Pure.drewN ?_ _ | refine Pure.drew ?_ | refine Pure.alloc ?_ _ | refine Pure.setCell ?_ (by simp <;> omega) _)) y3⟩) ?_
      simp only [List.take_succ_cons, List.take_zero, List.drop_succ_cons, List.drop_zero]
      iterate 7
        apply held_of
        · exact rfl
        · intro w' hS
          obtain ⟨s0, s1, s2, s3, s4, s5⟩ := hS
          go_simp
          try exact rfl
        try go_simp
      refine held_nil ?_
      unfold Tail
      have HCP := Lib.hid (l6copy_any R T l wr.drew (HRd.out.keep (by repeat (first | assumption | exact Pure.refl _ | refine Pure.drewN ?_ _ | refine Pure.drew ?_ | refine Pure.alloc ?_ _ | refine Pure.setCell ?_ (by simp <;> omega) _))) hT3)
      unfold lnV at HCP
      go_wp2_with fail
      refine HCP.out.mono ?_
      rintro e wc ⟨vr', vt', rfl, hO⟩
      have HPc := Lib.hid ((show Pure wr wr.drew from (by repeat (first | assumption | exact Pure.refl _ | refine Pure.drewN ?_ _ | refine Pure.drew ?_ | refine Pure.alloc ?_ _ | refine Pure.setCell ?_ (by simp <;> omega) _))).trans hO.pure)
      have hlb : LnB wc wr.heap.size vr' vt' l := hO.lnb
      have HLB := Lib.hid hlb
      obtain ⟨⟨g1, cg, rfl⟩, _, ho6⟩ := hlb
      obtain ⟨A6, c6, rfl⟩ := ho6.form
      have e0 := keepP HPc.out p0
      have e1 := keepP HPc.out q0
      have f0 := keepP HPc.out y0
      have f1 := keepP HPc.out y1
      have f2 := keepP HPc.out y2
      have f3 := keepP HPc.out y3
      clear hO HCP p0 p1 q0 y0 y1 y2 y3
      unfold lnV
      go_wp2_with fail
      refine And.intro (by exact ⟨e0, e1, f0, f1, f2, f3⟩) ?_
      unfold Tail
      go_wp2
      refine And.intro (by exact ⟨keepP (by repeat (first | assumption | exact Pure.refl _ | refine Pure.drewN ?_ _ | refine Pure.drew ?_ | refine Pure.alloc ?_ _ | refine Pure.setCell ?_ (by simp <;> omega) _)) e0, keepP (by repeat (first | assumption | exact Pure.refl _ | refine Pure.drewN ?_ _ | refine Pure.drew ?_ | refine Pure.alloc ?_ _ | refine Pure.setCell ?_ (by simp <;> omega) _)) e1, keepP (by repeat (first | assumption | exact Pure.refl _ | refine Pure.drewN ?_ _ | refine Pure.drew ?_ | refine Pure.alloc ?_ _ | refine Pure.setCell ?_ (by simp <;> omega) _)) f0, keepP (by repeat (first | assumption | exact Pure.refl _ | refine Pure.drewN ?_ _ | refine Pure.drew ?_ | refine Pure.alloc ?_ _ | refine Pure.setCell ?_ (by simp <;> omega) _)) f1, keepP (by repeat (first | assumption | exact Pure.refl _ | refine Pure.drewN ?_ _ | refine Pure.drew ?_ | refine Pure.alloc ?_ _ | refine Pure.setCell ?_ (by simp <;> omega) _)) f2, keepP (by repeat (first | assumption | exact Pure.refl _ | refine Pure.drewN ?_ _ | refine Pure.drew ?_ | refine Pure.alloc ?_ _ | refine Pure.setCell ?_ (by simp <;> omega) _)) f3⟩) ?_
      unfold Tail
      have hgx := heap_alloc_new wc (.cells #[.slice (some ⟨g1, 0, none⟩) 4 cg, .int .i64 (l.at_ : Nat), .slice A6 l.T.length c6, .bool l.W] 55)
      have HPl := Lib.hid (HPc.out.trans (show Pure wc (wc.alloc (.cells #[.slice (some ⟨g1, 0, none⟩) 4 cg, .int .i64 (l.at_ : Nat), .slice A6 l.T.length c6, .bool l.W] 55)) from (by repeat (first | assumption | exact Pure.refl _ | refine Pure.drewN ?_ _ | refine Pure.drew ?_ | refine Pure.alloc ?_ _ | refine Pure.setCell ?_ (by simp <;> omega) _))))
      refine wl_append elLane rfl _ _ rfl wq.heap.size vL j _ rfl (own_pure HCr.out.own HPl.out) wc.heap.size 1 1 (laneGv (.slice (some ⟨g1, 0, none⟩) 4 cg) (.slice A6 l.T.length c6) l) rfl rfl (fun i u hu => ?_) (by intro u hu; simp [laneGv] at hu; rcases hu with rfl | rfl | rfl | rfl <;> rfl) (by omega) (by omega) (Nat.le_trans HPr.out.size HPl.out.size) ?_
      · exact (cell_of_row _ _ i _ _ _ hgx).trans (by rw [List.getElem?_toArray]; exact hu)
      intro v5 w5 hown5 hg5
      obtain ⟨g5, c5, hv5, _, _, _, _⟩ := own_form hown5 (by omega)
      subst hv5
      have hc5 : Chg (fun k => vL.ownBlock = some k) (wc.alloc (.cells #[.slice (some ⟨g1, 0, none⟩) 4 cg, .int .i64 (l.at_ : Nat), .slice A6 l.T.length c6, .bool l.W] 55)) w5 := Chg.of_grown hg5 (fun k hk => hk)
      have hvlp : ∀ k, vL.ownBlock = some k → k ≠ wq.heap.size := own_ne_heap HCr.out.own HO.out (by decide)
      have hvlo : ∀ k, vL.ownBlock = some k → wq.heap.size ≤ k := fun k hk => (own_lt HCr.out.own k hk).1
      have hO5 : w5.heap[wq.heap.size]? = some (.cells #[vL, .slice (some ⟨gm, 0, none⟩) m cmm] 33 (0, 0)) := hc5.heap ((Chg.of_pure (S := fun _ => False) HPl.out).heap HO.out id) (fun e => hvlp _ e rfl)
      have HO5 := Lib.hid hO5
      have z5 := (cell_of_row w5 wq.heap.size 0 _ _ _ hO5).trans (show _ = some vL from rfl)
      have zf5 := frozen_of_row w5 wq.heap.size 0 _ _ hO5
      have x1 := keepC hc5 (fun e => by have := hvlo _ e; omega) (keepP (show Pure wc _ from (by repeat (first | assumption | exact Pure.refl _ | refine Pure.drewN ?_ _ | refine Pure.drew ?_ | refine Pure.alloc ?_ _ | refine Pure.setCell ?_ (by simp <;> omega) _))) e1)
      have x2 := keepC hc5 (fun e => by have := hvlo _ e; omega) (keepP (show Pure wc _ from (by repeat (first | assumption | exact Pure.refl _ | refine Pure.drewN ?_ _ | refine Pure.drew ?_ | refine Pure.alloc ?_ _ | refine Pure.setCell ?_ (by simp <;> omega) _))) f0)
      have x3 := keepC hc5 (fun e => by have := hvlo _ e; omega) (keepP (show Pure wc _ from (by repeat (first | assumption | exact Pure.refl _ | refine Pure.drewN ?_ _ | refine Pure.drew ?_ | refine Pure.alloc ?_ _ | refine Pure.setCell ?_ (by simp <;> omega) _))) f1)
      have x4 := keepC hc5 (fun e => by have := hvlo _ e; omega) (keepP (show Pure wc _ from (by repeat (first | assumption | exact Pure.refl _ | refine Pure.drewN ?_ _ | refine Pure.drew ?_ | refine Pure.alloc ?_ _ | refine Pure.setCell ?_ (by simp <;> omega) _))) f2)
      have x5 := keepC hc5 (fun e => by have := hvlo _ e; omega) (keepP (show Pure wc _ from (by repeat (first | assumption | exact Pure.refl _ | refine Pure.drewN ?_ _ | refine Pure.drew ?_ | refine Pure.alloc ?_ _ | refine Pure.setCell ?_ (by simp <;> omega) _))) f3)
      have HN5 := Lib.hid (crowdG_next HCr.out HPl.out HPr.out hgmr (by rw [Hl.out]; exact HLB.out.pure (by repeat (first | assumption | exact Pure.refl _ | refine Pure.drewN ?_ _ | refine Pure.drew ?_ | refine Pure.alloc ?_ _ | refine Pure.setCell ?_ (by simp <;> omega) _))) HO.out HMe.out (by rw [Hl.out]; exact hown5) hg5)
      clear hown5 hg5 hc5 hO5 hgx hvlp hvlo e0 e1 f0 f1 f2 f3
      go_wp2
      refine And.intro (by exact ⟨z5, x1, x2, x3, x4, x5⟩) ?_
      unfold Tail
      go_wp2
      refine And.intro (by exact ⟨z5, x1, x2, x3, x4, x5⟩) ?_
      unfold Tail
      go_wp2
      go_roundg (n - (j + 1))
      case measure => have := Hgk.out; omega
      case rel => exact ⟨j + 1, _, _, _, by have := Hgk.out; omega, by go_num, HN5.out⟩
    · have hjl : j = n := by omega
      subst hjl
      obtain ⟨gl, cl, hvl, hg1, hg2, hg3, hg4⟩ := own_form HCr.out.own (by omega)
      subst hvl
      have hres := (Chg.of_pure (S := fun _ => False) HPr.out).heap HRESq.out id
      have k0 := cell_of_row _ _ 0 _ _ _ hres
      have k1 := cell_of_row _ _ 1 _ _ _ hres
      simp only [List.getElem?_toArray, List.getElem?_cons_zero, List.getElem?_cons_succ] at k0 k1
      have kf0 := frozen_of_row _ _ 0 _ _ hres
      have kf1 := frozen_of_row _ _ 1 _ _ hres
      have hgmw : gm ≠ w.heap.size + 1 := fun e => ne_of_heap (HMe.out.heap rfl).choose_spec hres (by decide) e
      have hxw : wq.heap.size ≠ w.heap.size + 1 := by omega
      clear hres
      go_wp2
      refine bodyPost_ret (v := .agg #[.slice (some ⟨gl, 0, none⟩) j cl, .slice (some ⟨gm, 0, none⟩) m cmm]) (by simp [results, Try.results138, go_sem, k0, k1]) rfl ?_
      have hcw : ∀ (u : World) (i : Nat) (x : Value), Chg (fun b => b = w.heap.size + 1) u (u.setCell ⟨w.heap.size + 1, i, none⟩ x) := fun u i x => Chg.of_set u _ _ _ rfl
      have hcc := (hcw wr 0 (.slice (some ⟨gl, 0, none⟩) j cl)).trans (hcw (wr.setCell ⟨w.heap.size + 1, 0, none⟩ (.slice (some ⟨gl, 0, none⟩) j cl)) 1 (.slice (some ⟨gm, 0, none⟩) m cmm))
      refine ⟨gl, cl, gm, cmm, vr, vt, rfl, CrG.crw ((HCr.out.base (by omega)).chg hcc (fun g hg e => ?_) (fun i hi g hg e => ?_)) hn1 hn8 hg3 hg4 ⟨hm1, hm2, HMe.out.chg hcc (fun g hg e => ?_), HWM.out⟩, Chg.pure HPwr.out hcc (fun k hk => by rw [hk]; omega)⟩
      · have := (own_lt HCr.out.own g hg).1; omega
      · rcases hg with hg | hg
        · have := ((HCr.out.lnb i hi).2.1.lt g hg).1; omega
        · have := ((HCr.out.lnb i hi).2.2.lt g hg).1; omega
      · simp [Value.ownBlock] at hg; omega

end Go.Proofs.Ytajaonejpggcbaa
