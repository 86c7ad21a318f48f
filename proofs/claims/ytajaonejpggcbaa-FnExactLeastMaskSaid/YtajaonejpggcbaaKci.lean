/- Whether all of the program's lanes are at the end; a step of one lane, and of those of a mask. The program's new lanes, and crowds of them. Lanes that run by themselves come to the end, soon enough; there they leave what lockstep leaves. No program in sight. Orders of lanes: the program finds valid ones valid. No condition. -/
import Derived.Test.YtajaonejpggcbaaKac
import Derived.Test.YtajaonejpggcbaaKbd
import Derived.Test.YtajaonejpggcbaaKbe
import Derived.Test.YtajaonejpggcbaaKca
import Derived.Test.YtajaonejpggcbaaKce
import Derived.Test.YtajaonejpggcbaaKch

namespace Go.Proofs.Ytajaonejpggcbaa
open Go.RowKit

set_option maxHeartbeats 1000000 in
theorem iover1_any (w : World) (bx pm n c : Nat) (A : Option Addr) (r t : Value) (a : Int) (W : Bool) (hbx : w.cell? ⟨bx, 0, none⟩ = some (.pointer (some ⟨pm, 0, none⟩))) (hm : w.cell? ⟨pm, 0, none⟩ = some (.slice A n c)) :
    Calls Try.prog 132 #[.agg #[r, .int .i64 a, t, .bool W], .pointer (some ⟨bx, 0, none⟩)] w fun e w' => e = .returned (.bool (!(a == (n : Int)))) ∧ Pure w w' := by
  have hx := heap_alloc_new w (.cells #[r, .int .i64 a, t, .bool W] 55)
  have hp : Pure w (w.alloc (.cells #[r, .int .i64 a, t, .bool W] 55)) := (Pure.refl _).alloc _
  have q1 := (cell_of_row _ _ 1 _ _ _ hx).trans (show _ = some (.int .i64 a) from rfl)
  have hm' := keepP hp hm
  have hb := World.block_lt_of_cell? _ _ hbx
  go_enter Try.func132, Try.ntmps132
  go_wp2_with fail
  refine (idone_raw _ pm w.heap.size 0 n c A a hm' q1).mono ?_
  rintro e w1 ⟨rfl, hp1⟩
  go_wp2
  go_ret
  exact ⟨rfl, hp.trans hp1⟩

def OverR (o : MO) (L : Nat → Ln) (r : Int) : Prop := (0 ≤ r ∧ ¬ ∀ l, l < o.n → (L l).at_ = o.cs.length) ∨ (r = -1 ∧ ∀ l, l < o.n → (L l).at_ = o.cs.length)

set_option maxHeartbeats 2000000 in
set_option maxRecDepth 100000 in
theorem ioverix_any (o : MO) (w : World) (vt : Nat → Value) (L : Nat → Ln) (M : Nat → Int) (h : MRun o w vt L M) (bx : Nat) (hbx : w.cell? ⟨bx, 0, none⟩ = some (.pointer (some ⟨o.pm, 0, none⟩))) :
    Calls Try.prog 123 #[o.vL, .func (.func 132) #[] #[.pointer (some ⟨bx, 0, none⟩)]] w fun e w' => ∃ r, e = .returned (.int .i64 r) ∧ OverR o L r ∧ Pure w w' := by
  have H := Lib.hid h
  have hn8 := h.n8
  have hcl1 := h.cl1
  have hcl2 := h.cl2
  have hglw : o.gl < w.heap.size := h.glLt
  clear h
  unfold MO.vL
  go_enter Try.func123, Try.ntmps123
  go_wp2
  go_loopg [8] o.n (fun gk i wr => ∃ j : Nat, gk + j = o.n ∧ i = .int .i64 j ∧ Pure w wr ∧ ∀ l, l < j → (L l).at_ = o.cs.length)
  case atStart => exact ⟨0, rfl, rfl, Pure.refl _, fun j hj => absurd hj (by omega)⟩
  case round =>
    obtain ⟨j, hgk, rfl, hp, hall⟩ := hrel
    have Hgk := Lib.hid hgk
    have Hall := Lib.hid hall
    have HP := Lib.hid hp
    have hjn : j ≤ o.n := by omega
    have hbx := keepP hp hbx
    clear hgk hall hp
    by_cases hlt : j < o.n
    · have hj0 : (0 : Int) ≤ (j : Int) := by omega
      have hjI : (j : Int) < (o.n : Int) := by omega
      have hr := H.out.keep HP.out
      obtain ⟨q0, q1, q2, q3, _⟩ := hr.laneCells hlt
      obtain ⟨A, c, hv, hm⟩ := hr.machCell
      obtain ⟨W, HWW⟩ : ∃ W, Hid ((L j).W = W) := ⟨_, Lib.hid rfl⟩
      obtain ⟨a, Ha⟩ : ∃ a, Hid ((L j).at_ = a) := ⟨_, Lib.hid rfl⟩
      rw [HWW.out] at q3
      rw [Ha.out] at q1
      have HM := Lib.hid hm
      clear hr hv hm
      by_cases ha : a = o.cs.length
      · have Hb : Hid ((!((a : Int) == (o.cs.length : Int))) = false) := Lib.hid (by rw [ha]; simp)
        have Hnext : Hid (∀ l, l < j + 1 → (L l).at_ = o.cs.length) := Lib.hid fun l hl => by
          by_cases e : l = j
          · rw [e, Ha.out, ha]
          · exact Hall.out l (by omega)
        clear ha
        go_wp2_with fail
        refine (iover1_any _ bx o.pm o.cs.length c A _ _ a W hbx HM.out).mono ?_
        rintro e w1 ⟨rfl, hp1⟩
        rw [Hb.out]
        go_wp2
        go_roundg (o.n - (j + 1))
        case measure => have := Hgk.out; omega
        case rel => exact ⟨j + 1, by have := Hgk.out; omega, by go_num, HP.out.trans hp1, Hnext.out⟩
      · have Hb : Hid ((!((a : Int) == (o.cs.length : Int))) = true) := Lib.hid (by rw [Bool.not_eq_true', beq_eq_false_iff_ne]; omega)
        have Hbad : Hid (OverR o L (j : Nat)) := Lib.hid (.inl ⟨by omega, fun h => ha (by rw [← Ha.out]; exact h j hlt)⟩)
        clear ha
        go_wp2_with fail
        refine (iover1_any _ bx o.pm o.cs.length c A _ _ a W hbx HM.out).mono ?_
        rintro e w1 ⟨rfl, hp1⟩
        rw [Hb.out]
        go_wp2
        go_ret
        exact ⟨_, rfl, Hbad.out, HP.out.trans hp1⟩
    · have hw : Hid (OverR o L (-1)) := Lib.hid (.inr ⟨rfl, fun j hj => Hall.out j (by omega)⟩)
      go_wp2
      go_ret
      exact ⟨_, rfl, hw.out, HP.out⟩

set_option maxHeartbeats 1000000 in
theorem iovercf_any (o : MO) (w : World) (vt : Nat → Value) (L : Nat → Ln) (M : Nat → Int) (h : MRun o w vt L M) (bx : Nat) (hbx : w.cell? ⟨bx, 0, none⟩ = some (.pointer (some ⟨o.pm, 0, none⟩))) (B : Bool) (hB : B = true ↔ ∀ l, l < o.n → (L l).at_ = o.cs.length) :
    Calls Try.prog 84 #[o.vL, .func (.func 132) #[] #[.pointer (some ⟨bx, 0, none⟩)]] w fun e w' => e = .returned (.bool (!B)) ∧ Pure w w' := by
  have H := Lib.hid h
  have HB := Lib.hid hB
  clear h hB
  go_enter Try.func84, Try.ntmps84
  go_wp2_with fail
  refine (ioverix_any o _ vt L M H.out bx hbx).mono ?_
  rintro e w1 ⟨r, rfl, hr, hp⟩
  rcases hr with ⟨h0, hbad⟩ | ⟨rfl, hall⟩
  · have hf : B = false := by
      cases hb : B
      · rfl
      · exact absurd (HB.out.1 hb) hbad
    subst hf
    clear hbad
    go_wp2
    go_ret
    exact ⟨ret_bool (by simp [h0]), hp⟩
  · have ht : B = true := HB.out.2 hall
    subst ht
    clear hall
    go_wp2
    go_ret
    exact ⟨rfl, hp⟩

set_option maxHeartbeats 1000000 in
theorem iover_any (o : MO) (w : World) (vt : Nat → Value) (L : Nat → Ln) (M : Nat → Int) (h : MRun o w vt L M) (B : Bool) (hB : B = true ↔ ∀ l, l < o.n → (L l).at_ = o.cs.length) :
    Calls Try.prog 96 #[.pointer (some ⟨o.pm, 0, none⟩), .pointer (some ⟨o.gc, 0, none⟩)] w fun e w' => e = .returned (.bool B) ∧ Pure w w' := by
  have H := Lib.hid h
  have HB := Lib.hid hB
  obtain ⟨g0, _⟩ := h.crowdCells
  have hp : Pure w (w.alloc (.cells #[.pointer (some ⟨o.pm, 0, none⟩)] 71)) := (Pure.refl _).alloc _
  have hx := (cell_of_row _ _ 0 _ _ _ (heap_alloc_new w (.cells #[.pointer (some ⟨o.pm, 0, none⟩)] 71))).trans (show _ = some (.pointer (some ⟨o.pm, 0, none⟩)) from rfl)
  have HX := Lib.hid hx
  have HP := Lib.hid hp
  have hgcw := World.block_lt_of_cell? _ _ g0
  clear h hB hx hp
  go_enter Try.func96, Try.ntmps96
  go_wp2_with fail
  refine (iovercf_any o _ vt L M (H.out.keep HP.out) _ HX.out B HB.out).mono ?_
  rintro e w1 ⟨rfl, hp1⟩
  go_wp2
  go_ret
  exact ⟨ret_bool (by simp), HP.out.trans hp1⟩

/-- Every lane is on its way. -/
def OnW (o : MO) (L : Nat → Ln) : Prop := ∀ l, l < o.n → ∃ W, OnWay o.cs (L l) W
theorem OnW.le {o : MO} {L : Nat → Ln} (h : OnW o L) : ∀ k, k < o.n → (L k).at_ ≤ o.cs.length := fun k hk => (h k hk).elim fun _ h => h.le
theorem OnW.step {o : MO} {L : Nat → Ln} (h : OnW o L) (M : Nat → Int) {k : Nat} (hk : k < o.n) : OnW o (stepL o L M k) := by
  intro l hl
  unfold stepL
  split
  · rename_i hg
    unfold upL
    split
    · obtain ⟨W, hw⟩ := h k hk
      exact ⟨_, (hw.step (m := o.m) (id := k) (M := M) (goes_iff.1 hg).2).2⟩
    · exact h l hl
  · exact h l hl
theorem OnW.pass {o : MO} {L : Nat → Ln} (h : OnW o L) : OnW o (passL o L) := by
  intro l hl
  unfold passL
  split
  · exact h l hl
  · unfold freeL
    rw [if_pos hl]
    obtain ⟨W, hw⟩ := h l hl
    exact ⟨W, hw.pass false⟩
theorem ord_eq (o : MO) (L : Nat → Ln) (M : Nat → Int) (k : Nat) : ordStep o.cs o.n o.m k (L, M) = (passL o (stepL o L M k), stepM o L M k) := by
  unfold ordStep passL stepL stepM
  simp only
  by_cases hg : goesL o.cs.length (L k) = true
  · simp only [hg, if_true]; rfl
  · simp only [hg]; rfl

set_option maxHeartbeats 2000000 in
set_option maxRecDepth 100000 in
theorem istepof_any (o : MO) (hv : PValid o.cs) (w : World) (vt : Nat → Value) (L : Nat → Ln) (M : Nat → Int) (h : MRun o w vt L M) (hw : OnW o L) (k : Nat) (hk : k < o.n) :
    Calls Try.prog 116 #[.pointer (some ⟨o.pm, 0, none⟩), .pointer (some ⟨o.gc, 0, none⟩), .int .i64 (k : Nat)] w (MPost o w vt (ordStep o.cs o.n o.m k (L, M)).1 (ordStep o.cs o.n o.m k (L, M)).2) := by
  have H := Lib.hid h
  have HV := Lib.hid hv
  have HW := Lib.hid hw
  obtain ⟨g0, g1⟩ := h.crowdCells
  have hcl1 := h.cl1
  have hcl2 := h.cl2
  have hn8 := h.n8
  have hk0 : (0 : Int) ≤ (k : Int) := by omega
  have hkI : (k : Int) < (o.n : Int) := by omega
  unfold MO.vL at g0
  rw [ord_eq]
  clear h hv hw
  go_enter Try.func116, Try.ntmps116
  go_wp2_with fail
  refine region_tail 12 (by kernel_rfl) (by kernel_rfl) ?_
  simp only [List.take_succ_cons, List.take_zero, List.drop_succ_cons, List.drop_zero]
  repeat still_step
  refine wpStill_nil ?_
  go_wp2_with fail
  obtain ⟨W, hW⟩ := HW.out k hk
  refine (istep_any o HV.out _ vt L M (H.out.keep (by repeat (first | assumption | exact Pure.refl _ | refine Pure.drewN ?_ _ | refine Pure.drew ?_ | refine Pure.alloc ?_ _ | refine Pure.setCell ?_ (by simp <;> omega) _))) k hk W hW).mono ?_
  rintro e w2 ⟨rfl, vt2, h2, s2⟩
  have H2 := Lib.hid h2
  have HS2 := Lib.hid ((MStep.of_pure (show Pure w w.drew from (by repeat (first | assumption | exact Pure.refl _ | refine Pure.drewN ?_ _ | refine Pure.drew ?_ | refine Pure.alloc ?_ _ | refine Pure.setCell ?_ (by simp <;> omega) _)))).trans s2)
  have HW2 := Lib.hid (HW.out.step M hk)
  clear h2 s2 hW
  go_wp2_with fail
  refine (ipass_any o _ vt2 _ _ H2.out HW2.out.le).mono ?_
  rintro e w3 ⟨rfl, vt3, h3, s3⟩
  go_wp2
  go_end0
  exact ⟨rfl, vt3, h3, HS2.out.trans s3⟩

end Go.Proofs.Ytajaonejpggcbaa

namespace Go.Proofs.Ytajaonejpggcbaa
open Go.RowKit

theorem elLane : ElT Try.prog 31 55 4 [.slice none 0 0, .int .i64 0, .slice none 0 0, .bool false] 64 := ⟨by kernel_rfl, ⟨.agg #[.slice none 0 0, .int .i64 0, .slice none 0 0, .bool false], by kernel_rfl, by kernel_rfl, rfl⟩, by decide⟩
def lane0 (g : Nat) : Value := .agg #[.slice (some ⟨g, 0, none⟩) 4 4, .int .i64 0, .slice none 0 0, .bool false]
def lane0L (g : Nat) : List Value := [.slice (some ⟨g, 0, none⟩) 4 4, .int .i64 0, .slice none 0 0, .bool false]
def zero4 : Array Value := #[.int .i64 0, .int .i64 0, .int .i64 0, .int .i64 0]
def NewP (w : World) (e : Ending) (w' : World) : Prop := ∃ g, e = .returned (lane0 g) ∧ w.heap.size ≤ g ∧ w'.heap[g]? = some (.cells zero4 3 (0, 0)) ∧ Pure w w'

set_option maxHeartbeats 1000000 in
theorem inewlane_any (w : World) : Calls Try.prog 131 #[] w (NewP w) := by
  have hx := heap_alloc_new w (.cells #[.slice none 0 0, .int .i64 0, .slice none 0 0, .bool false] 55)
  have HX := Lib.hid hx
  clear hx
  go_enter Try.func131, Try.ntmps131
  go_wp2_with (at_make; refine wl_make elInt rfl _ _ rfl w.heap.size _ _ _ _ 4 rfl rfl rfl rfl (by decide) (by decide) (by simp) ?_; intro w4 hown4 hp4 hsz4; have HZ4 := Lib.hid (own_zero4 hown4); have HP4 := Lib.hid hp4; have hb4 := (Chg.of_pure (S := fun _ => False) hp4).heap HX.out id; have k0 := cell_of_row _ _ 0 _ _ _ hb4; have k1 := cell_of_row _ _ 1 _ _ _ hb4; have k2 := cell_of_row _ _ 2 _ _ _ hb4; have k3 := cell_of_row _ _ 3 _ _ _ hb4; simp only [List.getElem?_toArray, List.getElem?_cons_zero, List.getElem?_cons_succ] at k0 k1 k2 k3; have kf := fun j => frozen_of_row _ _ j _ _ hb4; have kf0 := kf 0; have kf1 := kf 1; have kf2 := kf 2; have kf3 := kf 3; clear hown4 hp4 hb4 kf)
  refine bodyPost_ret (v := lane0 (w.heap.size + 1)) (by simp [results, Try.results131, lane0, go_sem, k0, k1, k2, k3]) rfl ?_
  have hz : w4.heap[w.heap.size + 1]? = some (.cells zero4 3 (0, 0)) := by have := HZ4.out; simpa [zero4] using this
  refine ⟨w.heap.size + 1, rfl, by omega, ?_, ?_⟩
  · have hc : ∀ (u : World) (j : Nat) (x : Value), Chg (fun b => b = w.heap.size) u (u.setCell ⟨w.heap.size, j, none⟩ x) := fun u j x => Chg.of_set u _ _ _ rfl
    exact (hc _ _ _).heap ((hc _ _ _).heap ((hc _ _ _).heap ((hc _ _ _).heap hz (by omega)) (by omega)) (by omega)) (by omega)
  · have hp : Pure w w4 := ((Pure.refl w).alloc _).trans HP4.out
    exact (by repeat (first | assumption | exact Pure.refl _ | refine Pure.drewN ?_ _ | refine Pure.drew ?_ | refine Pure.alloc ?_ _ | refine Pure.setCell ?_ (by simp <;> omega) _))

/-- New lanes so far, in a slice. -/
def laneLs (rows : Nat → Nat) (j : Nat) : List Value := (List.range j).flatMap fun i => lane0L (rows i)
theorem laneLs_len (rows : Nat → Nat) : ∀ j, (laneLs rows j).length = j * 4
  | 0 => rfl
  | j + 1 => by
    have := laneLs_len rows j
    unfold laneLs at this ⊢
    rw [List.range_succ, List.flatMap_append, List.length_append, this]
    simp [lane0L]; omega
theorem laneLs_succ (rows : Nat → Nat) (j : Nat) : laneLs rows (j + 1) = laneLs rows j ++ lane0L (rows j) := by
  unfold laneLs; rw [List.range_succ, List.flatMap_append]; simp
theorem laneLs_congr {rows rows' : Nat → Nat} {j : Nat} (h : ∀ i, i < j → rows i = rows' i) : laneLs rows j = laneLs rows' j := by
  induction j with
  | zero => rfl
  | succ j ih => rw [laneLs_succ, laneLs_succ, ih fun i hi => h i (by omega), h j (by omega)]
theorem laneLs_at (rows : Nat → Nat) : ∀ {j k i : Nat}, k < j → i < 4 → (laneLs rows j)[k * 4 + i]? = (lane0L (rows k))[i]?
  | 0, _, _, h, _ => by omega
  | j + 1, k, i, h, hi => by
    rw [laneLs_succ]
    by_cases e : k = j
    · subst e
      rw [List.getElem?_append_right (by rw [laneLs_len]; omega), laneLs_len]
      congr 1; omega
    · rw [List.getElem?_append_left (by rw [laneLs_len]; omega)]
      exact laneLs_at rows (by omega) hi
structure CrB (B : Nat) (w : World) (vL : Value) (j : Nat) (rows : Nat → Nat) (gm : Nat) : Prop where
  own : w.ownsRow B 55 4 vL j (laneLs rows j)
  lo : ∀ i, i < j → B ≤ rows i
  row : ∀ i, i < j → w.heap[rows i]? = some (.cells zero4 3 (0, 0))
  inj : ∀ i k, i < j → k < j → rows i = rows k → i = k
  ne : ∀ i, i < j → rows i ≠ gm
theorem CrB.pure {w w' : World} {B j gm : Nat} {vL : Value} {rows : Nat → Nat} (h : CrB B w vL j rows gm) (hp : Pure w w') : CrB B w' vL j rows gm :=
  ⟨own_pure h.own hp, h.lo, fun i hi => (Chg.of_pure (S := fun _ => False) hp).heap (h.row i hi) id, h.inj, h.ne⟩
theorem CrB.chg {S : Nat → Prop} {w w' : World} {B j gm : Nat} {vL : Value} {rows : Nat → Nat} (h : CrB B w vL j rows gm) (hc : Chg S w w') (h1 : ∀ g, vL.ownBlock = some g → ¬ S g) (h2 : ∀ i, i < j → ¬ S (rows i)) : CrB B w' vL j rows gm := by
  refine ⟨⟨h.own.1, ?_⟩, h.lo, fun i hi => hc.heap (h.row i hi) (h2 i hi), h.inj, h.ne⟩
  rcases h.own.2 with q | ⟨g, cap, cur, rfl, q1, q2, q3⟩
  · exact .inl q
  · exact .inr ⟨g, cap, cur, rfl, q1, hc.heap q2 (h1 g rfl), q3⟩
theorem CrB.base {w : World} {B B' j gm : Nat} {vL : Value} {rows : Nat → Nat} (h : CrB B w vL j rows gm) (hB : B' ≤ B) : CrB B' w vL j rows gm := by
  refine ⟨⟨h.own.1, ?_⟩, fun i hi => Nat.le_trans hB (h.lo i hi), h.row, h.inj, h.ne⟩
  rcases h.own.2 with q | ⟨g, cap, cur, rfl, q1, q2, q3⟩
  · exact .inl q
  · exact .inr ⟨g, cap, cur, rfl, Nat.le_trans hB q1, q2, q3⟩
theorem CrB.push {w w1 w2 : World} {B j g gm : Nat} {vL vL' : Value} {rows : Nat → Nat} (h : CrB B w vL j rows gm) (hp : Pure w w1) (hg : w.heap.size ≤ g) (hB : B ≤ w.heap.size) (hgm : gm < w.heap.size) (hz : w1.heap[g]? = some (.cells zero4 3 (0, 0)))
    (ho : w2.ownsRow B 55 4 vL' (j + 1) (laneLs rows j ++ lane0L g)) (hgr : w1.grownBy w2 vL.ownBlock) : CrB B w2 vL' (j + 1) (fun i => if i = j then g else rows i) gm := by
  have h1 := h.pure hp
  have hc : Chg (fun k => vL.ownBlock = some k) w1 w2 := Chg.of_grown hgr (fun k hk => hk)
  have hlt : ∀ i, i < j → rows i < w.heap.size := fun i hi => (Array.getElem?_eq_some_iff.1 (h.row i hi)).1
  refine ⟨?_, fun i hi => ?_, fun i hi => ?_, fun i k hi hk e => ?_, fun i hi => ?_⟩
  · rw [laneLs_succ, if_pos rfl, laneLs_congr (rows' := rows) (fun i hi => if_neg (by omega))]; exact ho
  · show B ≤ if i = j then g else rows i
    split
    · omega
    · exact h.lo i (by omega)
  · show w2.heap[if i = j then g else rows i]? = _
    split
    · exact hc.heap hz (fun e => own_ne_heap h1.own hz (by decide) _ e rfl)
    · exact hc.heap (h1.row i (by omega)) (fun e => own_ne_heap h1.own (h1.row i (by omega)) (by decide) _ e rfl)
  · try simp only at e
    by_cases e1 : i = j
    · by_cases e2 : k = j
      · omega
      · rw [if_pos e1, if_neg e2] at e
        have := hlt k (by omega); omega
    · by_cases e2 : k = j
      · rw [if_neg e1, if_pos e2] at e
        have := hlt i (by omega); omega
      · rw [if_neg e1, if_neg e2] at e
        exact h.inj i k (by omega) (by omega) e
  · show (if i = j then g else rows i) ≠ gm
    split
    · omega
    · exact h.ne i (by omega)

/-- A lane more in a crowd. -/
theorem crowd_next {wq wr w1 w5 : World} {B' j g gm cm n : Nat} {vL v5 : Value} {rows : Nat → Nat} {xs : List Value} (h : CrB wq.heap.size wr vL j rows gm) (hp : Pure wr w1) (hqr : Pure wq wr) (hg : wr.heap.size ≤ g) (hgm : gm < wr.heap.size) (hz : w1.heap[g]? = some (.cells zero4 3 (0, 0)))
    (hO : wr.heap[wq.heap.size]? = some (.cells #[vL, .slice (some ⟨gm, 0, none⟩) n cm] 33 (0, 0))) (hM : OwnO wr B' 3 1 (.slice (some ⟨gm, 0, none⟩) n cm) n xs)
    (ho : w5.ownsRow wq.heap.size 55 4 v5 (j + 1) (laneLs rows j ++ lane0L g)) (hgr : w1.grownBy w5 vL.ownBlock) :
    Pure wq (w5.setCell ⟨wq.heap.size, 0, none⟩ v5) ∧ CrB wq.heap.size (w5.setCell ⟨wq.heap.size, 0, none⟩ v5) v5 (j + 1) (fun i => if i = j then g else rows i) gm ∧
    (w5.setCell ⟨wq.heap.size, 0, none⟩ v5).heap[wq.heap.size]? = some (.cells #[v5, .slice (some ⟨gm, 0, none⟩) n cm] 33 (0, 0)) ∧ OwnO (w5.setCell ⟨wq.heap.size, 0, none⟩ v5) B' 3 1 (.slice (some ⟨gm, 0, none⟩) n cm) n xs := by
  have hc5 : Chg (fun k => vL.ownBlock = some k) w1 w5 := Chg.of_grown hgr (fun k hk => hk)
  have hvlp : ∀ k, vL.ownBlock = some k → k ≠ wq.heap.size := own_ne_heap h.own hO (by decide)
  have hO5 : w5.heap[wq.heap.size]? = some (.cells #[vL, .slice (some ⟨gm, 0, none⟩) n cm] 33 (0, 0)) := hc5.heap ((Chg.of_pure (S := fun _ => False) hp).heap hO id) (fun e => hvlp _ e rfl)
  have hR5 := h.push hp hg hqr.size hgm hz ho hgr
  have hM1 := hM.pure hp
  have hM5 := hM1.chg hc5 (fun k hk e => (OwnO.of_own (own_pure h.own hp)).ne hM1 (by decide) k e hk.symm)
  have hP5 : Pure wq w5 := Chg.pure (hqr.trans hp) hc5 (fun k hk => (own_lt h.own k hk).1)
  have hc6 : Chg (fun k => k = wq.heap.size) w5 (w5.setCell ⟨wq.heap.size, 0, none⟩ v5) := Chg.of_set w5 _ _ _ rfl
  refine ⟨Chg.pure hP5 hc6 (fun k hk => by rw [hk]; exact Nat.le_refl _), hR5.chg hc6 (fun g hg e => own_ne_heap hR5.own hO5 (by decide) g hg e) (fun i hi e => ne_of_heap (hR5.row i hi) hO5 (by decide) e), ?_, hM5.chg hc6 (fun g hg e => hM5.ne_heap hO5 (by decide) g hg e)⟩
  rw [heap_setCell_same w5 wq.heap.size 0 _ _ _ hO5]; rfl

/-- A new crowd: its lanes and its memory. -/
def CrowdP (B : Nat) (w : World) (n : Nat) (mem : List Int) (gl cl gm cm : Nat) (rows : Nat → Nat) : Prop :=
  CrB B w (.slice (some ⟨gl, 0, none⟩) n cl) n rows gm ∧ OwnO w B 3 1 (.slice (some ⟨gm, 0, none⟩) mem.length cm) mem.length ((List.range mem.length).map fun j => .int .i64 (mem.getD j 0))
def NewC (n : Nat) (mem : List Int) (w : World) (e : Ending) (w' : World) : Prop :=
  ∃ gl cl gm cm rows, e = .returned (.agg #[.slice (some ⟨gl, 0, none⟩) n cl, .slice (some ⟨gm, 0, none⟩) mem.length cm]) ∧ CrowdP w.heap.size w' n mem gl cl gm cm rows ∧ n ≤ cl ∧ cl ≤ 9223372036854775807 ∧ Pure w w'

set_option maxHeartbeats 4000000 in
set_option maxRecDepth 100000 in
theorem inewcrowd_any (v : Value) (mem : List Int) (n : Nat) (w : World) (h : Ints w v mem) (hm1 : 1 ≤ mem.length) (hm2 : mem.length ≤ 32) (hn1 : 1 ≤ n) (hn8 : n ≤ 8) : Calls Try.prog 95 #[.int .i64 (n : Nat), v] w (NewC n mem w) := by
  have H := Lib.hid h
  obtain ⟨A, c, rfl⟩ := h.form
  have hx := heap_alloc_new w (.cells #[.slice none 0 0, .slice none 0 0] 33)
  have HX := Lib.hid hx
  clear h hx
  go_enter Try.func95, Try.ntmps95
  go_wp2_with fail
  refine (clone_any _ mem _ (H.out.keep (by repeat (first | assumption | exact Pure.refl _ | refine Pure.drewN ?_ _ | refine Pure.drew ?_ | refine Pure.alloc ?_ _ | refine Pure.setCell ?_ (by simp <;> omega) _))) hm1 (by omega)).mono ?_
  rintro e wq ⟨gm, cmm, rfl, hown, hp⟩
  obtain ⟨hgm1, hgm2⟩ := hown.lt gm rfl
  have HOWN := Lib.hid hown
  have HP := Lib.hid hp
  have HRES := Lib.hid ((Chg.of_pure (S := fun _ => False) hp).heap HX.out id)
  clear hown hp
  go_wp2
  have HPo : Hid ((wq.alloc (.cells #[.slice none 0 0, .slice (some ⟨gm, 0, none⟩) mem.length cmm] 33)).heap[wq.heap.size]? = some (.cells #[.slice none 0 0, .slice (some ⟨gm, 0, none⟩) mem.length cmm] 33 (0, 0))) := Lib.hid (heap_alloc_new wq _)
  have hwq : w.heap.size + 1 ≤ wq.heap.size := by have := HP.out.size; simpa using this
  go_loopg [10] n (fun gk i wr => ∃ (j : Nat) (vL : Value) (rows : Nat → Nat), gk + j = n ∧ i = .int .i64 j ∧ Pure wq wr ∧ CrB wq.heap.size wr vL j rows gm ∧
    wr.heap[wq.heap.size]? = some (.cells #[vL, .slice (some ⟨gm, 0, none⟩) mem.length cmm] 33 (0, 0)) ∧
    OwnO wr w.heap.size 3 1 (.slice (some ⟨gm, 0, none⟩) mem.length cmm) mem.length ((List.range mem.length).map fun j => .int .i64 (mem.getD j 0)))
  case atStart =>
    refine ⟨0, .slice none 0 0, fun _ => 0, rfl, rfl, by exact (by repeat (first | assumption | exact Pure.refl _ | refine Pure.drewN ?_ _ | refine Pure.drew ?_ | refine Pure.alloc ?_ _ | refine Pure.setCell ?_ (by simp <;> omega) _)), ⟨World.ownsRow_nil _ _ _ _, fun i hi => absurd hi (by omega), fun i hi => absurd hi (by omega), fun i k hi => absurd hi (by omega), fun i hi => absurd hi (by omega)⟩, HPo.out, (OwnO.base HOWN.out (by simp)).pure (by exact (by repeat (first | assumption | exact Pure.refl _ | refine Pure.drewN ?_ _ | refine Pure.drew ?_ | refine Pure.alloc ?_ _ | refine Pure.setCell ?_ (by simp <;> omega) _)))⟩
  case round =>
    obtain ⟨j, vL, rows, hgk, rfl, hp, hcr, hobj, hmem⟩ := hrel
    have Hgk := Lib.hid hgk
    have HCr := Lib.hid hcr
    have HO := Lib.hid hobj
    have HMe := Lib.hid hmem
    have HPr := Lib.hid hp
    have hjn : j ≤ n := by omega
    clear hgk hcr hmem HPo
    have p0 := (cell_of_row wr wq.heap.size 0 _ _ _ hobj).trans rfl
    have p1 := (cell_of_row wr wq.heap.size 1 _ _ _ hobj).trans rfl
    have hpfr := frozen_of_row wr wq.heap.size 0 _ _ hobj
    have hplt : wq.heap.size < wr.heap.size := (Array.getElem?_eq_some_iff.1 hobj).1
    clear hobj
    by_cases hlt : j < n
    · have hgmr : gm < wr.heap.size := Nat.lt_of_lt_of_le hgm2 hp.size
      have hwr : w.heap.size ≤ wr.heap.size := Nat.le_trans (by omega) hp.size
      go_wp2
      refine region_way (fun w' => w'.cell? ⟨wq.heap.size, 0, none⟩ = some vL) [0] 6 6 (fun l => l.take 1) (by kernel_rfl) (by kernel_rfl) (by kernel_rfl) (fun c a d v w h => by cases d <;> exact h) (by exact p0) ?_
      simp only [List.take_succ_cons, List.take_zero]
      apply held_of
      · exact rfl
      · intro w' hS
        go_simp
        try exact rfl
      try go_simp
      refine held_nil ?_
      refine anyK_two (i := 1) (j := 2) (by kernel_rfl) rfl rfl ?_ ?_
      · go_wp2
        refine And.intro (by first | exact fun _ => keepPc (show Pure wr wr.drew from (by repeat (first | assumption | exact Pure.refl _ | refine Pure.drewN ?_ _ | refine Pure.drew ?_ | refine Pure.alloc ?_ _ | refine Pure.setCell ?_ (by simp <;> omega) _))) p0 | exact keepPc (show Pure wr wr.drew from (by repeat (first | assumption | exact Pure.refl _ | refine Pure.drewN ?_ _ | refine Pure.drew ?_ | refine Pure.alloc ?_ _ | refine Pure.setCell ?_ (by simp <;> omega) _))) p0) ?_
        refine anyK_one (i := 2) (by kernel_rfl) rfl ?_
        go_wp2_with fail
        refine (inewlane_any _).mono ?_
        rintro e wc ⟨g, rfl, hg, hz, hpc⟩
        have HPc := Lib.hid ((show Pure wr wr.drew from (by repeat (first | assumption | exact Pure.refl _ | refine Pure.drewN ?_ _ | refine Pure.drew ?_ | refine Pure.alloc ?_ _ | refine Pure.setCell ?_ (by simp <;> omega) _))).trans hpc)
        have HZ := Lib.hid hz
        have hgr : wr.heap.size ≤ g := Nat.le_trans (show Pure wr wr.drew from (by repeat (first | assumption | exact Pure.refl _ | refine Pure.drewN ?_ _ | refine Pure.drew ?_ | refine Pure.alloc ?_ _ | refine Pure.setCell ?_ (by simp <;> omega) _))).size hg
        have z0 := (HPc.out.cell _ _ hplt).trans p0
        clear hz hpc
        unfold lane0
        go_wp2
        refine And.intro (by first | exact fun _ => z0 | exact z0) ?_
        refine anyK_one (i := 3) (by kernel_rfl) rfl ?_
        go_wp2
        refine And.intro (by first | exact fun _ => keepPc (show Pure wc _ from (by repeat (first | assumption | exact Pure.refl _ | refine Pure.drewN ?_ _ | refine Pure.drew ?_ | refine Pure.alloc ?_ _ | refine Pure.setCell ?_ (by simp <;> omega) _))) z0 | exact keepPc (show Pure wc _ from (by repeat (first | assumption | exact Pure.refl _ | refine Pure.drewN ?_ _ | refine Pure.drew ?_ | refine Pure.alloc ?_ _ | refine Pure.setCell ?_ (by simp <;> omega) _))) z0) ?_
        refine anyK_one (i := 4) (by kernel_rfl) rfl ?_
        have hgx := heap_alloc_new wc (.cells #[.slice (some ⟨g, 0, none⟩) 4 4, .int .i64 0, .slice none 0 0, .bool false] 55)
        have HPl := Lib.hid (HPc.out.trans (show Pure wc (wc.alloc (.cells #[.slice (some ⟨g, 0, none⟩) 4 4, .int .i64 0, .slice none 0 0, .bool false] 55)) from (by repeat (first | assumption | exact Pure.refl _ | refine Pure.drewN ?_ _ | refine Pure.drew ?_ | refine Pure.alloc ?_ _ | refine Pure.setCell ?_ (by simp <;> omega) _))))
        refine wl_append elLane rfl _ _ rfl wq.heap.size vL j _ rfl (own_pure HCr.out.own HPl.out) wc.heap.size 1 1 (lane0L g) rfl rfl (fun i u hu => ?_) (by intro u hu; simp [lane0L] at hu; rcases hu with rfl | rfl | rfl | rfl <;> rfl) (by omega) (by omega) (Nat.le_trans HPr.out.size HPl.out.size) ?_
        · exact (cell_of_row _ _ i _ _ _ hgx).trans (by rw [List.getElem?_toArray]; exact hu)
        intro v5 w5 hown5 hg5
        obtain ⟨g5, c5, hv5, _, _, _, _⟩ := own_form hown5 (by omega)
        subst hv5
        have hc5 : Chg (fun k => vL.ownBlock = some k) (wc.alloc (.cells #[.slice (some ⟨g, 0, none⟩) 4 4, .int .i64 0, .slice none 0 0, .bool false] 55)) w5 := Chg.of_grown hg5 (fun k hk => hk)
        have hvlp : ∀ k, vL.ownBlock = some k → k ≠ wq.heap.size := own_ne_heap HCr.out.own HO.out (by decide)
        have hO5 : w5.heap[wq.heap.size]? = some (.cells #[vL, .slice (some ⟨gm, 0, none⟩) mem.length cmm] 33 (0, 0)) := hc5.heap ((Chg.of_pure (S := fun _ => False) HPl.out).heap HO.out id) (fun e => hvlp _ e rfl)
        have HO5 := Lib.hid hO5
        have z5 := (cell_of_row w5 wq.heap.size 0 _ _ _ hO5).trans (show _ = some vL from rfl)
        have zf5 := frozen_of_row w5 wq.heap.size 0 _ _ hO5
        have HN5 := Lib.hid (crowd_next HCr.out HPl.out HPr.out hgr hgmr ((Chg.of_pure (S := fun _ => False) (show Pure wc (wc.alloc (.cells #[.slice (some ⟨g, 0, none⟩) 4 4, .int .i64 0, .slice none 0 0, .bool false] 55)) from (by repeat (first | assumption | exact Pure.refl _ | refine Pure.drewN ?_ _ | refine Pure.drew ?_ | refine Pure.alloc ?_ _ | refine Pure.setCell ?_ (by simp <;> omega) _)))).heap HZ.out id) HO.out HMe.out hown5 hg5)
        clear hown5 hg5 hc5 hO5 hgx
        go_wp2
        refine And.intro (by first | exact fun _ => z5 | exact z5) ?_
        refine anyK_one (i := 5) (by kernel_rfl) rfl ?_
        go_wp2
        refine And.intro (by first | exact fun _ => z5 | exact z5) ?_
        refine anyK_one (i := 6) (by kernel_rfl) rfl ?_
        go_wp2
        refine And.intro (by first | exact fun h => absurd rfl h | exact fun h => h.elim | simp) ?_
        refine anyK_end (by kernel_rfl) ?_
        go_wp2
        go_roundg (n - (j + 1))
        case measure => have := Hgk.out; omega
        case rel =>
          exact ⟨j + 1, _, _, by have := Hgk.out; omega, by go_num, HN5.out⟩
      · go_wp2_with fail
        refine (inewlane_any _).mono ?_
        rintro e wc ⟨g, rfl, hg, hz, hpc⟩
        have HPc := Lib.hid ((show Pure wr wr.drew from (by repeat (first | assumption | exact Pure.refl _ | refine Pure.drewN ?_ _ | refine Pure.drew ?_ | refine Pure.alloc ?_ _ | refine Pure.setCell ?_ (by simp <;> omega) _))).trans hpc)
        have HZ := Lib.hid hz
        have hgr : wr.heap.size ≤ g := Nat.le_trans (show Pure wr wr.drew from (by repeat (first | assumption | exact Pure.refl _ | refine Pure.drewN ?_ _ | refine Pure.drew ?_ | refine Pure.alloc ?_ _ | refine Pure.setCell ?_ (by simp <;> omega) _))).size hg
        have z0 := (HPc.out.cell _ _ hplt).trans p0
        clear hz hpc
        unfold lane0
        go_wp2
        refine And.intro (by first | exact fun _ => z0 | exact z0) ?_
        refine anyK_two (i := 1) (j := 3) (by kernel_rfl) rfl rfl ?_ ?_
        · go_wp2
          refine And.intro (by first | exact fun _ => z0 | exact z0) ?_
          refine anyK_one (i := 3) (by kernel_rfl) rfl ?_
          go_wp2
          refine And.intro (by first | exact fun _ => keepPc (show Pure wc _ from (by repeat (first | assumption | exact Pure.refl _ | refine Pure.drewN ?_ _ | refine Pure.drew ?_ | refine Pure.alloc ?_ _ | refine Pure.setCell ?_ (by simp <;> omega) _))) z0 | exact keepPc (show Pure wc _ from (by repeat (first | assumption | exact Pure.refl _ | refine Pure.drewN ?_ _ | refine Pure.drew ?_ | refine Pure.alloc ?_ _ | refine Pure.setCell ?_ (by simp <;> omega) _))) z0) ?_
          refine anyK_one (i := 4) (by kernel_rfl) rfl ?_
          have hgx := heap_alloc_new wc (.cells #[.slice (some ⟨g, 0, none⟩) 4 4, .int .i64 0, .slice none 0 0, .bool false] 55)
          have HPl := Lib.hid (HPc.out.trans (show Pure wc (wc.alloc (.cells #[.slice (some ⟨g, 0, none⟩) 4 4, .int .i64 0, .slice none 0 0, .bool false] 55)) from (by repeat (first | assumption | exact Pure.refl _ | refine Pure.drewN ?_ _ | refine Pure.drew ?_ | refine Pure.alloc ?_ _ | refine Pure.setCell ?_ (by simp <;> omega) _))))
          refine wl_append elLane rfl _ _ rfl wq.heap.size vL j _ rfl (own_pure HCr.out.own HPl.out) wc.heap.size 1 1 (lane0L g) rfl rfl (fun i u hu => ?_) (by intro u hu; simp [lane0L] at hu; rcases hu with rfl | rfl | rfl | rfl <;> rfl) (by omega) (by omega) (Nat.le_trans HPr.out.size HPl.out.size) ?_
          · exact (cell_of_row _ _ i _ _ _ hgx).trans (by rw [List.getElem?_toArray]; exact hu)
          intro v5 w5 hown5 hg5
          obtain ⟨g5, c5, hv5, _, _, _, _⟩ := own_form hown5 (by omega)
          subst hv5
          have hc5 : Chg (fun k => vL.ownBlock = some k) (wc.alloc (.cells #[.slice (some ⟨g, 0, none⟩) 4 4, .int .i64 0, .slice none 0 0, .bool false] 55)) w5 := Chg.of_grown hg5 (fun k hk => hk)
          have hvlp : ∀ k, vL.ownBlock = some k → k ≠ wq.heap.size := own_ne_heap HCr.out.own HO.out (by decide)
          have hO5 : w5.heap[wq.heap.size]? = some (.cells #[vL, .slice (some ⟨gm, 0, none⟩) mem.length cmm] 33 (0, 0)) := hc5.heap ((Chg.of_pure (S := fun _ => False) HPl.out).heap HO.out id) (fun e => hvlp _ e rfl)
          have HO5 := Lib.hid hO5
          have z5 := (cell_of_row w5 wq.heap.size 0 _ _ _ hO5).trans (show _ = some vL from rfl)
          have zf5 := frozen_of_row w5 wq.heap.size 0 _ _ hO5
          have HN5 := Lib.hid (crowd_next HCr.out HPl.out HPr.out hgr hgmr ((Chg.of_pure (S := fun _ => False) (show Pure wc (wc.alloc (.cells #[.slice (some ⟨g, 0, none⟩) 4 4, .int .i64 0, .slice none 0 0, .bool false] 55)) from (by repeat (first | assumption | exact Pure.refl _ | refine Pure.drewN ?_ _ | refine Pure.drew ?_ | refine Pure.alloc ?_ _ | refine Pure.setCell ?_ (by simp <;> omega) _)))).heap HZ.out id) HO.out HMe.out hown5 hg5)
          clear hown5 hg5 hc5 hO5 hgx
          go_wp2
          refine And.intro (by first | exact fun _ => z5 | exact z5) ?_
          refine anyK_one (i := 5) (by kernel_rfl) rfl ?_
          go_wp2
          refine And.intro (by first | exact fun _ => z5 | exact z5) ?_
          refine anyK_one (i := 6) (by kernel_rfl) rfl ?_
          go_wp2
          refine And.intro (by first | exact fun h => absurd rfl h | exact fun h => h.elim | simp) ?_
          refine anyK_end (by kernel_rfl) ?_
          go_wp2
          go_roundg (n - (j + 1))
          case measure => have := Hgk.out; omega
          case rel =>
            exact ⟨j + 1, _, _, by have := Hgk.out; omega, by go_num, HN5.out⟩
        · go_wp2
          refine And.intro (by first | exact fun _ => keepPc (show Pure wc _ from (by repeat (first | assumption | exact Pure.refl _ | refine Pure.drewN ?_ _ | refine Pure.drew ?_ | refine Pure.alloc ?_ _ | refine Pure.setCell ?_ (by simp <;> omega) _))) z0 | exact keepPc (show Pure wc _ from (by repeat (first | assumption | exact Pure.refl _ | refine Pure.drewN ?_ _ | refine Pure.drew ?_ | refine Pure.alloc ?_ _ | refine Pure.setCell ?_ (by simp <;> omega) _))) z0) ?_
          have z0' := keepPc (show Pure wc (wc.alloc (.cells #[.slice (some ⟨g, 0, none⟩) 4 4, .int .i64 0, .slice none 0 0, .bool false] 55)) from (by repeat (first | assumption | exact Pure.refl _ | refine Pure.drewN ?_ _ | refine Pure.drew ?_ | refine Pure.alloc ?_ _ | refine Pure.setCell ?_ (by simp <;> omega) _))) z0
          refine anyK_one (i := 1) (by kernel_rfl) rfl ?_
          go_wp2
          refine And.intro (by first | exact fun _ => z0' | exact z0') ?_
          refine anyK_one (i := 4) (by kernel_rfl) rfl ?_
          have hgx := heap_alloc_new wc (.cells #[.slice (some ⟨g, 0, none⟩) 4 4, .int .i64 0, .slice none 0 0, .bool false] 55)
          have HPl := Lib.hid (HPc.out.trans (show Pure wc (wc.alloc (.cells #[.slice (some ⟨g, 0, none⟩) 4 4, .int .i64 0, .slice none 0 0, .bool false] 55)) from (by repeat (first | assumption | exact Pure.refl _ | refine Pure.drewN ?_ _ | refine Pure.drew ?_ | refine Pure.alloc ?_ _ | refine Pure.setCell ?_ (by simp <;> omega) _))))
          refine wl_append elLane rfl _ _ rfl wq.heap.size vL j _ rfl (own_pure HCr.out.own HPl.out) wc.heap.size 1 1 (lane0L g) rfl rfl (fun i u hu => ?_) (by intro u hu; simp [lane0L] at hu; rcases hu with rfl | rfl | rfl | rfl <;> rfl) (by omega) (by omega) (Nat.le_trans HPr.out.size HPl.out.size) ?_
          · exact (cell_of_row _ _ i _ _ _ hgx).trans (by rw [List.getElem?_toArray]; exact hu)
          intro v5 w5 hown5 hg5
          obtain ⟨g5, c5, hv5, _, _, _, _⟩ := own_form hown5 (by omega)
          subst hv5
          have hc5 : Chg (fun k => vL.ownBlock = some k) (wc.alloc (.cells #[.slice (some ⟨g, 0, none⟩) 4 4, .int .i64 0, .slice none 0 0, .bool false] 55)) w5 := Chg.of_grown hg5 (fun k hk => hk)
          have hvlp : ∀ k, vL.ownBlock = some k → k ≠ wq.heap.size := own_ne_heap HCr.out.own HO.out (by decide)
          have hO5 : w5.heap[wq.heap.size]? = some (.cells #[vL, .slice (some ⟨gm, 0, none⟩) mem.length cmm] 33 (0, 0)) := hc5.heap ((Chg.of_pure (S := fun _ => False) HPl.out).heap HO.out id) (fun e => hvlp _ e rfl)
          have HO5 := Lib.hid hO5
          have z5 := (cell_of_row w5 wq.heap.size 0 _ _ _ hO5).trans (show _ = some vL from rfl)
          have zf5 := frozen_of_row w5 wq.heap.size 0 _ _ hO5
          have HN5 := Lib.hid (crowd_next HCr.out HPl.out HPr.out hgr hgmr ((Chg.of_pure (S := fun _ => False) (show Pure wc (wc.alloc (.cells #[.slice (some ⟨g, 0, none⟩) 4 4, .int .i64 0, .slice none 0 0, .bool false] 55)) from (by repeat (first | assumption | exact Pure.refl _ | refine Pure.drewN ?_ _ | refine Pure.drew ?_ | refine Pure.alloc ?_ _ | refine Pure.setCell ?_ (by simp <;> omega) _)))).heap HZ.out id) HO.out HMe.out hown5 hg5)
          clear hown5 hg5 hc5 hO5 hgx
          go_wp2
          refine And.intro (by first | exact fun _ => z5 | exact z5) ?_
          refine anyK_one (i := 5) (by kernel_rfl) rfl ?_
          go_wp2
          refine And.intro (by first | exact fun _ => z5 | exact z5) ?_
          refine anyK_one (i := 6) (by kernel_rfl) rfl ?_
          go_wp2
          refine And.intro (by first | exact fun h => absurd rfl h | exact fun h => h.elim | simp) ?_
          refine anyK_end (by kernel_rfl) ?_
          go_wp2
          go_roundg (n - (j + 1))
          case measure => have := Hgk.out; omega
          case rel =>
            exact ⟨j + 1, _, _, by have := Hgk.out; omega, by go_num, HN5.out⟩
    · have hjl : j = n := by omega
      subst hjl
      obtain ⟨gl, cl, hvl, hg1, hg2, hg3, hg4⟩ := own_form HCr.out.own (by omega)
      subst hvl
      have hres := (Chg.of_pure (S := fun _ => False) HPr.out).heap HRES.out id
      have k0 := cell_of_row _ _ 0 _ _ _ hres
      have k1 := cell_of_row _ _ 1 _ _ _ hres
      simp only [List.getElem?_toArray, List.getElem?_cons_zero, List.getElem?_cons_succ] at k0 k1
      have kf0 := frozen_of_row _ _ 0 _ _ hres
      have kf1 := frozen_of_row _ _ 1 _ _ hres
      have hwwq : w.heap.size ≠ wq.heap.size := by omega
      have hgmw : gm ≠ w.heap.size := fun e => ne_of_heap (HMe.out.heap rfl).choose_spec hres (by decide) e
      clear hres
      go_wp2
      refine bodyPost_ret (v := .agg #[.slice (some ⟨gl, 0, none⟩) j cl, .slice (some ⟨gm, 0, none⟩) mem.length cmm]) (by simp [results, Try.results95, go_sem, k0, k1]) rfl ?_
      have hcw : ∀ (u : World) (i : Nat) (x : Value), Chg (fun b => b = w.heap.size) u (u.setCell ⟨w.heap.size, i, none⟩ x) := fun u i x => Chg.of_set u _ _ _ rfl
      have hcc := (hcw wr 0 (.slice (some ⟨gl, 0, none⟩) j cl)).trans (hcw (wr.setCell ⟨w.heap.size, 0, none⟩ (.slice (some ⟨gl, 0, none⟩) j cl)) 1 (.slice (some ⟨gm, 0, none⟩) mem.length cmm))
      have hw0 : Pure w wr := ((show Pure w (w.alloc (.cells #[.slice none 0 0, .slice none 0 0] 33)) from (by repeat (first | assumption | exact Pure.refl _ | refine Pure.drewN ?_ _ | refine Pure.drew ?_ | refine Pure.alloc ?_ _ | refine Pure.setCell ?_ (by simp <;> omega) _))).trans HP.out).trans HPr.out
      refine ⟨gl, cl, gm, cmm, rows, rfl, ⟨(HCr.out.base (by omega)).chg hcc (fun g hg e => ?_) (fun i hi e => ?_), HMe.out.chg hcc (fun g hg e => ?_)⟩, hg3, hg4, Chg.pure hw0 hcc (fun k hk => by rw [hk]; exact Nat.le_refl _)⟩
      · have := (own_lt HCr.out.own g hg).1; omega
      · have := HCr.out.lo i hi; omega
      · simp [Value.ownBlock] at hg; omega

end Go.Proofs.Ytajaonejpggcbaa

namespace Go.Proofs.Ytajaonejpggcbaa

theorem way_le : ∀ (t : Tr), t.Ok → ∀ d, t.depth ≤ d → t.way ≤ 5 ^ d * t.len
  | .nil, _, _, _ => by simp [Tr.way]
  | .op c k, ho, d, h => by
    have ih := way_le k ho.2 d h
    have hp : 1 ≤ 5 ^ d := Nat.one_le_pow _ _ (by decide)
    simp only [Tr.way, Tr.len_op, Nat.mul_add]
    omega
  | .ite a t k, ho, d, h => by
    simp only [Tr.depth] at h
    have i1 := way_le t ho.2.1 d (by omega)
    have i2 := way_le k ho.2.2 d (by omega)
    have hp : 1 ≤ 5 ^ d := Nat.one_le_pow _ _ (by decide)
    simp only [Tr.way, Tr.len_ite, Nat.mul_add]
    omega
  | .itee a t e k, ho, d, h => by
    simp only [Tr.depth] at h
    have i1 := way_le t ho.2.1 d (by omega)
    have i2 := way_le e ho.2.2.1 d (by omega)
    have i3 := way_le k ho.2.2.2 d (by omega)
    have hp : 1 ≤ 5 ^ d := Nat.one_le_pow _ _ (by decide)
    simp only [Tr.way, Tr.len_itee, Nat.mul_add]
    omega
  | .loop a b t k, ho, d, h => by
    simp only [Tr.depth] at h
    obtain ⟨_, hb, o1, o2⟩ := ho
    obtain ⟨e, rfl⟩ : ∃ e, d = e + 1 := ⟨d - 1, by omega⟩
    have i1 := way_le t o1 e (by omega)
    have i2 := way_le k o2 (e + 1) (by omega)
    have hp : 1 ≤ 5 ^ e := Nat.one_le_pow _ _ (by decide)
    have h5 : 5 ^ (e + 1) = 5 * 5 ^ e := by rw [Nat.pow_succ, Nat.mul_comm]
    have hq : b.toNat * (t.way + 1) ≤ 4 * (t.way + 1) := Nat.mul_le_mul_right _ (by omega)
    rw [Nat.mul_add, Nat.mul_add] at hq
    simp only [Tr.way, Tr.len_loop, Nat.mul_add]
    have hx : 5 ^ (e + 1) * t.len = 5 * (5 ^ e * t.len) := by rw [h5, Nat.mul_assoc]
    rw [hx]
    rw [h5]
    rw [h5] at i2
    omega

def totW (w : Nat → Nat) : Nat → Nat
  | 0 => 0
  | j + 1 => totW w j + w j
theorem totW_le {w w' : Nat → Nat} : ∀ n, (∀ l, l < n → w l ≤ w' l) → totW w n ≤ totW w' n
  | 0, _ => Nat.le_refl _
  | n + 1, h => Nat.add_le_add (totW_le n fun l hl => h l (by omega)) (h n (by omega))
theorem totW_lt {w w' : Nat → Nat} : ∀ n k, k < n → (∀ l, l < n → w l ≤ w' l) → w k + 1 ≤ w' k → totW w n + 1 ≤ totW w' n
  | 0, _, h, _, _ => by omega
  | n + 1, k, hk, h, h1 => by
    by_cases e : k = n
    · subst e
      have := totW_le k (fun l hl => h l (by omega))
      simp only [totW]; omega
    · have := totW_lt n k (by omega) (fun l hl => h l (by omega)) h1
      have := h n (by omega)
      simp only [totW]; omega
theorem totW_const (c : Nat) : ∀ n, totW (fun _ => c) n = n * c
  | 0 => by simp [totW]
  | n + 1 => by simp only [totW]; rw [totW_const c n, Nat.succ_mul]

/-- Some lane can go on, or all are done. -/
def Norm (cs : List Cd) (n : Nat) (L : Nat → Ln) : Prop := anyGo cs L n = true ∨ DoneL cs n L
def Ways (cs : List Cd) (n : Nat) (L : Nat → Ln) (W : Nat) : Prop := ∃ w, (∀ l, l < n → OnWay cs (L l) (w l)) ∧ totW w n ≤ W
section
variable {cs : List Cd} {n m : Nat}
theorem norm_free (L : Nat → Ln) : Norm cs n (freeL n L) := by
  by_cases h : anyGo cs (freeL n L) n = true
  · exact .inl h
  · refine .inr fun l hl => ?_
    have hw : (freeL n L l).W = false := by unfold freeL; rw [if_pos hl]
    refine ⟨hw, Nat.le_of_not_lt fun hlt => h (anyGo_iff.2 ⟨l, hl, goes_iff.2 ⟨hw, hlt⟩⟩)⟩
theorem norm_pass (L : Nat → Ln) : Norm cs n (if anyGo cs L n = true then L else freeL n L) := by
  split
  · rename_i h; exact .inl h
  · exact norm_free L
theorem ways_free {L : Nat → Ln} {W : Nat} (h : Ways cs n L W) : Ways cs n (freeL n L) W := by
  obtain ⟨w, h1, h2⟩ := h
  exact ⟨w, fun l hl => by unfold freeL; rw [if_pos hl]; exact (h1 l hl).pass false, h2⟩
theorem ways_pass {L : Nat → Ln} {W : Nat} (h : Ways cs n L W) : Ways cs n (if anyGo cs L n = true then L else freeL n L) W := by
  split
  · exact h
  · exact ways_free h
theorem goes_not_done {L : Nat → Ln} (h : anyGo cs L n = true) : ¬ DoneL cs n L := fun hd => by
  obtain ⟨l, hl, hg⟩ := anyGo_iff.1 h
  have := (goes_iff.1 hg).2
  have := (hd l hl).2
  omega
theorem step_L {mask : Nat} {s : CS} : ∀ j, (∀ l, mask.testBit l = true → l < j → goesL cs.length (s.L l) = true) → ∀ w : Nat → Nat, (∀ l, l < n → OnWay cs (s.L l) (w l)) → j ≤ n →
    ∀ l, l < n → OnWay cs ((stepTo cs m mask j s).L l) (if l < j ∧ mask.testBit l = true then w l - 1 else w l) ∧ (l < j → mask.testBit l = true → 1 ≤ w l)
  | 0, _, w, hw, _, l, hl => ⟨by rw [if_neg (by omega)]; exact hw l hl, fun h => by omega⟩
  | j + 1, hg, w, hw, hj, l, hl => by
    obtain ⟨i1, i2⟩ := step_L (mask := mask) (s := s) j (fun l hb hl => hg l hb (by omega)) w hw (by omega) l hl
    unfold stepTo
    by_cases hb : mask.testBit j = true
    · rw [if_pos hb]
      by_cases e : l = j
      · subst e
        have h0 : (stepTo cs m mask l s).L l = s.L l := step_at l l (.inl (Nat.le_refl _))
        have hst := (hw l hl).step (m := m) (id := l) (M := (stepTo cs m mask l s).M) (goes_iff.1 (hg l hb (by omega))).2
        refine ⟨?_, fun _ _ => hst.1⟩
        show OnWay cs (if l = l then lnStep cs m l ((stepTo cs m mask l s).L l) (stepTo cs m mask l s).M else _) _
        rw [if_pos rfl, if_pos ⟨by omega, hb⟩, h0]
        exact hst.2
      · refine ⟨?_, fun h1 h2 => i2 (by omega) h2⟩
        show OnWay cs (if l = j then _ else (stepTo cs m mask j s).L l) _
        rw [if_neg e]
        by_cases hq : l < j
        · simpa [hq, show l < j + 1 by omega] using i1
        · simpa [hq, show ¬ l < j + 1 by omega] using i1
    · rw [if_neg hb]
      by_cases e : l = j
      · subst e
        refine ⟨?_, fun _ h => absurd h hb⟩
        rw [if_neg (fun h => hb h.2)]
        rwa [if_neg (by omega)] at i1
      · refine ⟨?_, fun h1 h2 => i2 (by omega) h2⟩
        by_cases hq : l < j
        · simpa [hq, show l < j + 1 by omega] using i1
        · simpa [hq, show ¬ l < j + 1 by omega] using i1
/-- A step by the least places shortens the ways. -/
theorem least_ways {s : CS} {W : Nat} (hg : anyGo cs s.L n = true) (h : Ways cs n s.L W) : 1 ≤ W ∧ Ways cs n (leastStep cs n m s).L (W - 1) ∧ Norm cs n (leastStep cs n m s).L := by
  have hnd := goes_not_done hg
  unfold leastStep
  rw [if_neg hnd]
  obtain ⟨h1, h2, h3, h4, h5⟩ := least_spec (cs := cs) (L := s.L) n
  obtain ⟨l0, hl0, hg0⟩ := anyGo_iff.1 hg
  have hne : (leastTo cs s.L n).1 ≠ 0 := fun e => by
    have := h4.1 e
    have := h2 l0 hl0 hg0
    have := (goes_iff.1 hg0).2
    omega
  obtain ⟨k, hk, hkb⟩ := some_bit' hne h5
  obtain ⟨w, w1, w2⟩ := h
  have hS := step_L (cs := cs) (n := n) (m := m) (mask := (leastTo cs s.L n).1) (s := noteC cs (leastTo cs s.L n).2 (leastTo cs s.L n).1 s) n (fun l hb hl => by
    have := h3 l
    rw [hb] at this
    simp only [Bool.true_eq, Bool.and_eq_true] at this
    exact this.2.1) w w1 (Nat.le_refl _)
  have hk1 := (hS k hk).2 hk hkb
  have htot : totW (fun l => if l < n ∧ (leastTo cs s.L n).1.testBit l = true then w l - 1 else w l) n + 1 ≤ totW w n :=
    totW_lt n k hk (fun l hl => by split <;> first | exact Nat.sub_le _ _ | exact Nat.le_refl _) (by show (if _ then _ else _) + 1 ≤ _; rw [if_pos ⟨hk, hkb⟩]; omega)
  refine ⟨by omega, ?_, ?_⟩
  · rw [pass_L]
    exact ways_pass ⟨_, fun l hl => (hS l hl).1, by omega⟩
  · rw [pass_L]
    exact norm_pass _
theorem least_ends : ∀ (W : Nat) (s : CS), Norm cs n s.L → Ways cs n s.L W → ∃ N, N ≤ W ∧ DoneL cs n (lIter cs n m N s).L
  | 0, s, hn, hw => by
    rcases hn with hn | hn
    · have := (least_ways (m := m) hn hw).1; omega
    · exact ⟨0, Nat.le_refl _, hn⟩
  | W + 1, s, hn, hw => by
    rcases hn with hn | hn
    · obtain ⟨_, g2, g3⟩ := least_ways (m := m) hn hw
      obtain ⟨N, q1, q2⟩ := least_ends W (leastStep cs n m s) g3 g2
      refine ⟨1 + N, by omega, ?_⟩
      rw [lIter_add]
      exact q2
    · exact ⟨0, by omega, hn⟩

theorem oIter_add (f : Nat → Nat) (i : Nat) (s : (Nat → Ln) × (Nat → Int)) : ∀ j, oIter cs n m f (i + j) s = oIter cs n m (fun k => f (i + k)) j (oIter cs n m f i s)
  | 0 => rfl
  | j + 1 => by show ordStep cs n m (f (i + j)) (oIter cs n m f (i + j) s) = _; rw [oIter_add f i s j]; rfl
theorem ordStep_no {s : (Nat → Ln) × (Nat → Int)} {k : Nat} (hk : goesL cs.length (s.1 k) = false) (hg : anyGo cs s.1 n = true) : ordStep cs n m k s = s := by
  unfold ordStep
  simp [hk, hg]
theorem ordStep_done {s : (Nat → Ln) × (Nat → Int)} {k : Nat} (hk : k < n) (hd : DoneL cs n s.1) : ordStep cs n m k s = s := by
  have hng : ∀ l, l < n → goesL cs.length (s.1 l) = false := fun l hl => by
    cases hq : goesL cs.length (s.1 l)
    · rfl
    · have := (goes_iff.1 hq).2; have := (hd l hl).2; omega
  have : freeL n s.1 = s.1 := freeL_same fun k hk => (hd k hk).1
  unfold ordStep
  simp [hng k hk, this]
theorem oIter_done {f : Nat → Nat} (hf : ∀ j, f j < n) {s : (Nat → Ln) × (Nat → Int)} {i : Nat} (hd : DoneL cs n (oIter cs n m f i s).1) : ∀ j, oIter cs n m f (i + j) s = oIter cs n m f i s
  | 0 => rfl
  | j + 1 => by show ordStep cs n m (f (i + j)) (oIter cs n m f (i + j) s) = _; rw [oIter_done hf hd j, ordStep_done (hf _) hd]
theorem ord_ways {s : (Nat → Ln) × (Nat → Int)} {W k : Nat} (hk : k < n) (hg : goesL cs.length (s.1 k) = true) (h : Ways cs n s.1 W) : 1 ≤ W ∧ Ways cs n (ordStep cs n m k s).1 (W - 1) ∧ Norm cs n (ordStep cs n m k s).1 := by
  obtain ⟨w, w1, w2⟩ := h
  have hst := (w1 k hk).step (m := m) (id := k) (M := s.2) (goes_iff.1 hg).2
  have htot : totW (fun l => if l = k then w k - 1 else w l) n + 1 ≤ totW w n :=
    totW_lt n k hk (fun l hl => by
      split
      · rename_i e; subst e; exact Nat.sub_le _ _
      · exact Nat.le_refl _) (by show (if _ then _ else _) + 1 ≤ _; rw [if_pos rfl]; omega)
  have e : ordStep cs n m k s = (if anyGo cs (fun l => if l = k then lnStep cs m k (s.1 k) s.2 else s.1 l) n = true then (fun l => if l = k then lnStep cs m k (s.1 k) s.2 else s.1 l) else freeL n (fun l => if l = k then lnStep cs m k (s.1 k) s.2 else s.1 l), lnMem cs m (s.1 k) s.2) := by
    unfold ordStep
    rw [show (if goesL cs.length (s.1 k) = true then (fun l => if l = k then lnStep cs m k (s.1 k) s.2 else s.1 l, lnMem cs m (s.1 k) s.2) else s : (Nat → Ln) × (Nat → Int)) = (fun l => if l = k then lnStep cs m k (s.1 k) s.2 else s.1 l, lnMem cs m (s.1 k) s.2) from if_pos hg]
  rw [e]
  refine ⟨by omega, ways_pass ⟨_, fun l hl => ?_, show totW (fun l => if l = k then w k - 1 else w l) n ≤ W - 1 by omega⟩, norm_pass _⟩
  show OnWay cs (if l = k then _ else _) (if l = k then _ else _)
  by_cases e : l = k
  · rw [if_pos e, if_pos e]; exact hst.2
  · rw [if_neg e, if_neg e]; exact w1 l hl
def Fair (n p : Nat) (f : Nat → Nat) : Prop := ∀ i l, l < n → ∃ j, i ≤ j ∧ j < i + p ∧ f j = l
theorem Fair.shift {p : Nat} {f : Nat → Nat} (h : Fair n p f) (d : Nat) : Fair n p (fun k => f (d + k)) := fun i l hl => by
  obtain ⟨j, h1, h2, h3⟩ := h (d + i) l hl
  exact ⟨j - d, by omega, by omega, by show f (d + (j - d)) = l; rw [show d + (j - d) = j by omega]; exact h3⟩
theorem first_true {p : Nat → Bool} : ∀ j, p j = true → ∃ i, i ≤ j ∧ p i = true ∧ ∀ q, q < i → p q = false
  | 0, h => ⟨0, Nat.le_refl _, h, fun _ hq => by omega⟩
  | j + 1, h => by
    by_cases hx : ∃ q, q ≤ j ∧ p q = true
    · obtain ⟨q, q1, q2⟩ := hx
      -- the least of those up to q
      have : ∀ b q, q ≤ b → p q = true → ∃ i, i ≤ q ∧ p i = true ∧ ∀ r, r < i → p r = false := by
        intro b
        induction b with
        | zero => intro q hq h; exact ⟨q, Nat.le_refl _, h, fun r hr => by omega⟩
        | succ b ih =>
          intro q hq h
          by_cases hx : ∃ r, r < q ∧ p r = true
          · obtain ⟨r, r1, r2⟩ := hx
            obtain ⟨i, i1, i2, i3⟩ := ih r (by omega) r2
            exact ⟨i, by omega, i2, i3⟩
          · exact ⟨q, Nat.le_refl _, h, fun r hr => by
              cases hq2 : p r
              · rfl
              · exact absurd ⟨r, hr, hq2⟩ hx⟩
      obtain ⟨i, i1, i2, i3⟩ := this q q (Nat.le_refl _) q2
      exact ⟨i, by omega, i2, i3⟩
    · exact ⟨j + 1, Nat.le_refl _, h, fun q hq => by
        cases hq2 : p q
        · rfl
        · exact absurd ⟨q, by omega, hq2⟩ hx⟩
theorem order_ends {p : Nat} : ∀ (W : Nat) (f : Nat → Nat) (s : (Nat → Ln) × (Nat → Int)), Fair n p f → (∀ j, f j < n) → Norm cs n s.1 → Ways cs n s.1 W → ∃ N, N ≤ W * p ∧ DoneL cs n (oIter cs n m f N s).1
  | W, f, s, hf, hfn, hn, hw => by
    rcases hn with hn | hn
    · obtain ⟨l, hl, hg⟩ := anyGo_iff.1 hn
      obtain ⟨j, _, hj, hfj⟩ := hf 0 l hl
      obtain ⟨i, i1, i2, i3⟩ := first_true (p := fun j => goesL cs.length (s.1 (f j))) j (by show goesL _ _ = true; rw [hfj]; exact hg)
      have hs : ∀ q, q ≤ i → oIter cs n m f q s = s := by
        intro q
        induction q with
        | zero => intro _; rfl
        | succ q ih =>
          intro hq
          show ordStep cs n m (f q) (oIter cs n m f q s) = s
          rw [ih (by omega), ordStep_no (i3 q (by omega)) hn]
      obtain ⟨g1, g2, g3⟩ := ord_ways (m := m) (hfn i) i2 hw
      cases W with
      | zero => omega
      | succ W =>
        obtain ⟨N, q1, q2⟩ := order_ends W (fun k => f (i + 1 + k)) (ordStep cs n m (f i) s) (hf.shift _) (fun j => hfn _) g3 g2
        refine ⟨i + 1 + N, ?_, ?_⟩
        · rw [Nat.succ_mul]; omega
        · rw [oIter_add]
          show DoneL cs n (oIter cs n m _ N (ordStep cs n m (f i) (oIter cs n m f i s))).1
          rw [hs i (Nat.le_refl _)]
          exact q2
    · exact ⟨0, Nat.zero_le _, hn⟩
end

def startCS (mem : List Int) : CS := ⟨fun _ => ln0, fun j => mem.getD j 0, [], [], 0⟩
theorem start_ways {cs : List Cd} (hv : PValid cs) (n : Nat) : Ways cs n (fun _ => ln0) (n * 5000) := by
  obtain ⟨h1, h2, h3⟩ := treeOf_spec hv
  refine ⟨fun _ => 5000, fun l _ => ?_, by rw [totW_const]; exact Nat.le_refl _⟩
  obtain ⟨u, F, g1, g2⟩ := OnWay.start h1 h2
  refine ⟨u, F, g1, Nat.le_trans g2 (Nat.le_trans (way_le _ h2 3 h3) ?_)⟩
  have h40 := hv.2.1
  have hl : (treeOf cs).len = cs.length := by
    have := congrArg List.length h1
    exact this.symm
  show _ ≤ 5000
  rw [hl]
  omega
theorem start_norm (cs : List Cd) (n : Nat) : Norm cs n (fun _ => ln0) := by
  by_cases h : anyGo cs (fun _ => ln0) n = true
  · exact .inl h
  · exact .inr fun l hl => ⟨rfl, Nat.le_of_not_lt fun hlt => h (anyGo_iff.2 ⟨l, hl, goes_iff.2 ⟨rfl, hlt⟩⟩)⟩
/-- Lockstep without split barriers is the run by the least places. -/
theorem lock_sync {cs : List Cd} {n : Nat} {mem : List Int} (hok : RunOk cs n mem) (hn : NoSp cs n (lockOf cs n mem).H) :
    ∃ c, Gets cs n mem.length (startCS mem) c ∧ DoneL cs n c.L ∧ Syn n (lockOf cs n mem) c := by
  obtain ⟨h1, h2, h3⟩ := treeOf_spec hok.1
  have hl : (treeOf cs).len = cs.length := (congrArg List.length h1).symm
  have hb : ∀ l, l < n → ((2 : Nat) ^ n - 1).testBit l = true := fun l hl => by rw [Nat.testBit_two_pow_sub_one]; simpa using hl
  obtain ⟨c, g1, g2, g3, g4⟩ := run_sync (cs := cs) (n := n) (m := mem.length) (treeOf cs) 0 [] h2 (Seg.whole h1) (by show 0 + (treeOf cs).len = cs.length; omega) (2 ^ n - 1) (startLS mem) (startCS mem)
    (Nat.sub_lt (Nat.pow_pos (by decide)) (by decide)) ⟨fun l _ => ⟨rfl, rfl⟩, rfl, rfl, rfl, rfl⟩ (fun l _ _ => ⟨rfl, rfl⟩) (fun l hl hx => by rw [hb l hl] at hx; cases hx) hn
  refine ⟨c, g1, fun l hl => ⟨(g2.all l hl).2, ?_⟩, g2⟩
  rw [(g3 l hl (hb l hl)).1]; omega
theorem Gets.done_unique {cs : List Cd} {n m : Nat} {s c : CS} {N : Nat} (h : Gets cs n m s c) (hd : DoneL cs n c.L) (hN : DoneL cs n (lIter cs n m N s).L) : lIter cs n m N s = c := by
  obtain ⟨j, rfl⟩ := h
  by_cases hj : j ≤ N
  · obtain ⟨d, rfl⟩ : ∃ d, N = j + d := ⟨N - j, by omega⟩
    rw [lIter_add, lIter_done hd]
  · obtain ⟨d, rfl⟩ : ∃ d, j = N + d := ⟨j - N, by omega⟩
    rw [lIter_add, lIter_done hN]
/-- Without split barriers and without races every order leads to the memory of lockstep. -/
theorem order_same {cs : List Cd} {n : Nat} {mem : List Int} (hok : RunOk cs n mem) (hn : NoSp cs n (lockOf cs n mem).H) (hA : Free (lockOf cs n mem).A) {f : Nat → Nat} (hf : ∀ j, f j < n) {N : Nat}
    (hd : DoneL cs n (oIter cs n mem.length f N (fun _ => ln0, fun j => mem.getD j 0)).1) : (oIter cs n mem.length f N (fun _ => ln0, fun j => mem.getD j 0)).2 = (lockOf cs n mem).M := by
  obtain ⟨c, ⟨j, rfl⟩, g2, g3⟩ := lock_sync hok hn
  have hs := exec_safe (exec_iter (cs := cs) (n := n) (m := mem.length) (startCS mem) j) (by
    cases hq : anyGo cs (lIter cs n mem.length j (startCS mem)).L n
    · rfl
    · exact absurd g2 (goes_not_done hq)) (fun k hk => (g2 k hk).1) (by rw [g3.ac]; exact hA) (fun _ => ln0) (fun j => mem.getD j 0) (fun _ => 0) Mid.start (fun k hk a q => by simp [alA] at q)
  rw [← g3.mem]
  exact (oIter_I hf ⟨_, _, _, hs, Mid.start⟩ N).done hd

end Go.Proofs.Ytajaonejpggcbaa

namespace Go.Proofs.Ytajaonejpggcbaa
open Go.RowKit

def OrdOk (xs : List Int) (n : Nat) : Prop := 1 ≤ n ∧ n ≤ 8 ∧ xs.length ≤ 40 ∧ (∀ j, j < xs.length → 0 ≤ xs.getD j 0 ∧ xs.getD j 0 < n) ∧ ∀ l, l < n → ∃ j, j < xs.length ∧ xs.getD j 0 = (l : Int)

set_option maxHeartbeats 1000000 in
theorem iord1_any (x : Int) (w : World) (bx n : Nat) (hbx : w.cell? ⟨bx, 0, none⟩ = some (.int .i64 (n : Nat))) (h0 : 0 ≤ x) (hx : x < n) (hn : n ≤ 8) :
    Calls Try.prog 113 #[.int .i64 x, .pointer (some ⟨bx, 0, none⟩)] w fun e w' => e = .returned (.bool false) ∧ w = w' := by
  go_enter Try.func113, Try.ntmps113
  go_wp2_with fail
  refine (within_any x 0 ((n : Int) - 1) _ true (by simp; omega)).mono ?_
  rintro e w1 ⟨rfl, rfl⟩
  go_wp2
  go_ret
  exact ⟨rfl, rfl⟩

set_option maxHeartbeats 1000000 in
theorem iordix_any (v : Value) (xs : List Int) (n : Nat) (w : World) (bx : Nat) (h : Ints w v xs) (hbx : w.cell? ⟨bx, 0, none⟩ = some (.int .i64 (n : Nat))) (hn : n ≤ 8) (hl : xs.length ≤ 40) (hall : ∀ j, j < xs.length → 0 ≤ xs.getD j 0 ∧ xs.getD j 0 < n) :
    Calls Try.prog 146 #[v, .func (.func 113) #[] #[.pointer (some ⟨bx, 0, none⟩)]] w fun e w' => e = .returned (.int .i64 (-1)) ∧ Pure w w' := by
  obtain ⟨A, c, rfl, hnc, hcm, hread⟩ := h
  have HRD := Lib.hid hread
  have HALL := Lib.hid hall
  clear hread hall
  go_enter Try.func146, Try.ntmps146
  go_wp2
  go_loopg [8] xs.length (fun gk i wr => ∃ k : Nat, gk + k = xs.length ∧ i = .int .i64 k ∧ Pure w wr)
  case atStart => exact ⟨0, rfl, rfl, Pure.refl _⟩
  case round =>
    obtain ⟨k, hgk, rfl, hp⟩ := hrel
    have Hgk := Lib.hid hgk
    have hkn : k ≤ xs.length := by omega
    clear hgk
    by_cases hlt : k < xs.length
    · obtain ⟨b, o, rfl, hb, hc⟩ := HRD.out (by omega)
      obtain ⟨x, Hx⟩ : ∃ x, Hid (xs.getD k 0 = x) := ⟨_, Lib.hid rfl⟩
      have hx := (hp.cell b (o + k) hb).trans (hc k (by omega))
      try simp only [Nat.mod_one, Nat.div_one] at hx
      rw [Hx.out] at hx
      have hbx' := keepPc hp hbx
      have hin := HALL.out k hlt
      rw [Hx.out] at hin
      obtain ⟨hin0, hin1⟩ := hin
      clear hc
      go_wp2_with fail
      refine (iord1_any x _ bx n hbx' hin0 hin1 hn).mono ?_
      rintro e w1 ⟨rfl, rfl⟩
      go_wp2
      go_roundg (xs.length - (k + 1))
      case measure => have := Hgk.out; omega
      case rel => exact ⟨k + 1, by have := Hgk.out; omega, by go_num, hp⟩
    · go_wp2
      go_ret
      exact ⟨rfl, hp⟩

set_option maxHeartbeats 1000000 in
theorem iordcf_any (v : Value) (xs : List Int) (n : Nat) (w : World) (bx : Nat) (h : Ints w v xs) (hbx : w.cell? ⟨bx, 0, none⟩ = some (.int .i64 (n : Nat))) (hn : n ≤ 8) (hl : xs.length ≤ 40) (hall : ∀ j, j < xs.length → 0 ≤ xs.getD j 0 ∧ xs.getD j 0 < n) :
    Calls Try.prog 112 #[v, .func (.func 113) #[] #[.pointer (some ⟨bx, 0, none⟩)]] w fun e w' => e = .returned (.bool false) ∧ Pure w w' := by
  have H := Lib.hid h
  have HALL := Lib.hid hall
  obtain ⟨A, c, rfl⟩ := h.form
  clear h hall
  go_enter Try.func112, Try.ntmps112
  go_wp2_with fail
  refine (iordix_any _ xs n _ bx H.out hbx hn hl HALL.out).mono ?_
  rintro e w1 ⟨rfl, hp⟩
  go_wp2
  go_ret
  exact ⟨rfl, hp⟩

set_option maxHeartbeats 1000000 in
theorem iindex_any (v : Value) (xs : List Int) (y : Int) (w : World) (h : Ints w v xs) (hl : xs.length ≤ 1048576) (hy : ∃ j, j < xs.length ∧ xs.getD j 0 = y) :
    Calls Try.prog 147 #[v, .int .i64 y] w fun e w' => (∃ r : Nat, e = .returned (.int .i64 (r : Nat))) ∧ Pure w w' := by
  obtain ⟨A, c, rfl, hnc, hcm, hread⟩ := h
  obtain ⟨j0, hj0, hj1⟩ := hy
  have HRD := Lib.hid hread
  have HJ := Lib.hid hj1
  clear hread hj1
  go_enter Try.func147, Try.ntmps147
  go_wp2
  go_loopg [8] xs.length (fun gk i wr => ∃ k : Nat, gk + k = xs.length ∧ i = .int .i64 k ∧ Pure w wr ∧ k ≤ j0)
  case atStart => exact ⟨0, rfl, rfl, Pure.refl _, by omega⟩
  case round =>
    obtain ⟨k, hgk, rfl, hp, hkj⟩ := hrel
    have Hgk := Lib.hid hgk
    have hlt : k < xs.length := by omega
    clear hgk
    obtain ⟨b, o, rfl, hb, hc⟩ := HRD.out (by omega)
    obtain ⟨x, Hx⟩ : ∃ x, Hid (xs.getD k 0 = x) := ⟨_, Lib.hid rfl⟩
    have hx := (hp.cell b (o + k) hb).trans (hc k (by omega))
    try simp only [Nat.mod_one, Nat.div_one] at hx
    rw [Hx.out] at hx
    clear hc
    by_cases hq : y = x
    · have hq' : (y == x) = true := by rw [beq_iff_eq]; exact hq
      clear hq
      go_wp2
      go_ret
      exact ⟨⟨k, rfl⟩, hp⟩
    · have hq' : (y == x) = false := by rw [beq_eq_false_iff_ne]; exact hq
      have hne : k ≠ j0 := by rintro rfl; exact hq (HJ.out.symm.trans Hx.out)
      clear hq
      go_wp2
      go_roundg (xs.length - (k + 1))
      case measure => have := Hgk.out; omega
      case rel => exact ⟨k + 1, by have := Hgk.out; omega, by go_num, hp, by omega⟩

set_option maxHeartbeats 1000000 in
theorem icontains_any (v : Value) (xs : List Int) (y : Int) (w : World) (h : Ints w v xs) (hl : xs.length ≤ 1048576) (hy : ∃ j, j < xs.length ∧ xs.getD j 0 = y) :
    Calls Try.prog 115 #[v, .int .i64 y] w fun e w' => e = .returned (.bool true) ∧ Pure w w' := by
  have H := Lib.hid h
  have HY := Lib.hid hy
  obtain ⟨A, c, rfl⟩ := h.form
  clear h hy
  go_enter Try.func115, Try.ntmps115
  go_wp2_with fail
  refine (iindex_any _ xs y _ H.out hl HY.out).mono ?_
  rintro e w1 ⟨⟨r, rfl⟩, hp⟩
  have hr : (r : Int) ≥ 0 := by omega
  go_wp2
  go_ret
  exact ⟨ret_bool (by simp), hp⟩

set_option maxHeartbeats 1000000 in
theorem iordv_any (v : Value) (xs : List Int) (n : Nat) (w : World) (h : Ints w v xs) (hok : OrdOk xs n) :
    Calls Try.prog 74 #[v, .int .i64 (n : Nat)] w fun e w' => e = .returned (.bool true) ∧ Pure w w' := by
  have H := Lib.hid h
  obtain ⟨h1, h8, h40, hall, hocc⟩ := hok
  have HALL := Lib.hid hall
  have HOCC := Lib.hid hocc
  obtain ⟨A, c, rfl, hlc, hcm⟩ := h.form
  have hx := (cell_of_row _ _ 0 _ _ _ (heap_alloc_new w (.cells #[.int .i64 (n : Nat)] 3))).trans (show _ = some (.int .i64 (n : Nat)) from rfl)
  have HX := Lib.hid hx
  clear h hall hocc hx
  have hgt : ¬ ((xs.length : Int) > 40) := by omega
  go_enter Try.func74, Try.ntmps74
  go_wp2_with fail
  refine (ilanesok_any _ _ true (by simp only [true_iff]; unfold LanesOk; omega)).mono ?_
  rintro e w1 ⟨rfl, rfl⟩
  go_wp2_with fail
  refine (iordcf_any _ xs n _ w.heap.size (H.out.keep (by repeat (first | assumption | exact Pure.refl _ | refine Pure.drewN ?_ _ | refine Pure.drew ?_ | refine Pure.alloc ?_ _ | refine Pure.setCell ?_ (by simp <;> omega) _))) HX.out h8 h40 HALL.out).mono ?_
  rintro e w2 ⟨rfl, hp2⟩
  have hx2 := keepPc hp2 HX.out
  have HP2 := Lib.hid ((show Pure w (w.alloc (.cells #[.int .i64 (n : Nat)] 3)) from (by repeat (first | assumption | exact Pure.refl _ | refine Pure.drewN ?_ _ | refine Pure.drew ?_ | refine Pure.alloc ?_ _ | refine Pure.setCell ?_ (by simp <;> omega) _))).trans hp2)
  go_wp2_with fail
  go_loopg [20, 5] n (fun gk i k5 wr => ∃ k : Nat, gk + k = n ∧ i = .int .i64 k ∧ Pure w wr)
  case atStart => exact ⟨0, rfl, rfl, HP2.out⟩
  case round =>
    obtain ⟨k, hgk, rfl, hp⟩ := hrel
    have Hgk := Lib.hid hgk
    have hkn : k ≤ n := by omega
    clear hgk
    by_cases hlt : k < n
    · go_wp2_with fail
      refine (icontains_any _ xs k _ (H.out.keep hp) (by omega) (HOCC.out k hlt)).mono ?_
      rintro e w3 ⟨rfl, hp3⟩
      go_wp2
      go_roundg (n - (k + 1))
      case measure => have := Hgk.out; omega
      case rel => exact ⟨k + 1, by have := Hgk.out; omega, by go_num, hp.trans hp3⟩
    · go_wp2
      go_ret
      exact ⟨rfl, hp⟩

end Go.Proofs.Ytajaonejpggcbaa
