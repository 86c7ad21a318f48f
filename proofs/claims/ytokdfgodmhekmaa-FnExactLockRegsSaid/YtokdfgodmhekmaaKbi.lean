/- Rows of registers that a call has made: read, marked, held; the contracts of LockRegs. No condition. -/
import Derived.Test.YtokdfgodmhekmaaKab
import Derived.Test.YtokdfgodmhekmaaKbd

namespace Go.Proofs.Ytokdfgodmhekmaa
open Go.RowKit

/-- n rows of four numbers, each in a block of its own. -/
structure RowsR (w : World) (B : Nat) (v : Value) (n : Nat) (rows : Nat → Nat) (R : Nat → Nat → Int) : Prop where
  form : ∃ A c, v = .slice A n c ∧ n ≤ c ∧ c ≤ 9223372036854775807 ∧ (0 < n → ∃ gr, A = some ⟨gr, 0, none⟩ ∧ B ≤ gr ∧ ∃ cur : Array Value, w.heap[gr]? = some (.cells cur 23 (0, 0)) ∧ ∀ k, k < n → cur[k]? = some (.slice (some ⟨rows k, 0, none⟩) 4 4))
  row : ∀ k, k < n → OwnO w B 3 1 (.slice (some ⟨rows k, 0, none⟩) 4 4) 4 ((List.range 4).map fun r => .int .i64 (R k r))
  inj : ∀ k l, k < n → l < n → rows k = rows l → k = l
def rowsS (n : Nat) (rows : Nat → Nat) : Nat → Prop := fun b => ∃ k, k < n ∧ b = rows k
def rowsL (n : Nat) (R : Nat → Nat → Int) : List (List Int) := (List.range n).map fun k => (List.range 4).map (R k)
section
variable {w w' : World} {B n : Nat} {v : Value} {rows : Nat → Nat} {R : Nat → Nat → Int}
theorem RowsR.chg {S : Nat → Prop} (h : RowsR w B v n rows R) (hc : Chg S w w') (h1 : ∀ g, v.ownBlock = some g → ¬ S g) (h2 : ∀ k, k < n → ¬ S (rows k)) : RowsR w' B v n rows R := by
  obtain ⟨⟨A, c, rfl, h3, h4, h5⟩, h6, h7⟩ := h
  refine ⟨⟨A, c, rfl, h3, h4, fun hn => ?_⟩, fun k hk => (h6 k hk).chg hc (fun g hg => by injection hg with hg; subst hg; exact h2 k hk), h7⟩
  obtain ⟨gr, rfl, hB, cur, hh, hr⟩ := h5 hn
  exact ⟨gr, rfl, hB, cur, hc.heap hh (h1 gr rfl), hr⟩
theorem RowsR.pure (h : RowsR w B v n rows R) (hp : Pure w w') : RowsR w' B v n rows R := h.chg (S := fun _ => False) (Chg.of_pure hp) (fun _ _ => id) (fun _ _ => id)
theorem RowsR.nul (w : World) (B : Nat) (A : Option Addr) (c : Nat) (rows : Nat → Nat) (R : Nat → Nat → Int) (hc : c ≤ 9223372036854775807) : RowsR w B (.slice A 0 c) 0 rows R :=
  ⟨⟨A, c, rfl, Nat.zero_le _, hc, fun h => absurd h (by omega)⟩, fun k hk => absurd hk (by omega), fun k l hk => absurd hk (by omega)⟩
theorem RowsR.base (h : RowsR w B v n rows R) {B' : Nat} (hB : B' ≤ B) : RowsR w B' v n rows R := by
  obtain ⟨⟨A, c, rfl, h3, h4, h5⟩, h6, h7⟩ := h
  refine ⟨⟨A, c, rfl, h3, h4, fun hn => ?_⟩, fun k hk => (h6 k hk).base' hB, h7⟩
  obtain ⟨gr, h1, h2, h3⟩ := h5 hn
  exact ⟨gr, h1, Nat.le_trans hB h2, h3⟩
theorem RowsR.row_lt (h : RowsR w B v n rows R) {k : Nat} (hk : k < n) : B ≤ rows k ∧ rows k < w.heap.size := (h.row k hk).lt (rows k) rfl
theorem RowsR.gr_lt (h : RowsR w B v n rows R) (hn : 0 < n) : ∀ g, v.ownBlock = some g → B ≤ g ∧ g < w.heap.size := by
  obtain ⟨⟨A, c, rfl, h3, h4, h5⟩, h6, h7⟩ := h
  intro g hg
  obtain ⟨gr, rfl, hB, cur, hh, hr⟩ := h5 hn
  injection hg with hg
  subst hg
  exact ⟨hB, (Array.getElem?_eq_some_iff.1 hh).1⟩
theorem RowsR.gr_ne (h : RowsR w B v n rows R) (hn : 0 < n) {k : Nat} (hk : k < n) : ∀ g, v.ownBlock = some g → g ≠ rows k := by
  obtain ⟨⟨A, c, rfl, h3, h4, h5⟩, h6, h7⟩ := h
  intro g hg e
  obtain ⟨gr, rfl, hB, cur, hh, hr⟩ := h5 hn
  injection hg with hg
  subst hg
  exact (h6 k hk).ne_heap hh (by decide) (rows k) rfl e.symm
theorem RowsR.ints (h : RowsR w B v n rows R) {k : Nat} (hk : k < n) : Ints w (.slice (some ⟨rows k, 0, none⟩) 4 4) ((List.range 4).map (R k)) := by
  refine Cells.of_ownO (h.row k hk) fun j hj => ?_
  have hj4 : j < 4 := by simpa using hj
  simp [List.getD_eq_getElem?_getD, hj4]
theorem RowsR.read (h : RowsR w B v n rows R) : IntRows w v (rowsL n R) := by
  have hh := h
  obtain ⟨⟨A, c, rfl, h3, h4, h5⟩, h6, h7⟩ := h
  have hl : (rowsL n R).length = n := by simp [rowsL]
  refine ⟨A, c, by rw [hl], by rw [hl]; exact h3, h4, fun hn => ?_⟩
  rw [hl] at hn
  obtain ⟨gr, rfl, hB, cur, hhp, hr⟩ := h5 hn
  refine ⟨gr, 0, rfl, (Array.getElem?_eq_some_iff.1 hhp).1, fun j hj => ?_⟩
  rw [hl] at hj
  refine ⟨_, (cell_of_row w gr (0 + j) _ _ _ hhp).trans (by rw [Nat.zero_add]; exact hr j hj), ?_⟩
  have : (rowsL n R).getD j [] = (List.range 4).map (R j) := by simp [rowsL, List.getD_eq_getElem?_getD, hj]
  rw [this]; exact hh.ints hj
theorem RowsR.congr {R' : Nat → Nat → Int} (h : RowsR w B v n rows R) (he : ∀ k r, k < n → r < 4 → R k r = R' k r) : RowsR w B v n rows R' := by
  refine ⟨h.form, fun k hk => ?_, h.inj⟩
  have e : ((List.range 4).map fun r => (Value.int .i64 (R k r))) = (List.range 4).map fun r => (Value.int .i64 (R' k r)) := by
    apply List.map_congr_left
    intro r hr
    rw [he k r hk (by simpa using hr)]
  rw [← e]; exact h.row k hk
/-- A row is marked. -/
theorem RowsR.setRow (h : RowsR w B v n rows R) {k : Nat} (hk : k < n) {f : Nat → Int} (ho : OwnO w' B 3 1 (.slice (some ⟨rows k, 0, none⟩) 4 4) 4 ((List.range 4).map fun r => .int .i64 (f r))) (hg : w.grownBy w' (some (rows k))) :
    RowsR w' B v n rows (fun l => if l = k then f else R l) ∧ Chg (fun b => b = rows k) w w' := by
  have hc : Chg (fun b => b = rows k) w w' := Chg.of_grown hg (fun g hg => by injection hg with hg; exact hg.symm)
  have hn : 0 < n := by omega
  have hge := h.gr_ne hn hk
  obtain ⟨⟨A, c, rfl, h3, h4, h5⟩, h6, h7⟩ := h
  refine ⟨⟨⟨A, c, rfl, h3, h4, fun hn => ?_⟩, fun l hl => ?_, h7⟩, hc⟩
  · obtain ⟨gr, rfl, hB, cur, hh, hr⟩ := h5 hn
    exact ⟨gr, rfl, hB, cur, hc.heap hh (hge gr rfl), hr⟩
  · by_cases e : l = k
    · subst e
      simp only [if_pos]
      exact ho
    · simp only [if_neg e]
      exact (h6 l hl).chg hc (fun g hg e2 => by injection hg with hg; subst hg; exact e (h7 l k hl hk e2))
end

set_option maxHeartbeats 1000000 in
theorem markIntSS_any (v : Value) (n B : Nat) (rows : Nat → Nat) (R : Nat → Nat → Int) (k : Int) (w : World) (h : RowsR w B v n rows R) (hn : n ≤ 8) (hk0 : 0 ≤ k) (hk1 : k ≤ 1000000) :
    Calls Try.prog 33 #[v, .int .i64 k] w fun e w' => e = .returned (.int .i64 (k + 4 * n)) ∧ RowsR w' B v n rows (fun l r => k + 4 * l + r) ∧ Chg (rowsS n rows) w w' := by
  have H := Lib.hid h
  obtain ⟨A, c, rfl, hnc, hcm, hrd⟩ := h.form
  have HRD := Lib.hid hrd
  clear h hrd
  go_enter Try.func33, Try.ntmps33
  go_wp2
  go_loopg [1, 5] n (fun gk m i wr => ∃ j : Nat, gk + j = n ∧ i = .int .i64 j ∧ m = .int .i64 (k + 4 * j) ∧ RowsR wr B (.slice A n c) n rows (fun l r => if l < j then k + 4 * l + r else R l r) ∧ Chg (rowsS n rows) w wr)
  case atStart => exact ⟨0, rfl, rfl, by go_num, H.out.congr (fun l r _ _ => by rw [if_neg (by omega)]), Chg.refl _ _⟩
  case round =>
    obtain ⟨j, hgk, rfl, rfl, hr, hc⟩ := hrel
    have Hgk := Lib.hid hgk
    have HR := Lib.hid hr
    have HC := Lib.hid hc
    have hjn : j ≤ n := by omega
    clear hgk hr hc
    by_cases hlt : j < n
    · obtain ⟨A', c', hv, _, _, h5⟩ := HR.out.form
      injection hv with e1 e2 e3
      subst e1 e3
      obtain ⟨gr, rfl, hB, cur, hh, hr⟩ := h5 (by omega)
      have q0 := (cell_of_row wr gr j _ _ _ hh).trans (hr j hlt)
      have hglt := (Array.getElem?_eq_some_iff.1 hh).1
      have hj0 : (0 : Int) ≤ (j : Int) := by omega
      have hj1 : (j : Int) < (n : Int) := by omega
      clear hh hr h5
      go_wp2_with fail
      refine (markIntS_any _ 4 B _ (k + 4 * j) _ (HR.out.row j hlt) (by decide) (by omega) (by omega)).mono ?_
      rintro e w1 ⟨rfl, ho, hg⟩
      have hs := HR.out.setRow hlt (f := fun r => k + 4 * j + r) (w' := w1) (by
        have e : (marked (k + 4 * j) 4).map (Value.int .i64) = (List.range 4).map fun r => (Value.int .i64 (k + 4 * j + (r : Nat))) := by simp [marked]
        rw [← e]; exact ho) hg
      have HS := Lib.hid hs.1
      have HS2 := Lib.hid hs.2
      clear ho hg hs
      go_wp2
      go_roundg (n - (j + 1))
      case measure => have := Hgk.out; omega
      case rel =>
        refine ⟨j + 1, by have := Hgk.out; omega, by go_num, by go_num, HS.out.congr (fun l r _ _ => ?_), HC.out.trans (HS2.out.mono fun b hb => ⟨j, hlt, hb⟩)⟩
        by_cases e : l = j
        · subst e; rw [if_pos rfl, if_pos (by omega)]
        · rw [if_neg e]
          by_cases e2 : l < j
          · rw [if_pos e2, if_pos (by omega)]
          · rw [if_neg e2, if_neg (by omega)]
    · have hjl : j = n := by omega
      subst hjl
      go_wp2
      go_ret
      exact ⟨rfl, HR.out.congr (fun l r hl _ => by rw [if_pos hl]), HC.out⟩

set_option maxHeartbeats 1000000 in
theorem heldIntSS_any (v : Value) (n B : Nat) (rows : Nat → Nat) (k : Int) (w : World) (h : RowsR w B v n rows (fun l r => k + 4 * l + r)) (hn : n ≤ 8) (hk0 : 0 ≤ k) (hk1 : k ≤ 1000000) :
    Calls Try.prog 34 #[v, .int .i64 k] w fun e w' => e = .returned (.int .i64 (k + 4 * n)) ∧ Pure w w' := by
  have H := Lib.hid h
  obtain ⟨A, c, rfl, hnc, hcm, hrd⟩ := h.form
  clear h hrd
  go_enter Try.func34, Try.ntmps34
  go_wp2
  go_loopg [1, 5] n (fun gk m i wr => ∃ j : Nat, gk + j = n ∧ i = .int .i64 j ∧ m = .int .i64 (k + 4 * j) ∧ Pure w wr)
  case atStart => exact ⟨0, rfl, rfl, by go_num, Pure.refl _⟩
  case round =>
    obtain ⟨j, hgk, rfl, rfl, hp⟩ := hrel
    have Hgk := Lib.hid hgk
    have HP := Lib.hid hp
    have hjn : j ≤ n := by omega
    clear hgk hp
    by_cases hlt : j < n
    · have HR := Lib.hid (H.out.pure HP.out)
      obtain ⟨A', c', hv, _, _, h5⟩ := HR.out.form
      injection hv with e1 e2 e3
      subst e1 e3
      obtain ⟨gr, rfl, hB, cur, hh, hr⟩ := h5 (by omega)
      have q0 := (cell_of_row wr gr j _ _ _ hh).trans (hr j hlt)
      have hj0 : (0 : Int) ≤ (j : Int) := by omega
      have hj1 : (j : Int) < (n : Int) := by omega
      have hge : ¬ (k + 4 * (j : Int) + 4 < 0) := by omega
      have hge2 : ¬ (k + 4 * (j : Int) + (4 : Nat) < 0) := by omega
      have HI : Hid (Ints wr (.slice (some ⟨rows j, 0, none⟩) 4 4) (marked (k + 4 * j) 4)) := Lib.hid (HR.out.ints hlt)
      clear hh hr h5
      go_wp2_with fail
      refine (heldIntS_any _ 4 (k + 4 * j) _ HI.out (by decide) (by omega) (by omega)).mono ?_
      rintro e w1 ⟨rfl, hp1⟩
      go_wp2
      go_roundg (n - (j + 1))
      case measure => have := Hgk.out; omega
      case rel => exact ⟨j + 1, by have := Hgk.out; omega, by go_num, by go_num, HP.out.trans hp1⟩
    · have hjl : j = n := by omega
      subst hjl
      go_wp2
      go_ret
      exact ⟨rfl, HP.out⟩

/-- The registers of lanes behind a run; no lanes where the arguments are invalid. -/
noncomputable def lanesA (cs : List Cd) (a : Int) (mem : List Int) : Nat := open Classical in if RunOk cs a mem then a.toNat else 0
theorem lanesA_le {cs : List Cd} {a : Int} {mem : List Int} : lanesA cs a mem ≤ 8 := by
  unfold lanesA
  split
  · rename_i h; have := h.2.1.2; omega
  · omega
theorem RM.rows {o : RMo} {w : World} {R : Nat → Nat → Int} {M : Nat → Int} (h : RM o w R M) (hn : 1 ≤ o.n) : RowsR w o.B o.vr o.n o.rows R := by
  obtain ⟨cur, h1, h2⟩ := h.outer
  refine ⟨⟨_, _, rfl, h.cr1, h.cr2, fun _ => ⟨o.gr, rfl, h.lo, cur, h1, h2⟩⟩, fun k hk => ?_, h.inj⟩
  refine ⟨by simp, .inr ⟨o.rows k, 0, 4, _, rfl, h.rlo k hk, h.row k hk, by decide, by decide, by simp [row4], fun j u hu => ?_⟩⟩
  have hj : j < 4 := by
    rcases Nat.lt_or_ge j 4 with h | h
    · exact h
    · rw [List.getElem?_eq_none (by simpa using h)] at hu; cases hu
  have hj' : j = 0 ∨ j = 1 ∨ j = 2 ∨ j = 3 := by omega
  rw [Nat.zero_add]
  rcases hj' with rfl | rfl | rfl | rfl <;> (simp at hu; rw [← hu]; rfl)
def RegsP (cs : List Cd) (a : Int) (mem : List Int) (w : World) (e : Ending) (w' : World) : Prop :=
  ∃ v rows, e = .returned v ∧ RowsR w' w.heap.size v (lanesA cs a mem) rows (lockA cs a mem).R ∧ Pure w w'

set_option maxHeartbeats 1000000 in
set_option maxRecDepth 100000 in
theorem sregs_any (vl vm : Value) (cs : List Cd) (a : Int) (mem : List Int) (w : World) (h : Codes w vl cs) (hm : Ints w vm mem) (hs1 : cs.length ≤ 1048576) (hs2 : mem.length ≤ 1048576) :
    Calls Try.prog 30 #[vl, .int .i64 a, vm] w (RegsP cs a mem w) := by
  have H := Lib.hid h
  have HM := Lib.hid hm
  obtain ⟨A, c, rfl, hnc, hcm⟩ := h.form
  obtain ⟨Am, cm, rfl⟩ := hm.form
  clear h hm
  unfold RegsP
  by_cases hok : RunOk cs a mem
  · have HOK := Lib.hid hok
    obtain ⟨n, rfl, hn1, hn8⟩ := lanes_nat hok.2.1
    have HL : Hid (lanesA cs n mem = n) := Lib.hid (by unfold lanesA; rw [if_pos hok]; omega)
    rw [lockA_ok hok, HL.out]
    clear hok
    go_enter Try.func30, Try.ntmps30
    go_wp2_with fail
    refine (sok_any _ _ cs n mem _ H.out HM.out hs1 hs2 true (by simp only [true_iff]; exact HOK.out)).mono ?_
    rintro e w1 ⟨rfl, hp1⟩
    have HP1 := Lib.hid hp1
    clear hp1
    go_wp2_with fail
    refine (sall_any _ _ cs n mem _ (H.out.keep HP1.out) (Cells.keep HM.out HP1.out) HOK.out.1 hn1 hn8 HOK.out.2.2).mono ?_
    rintro e w2 ⟨o, vt, rfl, hw0, hcs, hvl, hn, hmm, hck, hrun⟩
    have p2 : w2.cell? ⟨o.p, 2, none⟩ = some o.rm.vr := hrun.obj.cell 2
    have hrows := hrun.rm.rows hrun.n1
    rw [hn, hrun.base, hw0] at hrows
    have HRW := Lib.hid hrows
    have HP2 : Hid (Pure w1 w2) := Lib.hid (hw0 ▸ hrun.pure)
    clear hrun hcs hvl hmm hck hw0 hrows hn
    go_wp2
    go_ret
    exact ⟨_, _, rfl, HRW.out.base HP1.out.size, HP1.out.trans HP2.out⟩
  · have HOK := Lib.hid hok
    have HL : Hid (lanesA cs a mem = 0) := Lib.hid (by unfold lanesA; rw [if_neg hok])
    rw [HL.out]
    clear hok
    go_enter Try.func30, Try.ntmps30
    go_wp2_with fail
    refine (sok_any _ _ cs a mem _ H.out HM.out hs1 hs2 false (by simp [HOK.out])).mono ?_
    rintro e w1 ⟨rfl, hp1⟩
    have HP1 := Lib.hid hp1
    clear hp1
    go_wp2
    go_ret
    exact ⟨_, fun _ => 0, rfl, RowsR.nul _ _ _ _ _ _ (by decide), HP1.out.trans (by exact (by repeat (first | assumption | exact Pure.refl _ | refine Pure.drewN ?_ _ | refine Pure.drew ?_ | refine Pure.alloc ?_ _ | refine Pure.setCell ?_ (by simp <;> omega) _)))⟩

set_option maxHeartbeats 1000000 in
set_option maxRecDepth 100000 in
theorem iregs_any (vl vm : Value) (cs : List Cd) (a : Int) (mem : List Int) (w : World) (h : Codes w vl cs) (hm : Ints w vm mem) (hs1 : cs.length ≤ 1048576) (hs2 : mem.length ≤ 1048576) :
    Calls Try.prog 31 #[vl, .int .i64 a, vm] w (RegsP cs a mem w) := by
  have H := Lib.hid h
  have HM := Lib.hid hm
  obtain ⟨A, c, rfl, hnc, hcm⟩ := h.form
  obtain ⟨Am, cm, rfl⟩ := hm.form
  clear h hm
  unfold RegsP
  by_cases hok : RunOk cs a mem
  · have HOK := Lib.hid hok
    obtain ⟨n, rfl, hn1, hn8⟩ := lanes_nat hok.2.1
    have HL : Hid (lanesA cs n mem = n) := Lib.hid (by unfold lanesA; rw [if_pos hok]; omega)
    rw [lockA_ok hok, HL.out]
    clear hok
    go_enter Try.func31, Try.ntmps31
    go_wp2_with fail
    refine (ilock_any _ _ cs n mem _ H.out HM.out HOK.out.1 hn1 hn8 HOK.out.2.2).mono ?_
    rintro e w1 ⟨o, vb, va, rfl, hp0, hcs, hvl, hlk, hn, hmm, hrun⟩
    have p1 : w1.cell? ⟨o.p, 1, none⟩ = some o.rm.vr := hrun.obj.cell 1
    have hrows := hrun.rm.rows hrun.n1
    rw [hn, hrun.base] at hrows
    have HRW := Lib.hid (hrows.base hp0.size)
    have HP2 := Lib.hid (hp0.trans hrun.pure)
    clear hrun hcs hvl hmm hlk hrows hn hp0
    go_wp2
    go_ret
    exact ⟨_, _, rfl, HRW.out, HP2.out⟩
  · have HOK := Lib.hid hok
    have HL : Hid (lanesA cs a mem = 0) := Lib.hid (by unfold lanesA; rw [if_neg hok])
    rw [HL.out]
    clear hok
    go_enter Try.func31, Try.ntmps31
    go_wp2_with fail
    refine (ino_any _ _ cs a mem _ H.out HM.out hs1 hs2 HOK.out).mono ?_
    rintro e w1 ⟨rfl, hp1⟩
    go_wp2
    go_ret
    exact ⟨_, fun _ => 0, rfl, RowsR.nul _ _ _ _ _ _ (by decide), hp1⟩

theorem RowsR.kept_by {w0 w w' : World} {B n : Nat} {v : Value} {rows : Nat → Nat} {R0 R : Nat → Nat → Int} {row : Option Nat} (h0 : RowsR w0 B v n rows R0) (h : RowsR w B v n rows R) (hg : w.grownBy w' row) (hr : ∀ g, row = some g → w0.heap.size ≤ g) : RowsR w' B v n rows R := by
  rcases Nat.eq_zero_or_pos n with hn | hn
  · subst hn
    obtain ⟨A, c, rfl, _, hc, _⟩ := h.form
    exact RowsR.nul _ _ _ _ _ _ hc
  · refine h.chg (S := fun b => row = some b) (Chg.of_grown hg (fun k hk => hk)) (fun g hv e => ?_) (fun k hk e => ?_)
    · have := (h0.gr_lt hn g hv).2; have := hr g e; omega
    · have := (h0.row_lt hk).2; have := hr _ e; omega
theorem RowsR.kept_new {w w' : World} {B n : Nat} {v : Value} {rows : Nat → Nat} {R : Nat → Nat → Int} {row : Option Nat} (h : RowsR w B v n rows R) (hg : w.grownBy w' row) (hr : ∀ g, row = some g → g < B) : RowsR w' B v n rows R := by
  rcases Nat.eq_zero_or_pos n with hn | hn
  · subst hn
    obtain ⟨A, c, rfl, _, hc, _⟩ := h.form
    exact RowsR.nul _ _ _ _ _ _ hc
  · refine h.chg (S := fun b => row = some b) (Chg.of_grown hg (fun k hk => hk)) (fun g hv e => ?_) (fun k hk e => ?_)
    · have := (h.gr_lt hn g hv).1; have := hr g e; omega
    · have := (h.row_lt hk).1; have := hr _ e; omega
theorem RowsR.kept_rows {w0 w w' : World} {B n m : Nat} {v : Value} {rows rows' : Nat → Nat} {R0 R : Nat → Nat → Int} (h0 : RowsR w0 B v n rows R0) (h : RowsR w B v n rows R) (hc : Chg (rowsS m rows') w w') (hr : ∀ k, k < m → w0.heap.size ≤ rows' k) : RowsR w' B v n rows R := by
  rcases Nat.eq_zero_or_pos n with hn | hn
  · subst hn
    obtain ⟨A, c, rfl, _, hc, _⟩ := h.form
    exact RowsR.nul _ _ _ _ _ _ hc
  · refine h.chg hc (fun g hv ⟨k, hk, e⟩ => ?_) (fun k hk ⟨l, hl, e⟩ => ?_)
    · have := (h0.gr_lt hn g hv).2; have := hr k hk; omega
    · have := (h0.row_lt hk).2; have := hr l hl; omega

end Go.Proofs.Ytokdfgodmhekmaa
