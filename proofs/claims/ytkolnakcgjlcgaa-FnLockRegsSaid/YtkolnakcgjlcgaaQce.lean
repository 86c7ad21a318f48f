/- Rows of registers that a call has made: read, marked, held; the contracts of LockRegs. Bytes that are read. The reader that the drawn inputs come from: it yields numbers, and changes nothing but its own counter. No condition. -/
import Derived.Laws.BitsAllLaws
import Derived.Test.YtkolnakcgjlcgaaQaa
import Derived.Test.YtkolnakcgjlcgaaQab
import Derived.Test.YtkolnakcgjlcgaaQbg
import Derived.Test.YtkolnakcgjlcgaaQcc

namespace Go.Proofs.Ytkolnakcgjlcgaa
open Go.RowKit

/-- n rows of four numbers, each in a block of its own. -/
structure RowsR (w : World) (B : Nat) (v : Value) (n : Nat) (rows : Nat → Nat) (R : Nat → Nat → Int) : Prop where
  form : ∃ A c, v = .slice A n c ∧ n ≤ c ∧ c ≤ 9223372036854775807 ∧ (0 < n → ∃ gr, A = some ⟨gr, 0, none⟩ ∧ B ≤ gr ∧ ∃ cur : Array Value, w.heap[gr]? = some (.cells cur 24 (0, 0)) ∧ ∀ k, k < n → cur[k]? = some (.slice (some ⟨rows k, 0, none⟩) 4 4))
  row : ∀ k, k < n → OwnO w B 3 1 (.slice (some ⟨rows k, 0, none⟩) 4 4) 4 ((List.range 4).map fun r => .int .i64 (R k r))
  inj : ∀ k l, k < n → l < n → rows k = rows l → k = l
def rowsL (n : Nat) (R : Nat → Nat → Int) : List (List Int) := (List.range n).map fun k => (List.range 4).map (R k)
section
variable {w w' : World} {B n : Nat} {v : Value} {rows : Nat → Nat} {R : Nat → Nat → Int}
theorem RowsR.chg {S : Nat → Prop} (h : RowsR w B v n rows R) (hc : Chg S w w') (h1 : ∀ g, v.ownBlock = some g → ¬ S g) (h2 : ∀ k, k < n → ¬ S (rows k)) : RowsR w' B v n rows R := by
  obtain ⟨⟨A, c, rfl, h3, h4, h5⟩, h6, h7⟩ := h
  refine ⟨⟨A, c, rfl, h3, h4, fun hn => ?_⟩, fun k hk => (h6 k hk).chg hc (fun g hg => by injection hg with hg; subst hg; exact h2 k hk), h7⟩
  obtain ⟨gr, rfl, hB, cur, hh, hr⟩ := h5 hn
  exact ⟨gr, rfl, hB, cur, hc.heap hh (h1 gr rfl), hr⟩
theorem RowsR.pure (h : RowsR w B v n rows R) (hp : Pure w w') : RowsR w' B v n rows R := h.chg (S := fun _ => False) (Chg.of_pure hp) (fun _ _ => id) (fun _ _ => id)
theorem RowsR.nul (w : World) (B : Nat) (A : Option Addr) (c : Nat) (rows : Nat → Nat) (R : Nat → Nat → Int) (hc : c ≤ 9223372036854775807) : RowsR w B (.slice A 0 c) 0 rows R :=
  ⟨⟨A, c, rfl, Nat.zero_le _, hc, fun h => absurd h (by omega)⟩, fun k hk => absurd hk (by omega), fun k l hk => absurd hk (by omega)⟩
theorem RowsR.base (h : RowsR w B v n rows R) {B' : Nat} (hB : B' ≤ B) : RowsR w B' v n rows R := by
  obtain ⟨⟨A, c, rfl, h3, h4, h5⟩, h6, h7⟩ := h
  refine ⟨⟨A, c, rfl, h3, h4, fun hn => ?_⟩, fun k hk => (h6 k hk).base' hB, h7⟩
  obtain ⟨gr, h1, h2, h3⟩ := h5 hn
  exact ⟨gr, h1, Nat.le_trans hB h2, h3⟩
theorem RowsR.gr_ne (h : RowsR w B v n rows R) (hn : 0 < n) {k : Nat} (hk : k < n) : ∀ g, v.ownBlock = some g → g ≠ rows k := by
  obtain ⟨⟨A, c, rfl, h3, h4, h5⟩, h6, h7⟩ := h
  intro g hg e
  obtain ⟨gr, rfl, hB, cur, hh, hr⟩ := h5 hn
  injection hg with hg
  subst hg
  exact (h6 k hk).ne_heap hh (by decide) (rows k) rfl e.symm
theorem RowsR.ints (h : RowsR w B v n rows R) {k : Nat} (hk : k < n) : Ints w (.slice (some ⟨rows k, 0, none⟩) 4 4) ((List.range 4).map (R k)) := by
  refine Cells.of_ownO (h.row k hk) fun j hj => ?_
  have hj4 : j < 4 := by simpa using hj
  simp [List.getD_eq_getElem?_getD, hj4]
theorem RowsR.read (h : RowsR w B v n rows R) : IntRows w v (rowsL n R) := by
  have hh := h
  obtain ⟨⟨A, c, rfl, h3, h4, h5⟩, h6, h7⟩ := h
  have hl : (rowsL n R).length = n := by simp [rowsL]
  refine ⟨A, c, by rw [hl], by rw [hl]; exact h3, h4, fun hn => ?_⟩
  rw [hl] at hn
  obtain ⟨gr, rfl, hB, cur, hhp, hr⟩ := h5 hn
  refine ⟨gr, 0, rfl, (Array.getElem?_eq_some_iff.1 hhp).1, fun j hj => ?_⟩
  rw [hl] at hj
  refine ⟨_, (cell_of_row w gr (0 + j) _ _ _ hhp).trans (by rw [Nat.zero_add]; exact hr j hj), ?_⟩
  have : (rowsL n R).getD j [] = (List.range 4).map (R j) := by simp [rowsL, List.getD_eq_getElem?_getD, hj]
  rw [this]; exact hh.ints hj
theorem RowsR.congr {R' : Nat → Nat → Int} (h : RowsR w B v n rows R) (he : ∀ k r, k < n → r < 4 → R k r = R' k r) : RowsR w B v n rows R' := by
  refine ⟨h.form, fun k hk => ?_, h.inj⟩
  have e : ((List.range 4).map fun r => (Value.int .i64 (R k r))) = (List.range 4).map fun r => (Value.int .i64 (R' k r)) := by
    apply List.map_congr_left
    intro r hr
    rw [he k r hk (by simpa using hr)]
  rw [← e]; exact h.row k hk
end

/-- The registers of lanes behind a run; no lanes where the arguments are invalid. -/
noncomputable def lanesA (cs : List Cd) (a : Int) (mem : List Int) : Nat := open Classical in if RunOk cs a mem then a.toNat else 0
theorem lanesA_le {cs : List Cd} {a : Int} {mem : List Int} : lanesA cs a mem ≤ 8 := by
  unfold lanesA
  split
  · rename_i h; have := h.2.1.2; omega
  · omega
theorem RM.rows {o : RMo} {w : World} {R : Nat → Nat → Int} {M : Nat → Int} (h : RM o w R M) (_hn : 1 ≤ o.n) : RowsR w o.B o.vr o.n o.rows R := by
  obtain ⟨cur, h1, h2⟩ := h.outer
  refine ⟨⟨_, _, rfl, h.cr1, h.cr2, fun _ => ⟨o.gr, rfl, h.lo, cur, h1, h2⟩⟩, fun k hk => ?_, h.inj⟩
  refine ⟨by simp, .inr ⟨o.rows k, 0, 4, _, rfl, h.rlo k hk, h.row k hk, by decide, by decide, by simp [row4], fun j u hu => ?_⟩⟩
  have hj : j < 4 := by
    rcases Nat.lt_or_ge j 4 with h | h
    · exact h
    · rw [List.getElem?_eq_none (by simpa using h)] at hu; cases hu
  have hj' : j = 0 ∨ j = 1 ∨ j = 2 ∨ j = 3 := by omega
  rw [Nat.zero_add]
  rcases hj' with rfl | rfl | rfl | rfl <;> (simp at hu; rw [← hu]; rfl)
def RegsP (cs : List Cd) (a : Int) (mem : List Int) (w : World) (e : Ending) (w' : World) : Prop :=
  ∃ v rows, e = .returned v ∧ RowsR w' w.heap.size v (lanesA cs a mem) rows (lockA cs a mem).R ∧ Pure w w'

set_option maxHeartbeats 1000000 in
set_option maxRecDepth 100000 in
theorem sregs_any (vl vm : Value) (cs : List Cd) (a : Int) (mem : List Int) (w : World) (h : Codes w vl cs) (hm : Ints w vm mem) (hs1 : cs.length ≤ 1048576) (hs2 : mem.length ≤ 1048576) :
    Calls Try.prog 26 #[vl, .int .i64 a, vm] w (RegsP cs a mem w) := by
  have H := Lib.hid h
  have HM := Lib.hid hm
  obtain ⟨A, c, rfl, hnc, hcm⟩ := h.form
  obtain ⟨Am, cm, rfl⟩ := hm.form
  clear h hm
  unfold RegsP
  by_cases hok : RunOk cs a mem
  · have HOK := Lib.hid hok
    obtain ⟨n, rfl, hn1, hn8⟩ := lanes_nat hok.2.1
    have HL : Hid (lanesA cs n mem = n) := Lib.hid (by unfold lanesA; rw [if_pos hok]; omega)
    rw [lockA_ok hok, HL.out]
    clear hok
    go_enter Try.func26, Try.ntmps26
    go_wp2_with fail
    refine (sok_any _ _ cs n mem _ H.out HM.out hs1 hs2 true (by simp only [true_iff]; exact HOK.out)).mono ?_
    rintro e w1 ⟨rfl, hp1⟩
    have HP1 := Lib.hid hp1
    clear hp1
    go_wp2_with fail
    refine (sall_any _ _ cs n mem _ (H.out.keep HP1.out) (Cells.keep HM.out HP1.out) HOK.out.1 hn1 hn8 HOK.out.2.2).mono ?_
    rintro e w2 ⟨o, vt, rfl, hw0, hcs, hvl, hn, hmm, hck, hrun⟩
    have p2 : w2.cell? ⟨o.p, 2, none⟩ = some o.rm.vr := hrun.obj.cell 2
    have hrows := hrun.rm.rows hrun.n1
    rw [hn, hrun.base, hw0] at hrows
    have HRW := Lib.hid hrows
    have HP2 : Hid (Pure w1 w2) := Lib.hid (hw0 ▸ hrun.pure)
    clear hrun hcs hvl hmm hck hw0 hrows hn
    go_wp2
    go_ret
    exact ⟨_, _, rfl, HRW.out.base HP1.out.size, HP1.out.trans HP2.out⟩
  · have HOK := Lib.hid hok
    have HL : Hid (lanesA cs a mem = 0) := Lib.hid (by unfold lanesA; rw [if_neg hok])
    rw [HL.out]
    clear hok
    go_enter Try.func26, Try.ntmps26
    go_wp2_with fail
    refine (sok_any _ _ cs a mem _ H.out HM.out hs1 hs2 false (by simp [HOK.out])).mono ?_
    rintro e w1 ⟨rfl, hp1⟩
    have HP1 := Lib.hid hp1
    clear hp1
    go_wp2
    go_ret
    exact ⟨_, fun _ => 0, rfl, RowsR.nul _ _ _ _ _ _ (by decide), HP1.out.trans (by exact (by repeat (first | assumption | exact Pure.refl _ | refine Pure.drewN ?_ _ | refine Pure.drew ?_ | refine Pure.alloc ?_ _ | refine Pure.setCell ?_ (by simp <;> omega) _)))⟩

set_option maxHeartbeats 1000000 in
set_option maxRecDepth 100000 in
theorem iregs_any (vl vm : Value) (cs : List Cd) (a : Int) (mem : List Int) (w : World) (h : Codes w vl cs) (hm : Ints w vm mem) (hs1 : cs.length ≤ 1048576) (hs2 : mem.length ≤ 1048576) :
    Calls Try.prog 24 #[vl, .int .i64 a, vm] w (RegsP cs a mem w) := by
  have H := Lib.hid h
  have HM := Lib.hid hm
  obtain ⟨A, c, rfl, hnc, hcm⟩ := h.form
  obtain ⟨Am, cm, rfl⟩ := hm.form
  clear h hm
  unfold RegsP
  by_cases hok : RunOk cs a mem
  · have HOK := Lib.hid hok
    obtain ⟨n, rfl, hn1, hn8⟩ := lanes_nat hok.2.1
    have HL : Hid (lanesA cs n mem = n) := Lib.hid (by unfold lanesA; rw [if_pos hok]; omega)
    rw [lockA_ok hok, HL.out]
    clear hok
    go_enter Try.func24, Try.ntmps24
    go_wp2_with fail
    refine (ilock_any _ _ cs n mem _ H.out HM.out HOK.out.1 hn1 hn8 HOK.out.2.2).mono ?_
    rintro e w1 ⟨o, vb, va, rfl, hp0, hcs, hvl, hlk, hn, hmm, hrun⟩
    have p1 : w1.cell? ⟨o.p, 1, none⟩ = some o.rm.vr := hrun.obj.cell 1
    have hrows := hrun.rm.rows hrun.n1
    rw [hn, hrun.base] at hrows
    have HRW := Lib.hid (hrows.base hp0.size)
    have HP2 := Lib.hid (hp0.trans hrun.pure)
    clear hrun hcs hvl hmm hlk hrows hn hp0
    go_wp2
    go_ret
    exact ⟨_, _, rfl, HRW.out, HP2.out⟩
  · have HOK := Lib.hid hok
    have HL : Hid (lanesA cs a mem = 0) := Lib.hid (by unfold lanesA; rw [if_neg hok])
    rw [HL.out]
    clear hok
    go_enter Try.func24, Try.ntmps24
    go_wp2_with fail
    refine (ino_any _ _ cs a mem _ H.out HM.out hs1 hs2 HOK.out).mono ?_
    rintro e w1 ⟨rfl, hp1⟩
    go_wp2
    go_ret
    exact ⟨_, fun _ => 0, rfl, RowsR.nul _ _ _ _ _ _ (by decide), hp1⟩

end Go.Proofs.Ytkolnakcgjlcgaa

namespace Go.Proofs.Ytkolnakcgjlcgaa
open Go.RowKit

def Bytes (w : World) (v : Value) (bs : List Int) : Prop := (Cells w v bs.length 1 fun j => .int .u8 (bs.getD j 0)) ∧ ∀ x ∈ bs, 0 ≤ x ∧ x ≤ 255
theorem Bytes.keep {w w' : World} {v : Value} {bs : List Int} (h : Bytes w v bs) (hp : Pure w w') : Bytes w' v bs := ⟨Cells.keep h.1 hp, h.2⟩
theorem Bytes.form {w : World} {v : Value} {bs : List Int} (h : Bytes w v bs) : ∃ A c, v = .slice A bs.length c ∧ bs.length ≤ c ∧ c ≤ 9223372036854775807 := by
  obtain ⟨⟨A, c, h1, h2, h3, _⟩, _⟩ := h
  exact ⟨A, c, h1, h2, h3⟩
theorem Bytes.at_ {w : World} {A : Option Addr} {n c : Nat} {bs : List Int} (h : Bytes w (.slice A n c) bs) {k : Nat} (hk : k < bs.length) : ∃ b o, A = some ⟨b, o, none⟩ ∧ b < w.heap.size ∧ ∀ j, j < bs.length → w.cell? ⟨b, o + j, none⟩ = some (.int .u8 (bs.getD j 0)) := by
  obtain ⟨⟨A', c', hv, _, _, h4⟩, _⟩ := h
  injection hv with e1 e2 e3
  subst e1
  obtain ⟨b, o, he, hb, hc⟩ := h4 (by omega)
  exact ⟨b, o, he, hb, fun j hj => hc j (by omega)⟩
theorem Bytes.range {w : World} {v : Value} {bs : List Int} (h : Bytes w v bs) {k : Nat} (hk : k < bs.length) : 0 ≤ bs.getD k 0 ∧ bs.getD k 0 ≤ 255 := by
  have : bs.getD k 0 ∈ bs := by simp [List.getD_eq_getElem?_getD, hk]
  exact h.2 _ this
/-- The first bytes. -/
theorem Bytes.take {w : World} {A : Option Addr} {n c : Nat} {bs : List Int} (h : Bytes w (.slice A n c) bs) {k : Nat} (hk : k ≤ bs.length) : Bytes w (.slice A k c) (bs.take k) := by
  obtain ⟨⟨A', c', hv, h2, h3, h4⟩, hr⟩ := h
  injection hv with e1 e2 e3
  subst e1 e3
  have hl : (bs.take k).length = k := by simp; omega
  refine ⟨⟨A, c, by rw [hl], by rw [hl]; omega, h3, fun hn => ?_⟩, fun x hx => hr x (List.mem_of_mem_take hx)⟩
  rw [hl] at hn
  obtain ⟨b, o, he, hb, hc⟩ := h4 (by omega)
  refine ⟨b, o, he, hb, fun j hj => ?_⟩
  rw [hl] at hj
  rw [hc j (by omega)]
  have : j < k := by omega
  simp [List.getD_eq_getElem?_getD, this]

end Go.Proofs.Ytkolnakcgjlcgaa

namespace Go.Proofs.Ytkolnakcgjlcgaa
open Go.RowKit

/-- The reader's block, in a world that has grown out of w0. -/
structure Rdr (w0 w : World) (p : Nat) (vb : Value) (bs : List Int) (c : Nat) : Prop where
  pure : Pure w0 w
  lo : w0.heap.size ≤ p
  bytes : Bytes w0 vb bs
  len : bs.length ≤ 2000
  cell : w.heap[p]? = some (.cells #[vb, .int .i64 (c : Nat)] 105 (0, 0))
section
variable {w0 w w' : World} {p c : Nat} {vb : Value} {bs : List Int}
theorem Rdr.keep (h : Rdr w0 w p vb bs c) (hp : Pure w w') : Rdr w0 w' p vb bs c :=
  ⟨h.pure.trans hp, h.lo, h.bytes, h.len, (Chg.of_pure (S := fun _ => False) hp).heap h.cell id⟩
theorem Rdr.chg {S : Nat → Prop} (h : Rdr w0 w p vb bs c) (hc : Chg S w w') (hS : ∀ k, S k → w0.heap.size ≤ k) (hp : ¬ S p) : Rdr w0 w' p vb bs c :=
  ⟨Chg.pure h.pure hc hS, h.lo, h.bytes, h.len, hc.heap h.cell hp⟩
theorem Rdr.lt (h : Rdr w0 w p vb bs c) : p < w.heap.size := (Array.getElem?_eq_some_iff.1 h.cell).1
theorem Rdr.set (h : Rdr w0 w p vb bs c) : Rdr w0 (w.setCell ⟨p, 1, none⟩ (.int .i64 ((c + 1 : Nat) : Int))) p vb bs (c + 1) := by
  refine ⟨Pure.setCell h.pure h.lo _, h.lo, h.bytes, h.len, ?_⟩
  rw [heap_setCell_same w p 1 _ _ _ h.cell]; rfl
end

/-- The reader, drawn from at most C times. -/
def Rb (w0 w : World) (p : Nat) (vb : Value) (bs : List Int) (C : Nat) : Prop := ∃ c, c ≤ C ∧ Rdr w0 w p vb bs c
theorem Rb.keep {w0 w w' : World} {p C : Nat} {vb : Value} {bs : List Int} (h : Rb w0 w p vb bs C) (hp : Pure w w') : Rb w0 w' p vb bs C := by
  obtain ⟨c, h1, h2⟩ := h; exact ⟨c, h1, h2.keep hp⟩
theorem Rb.more {w0 w : World} {p C D : Nat} {vb : Value} {bs : List Int} (h : Rb w0 w p vb bs C) (hD : C ≤ D) : Rb w0 w p vb bs D := by
  obtain ⟨c, h1, h2⟩ := h; exact ⟨c, by omega, h2⟩
theorem Rb.chg {S : Nat → Prop} {w0 w w' : World} {p C : Nat} {vb : Value} {bs : List Int} (h : Rb w0 w p vb bs C) (hc : Chg S w w') (hS : ∀ k, S k → w0.heap.size ≤ k) (hp : ¬ S p) : Rb w0 w' p vb bs C := by
  obtain ⟨c, h1, h2⟩ := h; exact ⟨c, h1, h2.chg hc hS hp⟩
theorem Rb.lt {w0 w : World} {p C : Nat} {vb : Value} {bs : List Int} (h : Rb w0 w p vb bs C) : p < w.heap.size := by obtain ⟨c, _, h2⟩ := h; exact h2.lt
theorem Rb.pure {w0 w : World} {p C : Nat} {vb : Value} {bs : List Int} (h : Rb w0 w p vb bs C) : Pure w0 w := by obtain ⟨c, _, h2⟩ := h; exact h2.pure
theorem Rb.lo {w0 w : World} {p C : Nat} {vb : Value} {bs : List Int} (h : Rb w0 w p vb bs C) : w0.heap.size ≤ p := by obtain ⟨c, _, h2⟩ := h; exact h2.lo
theorem Rb.cell {w0 w : World} {p C : Nat} {vb : Value} {bs : List Int} (h : Rb w0 w p vb bs C) : ∃ cur, w.heap[p]? = some (.cells cur 105 (0, 0)) := by obtain ⟨c, _, h2⟩ := h; exact ⟨_, h2.cell⟩
abbrev OnlyAt (p : Nat) (w w' : World) : Prop := Chg (fun k => k = p) w w'

theorem xor_nonneg {a : Nat} (h : a < 4611686018427387904) : ∃ r : Nat, bits .xor .i64 (a : Int) ((a : Int) / 64) = (r : Int) := by
  have : ((a : Int) / 64) = ((a / 64 : Nat) : Int) := by norm_cast
  rw [this]
  exact ⟨a ^^^ (a / 64), by
    have h2 : a / 64 < 4611686018427387904 := by omega
    exact bits_xor (by omega) (by omega)⟩

set_option maxHeartbeats 2000000 in
set_option maxRecDepth 100000 in
theorem pick_any (w0 w : World) (p c : Nat) (vb : Value) (bs : List Int) (n : Nat) (h : Rdr w0 w p vb bs c) (hc : c ≤ 1099511627776) (hn : n ≤ 1048576) :
    Calls Try.prog 78 #[.pointer (some ⟨p, 0, none⟩), .int .i64 n] w fun e w' => ∃ x : Nat, e = .returned (.int .i64 x) ∧ (x < n ∨ x = 0) ∧ Rdr w0 w' p vb bs (c + 1) ∧ Chg (fun k => k = p) w w' := by
  have H := Lib.hid h
  obtain ⟨A, cp, rfl, hnc, hcm⟩ := h.bytes.form
  have hlen := h.len
  have q0 : w.cell? ⟨p, 0, none⟩ = some (.slice A bs.length cp) := (cell_of_row w p 0 _ _ _ h.cell).trans rfl
  have q1 : w.cell? ⟨p, 1, none⟩ = some (.int .i64 (c : Nat)) := (cell_of_row w p 1 _ _ _ h.cell).trans rfl
  have f1 := frozen_of_row w p 1 _ _ h.cell
  have ec : ((c + 1 : Nat) : Int) = (c : Int) + 1 := by push_cast; rfl
  have hs := h.set
  have hcg : Chg (fun k => k = p) w (w.setCell ⟨p, 1, none⟩ (.int .i64 ((c + 1 : Nat) : Int))) := Chg.of_set w p 1 _ rfl
  have z0 : (w.setCell ⟨p, 1, none⟩ (.int .i64 ((c + 1 : Nat) : Int))).cell? ⟨p, 0, none⟩ = some (.slice A bs.length cp) := (cell_of_row _ p 0 _ _ _ hs.cell).trans rfl
  have z1 : (w.setCell ⟨p, 1, none⟩ (.int .i64 ((c + 1 : Nat) : Int))).cell? ⟨p, 1, none⟩ = some (.int .i64 ((c + 1 : Nat) : Int)) := (cell_of_row _ p 1 _ _ _ hs.cell).trans rfl
  rw [ec] at hcg z0 z1
  have hs' : Rdr w0 (w.setCell ⟨p, 1, none⟩ (.int .i64 ((c : Int) + 1))) p (.slice A bs.length cp) bs (c + 1) := by rw [← ec]; exact hs
  obtain ⟨wx, Hwx⟩ : ∃ wx, Hid (w.setCell ⟨p, 1, none⟩ (.int .i64 ((c : Int) + 1)) = wx) := ⟨_, Lib.hid rfl⟩
  have HR : Hid (Rdr w0 (w.setCell ⟨p, 1, none⟩ (.int .i64 ((c : Int) + 1))) p (.slice A bs.length cp) bs (c + 1)) := Lib.hid hs'
  have HCg := Lib.hid hcg
  clear h hs hs' hcg ec
  by_cases hn0 : (n : Int) < 1
  · go_enter Try.func78, Try.ntmps78
    go_wp2
    go_ret
    exact ⟨0, rfl, .inr rfl, HR.out, HCg.out⟩
  · by_cases hb0 : bs.length = 0
    · have hbz : ((bs.length : Int) == 0) = true := by simp [hb0]
      clear hb0
      go_enter Try.func78, Try.ntmps78
      go_wp2
      go_ret
      exact ⟨0, rfl, .inr rfl, HR.out, HCg.out⟩
    · have hbz : ((bs.length : Int) == 0) = false := by simpa using hb0
      by_cases hlt : c < bs.length
      · obtain ⟨b, o, rfl, hb, hcell⟩ := HR.out.bytes.at_ hlt
        have r0 := (HR.out.pure.cell b _ hb).trans (hcell c hlt)
        have hrg := HR.out.bytes.range hlt
        obtain ⟨y, hy⟩ : ∃ y : Nat, bs.getD c 0 = y := ⟨(bs.getD c 0).toNat, by omega⟩
        rw [hy] at r0 hrg
        clear hcell hy hb0
        have htm : (y : Int).tmod (n : Int) = ((y % n : Nat) : Int) := by rw [Int.tmod_eq_emod_of_nonneg (by omega)]; norm_cast
        have hml : y % n < n := Nat.mod_lt _ (by omega)
        obtain ⟨j, Hj⟩ : ∃ j, Hid (y % n = j) := ⟨_, Lib.hid rfl⟩
        rw [Hj.out] at htm hml
        go_enter Try.func78, Try.ntmps78
        go_wp2
        go_ret
        exact ⟨j, rfl, .inl hml, HR.out, HCg.out⟩
      · have hL : 0 < bs.length := by omega
        have t1 : c % bs.length < bs.length := Nat.mod_lt _ hL
        have t2 : (c * 7 + 3) % bs.length < bs.length := Nat.mod_lt _ hL
        obtain ⟨b, o, rfl, hb, hcell⟩ := HR.out.bytes.at_ t1
        have r1 := (HR.out.pure.cell b _ hb).trans (hcell _ t1)
        have r2 := (HR.out.pure.cell b _ hb).trans (hcell _ t2)
        have g1 := HR.out.bytes.range t1
        have g2 := HR.out.bytes.range t2
        obtain ⟨y1, hy1⟩ : ∃ y : Nat, bs.getD (c % bs.length) 0 = y := ⟨(bs.getD (c % bs.length) 0).toNat, by omega⟩
        obtain ⟨y2, hy2⟩ : ∃ y : Nat, bs.getD ((c * 7 + 3) % bs.length) 0 = y := ⟨(bs.getD ((c * 7 + 3) % bs.length) 0).toNat, by omega⟩
        rw [hy1] at r1 g1
        rw [hy2] at r2 g2
        have m1 : (c : Int).tmod (bs.length : Int) = ((c % bs.length : Nat) : Int) := by rw [Int.tmod_eq_emod_of_nonneg (by omega)]; norm_cast
        have m2 : ((c : Int) * 7 + 3).tmod (bs.length : Int) = (((c * 7 + 3) % bs.length : Nat) : Int) := by rw [Int.tmod_eq_emod_of_nonneg (by omega)]; norm_cast
        have m3 : (c : Int).tdiv (bs.length : Int) = ((c / bs.length : Nat) : Int) := by rw [Int.tdiv_eq_ediv_of_nonneg (by omega)]; norm_cast
        have d3 : c / bs.length ≤ c := Nat.div_le_self _ _
        obtain ⟨j1, Hj1⟩ : ∃ j, Hid (c % bs.length = j) := ⟨_, Lib.hid rfl⟩
        obtain ⟨j2, Hj2⟩ : ∃ j, Hid ((c * 7 + 3) % bs.length = j) := ⟨_, Lib.hid rfl⟩
        obtain ⟨j3, Hj3⟩ : ∃ j, Hid (c / bs.length = j) := ⟨_, Lib.hid rfl⟩
        rw [Hj1.out] at t1 r1 m1
        rw [Hj2.out] at t2 r2 m2
        rw [Hj3.out] at m3 d3
        clear hcell hy1 hy2 hb0
        obtain ⟨u, hu⟩ : ∃ u : Nat, (y1 : Int) * 131 + (y2 : Int) * 1117 + (c : Int) * 29 + (j3 : Int) * 53 = u := ⟨y1 * 131 + y2 * 1117 + c * 29 + j3 * 53, by push_cast; rfl⟩
        have hu2 : u < 4611686018427387904 := by omega
        obtain ⟨x, hx⟩ := xor_nonneg hu2
        have htm : (x : Int).tmod (n : Int) = ((x % n : Nat) : Int) := by rw [Int.tmod_eq_emod_of_nonneg (by omega)]; norm_cast
        have hml : x % n < n := Nat.mod_lt _ (by omega)
        obtain ⟨j, Hj⟩ : ∃ j, Hid (x % n = j) := ⟨_, Lib.hid rfl⟩
        rw [Hj.out] at htm hml
        go_enter Try.func78, Try.ntmps78
        go_wp2
        go_quiet (fail)
        go_wp2
        go_ret
        exact ⟨j, rfl, .inl hml, HR.out.keep (by exact (by repeat (first | assumption | exact Pure.refl _ | refine Pure.drewN ?_ _ | refine Pure.drew ?_ | refine Pure.alloc ?_ _ | refine Pure.setCell ?_ (by simp <;> omega) _))), HCg.out.trans (Chg.of_pure (by exact (by repeat (first | assumption | exact Pure.refl _ | refine Pure.drewN ?_ _ | refine Pure.drew ?_ | refine Pure.alloc ?_ _ | refine Pure.setCell ?_ (by simp <;> omega) _))))⟩

theorem pick_t (w0 w : World) (p C : Nat) (vb : Value) (bs : List Int) (n : Nat) (N : Int) (hN : N = n) (h : Rb w0 w p vb bs C) (hc : C ≤ 1099511627776) (hn : n ≤ 1048576) (hn1 : 1 ≤ n) :
    Calls Try.prog 78 #[.pointer (some ⟨p, 0, none⟩), .int .i64 N] w fun e w' => ∃ x : Nat, e = .returned (.int .i64 x) ∧ x < n ∧ Rb w0 w' p vb bs (C + 1) ∧ OnlyAt p w w' := by
  subst hN
  obtain ⟨c, h1, h2⟩ := h
  refine (pick_any w0 w p c vb bs n h2 (by omega) hn).mono ?_
  rintro e w' ⟨x, he, hx, hr, hg⟩
  exact ⟨x, he, by omega, ⟨c + 1, by omega, hr⟩, hg⟩
set_option maxHeartbeats 1000000 in
theorem odd_any (w0 w : World) (p C : Nat) (vb : Value) (bs : List Int) (n : Nat) (N : Int) (hN : N = n) (h : Rb w0 w p vb bs C) (hc : C ≤ 1099511627776) (hn : n ≤ 1048576) :
    Calls Try.prog 83 #[.pointer (some ⟨p, 0, none⟩), .int .i64 N] w fun e w' => ∃ B : Bool, e = .returned (.bool B) ∧ Rb w0 w' p vb bs (C + 1) ∧ OnlyAt p w w' := by
  subst hN
  have H := Lib.hid h
  clear h
  by_cases h0 : (n : Int) > 0
  · go_enter Try.func83, Try.ntmps83
    go_wp2_with fail
    refine (pick_t w0 _ p C vb bs n _ rfl H.out hc hn (by omega)).mono ?_
    rintro e w1 ⟨x, rfl, hx, hr, hg⟩
    have HR := Lib.hid hr
    have HG := Lib.hid hg
    clear hr hg
    by_cases hB : (x : Int) = (n : Int) - 1
    · have hb : ((x : Int) == (n : Int) - 1) = true := by simp [hB]
      clear hB
      go_wp2
      go_ret
      exact ⟨_, rfl, HR.out, HG.out⟩
    · have hb : ((x : Int) == (n : Int) - 1) = false := by simp [hB]
      clear hB
      go_wp2
      go_ret
      exact ⟨_, rfl, HR.out, HG.out⟩
  · obtain rfl : n = 0 := by omega
    clear h0
    go_enter Try.func83, Try.ntmps83
    go_wp2
    go_ret
    exact ⟨_, rfl, H.out.more (by omega), Chg.refl _ _⟩

def OpenedP (w : World) (e : Ending) (w' : World) : Prop := ∃ p vb bs', e = .returned (.pointer (some ⟨p, 0, none⟩)) ∧ Rb w w' p vb bs' 0 ∧ Pure w w'

set_option maxHeartbeats 1000000 in
theorem draw_open (v : Value) (bs : List Int) (w : World) (h : Bytes w v bs) (hs : bs.length ≤ 1048576) : Calls Try.prog 58 #[v] w (OpenedP w) := by
  have H := Lib.hid h
  obtain ⟨A, c, rfl, hnc, hcm⟩ := h.form
  clear h
  by_cases hl : (bs.length : Int) > 2000
  · go_enter Try.func58, Try.ntmps58
    go_wp2
    go_ret
    exact ⟨w.heap.size, _, bs.take 2000, rfl, ⟨0, Nat.le_refl _, ⟨by exact (by repeat (first | assumption | exact Pure.refl _ | refine Pure.drewN ?_ _ | refine Pure.drew ?_ | refine Pure.alloc ?_ _ | refine Pure.setCell ?_ (by simp <;> omega) _)), Nat.le_refl _, H.out.take (by omega), by simp; omega, heap_alloc_new _ _⟩⟩, by exact (by repeat (first | assumption | exact Pure.refl _ | refine Pure.drewN ?_ _ | refine Pure.drew ?_ | refine Pure.alloc ?_ _ | refine Pure.setCell ?_ (by simp <;> omega) _))⟩
  · go_enter Try.func58, Try.ntmps58
    go_wp2
    go_ret
    exact ⟨w.heap.size, _, bs, rfl, ⟨0, Nat.le_refl _, ⟨by exact (by repeat (first | assumption | exact Pure.refl _ | refine Pure.drewN ?_ _ | refine Pure.drew ?_ | refine Pure.alloc ?_ _ | refine Pure.setCell ?_ (by simp <;> omega) _)), Nat.le_refl _, H.out, by omega, heap_alloc_new _ _⟩⟩, by exact (by repeat (first | assumption | exact Pure.refl _ | refine Pure.drewN ?_ _ | refine Pure.drew ?_ | refine Pure.alloc ?_ _ | refine Pure.setCell ?_ (by simp <;> omega) _))⟩

end Go.Proofs.Ytkolnakcgjlcgaa
