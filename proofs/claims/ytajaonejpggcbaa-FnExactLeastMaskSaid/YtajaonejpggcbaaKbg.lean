/- The reader that the drawn inputs come from: it yields numbers, and changes nothing but its own counter. A region that draws its order, walked by what holds of the operations that are through: each operation once, whatever the order. No condition. -/
import Derived.Laws.BitsAllLaws
import Derived.Test.YtajaonejpggcbaaKac
import Derived.Test.YtajaonejpggcbaaKae
import Derived.Test.YtajaonejpggcbaaKah
import Derived.Test.YtajaonejpggcbaaKbf

namespace Go.Proofs.Ytajaonejpggcbaa
open Go.RowKit

/-- The reader's block, in a world that has grown out of w0. -/
structure Rdr (w0 w : World) (p : Nat) (vb : Value) (bs : List Int) (c : Nat) : Prop where
  pure : Pure w0 w
  lo : w0.heap.size ≤ p
  bytes : Bytes w0 vb bs
  len : bs.length ≤ 2000
  cell : w.heap[p]? = some (.cells #[vb, .int .i64 (c : Nat)] 134 (0, 0))
section
variable {w0 w w' : World} {p c : Nat} {vb : Value} {bs : List Int}
theorem Rdr.keep (h : Rdr w0 w p vb bs c) (hp : Pure w w') : Rdr w0 w' p vb bs c :=
  ⟨h.pure.trans hp, h.lo, h.bytes, h.len, (Chg.of_pure (S := fun _ => False) hp).heap h.cell id⟩
theorem Rdr.chg {S : Nat → Prop} (h : Rdr w0 w p vb bs c) (hc : Chg S w w') (hS : ∀ k, S k → w0.heap.size ≤ k) (hp : ¬ S p) : Rdr w0 w' p vb bs c :=
  ⟨Chg.pure h.pure hc hS, h.lo, h.bytes, h.len, hc.heap h.cell hp⟩
theorem Rdr.lt (h : Rdr w0 w p vb bs c) : p < w.heap.size := (Array.getElem?_eq_some_iff.1 h.cell).1
theorem Rdr.set (h : Rdr w0 w p vb bs c) : Rdr w0 (w.setCell ⟨p, 1, none⟩ (.int .i64 ((c + 1 : Nat) : Int))) p vb bs (c + 1) := by
  refine ⟨Pure.setCell h.pure h.lo _, h.lo, h.bytes, h.len, ?_⟩
  rw [heap_setCell_same w p 1 _ _ _ h.cell]; rfl
end

/-- The reader, drawn from at most C times. -/
def Rb (w0 w : World) (p : Nat) (vb : Value) (bs : List Int) (C : Nat) : Prop := ∃ c, c ≤ C ∧ Rdr w0 w p vb bs c
theorem Rb.keep {w0 w w' : World} {p C : Nat} {vb : Value} {bs : List Int} (h : Rb w0 w p vb bs C) (hp : Pure w w') : Rb w0 w' p vb bs C := by
  obtain ⟨c, h1, h2⟩ := h; exact ⟨c, h1, h2.keep hp⟩
theorem Rb.more {w0 w : World} {p C D : Nat} {vb : Value} {bs : List Int} (h : Rb w0 w p vb bs C) (hD : C ≤ D) : Rb w0 w p vb bs D := by
  obtain ⟨c, h1, h2⟩ := h; exact ⟨c, by omega, h2⟩
theorem Rb.chg {S : Nat → Prop} {w0 w w' : World} {p C : Nat} {vb : Value} {bs : List Int} (h : Rb w0 w p vb bs C) (hc : Chg S w w') (hS : ∀ k, S k → w0.heap.size ≤ k) (hp : ¬ S p) : Rb w0 w' p vb bs C := by
  obtain ⟨c, h1, h2⟩ := h; exact ⟨c, h1, h2.chg hc hS hp⟩
theorem Rb.lt {w0 w : World} {p C : Nat} {vb : Value} {bs : List Int} (h : Rb w0 w p vb bs C) : p < w.heap.size := by obtain ⟨c, _, h2⟩ := h; exact h2.lt
theorem Rb.pure {w0 w : World} {p C : Nat} {vb : Value} {bs : List Int} (h : Rb w0 w p vb bs C) : Pure w0 w := by obtain ⟨c, _, h2⟩ := h; exact h2.pure
theorem Rb.lo {w0 w : World} {p C : Nat} {vb : Value} {bs : List Int} (h : Rb w0 w p vb bs C) : w0.heap.size ≤ p := by obtain ⟨c, _, h2⟩ := h; exact h2.lo
theorem Rb.cell {w0 w : World} {p C : Nat} {vb : Value} {bs : List Int} (h : Rb w0 w p vb bs C) : ∃ cur, w.heap[p]? = some (.cells cur 134 (0, 0)) := by obtain ⟨c, _, h2⟩ := h; exact ⟨_, h2.cell⟩
abbrev OnlyAt (p : Nat) (w w' : World) : Prop := Chg (fun k => k = p) w w'

theorem xor_nonneg {a : Nat} (h : a < 4611686018427387904) : ∃ r : Nat, bits .xor .i64 (a : Int) ((a : Int) / 64) = (r : Int) := by
  have : ((a : Int) / 64) = ((a / 64 : Nat) : Int) := by norm_cast
  rw [this]
  exact ⟨a ^^^ (a / 64), by
    have h2 : a / 64 < 4611686018427387904 := by omega
    exact bits_xor (by omega) (by omega)⟩

set_option maxHeartbeats 2000000 in
set_option maxRecDepth 100000 in
theorem pick_any (w0 w : World) (p c : Nat) (vb : Value) (bs : List Int) (n : Nat) (h : Rdr w0 w p vb bs c) (hc : c ≤ 1099511627776) (hn : n ≤ 1048576) :
    Calls Try.prog 99 #[.pointer (some ⟨p, 0, none⟩), .int .i64 n] w fun e w' => ∃ x : Nat, e = .returned (.int .i64 x) ∧ (x < n ∨ x = 0) ∧ Rdr w0 w' p vb bs (c + 1) ∧ Chg (fun k => k = p) w w' := by
  have H := Lib.hid h
  obtain ⟨A, cp, rfl, hnc, hcm⟩ := h.bytes.form
  have hlen := h.len
  have q0 : w.cell? ⟨p, 0, none⟩ = some (.slice A bs.length cp) := (cell_of_row w p 0 _ _ _ h.cell).trans rfl
  have q1 : w.cell? ⟨p, 1, none⟩ = some (.int .i64 (c : Nat)) := (cell_of_row w p 1 _ _ _ h.cell).trans rfl
  have f1 := frozen_of_row w p 1 _ _ h.cell
  have ec : ((c + 1 : Nat) : Int) = (c : Int) + 1 := by push_cast; rfl
  have hs := h.set
  have hcg : Chg (fun k => k = p) w (w.setCell ⟨p, 1, none⟩ (.int .i64 ((c + 1 : Nat) : Int))) := Chg.of_set w p 1 _ rfl
  have z0 : (w.setCell ⟨p, 1, none⟩ (.int .i64 ((c + 1 : Nat) : Int))).cell? ⟨p, 0, none⟩ = some (.slice A bs.length cp) := (cell_of_row _ p 0 _ _ _ hs.cell).trans rfl
  have z1 : (w.setCell ⟨p, 1, none⟩ (.int .i64 ((c + 1 : Nat) : Int))).cell? ⟨p, 1, none⟩ = some (.int .i64 ((c + 1 : Nat) : Int)) := (cell_of_row _ p 1 _ _ _ hs.cell).trans rfl
  rw [ec] at hcg z0 z1
  have hs' : Rdr w0 (w.setCell ⟨p, 1, none⟩ (.int .i64 ((c : Int) + 1))) p (.slice A bs.length cp) bs (c + 1) := by rw [← ec]; exact hs
  obtain ⟨wx, Hwx⟩ : ∃ wx, Hid (w.setCell ⟨p, 1, none⟩ (.int .i64 ((c : Int) + 1)) = wx) := ⟨_, Lib.hid rfl⟩
  have HR : Hid (Rdr w0 (w.setCell ⟨p, 1, none⟩ (.int .i64 ((c : Int) + 1))) p (.slice A bs.length cp) bs (c + 1)) := Lib.hid hs'
  have HCg := Lib.hid hcg
  clear h hs hs' hcg ec
  by_cases hn0 : (n : Int) < 1
  · go_enter Try.func99, Try.ntmps99
    go_wp2
    go_ret
    exact ⟨0, rfl, .inr rfl, HR.out, HCg.out⟩
  · by_cases hb0 : bs.length = 0
    · have hbz : ((bs.length : Int) == 0) = true := by simp [hb0]
      clear hb0
      go_enter Try.func99, Try.ntmps99
      go_wp2
      go_ret
      exact ⟨0, rfl, .inr rfl, HR.out, HCg.out⟩
    · have hbz : ((bs.length : Int) == 0) = false := by simpa using hb0
      by_cases hlt : c < bs.length
      · obtain ⟨b, o, rfl, hb, hcell⟩ := HR.out.bytes.at_ hlt
        have r0 := (HR.out.pure.cell b _ hb).trans (hcell c hlt)
        have hrg := HR.out.bytes.range hlt
        obtain ⟨y, hy⟩ : ∃ y : Nat, bs.getD c 0 = y := ⟨(bs.getD c 0).toNat, by omega⟩
        rw [hy] at r0 hrg
        clear hcell hy hb0
        have htm : (y : Int).tmod (n : Int) = ((y % n : Nat) : Int) := by rw [Int.tmod_eq_emod_of_nonneg (by omega)]; norm_cast
        have hml : y % n < n := Nat.mod_lt _ (by omega)
        obtain ⟨j, Hj⟩ : ∃ j, Hid (y % n = j) := ⟨_, Lib.hid rfl⟩
        rw [Hj.out] at htm hml
        go_enter Try.func99, Try.ntmps99
        go_wp2
        go_ret
        exact ⟨j, rfl, .inl hml, HR.out, HCg.out⟩
      · have hL : 0 < bs.length := by omega
        have t1 : c % bs.length < bs.length := Nat.mod_lt _ hL
        have t2 : (c * 7 + 3) % bs.length < bs.length := Nat.mod_lt _ hL
        obtain ⟨b, o, rfl, hb, hcell⟩ := HR.out.bytes.at_ t1
        have r1 := (HR.out.pure.cell b _ hb).trans (hcell _ t1)
        have r2 := (HR.out.pure.cell b _ hb).trans (hcell _ t2)
        have g1 := HR.out.bytes.range t1
        have g2 := HR.out.bytes.range t2
        obtain ⟨y1, hy1⟩ : ∃ y : Nat, bs.getD (c % bs.length) 0 = y := ⟨(bs.getD (c % bs.length) 0).toNat, by omega⟩
        obtain ⟨y2, hy2⟩ : ∃ y : Nat, bs.getD ((c * 7 + 3) % bs.length) 0 = y := ⟨(bs.getD ((c * 7 + 3) % bs.length) 0).toNat, by omega⟩
        rw [hy1] at r1 g1
        rw [hy2] at r2 g2
        have m1 : (c : Int).tmod (bs.length : Int) = ((c % bs.length : Nat) : Int) := by rw [Int.tmod_eq_emod_of_nonneg (by omega)]; norm_cast
        have m2 : ((c : Int) * 7 + 3).tmod (bs.length : Int) = (((c * 7 + 3) % bs.length : Nat) : Int) := by rw [Int.tmod_eq_emod_of_nonneg (by omega)]; norm_cast
        have m3 : (c : Int).tdiv (bs.length : Int) = ((c / bs.length : Nat) : Int) := by rw [Int.tdiv_eq_ediv_of_nonneg (by omega)]; norm_cast
        have d3 : c / bs.length ≤ c := Nat.div_le_self _ _
        obtain ⟨j1, Hj1⟩ : ∃ j, Hid (c % bs.length = j) := ⟨_, Lib.hid rfl⟩
        obtain ⟨j2, Hj2⟩ : ∃ j, Hid ((c * 7 + 3) % bs.length = j) := ⟨_, Lib.hid rfl⟩
        obtain ⟨j3, Hj3⟩ : ∃ j, Hid (c / bs.length = j) := ⟨_, Lib.hid rfl⟩
        rw [Hj1.out] at t1 r1 m1
        rw [Hj2.out] at t2 r2 m2
        rw [Hj3.out] at m3 d3
        clear hcell hy1 hy2 hb0
        obtain ⟨u, hu⟩ : ∃ u : Nat, (y1 : Int) * 131 + (y2 : Int) * 1117 + (c : Int) * 29 + (j3 : Int) * 53 = u := ⟨y1 * 131 + y2 * 1117 + c * 29 + j3 * 53, by push_cast; rfl⟩
        have hu2 : u < 4611686018427387904 := by omega
        obtain ⟨x, hx⟩ := xor_nonneg hu2
        have htm : (x : Int).tmod (n : Int) = ((x % n : Nat) : Int) := by rw [Int.tmod_eq_emod_of_nonneg (by omega)]; norm_cast
        have hml : x % n < n := Nat.mod_lt _ (by omega)
        obtain ⟨j, Hj⟩ : ∃ j, Hid (x % n = j) := ⟨_, Lib.hid rfl⟩
        rw [Hj.out] at htm hml
        go_enter Try.func99, Try.ntmps99
        go_wp2
        go_quiet (fail)
        go_wp2
        go_ret
        exact ⟨j, rfl, .inl hml, HR.out.keep (by exact (by repeat (first | assumption | exact Pure.refl _ | refine Pure.drewN ?_ _ | refine Pure.drew ?_ | refine Pure.alloc ?_ _ | refine Pure.setCell ?_ (by simp <;> omega) _))), HCg.out.trans (Chg.of_pure (by exact (by repeat (first | assumption | exact Pure.refl _ | refine Pure.drewN ?_ _ | refine Pure.drew ?_ | refine Pure.alloc ?_ _ | refine Pure.setCell ?_ (by simp <;> omega) _))))⟩

theorem pick_t (w0 w : World) (p C : Nat) (vb : Value) (bs : List Int) (n : Nat) (N : Int) (hN : N = n) (h : Rb w0 w p vb bs C) (hc : C ≤ 1099511627776) (hn : n ≤ 1048576) (hn1 : 1 ≤ n) :
    Calls Try.prog 99 #[.pointer (some ⟨p, 0, none⟩), .int .i64 N] w fun e w' => ∃ x : Nat, e = .returned (.int .i64 x) ∧ x < n ∧ Rb w0 w' p vb bs (C + 1) ∧ OnlyAt p w w' := by
  subst hN
  obtain ⟨c, h1, h2⟩ := h
  refine (pick_any w0 w p c vb bs n h2 (by omega) hn).mono ?_
  rintro e w' ⟨x, he, hx, hr, hg⟩
  exact ⟨x, he, by omega, ⟨c + 1, by omega, hr⟩, hg⟩
theorem pick_0 (w0 w : World) (p C : Nat) (vb : Value) (bs : List Int) (n : Nat) (N : Int) (hN : N = n) (h : Rb w0 w p vb bs C) (hc : C ≤ 1099511627776) (hn : n ≤ 1048576) :
    Calls Try.prog 99 #[.pointer (some ⟨p, 0, none⟩), .int .i64 N] w fun e w' => ∃ x : Nat, e = .returned (.int .i64 x) ∧ (x < n ∨ x = 0) ∧ Rb w0 w' p vb bs (C + 1) ∧ OnlyAt p w w' := by
  subst hN
  obtain ⟨c, h1, h2⟩ := h
  refine (pick_any w0 w p c vb bs n h2 (by omega) hn).mono ?_
  rintro e w' ⟨x, he, hx, hr, hg⟩
  exact ⟨x, he, hx, ⟨c + 1, by omega, hr⟩, hg⟩

set_option maxHeartbeats 1000000 in
theorem odd_any (w0 w : World) (p C : Nat) (vb : Value) (bs : List Int) (n : Nat) (N : Int) (hN : N = n) (h : Rb w0 w p vb bs C) (hc : C ≤ 1099511627776) (hn : n ≤ 1048576) :
    Calls Try.prog 102 #[.pointer (some ⟨p, 0, none⟩), .int .i64 N] w fun e w' => ∃ B : Bool, e = .returned (.bool B) ∧ Rb w0 w' p vb bs (C + 1) ∧ OnlyAt p w w' := by
  subst hN
  have H := Lib.hid h
  clear h
  by_cases h0 : (n : Int) > 0
  · go_enter Try.func102, Try.ntmps102
    go_wp2_with fail
    refine (pick_t w0 _ p C vb bs n _ rfl H.out hc hn (by omega)).mono ?_
    rintro e w1 ⟨x, rfl, hx, hr, hg⟩
    have HR := Lib.hid hr
    have HG := Lib.hid hg
    clear hr hg
    by_cases hB : (x : Int) = (n : Int) - 1
    · have hb : ((x : Int) == (n : Int) - 1) = true := by simp [hB]
      clear hB
      go_wp2
      go_ret
      exact ⟨_, rfl, HR.out, HG.out⟩
    · have hb : ((x : Int) == (n : Int) - 1) = false := by simp [hB]
      clear hB
      go_wp2
      go_ret
      exact ⟨_, rfl, HR.out, HG.out⟩
  · obtain rfl : n = 0 := by omega
    clear h0
    go_enter Try.func102, Try.ntmps102
    go_wp2
    go_ret
    exact ⟨_, rfl, H.out.more (by omega), Chg.refl _ _⟩

def OpenedP (w : World) (e : Ending) (w' : World) : Prop := ∃ p vb bs', e = .returned (.pointer (some ⟨p, 0, none⟩)) ∧ Rb w w' p vb bs' 0 ∧ Pure w w'

set_option maxHeartbeats 1000000 in
theorem draw_open (v : Value) (bs : List Int) (w : World) (h : Bytes w v bs) (hs : bs.length ≤ 1048576) : Calls Try.prog 66 #[v] w (OpenedP w) := by
  have H := Lib.hid h
  obtain ⟨A, c, rfl, hnc, hcm⟩ := h.form
  clear h
  by_cases hl : (bs.length : Int) > 2000
  · go_enter Try.func66, Try.ntmps66
    go_wp2
    go_ret
    exact ⟨w.heap.size, _, bs.take 2000, rfl, ⟨0, Nat.le_refl _, ⟨by exact (by repeat (first | assumption | exact Pure.refl _ | refine Pure.drewN ?_ _ | refine Pure.drew ?_ | refine Pure.alloc ?_ _ | refine Pure.setCell ?_ (by simp <;> omega) _)), Nat.le_refl _, H.out.take (by omega), by simp; omega, heap_alloc_new _ _⟩⟩, by exact (by repeat (first | assumption | exact Pure.refl _ | refine Pure.drewN ?_ _ | refine Pure.drew ?_ | refine Pure.alloc ?_ _ | refine Pure.setCell ?_ (by simp <;> omega) _))⟩
  · go_enter Try.func66, Try.ntmps66
    go_wp2
    go_ret
    exact ⟨w.heap.size, _, bs, rfl, ⟨0, Nat.le_refl _, ⟨by exact (by repeat (first | assumption | exact Pure.refl _ | refine Pure.drewN ?_ _ | refine Pure.drew ?_ | refine Pure.alloc ?_ _ | refine Pure.setCell ?_ (by simp <;> omega) _)), Nat.le_refl _, H.out, by omega, heap_alloc_new _ _⟩⟩, by exact (by repeat (first | assumption | exact Pure.refl _ | refine Pure.drewN ?_ _ | refine Pure.drew ?_ | refine Pure.alloc ?_ _ | refine Pure.setCell ?_ (by simp <;> omega) _))⟩

end Go.Proofs.Ytajaonejpggcbaa

namespace Go.Proofs.Ytajaonejpggcbaa
open Go.RowKit

section
variable {P : Program} {ops : Array Oper} {Q : Exit → Act → World → Prop} {md : Region.Mode}
def unl (l : Array Bool) : Nat := l.toList.countP (fun b => !b)
theorem countP_set_lt : ∀ (l : List Bool) (i : Nat), l[i]? = some false → (l.set i true).countP (fun b => !b) + 1 = l.countP (fun b => !b)
  | [], _, h => by simp at h
  | b :: r, 0, h => by simp at h; subst h; simp
  | b :: r, i + 1, h => by
    have := countP_set_lt r i (by simpa using h)
    simp only [List.set_cons_succ, List.countP_cons]
    omega
theorem unl_set {l : Array Bool} {i : Nat} (h : l.getD i true = false) : unl (l.setIfInBounds i true) + 1 = unl l := by
  have hs : l.toList[i]? = some false := by
    rw [Array.getD_eq_getD_getElem?] at h
    cases he : l[i]? with
    | none => rw [he] at h; simp at h
    | some b => rw [he] at h; simp at h; subst h; simpa using he
  unfold unl
  rw [Array.toList_setIfInBounds]
  exact countP_set_lt _ _ hs
theorem unl_pos {l : Array Bool} {i : Nat} (h : l.getD i true = false) : 0 < unl l := by have := unl_set h; omega

/-- Inv holds at the region's head; each operation that may come next keeps it: so it holds behind all of them. -/
theorem any_inv (Inv : Array Bool → Act → World → Prop) (hend : ∀ l a w, Inv l a w → Region.ready md ops l = [] → Q .normal a w)
    (hstep : ∀ l a w i o, Inv l a w → ops[i]? = some o → l.getD i true = false → (∀ e ∈ o.after, Region.binds md e = true → l.getD e.on false = true) → wpList P ops (thenK Q fun b u => Inv (l.setIfInBounds i true) b u) [o] a w) :
    ∀ (f : Nat) (l : Array Bool) (a : Act) (w : World), Inv l a w → unl l ≤ f → wpAny P md ops Q f l a w
  | 0, l, a, w, h, hf => by
    have hr : Region.ready md ops l = [] := by
      rw [List.eq_nil_iff_forall_not_mem]
      intro i hi
      have := unl_pos (mem_ready.1 hi).1
      omega
    exact ⟨hr, hend l a w h hr⟩
  | f + 1, l, a, w, h, hf => by
    refine ⟨fun hr => hend l a w h hr, fun i hi => ?_⟩
    obtain ⟨h1, o, ho, h2⟩ := mem_ready.1 hi
    refine wpOp_mono (fun b u hb => any_inv Inv hend hstep f _ b u hb (by have := unl_set h1; omega)) (wpOp_of_one ho (hstep l a w i o h ho h1 h2))
theorem unl_start (n : Nat) : unl (Array.replicate n false) = n := by simp [unl, List.countP_replicate]
def backB (ops : Array Oper) : Bool := (List.range ops.size).all fun i => ((ops[i]?).map fun o => o.after.all fun e => decide (e.on < i)).getD true
/-- When nothing may come next, all are through. -/
theorem ready_nil {l : Array Bool} (hb : backB ops = true) (hl : l.size = ops.size) (h : Region.ready md ops l = []) : ∀ i, i < ops.size → l.getD i false = true := by
  intro i
  induction i using Nat.strongRecOn with
  | ind i ih =>
    intro hi
    cases hv : l.getD i false with
    | true => rfl
    | false =>
      have hn : l.getD i true = false := by
        rw [Array.getD_eq_getD_getElem?] at hv ⊢
        have : i < l.size := by omega
        simp [this] at hv ⊢; exact hv
      have ho : ops[i]? = some ops[i] := Array.getElem?_eq_getElem hi
      have hmem : i ∈ Region.ready md ops l := mem_ready.2 ⟨hn, _, ho, fun e he _ => by
        have hbi := (List.all_eq_true.1 hb) i (List.mem_range.2 hi)
        rw [ho] at hbi
        simp only [Option.map_some, Option.getD_some] at hbi
        have := (Array.all_eq_true_iff_forall_mem.1 hbi) e he
        simp at this
        exact ih e.on this (by omega)⟩
      rw [h] at hmem; cases hmem
theorem region_inv {id : Nat} {a : Act} {w : World} {l : List Oper} (hm : P.follows .mixedOrders = true) (Inv : Array Bool → Act → World → Prop) (h0 : Inv (Array.replicate l.length false) a w.drew)
    (hend : ∀ l' a w, Inv l' a w → Region.ready .any l.toArray l' = [] → Q .normal a w)
    (hstep : ∀ l' a w i o, Inv l' a w → l.toArray[i]? = some o → l'.getD i true = false → (∀ e ∈ o.after, Region.binds .any e = true → l'.getD e.on false = true) → wpList P l.toArray (thenK Q fun b u => Inv (l'.setIfInBounds i true) b u) [o] a w) :
    (Code.region id l.toArray true).wp P Q a w :=
  wp_region_any hm (any_inv Inv hend hstep _ _ _ _ h0 (by rw [unl_start]; simp))
theorem getD_setB (l : Array Bool) (i j : Nat) (h : (l.setIfInBounds i true).getD j false = true) : l.getD j false = true ∨ i = j := by
  rw [Array.getD_eq_getD_getElem?, Array.getElem?_setIfInBounds] at h
  split at h
  · right; assumption
  · left; rw [Array.getD_eq_getD_getElem?]; exact h
end

end Go.Proofs.Ytajaonejpggcbaa
