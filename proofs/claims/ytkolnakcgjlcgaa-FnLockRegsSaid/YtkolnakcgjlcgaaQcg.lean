/- Instructions that are drawn, valid or not: any whatever. Blocks of instructions that are drawn: any whatever, of bounded length. No condition. -/
import Derived.Deep.CutRange
import Derived.Deep.CutBlock
import Derived.Deep.DeepCutAuto
import Derived.Test.YtkolnakcgjlcgaaQag
import Derived.Test.YtkolnakcgjlcgaaQcf

namespace Go.Proofs.Ytkolnakcgjlcgaa
open Go.RowKit

/-- A draw that works on an instruction in a block of its own, with a result to come in another. -/
structure CSt (w0 w : World) (p : Nat) (vb : Value) (bs : List Int) (b q : Nat) (C : Nat) (x : Cd) (wx : World) : Prop where
  rb : Rb w0 wx p vb bs C
  at_ : OnlyAt p w wx
  hb : b ≠ p
  hq : q ≠ p
  hbq : b ≠ q
  wb : w.heap.size ≤ b
  wq : w.heap.size ≤ q
  w00 : w0.heap.size ≤ w.heap.size
  cb : wx.heap[b]? = some (.cells #[.int .i64 x.op, .int .i64 x.a, .int .i64 x.b, .int .i64 x.c] 36 (0, 0))
  cq : wx.heap[q]? = some (.cells #[.int .i64 0, .int .i64 0, .int .i64 0, .int .i64 0] 36 (0, 0))
section
variable {w0 w wx wy : World} {p b q C D : Nat} {vb : Value} {bs : List Int} {x : Cd}
theorem CSt.step (h : CSt w0 w p vb bs b q C x wx) (hr : Rb w0 wy p vb bs D) (hg : OnlyAt p wx wy) : CSt w0 w p vb bs b q D x wy :=
  ⟨hr, h.at_.trans hg, h.hb, h.hq, h.hbq, h.wb, h.wq, h.w00, hg.heap h.cb h.hb, hg.heap h.cq h.hq⟩
theorem CSt.keep (h : CSt w0 w p vb bs b q C x wx) (hp : Pure wx wy) : CSt w0 w p vb bs b q C x wy := h.step (h.rb.keep hp) (Chg.of_pure hp)
theorem CSt.more (h : CSt w0 w p vb bs b q C x wx) (hD : C ≤ D) : CSt w0 w p vb bs b q D x wx := h.step (h.rb.more hD) (Chg.refl _ _)
theorem CSt.other (h : CSt w0 w p vb bs b q C x wx) {i : Nat} {v : Value} {y : Cd} (hc : (wx.setCell ⟨b, i, none⟩ v).heap[b]? = some (.cells #[.int .i64 y.op, .int .i64 y.a, .int .i64 y.b, .int .i64 y.c] 36 (0, 0))) : CSt w0 w p vb bs b q C y (wx.setCell ⟨b, i, none⟩ v) := by
  have hs : Chg (fun k => k = b) wx (wx.setCell ⟨b, i, none⟩ v) := Chg.of_set wx b i v rfl
  exact ⟨h.rb.chg hs (fun k e => by have := h.w00; have := h.wb; omega) (fun e => h.hb e.symm), Chg.trans' h.at_ hs (fun i hi e => by have := h.wb; omega), h.hb, h.hq, h.hbq, h.wb, h.wq, h.w00, hc, hs.heap h.cq (fun e => h.hbq e.symm)⟩
theorem CSt.set0 (h : CSt w0 w p vb bs b q C x wx) (v : Int) : CSt w0 w p vb bs b q C { x with op := v } (wx.setCell ⟨b, 0, none⟩ (.int .i64 v)) := h.other (heap_setCell_same wx b 0 _ _ (.int .i64 v) h.cb)
theorem CSt.set1 (h : CSt w0 w p vb bs b q C x wx) (v : Int) : CSt w0 w p vb bs b q C { x with a := v } (wx.setCell ⟨b, 1, none⟩ (.int .i64 v)) := h.other (heap_setCell_same wx b 1 _ _ (.int .i64 v) h.cb)
theorem CSt.set2 (h : CSt w0 w p vb bs b q C x wx) (v : Int) : CSt w0 w p vb bs b q C { x with b := v } (wx.setCell ⟨b, 2, none⟩ (.int .i64 v)) := h.other (heap_setCell_same wx b 2 _ _ (.int .i64 v) h.cb)
theorem CSt.set3 (h : CSt w0 w p vb bs b q C x wx) (v : Int) : CSt w0 w p vb bs b q C { x with c := v } (wx.setCell ⟨b, 3, none⟩ (.int .i64 v)) := h.other (heap_setCell_same wx b 3 _ _ (.int .i64 v) h.cb)
theorem CSt.setAll (h : CSt w0 w p vb bs b q C x wx) (y : Cd) : CSt w0 w p vb bs b q C y ((((wx.setCell ⟨b, 0, none⟩ (.int .i64 y.op)).setCell ⟨b, 1, none⟩ (.int .i64 y.a)).setCell ⟨b, 2, none⟩ (.int .i64 y.b)).setCell ⟨b, 3, none⟩ (.int .i64 y.c)) :=
  (((h.set0 y.op).set1 y.a).set2 y.b).set3 y.c
theorem CSt.fin (h : CSt w0 w p vb bs b q C x wx) : Rb w0 ((((wx.setCell ⟨q, 0, none⟩ (.int .i64 x.op)).setCell ⟨q, 1, none⟩ (.int .i64 x.a)).setCell ⟨q, 2, none⟩ (.int .i64 x.b)).setCell ⟨q, 3, none⟩ (.int .i64 x.c)) p vb bs C ∧
    OnlyAt p w ((((wx.setCell ⟨q, 0, none⟩ (.int .i64 x.op)).setCell ⟨q, 1, none⟩ (.int .i64 x.a)).setCell ⟨q, 2, none⟩ (.int .i64 x.b)).setCell ⟨q, 3, none⟩ (.int .i64 x.c)) ∧
    ((((wx.setCell ⟨q, 0, none⟩ (.int .i64 x.op)).setCell ⟨q, 1, none⟩ (.int .i64 x.a)).setCell ⟨q, 2, none⟩ (.int .i64 x.b)).setCell ⟨q, 3, none⟩ (.int .i64 x.c)).heap[q]? = some (.cells #[.int .i64 x.op, .int .i64 x.a, .int .i64 x.b, .int .i64 x.c] 36 (0, 0)) :=
  ⟨h.rb.codeSet h.hq (Nat.le_trans h.w00 h.wq) _ _ _ _, codeSetChg h.at_ h.wq _ _ _ _, codeSet h.cq _ _ _ _⟩
end

theorem code_get {W w1 : World} {p b x t : Nat} (zs : List Cd) (hg : OnlyAt p W w1) (hW : W.heap[b]? = some (.cells (zs.flatMap cdCells).toArray t (0, 0))) (hb : b ≠ p) (hx : x < zs.length) :
    ∃ y : Cd, w1.cell? ⟨b, x * 4, none⟩ = some (.int .i64 y.op) ∧ w1.cell? ⟨b, x * 4 + 1, none⟩ = some (.int .i64 y.a) ∧ w1.cell? ⟨b, x * 4 + 2, none⟩ = some (.int .i64 y.b) ∧ w1.cell? ⟨b, x * 4 + 3, none⟩ = some (.int .i64 y.c) := by
  have key : ∀ (zs : List Cd) (x : Nat), x < zs.length → ∃ y : Cd, ∀ j, j < 4 → (zs.flatMap cdCells)[x * 4 + j]? = (cdCells y)[j]? := by
    intro zs
    induction zs with
    | nil => intro x h; simp at h
    | cons z r ih =>
      intro x h
      cases x with
      | zero => exact ⟨z, fun j hj => by rw [List.flatMap_cons, List.getElem?_append_left (by simp [cdCells]; omega)]; simp⟩
      | succ x =>
        obtain ⟨y, hy⟩ := ih x (by simpa using h)
        refine ⟨y, fun j hj => ?_⟩
        rw [List.flatMap_cons, List.getElem?_append_right (by simp [cdCells]; omega), ← hy j hj]
        congr 1; simp [cdCells]; omega
  obtain ⟨y, hy⟩ := key zs x hx
  have hc : ∀ j, j < 4 → w1.cell? ⟨b, x * 4 + j, none⟩ = (cdCells y)[j]? := fun j hj => by
    rw [cell_of_row w1 b _ _ _ _ (hg.heap hW hb), ← hy j hj]; simp
  exact ⟨y, hc 0 (by decide), hc 1 (by decide), hc 2 (by decide), hc 3 (by decide)⟩

set_option maxHeartbeats 4000000 in
set_option maxRecDepth 100000 in
theorem code_any (w0 w : World) (p C n : Nat) (vb : Value) (bs : List Int) (N : Int) (hN : N = n) (hn : n ≤ 1048576) (h : Rb w0 w p vb bs C) (hc : C ≤ 1099511626000) :
    Calls Try.prog 100 #[.pointer (some ⟨p, 0, none⟩), .int .i64 N] w (PlainP w0 w p vb bs (C + 30)) := by
  have H := Lib.hid h
  have HN := Lib.hid hN
  have hpl := h.lt
  have h00 := h.pure.size
  clear h hN
  go_enter Try.func100, Try.ntmps100
  go_wp2_with fail
  refine (plain_any w0 _ p C vb bs (H.out.keep (by exact (by repeat (first | assumption | exact Pure.refl _ | refine Pure.drewN ?_ _ | refine Pure.drew ?_ | refine Pure.alloc ?_ _ | refine Pure.setCell ?_ (by simp <;> omega) _)))) (by omega)).mono ?_
  rintro e w1 ⟨c1, rfl, hr1, hg1⟩
  have HZ : Hid (w1.heap[w.heap.size]? = some (.cells #[.int .i64 0, .int .i64 0, .int .i64 0, .int .i64 0] 36 (0, 0))) := Lib.hid (hg1.heap (heap_alloc_new w _) (by omega))
  have HR1 := Lib.hid hr1
  have HG1 := Lib.hid hg1
  have hsz1 := hg1.size
  simp at hsz1
  clear hr1 hg1
  obtain ⟨x0, x1, x2, x3⟩ := c1
  unfold cdv
  have S1 : Hid (CSt w0 w p vb bs w1.heap.size w.heap.size (C + 10) ⟨x0, x1, x2, x3⟩ (w1.alloc (.cells #[.int .i64 x0, .int .i64 x1, .int .i64 x2, .int .i64 x3] 36))) := Lib.hid
    ⟨HR1.out.keep (by exact (by repeat (first | assumption | exact Pure.refl _ | refine Pure.drewN ?_ _ | refine Pure.drew ?_ | refine Pure.alloc ?_ _ | refine Pure.setCell ?_ (by simp <;> omega) _))), ((Chg.of_pure (S := fun k => k = p) (show Pure w (w.alloc (.cells #[.int .i64 0, .int .i64 0, .int .i64 0, .int .i64 0] 36)) from (by repeat (first | assumption | exact Pure.refl _ | refine Pure.drewN ?_ _ | refine Pure.drew ?_ | refine Pure.alloc ?_ _ | refine Pure.setCell ?_ (by simp <;> omega) _)))).trans HG1.out).trans (Chg.of_pure (by exact (by repeat (first | assumption | exact Pure.refl _ | refine Pure.drewN ?_ _ | refine Pure.drew ?_ | refine Pure.alloc ?_ _ | refine Pure.setCell ?_ (by simp <;> omega) _)))), by omega, by omega, by omega, by omega, by omega, h00, heap_alloc_new _ _, (Chg.of_pure (S := fun _ => False) (show Pure w1 _ from (by repeat (first | assumption | exact Pure.refl _ | refine Pure.drewN ?_ _ | refine Pure.drew ?_ | refine Pure.alloc ?_ _ | refine Pure.setCell ?_ (by simp <;> omega) _)))).heap HZ.out id⟩
  go_wp2_with fail
  refine (pick_t w0 _ p (C + 10) vb bs 5 5 rfl S1.out.rb (by omega) (by decide) (by decide)).mono ?_
  rintro e w2 ⟨x5, rfl, hx5, hr2, hg2⟩
  have S2 := Lib.hid (S1.out.step hr2 hg2)
  clear hr2 hg2 S1
  go_upto_block 0 with fail
  go_cut [] (fun wx => ∃ y : Cd, CSt w0 w p vb bs w1.heap.size w.heap.size (C + 20) y wx)
  case first =>
    by_cases h0 : x5 = 0
    · subst h0
      go_wp2_with fail
      refine (pick_t w0 _ p (C + 11) vb bs 4 4 rfl S2.out.rb (by omega) (by decide) (by decide)).mono ?_
      rintro e w3 ⟨xw3, rfl, hxw3, hrw3, hgw3⟩
      have S3 := Lib.hid (S2.out.step hrw3 hgw3)
      obtain ⟨c0, c1, c2, c3, f0, f1, f2, f3⟩ := codeFacts S3.out.cb
      have S4 := Lib.hid (S3.out.setAll ⟨11, xw3, 0, 0⟩)
      clear hrw3 hgw3
      go_wp2
      go_meet
      case rel => exact ⟨_, S4.out.more (by omega)⟩
    · by_cases h1 : x5 = 1
      · subst h1
        go_wp2_with fail
        refine (pick_t w0 _ p (C + 11) vb bs 4 4 rfl S2.out.rb (by omega) (by decide) (by decide)).mono ?_
        rintro e w3 ⟨xw3, rfl, hxw3, hrw3, hgw3⟩
        have S3 := Lib.hid (S2.out.step hrw3 hgw3)
        clear hrw3 hgw3
        go_wp2_with fail
        refine (pick_t w0 _ p (C + 12) vb bs 4 4 rfl S3.out.rb (by omega) (by decide) (by decide)).mono ?_
        rintro e w4 ⟨xw4, rfl, hxw4, hrw4, hgw4⟩
        have S4 := Lib.hid (S3.out.step hrw4 hgw4)
        clear hrw4 hgw4
        have hlit := heap_alloc_new w4 (.cells (([⟨13, xw3, 1 + (xw4 : Int), 0⟩, ⟨10, 0, 0, 0⟩, ⟨12, 0, 0, 0⟩, ⟨14, 0, 0, 0⟩] : List Cd).flatMap cdCells).toArray 36)
        have HLIT := Lib.hid hlit
        have hpl4 : p < w4.heap.size := S4.out.rb.lt
        have S5 := Lib.hid (S4.out.keep (show Pure w4 (w4.alloc (.cells (([⟨13, xw3, 1 + (xw4 : Int), 0⟩, ⟨10, 0, 0, 0⟩, ⟨12, 0, 0, 0⟩, ⟨14, 0, 0, 0⟩] : List Cd).flatMap cdCells).toArray 36)) from (by repeat (first | assumption | exact Pure.refl _ | refine Pure.drewN ?_ _ | refine Pure.drew ?_ | refine Pure.alloc ?_ _ | refine Pure.setCell ?_ (by simp <;> omega) _))))
        clear hlit
        go_wp2_with fail
        refine (pick_t w0 _ p (C + 13) vb bs 4 4 rfl S5.out.rb (by omega) (by decide) (by decide)).mono ?_
        rintro e w5 ⟨x6, rfl, hx6, hr5, hg5⟩
        obtain ⟨y, hy0, hy1, hy2, hy3⟩ := code_get [⟨13, xw3, 1 + (xw4 : Int), 0⟩, ⟨10, 0, 0, 0⟩, ⟨12, 0, 0, 0⟩, ⟨14, 0, 0, 0⟩] hg5 HLIT.out (by omega) hx6
        have S6 := Lib.hid (S5.out.step hr5 hg5)
        clear hr5 hg5
        obtain ⟨c0, c1, c2, c3, f0, f1, f2, f3⟩ := codeFacts S6.out.cb
        have S7 := Lib.hid (S6.out.setAll y)
        go_wp2
        go_meet
        case rel => exact ⟨_, S7.out.more (by omega)⟩
      · have hb0 : ((x5 : Int) == 0) = false := by simp [h0]
        have hb1 : ((x5 : Int) == 1) = false := by simp; omega
        clear h0 h1
        go_wp2
        go_meet
        case rel => exact ⟨_, S2.out.more (by omega)⟩
  case rest =>
    obtain ⟨y, hy⟩ := hcut
    have SY := Lib.hid hy
    obtain ⟨y0, y1, y2, y3⟩ := y
    clear hy
    go_wp2_with fail
    refine (odd_any w0 _ p (C + 20) vb bs n N HN.out SY.out.rb (by omega) hn).mono ?_
    rintro e w3 ⟨B, rfl, hr3, hg3⟩
    have S3 := Lib.hid (SY.out.step hr3 hg3)
    clear hr3 hg3
    cases B
    · obtain ⟨d0, d1, d2, d3, _, _, _, _⟩ := codeFacts S3.out.cb
      obtain ⟨e0, e1, e2, e3, g0, g1, g2, g3⟩ := codeFacts S3.out.cq
      have HF := Lib.hid S3.out.fin
      have hq4 := S3.out.fin.2.2
      obtain ⟨k0, k1, k2, k3, _, _, _, _⟩ := codeFacts hq4
      clear hq4
      go_wp2
      refine bodyPost_ret (v := .agg #[.int .i64 y0, .int .i64 y1, .int .i64 y2, .int .i64 y3]) (by simp [results, Try.results100, go_sem, k0, k1, k2, k3]) rfl ?_
      exact ⟨⟨y0, y1, y2, y3⟩, rfl, HF.out.1.more (by omega), HF.out.2.1⟩
    · go_wp2_with fail
      refine (pick_t w0 _ p (C + 21) vb bs 4 4 rfl S3.out.rb (by omega) (by decide) (by decide)).mono ?_
      rintro e w4 ⟨xw4, rfl, hxw4, hrw4, hgw4⟩
      have S4 := Lib.hid (S3.out.step hrw4 hgw4)
      clear hrw4 hgw4
      have hx4 : xw4 = 0 ∨ xw4 = 1 ∨ xw4 = 2 ∨ xw4 = 3 := by omega
      rcases hx4 with rfl | rfl | rfl | rfl
      · have HLIT := Lib.hid (heap_alloc_new w4 (.cells (([0, 15] : List Int).map (Value.int .i64)).toArray 3))
        have hpl4 : p < w4.heap.size := S4.out.rb.lt
        have S5 := Lib.hid (S4.out.keep (show Pure w4 (w4.alloc (.cells #[.int .i64 (0), .int .i64 (15)] 3)) from (by repeat (first | assumption | exact Pure.refl _ | refine Pure.drewN ?_ _ | refine Pure.drew ?_ | refine Pure.alloc ?_ _ | refine Pure.setCell ?_ (by simp <;> omega) _))))
        go_wp2_with fail
        refine (pick_t w0 _ p (C + 22) vb bs 2 2 rfl S5.out.rb (by omega) (by decide) (by decide)).mono ?_
        rintro e w5 ⟨x6, rfl, hx6, hr5, hg5⟩
        obtain ⟨z, hz, _⟩ := lit_get [0, 15] hg5 HLIT.out (by omega) hx6
        have S6 := Lib.hid (S5.out.step hr5 hg5)
        clear hr5 hg5
        obtain ⟨c0, c1, c2, c3, f0, f1, f2, f3⟩ := codeFacts S6.out.cb
        have S7 := Lib.hid (S6.out.set0 z)
        obtain ⟨d0, d1, d2, d3, _, _, _, _⟩ := codeFacts S7.out.cb
        obtain ⟨e0, e1, e2, e3, g0, g1, g2, g3⟩ := codeFacts S7.out.cq
        have HF := Lib.hid S7.out.fin
        have hq4 := S7.out.fin.2.2
        obtain ⟨k0, k1, k2, k3, _, _, _, _⟩ := codeFacts hq4
        clear hq4
        go_wp2
        refine bodyPost_ret (v := .agg #[.int .i64 z, .int .i64 y1, .int .i64 y2, .int .i64 y3]) (by simp [results, Try.results100, go_sem, k0, k1, k2, k3]) rfl ?_
        exact ⟨⟨z, y1, y2, y3⟩, rfl, HF.out.1.more (by omega), HF.out.2.1⟩
      · have HLIT := Lib.hid (heap_alloc_new w4 (.cells (([-1, 4] : List Int).map (Value.int .i64)).toArray 3))
        have hpl4 : p < w4.heap.size := S4.out.rb.lt
        have S5 := Lib.hid (S4.out.keep (show Pure w4 (w4.alloc (.cells #[.int .i64 (-1), .int .i64 (4)] 3)) from (by repeat (first | assumption | exact Pure.refl _ | refine Pure.drewN ?_ _ | refine Pure.drew ?_ | refine Pure.alloc ?_ _ | refine Pure.setCell ?_ (by simp <;> omega) _))))
        go_wp2_with fail
        refine (pick_t w0 _ p (C + 22) vb bs 2 2 rfl S5.out.rb (by omega) (by decide) (by decide)).mono ?_
        rintro e w5 ⟨x6, rfl, hx6, hr5, hg5⟩
        obtain ⟨z, hz, _⟩ := lit_get [-1, 4] hg5 HLIT.out (by omega) hx6
        have S6 := Lib.hid (S5.out.step hr5 hg5)
        clear hr5 hg5
        obtain ⟨c0, c1, c2, c3, f0, f1, f2, f3⟩ := codeFacts S6.out.cb
        have S7 := Lib.hid (S6.out.set1 z)
        obtain ⟨d0, d1, d2, d3, _, _, _, _⟩ := codeFacts S7.out.cb
        obtain ⟨e0, e1, e2, e3, g0, g1, g2, g3⟩ := codeFacts S7.out.cq
        have HF := Lib.hid S7.out.fin
        have hq4 := S7.out.fin.2.2
        obtain ⟨k0, k1, k2, k3, _, _, _, _⟩ := codeFacts hq4
        clear hq4
        go_wp2
        refine bodyPost_ret (v := .agg #[.int .i64 y0, .int .i64 z, .int .i64 y2, .int .i64 y3]) (by simp [results, Try.results100, go_sem, k0, k1, k2, k3]) rfl ?_
        exact ⟨⟨y0, z, y2, y3⟩, rfl, HF.out.1.more (by omega), HF.out.2.1⟩
      · have HLIT := Lib.hid (heap_alloc_new w4 (.cells (([-1, 256] : List Int).map (Value.int .i64)).toArray 3))
        have hpl4 : p < w4.heap.size := S4.out.rb.lt
        have S5 := Lib.hid (S4.out.keep (show Pure w4 (w4.alloc (.cells #[.int .i64 (-1), .int .i64 (256)] 3)) from (by repeat (first | assumption | exact Pure.refl _ | refine Pure.drewN ?_ _ | refine Pure.drew ?_ | refine Pure.alloc ?_ _ | refine Pure.setCell ?_ (by simp <;> omega) _))))
        go_wp2_with fail
        refine (pick_t w0 _ p (C + 22) vb bs 2 2 rfl S5.out.rb (by omega) (by decide) (by decide)).mono ?_
        rintro e w5 ⟨x6, rfl, hx6, hr5, hg5⟩
        obtain ⟨z, hz, _⟩ := lit_get [-1, 256] hg5 HLIT.out (by omega) hx6
        have S6 := Lib.hid (S5.out.step hr5 hg5)
        clear hr5 hg5
        obtain ⟨c0, c1, c2, c3, f0, f1, f2, f3⟩ := codeFacts S6.out.cb
        have S7 := Lib.hid (S6.out.set2 z)
        obtain ⟨d0, d1, d2, d3, _, _, _, _⟩ := codeFacts S7.out.cb
        obtain ⟨e0, e1, e2, e3, g0, g1, g2, g3⟩ := codeFacts S7.out.cq
        have HF := Lib.hid S7.out.fin
        have hq4 := S7.out.fin.2.2
        obtain ⟨k0, k1, k2, k3, _, _, _, _⟩ := codeFacts hq4
        clear hq4
        go_wp2
        refine bodyPost_ret (v := .agg #[.int .i64 y0, .int .i64 y1, .int .i64 z, .int .i64 y3]) (by simp [results, Try.results100, go_sem, k0, k1, k2, k3]) rfl ?_
        exact ⟨⟨y0, y1, z, y3⟩, rfl, HF.out.1.more (by omega), HF.out.2.1⟩
      · have HLIT := Lib.hid (heap_alloc_new w4 (.cells (([-1, 4, 1] : List Int).map (Value.int .i64)).toArray 3))
        have hpl4 : p < w4.heap.size := S4.out.rb.lt
        have S5 := Lib.hid (S4.out.keep (show Pure w4 (w4.alloc (.cells #[.int .i64 (-1), .int .i64 (4), .int .i64 (1)] 3)) from (by repeat (first | assumption | exact Pure.refl _ | refine Pure.drewN ?_ _ | refine Pure.drew ?_ | refine Pure.alloc ?_ _ | refine Pure.setCell ?_ (by simp <;> omega) _))))
        go_wp2_with fail
        refine (pick_t w0 _ p (C + 22) vb bs 3 3 rfl S5.out.rb (by omega) (by decide) (by decide)).mono ?_
        rintro e w5 ⟨x6, rfl, hx6, hr5, hg5⟩
        obtain ⟨z, hz, _⟩ := lit_get [-1, 4, 1] hg5 HLIT.out (by omega) hx6
        have S6 := Lib.hid (S5.out.step hr5 hg5)
        clear hr5 hg5
        obtain ⟨c0, c1, c2, c3, f0, f1, f2, f3⟩ := codeFacts S6.out.cb
        have S7 := Lib.hid (S6.out.set3 z)
        obtain ⟨d0, d1, d2, d3, _, _, _, _⟩ := codeFacts S7.out.cb
        obtain ⟨e0, e1, e2, e3, g0, g1, g2, g3⟩ := codeFacts S7.out.cq
        have HF := Lib.hid S7.out.fin
        have hq4 := S7.out.fin.2.2
        obtain ⟨k0, k1, k2, k3, _, _, _, _⟩ := codeFacts hq4
        clear hq4
        go_wp2
        refine bodyPost_ret (v := .agg #[.int .i64 y0, .int .i64 y1, .int .i64 y2, .int .i64 z]) (by simp [results, Try.results100, go_sem, k0, k1, k2, k3]) rfl ?_
        exact ⟨⟨y0, y1, y2, z⟩, rfl, HF.out.1.more (by omega), HF.out.2.1⟩

end Go.Proofs.Ytkolnakcgjlcgaa

namespace Go.Proofs.Ytkolnakcgjlcgaa
open Go.RowKit

section
variable {P : Program} {t e : TypeId} {s : Nat} {z : List Value} {bytes : Nat}
/-- append of a literal's elements, just laid in a new block. -/
theorem wl_appendLF (E : ElT P t e s z bytes) {w : World} {ops : Array Oper} {rest : List Oper} {o : Oper} {a : Act} {Q : Exit → Act → World → Prop} {et : TypeId}
    (hgd : o.guard = none) (sl x : Operand) (ho : o.op = .call { callee := .builtin .append, args := #[sl, x], argTypes := #[t, t] })
    (B : Nat) (v : Value) (n : Nat) (xs : List Value) (hs : a.eval sl = v) (hown : OwnO w B e s v n xs)
    (b m c : Nat) (news : List Value) (hx : a.eval x = .slice (some ⟨b, 0, none⟩) m c) (hb : b = w.heap.size) (hl : news.length = m * s) (h1 : news.all (·.oneCell') = true)
    (hby : bytes ≤ 128) (hn : n + m ≤ 1099511627776) (hB : B ≤ w.heap.size)
    (h : ∀ v' w', OwnO w' B e s v' (n + m) (xs ++ news) → w.grownBy w' v.ownBlock → Lies w v v' → wpList P ops Q rest (a.put o.dst v') w') : wpList P ops Q (o :: rest) a (w.alloc (.cells news.toArray et)) := by
  subst hb
  refine wl_appendF E hgd sl x ho B v n xs hs (hown.alloc _) w.heap.size 0 m c news hx hl (fun j u hu => ?_) (fun u hu => (List.all_eq_true.1 h1) u hu) ?_ (by omega) (Nat.le_trans hB (Pure.alloc (Pure.refl w) _).size)
    (fun v' w' r1 r2 r3 => h v' w' r1 ?_ (fun k hk => (r3 k hk).imp id fun h => Nat.le_trans (Pure.alloc (Pure.refl w) _).size h))
  · have := cell_of_row (w.alloc (.cells news.toArray et)) w.heap.size j news.toArray et (0, 0) (heap_alloc_new w _)
    rw [Nat.zero_add, this]
    simpa using hu
  · have := Nat.mul_le_mul hn hby
    omega
  · have h0 := World.grownBy_alloc w (.cells news.toArray et) v.ownBlock
    exact ⟨r2.os.trans h0.os, r2.tape.trans h0.tape, r2.output.trans h0.output, Nat.le_trans h0.size r2.size, fun k hk hne => (r2.block k (Nat.lt_of_lt_of_le hk h0.size) hne).trans (h0.block k hk hne)⟩
end

/-- A program under way: in a block of the draw's own. -/
structure Out (w0 w : World) (p : Nat) (vb : Value) (bs : List Int) (C L : Nat) (v : Value) (cs : List Cd) (wx : World) : Prop where
  rb : Rb w0 wx p vb bs C
  at_ : OnlyAt p w wx
  own : OwnO wx w.heap.size 36 4 v cs.length (cs.flatMap cdCells)
  len : cs.length ≤ L
  w00 : w0.heap.size ≤ w.heap.size
theorem flat4 (cs : List Cd) : (cs.flatMap cdCells).length = cs.length * 4 := by
  induction cs with
  | nil => rfl
  | cons c r ih => rw [List.flatMap_cons, List.length_append, ih, List.length_cons]; simp [cdCells]; omega
theorem one_cells (cs : List Cd) : (cs.flatMap cdCells).all (·.oneCell') = true := by
  induction cs with
  | nil => rfl
  | cons c r ih => rw [List.flatMap_cons, List.all_append, ih]; rfl
section
variable {w0 w wx wy : World} {p C D L M : Nat} {v v' : Value} {vb : Value} {bs : List Int} {cs ds : List Cd}
theorem Out.step (h : Out w0 w p vb bs C L v cs wx) (hr : Rb w0 wy p vb bs D) (hg : OnlyAt p wx wy) : Out w0 w p vb bs D L v cs wy := by
  refine ⟨hr, h.at_.trans hg, h.own.chg hg fun g hg2 e => ?_, h.len, h.w00⟩
  subst e
  obtain ⟨cur, hc⟩ := h.rb.cell
  exact h.own.ne_heap hc (by decide) g hg2 rfl
theorem Out.keep (h : Out w0 w p vb bs C L v cs wx) (hp : Pure wx wy) : Out w0 w p vb bs C L v cs wy := h.step (h.rb.keep hp) (Chg.of_pure hp)
theorem Out.more (h : Out w0 w p vb bs C L v cs wx) (hD : C ≤ D) (hM : L ≤ M) : Out w0 w p vb bs D M v cs wx := ⟨h.rb.more hD, h.at_, h.own, Nat.le_trans h.len hM, h.w00⟩
theorem Out.app (h : Out w0 w p vb bs C L v cs wx) (hown : OwnO wy w.heap.size 36 4 v' (cs.length + ds.length) (cs.flatMap cdCells ++ ds.flatMap cdCells)) (hg : wx.grownBy wy v.ownBlock) (hd : ds.length ≤ M) :
    Out w0 w p vb bs C (L + M) v' (cs ++ ds) wy := by
  have hc : Chg (fun k => v.ownBlock = some k) wx wy := Chg.of_grown hg (fun k hk => hk)
  have hlo : ∀ k, v.ownBlock = some k → w.heap.size ≤ k := fun k hk => (h.own.lt k hk).1
  refine ⟨h.rb.chg hc (fun k hk => Nat.le_trans h.w00 (hlo k hk)) (fun e => ?_), Chg.trans' h.at_ hc (fun i hi e => by have := hlo i e; omega), by simpa using hown, by have := h.len; simp; omega, h.w00⟩
  obtain ⟨cur, hcc⟩ := h.rb.cell
  exact h.own.ne_heap hcc (by decide) p e rfl
theorem Out.start {w1 : World} (hr : Rb w0 w1 p vb bs C) (hg : OnlyAt p w w1) (h00 : w0.heap.size ≤ w.heap.size) : Out w0 w p vb bs C 0 (.slice (some ⟨w1.heap.size, 0, none⟩) 0 0) [] (w1.alloc (.cells #[] 36)) :=
  ⟨hr.keep (by exact (by repeat (first | assumption | exact Pure.refl _ | refine Pure.drewN ?_ _ | refine Pure.drew ?_ | refine Pure.alloc ?_ _ | refine Pure.setCell ?_ (by simp <;> omega) _))), hg.trans (Chg.of_pure (by exact (by repeat (first | assumption | exact Pure.refl _ | refine Pure.drewN ?_ _ | refine Pure.drew ?_ | refine Pure.alloc ?_ _ | refine Pure.setCell ?_ (by simp <;> omega) _)))), OwnO.empty_lit hg.size, Nat.le_refl _, h00⟩
/-- Behind an append of something the slice has an address. -/
theorem Out.addr (h : Out w0 w p vb bs C L v cs wx) (hn : 0 < cs.length) : ∃ g off c, v = .slice (some ⟨g, off, none⟩) cs.length c := by
  obtain ⟨g, off, c, h1, _⟩ := h.own.formSome hn
  exact ⟨g, off, c, h1⟩
theorem Out.appF (h : Out w0 w p vb bs C L v cs wx) (hown : OwnO wy w.heap.size 36 4 v' (cs.length + ds.length) (cs.flatMap cdCells ++ ds.flatMap cdCells)) (hg : wx.grownBy wy v.ownBlock) (hd : ds.length ≤ M) (h0 : 0 < cs.length + ds.length) :
    ∃ cs' g off c, v' = .slice (some ⟨g, off, none⟩) cs'.length c ∧ 0 < cs'.length ∧ Out w0 w p vb bs C (L + M) v' cs' wy := by
  have hS := h.app hown hg hd
  obtain ⟨g, off, c, e⟩ := hS.addr (by simpa using h0)
  exact ⟨_, g, off, c, e, by simpa using h0, hS⟩
end
def BlockP (w0 w : World) (p : Nat) (vb : Value) (bs : List Int) (C L : Nat) (e : Ending) (w' : World) : Prop :=
  ∃ v cs, e = .returned v ∧ Out w0 w p vb bs C L v cs w' ∧ ∃ g off c, v = .slice (some ⟨g, off, none⟩) cs.length c

set_option maxHeartbeats 8000000 in
set_option maxRecDepth 100000 in
theorem block_step (d nb lb K : Nat) (hd : d ≤ 3) (hnb : nb ≤ 1000000) (hlb : lb ≤ 1000000) (hK : K ≤ 1000000000000) (w0 : World) (p : Nat) (vb : Value) (bs : List Int)
    (hrec : d < 3 → ∀ (w : World) (C : Nat) (room : Int), Rb w0 w p vb bs C → C ≤ K + 100000000 → -1099511627776 ≤ room → room ≤ 1099511627776 → Calls Try.prog 99 #[.pointer (some ⟨p, 0, none⟩), .int .i64 room, .int .i64 ((d : Int) + 1)] w (BlockP w0 w p vb bs (C + nb) lb))
    (w : World) (C : Nat) (room : Int) (h : Rb w0 w p vb bs C) (hc : C ≤ K) (hr1 : -1099511627776 ≤ room) (hr2 : room ≤ 1099511627776) :
    Calls Try.prog 99 #[.pointer (some ⟨p, 0, none⟩), .int .i64 room, .int .i64 (d : Int)] w (BlockP w0 w p vb bs (C + 1 + 6 * (30 + 2 * nb)) (6 * (6 + 2 * lb))) := by
  have H := Lib.hid h
  have HREC := Lib.hid hrec
  have h00 := h.pure.size
  clear h hrec
  go_enter Try.func99, Try.ntmps99
  go_wp2_with fail
  have S0 := Lib.hid (Out.start H.out (Chg.refl _ w) h00)
  refine (pick_t w0 _ p C vb bs 6 6 rfl S0.out.rb (by omega) (by decide) (by decide)).mono ?_
  rintro e w1 ⟨x6, rfl, hx6, hr, hg⟩
  have S1 := Lib.hid (S0.out.step hr hg)
  clear hr hg S0
  go_wp2_with fail
  obtain ⟨tot, Ht⟩ : ∃ tot : Nat, Hid (1 + x6 = tot) := ⟨_, Lib.hid rfl⟩
  have ht6 : tot ≤ 6 := by have := Ht.out; omega
  go_loopg [7, 8] tot (fun gk vv kk wr => ∃ (v : Value) (cs : List Cd), gk ≤ tot ∧ kk = .int .i64 (gk : Int) ∧ vv = v ∧ (∃ g off c, v = .slice (some ⟨g, off, none⟩) cs.length c) ∧ Out w0 w p vb bs (C + 1 + (tot - gk) * (30 + 2 * nb)) ((tot - gk) * (6 + 2 * lb)) v cs wr)
  case atStart =>
    exact ⟨_, [], Nat.le_refl _, by rw [← Ht.out]; go_num, rfl, ⟨_, _, _, rfl⟩, S1.out.more (by simp) (by simp)⟩
  case round =>
    obtain ⟨v, cs, hgk, rfl, rfl, ⟨g, off, c, rfl⟩, hout⟩ := hrel
    have hT6 : (tot - gk) * (30 + 2 * nb) ≤ 6 * (30 + 2 * nb) := Nat.mul_le_mul_right _ (by omega)
    have hL6 : (tot - gk) * (6 + 2 * lb) ≤ 6 * (6 + 2 * lb) := Nat.mul_le_mul_right _ (by omega)
    by_cases hg0 : gk = 0
    · subst hg0
      have S := Lib.hid hout
      clear hout S1
      go_wp2
      go_ret
      exact ⟨_, cs, rfl, S.out.more (by omega) (by omega), ⟨_, _, _, rfl⟩⟩
    have HTn : Hid ((tot - (gk - 1)) * (30 + 2 * nb) = (tot - gk) * (30 + 2 * nb) + (30 + 2 * nb)) := Lib.hid (by rw [show tot - (gk - 1) = (tot - gk) + 1 by omega, Nat.add_mul, Nat.one_mul])
    have HLn : Hid ((tot - (gk - 1)) * (6 + 2 * lb) = (tot - gk) * (6 + 2 * lb) + (6 + 2 * lb)) := Lib.hid (by rw [show tot - (gk - 1) = (tot - gk) + 1 by omega, Nat.add_mul, Nat.one_mul])
    obtain ⟨T, HT⟩ : ∃ T, Hid ((tot - gk) * (30 + 2 * nb) = T) := ⟨_, Lib.hid rfl⟩
    obtain ⟨L, HL⟩ : ∃ L, Hid ((tot - gk) * (6 + 2 * lb) = L) := ⟨_, Lib.hid rfl⟩
    rw [HT.out] at hout hT6 HTn
    rw [HL.out] at hout hL6 HLn
    have S := Lib.hid hout
    have hlen := hout.len
    clear hout S1 HT HL
    by_cases hlr : (cs.length : Int) < room
    · skip
      go_wp2_with fail
      refine (pick_t w0 _ p (C + 1 + T) vb bs 7 7 rfl S.out.rb (by omega) (by decide) (by decide)).mono ?_
      rintro e wa ⟨xwa, rfl, hxwa, hrwa, hgwa⟩
      have Sa := Lib.hid (S.out.step hrwa hgwa)
      clear hrwa hgwa S
      have hx7 : xwa = 0 ∨ xwa = 1 ∨ xwa = 2 ∨ (3 ≤ xwa ∧ xwa < 7) := by omega
      rcases hx7 with rfl | rfl | rfl | ⟨h3, h7⟩
      · by_cases hd3 : d < 3
        · by_cases hroom : room - (cs.length : Int) ≥ 6
          · skip
            go_wp2_with fail
            refine (pick_t w0 _ p (C + 1 + T + 1) vb bs 4 4 rfl Sa.out.rb (by omega) (by decide) (by decide)).mono ?_
            rintro e wb ⟨xwb, rfl, hxwb, hrwb, hgwb⟩
            have Sb := Lib.hid (Sa.out.step hrwb hgwb)
            clear hrwb hgwb Sa
            go_wp2_with (at_builtin; go_must (refine wl_appendLF elCode rfl _ _ rfl w.heap.size _ _ _ rfl Sb.out.own _ 1 _ [.int .i64 (11), .int .i64 (xwb), .int .i64 (0), .int .i64 (0)] rfl rfl rfl rfl (by decide) (by have := Sb.out.len; omega) Sb.out.at_.size ?_); intro v' wc hq hgq _; obtain ⟨cs1, g1, o1, c1, rfl, hpos1, hS1⟩ := Sb.out.appF (ds := [⟨11, xwb, 0, 0⟩]) (M := 1) hq hgq (by simp) (by simp); have Sc := Lib.hid hS1; have hln1 := hS1.len; clear hq hgq hS1)
            refine (pick_t w0 _ p (C + 1 + T + 1 + 1) vb bs 3 3 rfl Sc.out.rb (by omega) (by decide) (by decide)).mono ?_
            rintro e wd ⟨x3, rfl, hx3, hr3, hg3⟩
            have Sd := Lib.hid (Sc.out.step hr3 hg3)
            clear hr3 hg3 Sc
            go_upto_if 49 with fail
            go_cut [7] (fun vv wx => ∃ (v : Value) (cs : List Cd), vv = v ∧ (∃ g off c, v = .slice (some ⟨g, off, none⟩) cs.length c) ∧ 0 < cs.length ∧ Out w0 w p vb bs (C + 1 + T + 5 + nb) (L + 2 + lb) v cs wx)
            case first =>
              have hlen1 := Sd.out.len
              by_cases hx0 : x3 = 0
              · subst hx0
                go_wp2_with fail
                refine (pick_t w0 _ p (C + 1 + T + 1 + 1 + 1) vb bs 4 4 rfl Sd.out.rb (by omega) (by decide) (by decide)).mono ?_
                rintro e we ⟨xwe, rfl, hxwe, hrwe, hgwe⟩
                have Se := Lib.hid (Sd.out.step hrwe hgwe)
                clear hrwe hgwe Sd
                go_wp2_with fail
                refine (pick_t w0 _ p (C + 1 + T + 1 + 1 + 1 + 1) vb bs 4 4 rfl Se.out.rb (by omega) (by decide) (by decide)).mono ?_
                rintro e wf ⟨xwf, rfl, hxwf, hrwf, hgwf⟩
                have Sf := Lib.hid (Se.out.step hrwf hgwf)
                clear hrwf hgwf Se
                go_wp2_with (at_builtin; go_must (refine wl_appendLF elCode rfl _ _ rfl w.heap.size _ _ _ rfl Sf.out.own _ 1 _ [.int .i64 (5), .int .i64 (xwe), .int .i64 (xwf), .int .i64 (0)] rfl rfl rfl rfl (by decide) (by have := Sf.out.len; omega) Sf.out.at_.size ?_); intro v' wg hq hgq _; obtain ⟨cs2, g2, o2, c2, rfl, hpos2, hS2⟩ := Sf.out.appF (ds := [⟨5, xwe, xwf, 0⟩]) (M := 1) hq hgq (by simp) (by simp); have Sg := Lib.hid hS2; have hln2 := hS2.len; clear hq hgq hS2)
                go_meet
                case rel => exact ⟨_, _, rfl, ⟨_, _, _, rfl⟩, hpos2, Sg.out.more (by omega) (by omega)⟩
              · have hxb : ((x3 : Int) == 0) = false := by simp [hx0]
                clear hx0
                go_wp2_with fail
                all_goals
                  refine (HREC.out hd3 _ (C + 1 + T + 1 + 1 + 1) _ Sd.out.rb (by omega) (by have := Sd.out.len; omega) (by have := Sd.out.len; omega)).mono ?_
                  rintro e wr3 ⟨vr3, csr3, rfl, hor3, gr3, or3, cr3, rfl⟩
                  have T3 := Lib.hid (Sd.out.step hor3.rb hor3.at_)
                  have R3 := Lib.hid hor3
                  clear hor3 Sd
                  go_wp2_with (at_builtin; refine wl_appendF elCode rfl _ _ rfl w.heap.size _ _ _ rfl T3.out.own gr3 or3 csr3.length _ (csr3.flatMap cdCells) rfl (flat4 _) (fun j u hu => (R3.out.own.cell j (by have := (List.getElem?_eq_some_iff.1 hu).1; rw [flat4] at this; exact this)).trans hu) (fun u hu => (List.all_eq_true.1 (one_cells _)) u hu) (by have := T3.out.len; have := R3.out.len; omega) (by have := T3.out.len; have := R3.out.len; omega) T3.out.at_.size ?_; intro v' wq3 hq hgq _; obtain ⟨cs3, g3, o3, c3, rfl, hpos3, hS3⟩ := T3.out.appF (M := lb) hq hgq R3.out.len (by omega); have S3 := Lib.hid hS3; have hln3 := hS3.len; clear hq hgq hS3)
                  go_meet
                  case rel => exact ⟨_, _, rfl, ⟨_, _, _, rfl⟩, hpos3, S3.out.more (by omega) (by omega)⟩
            case rest =>
              obtain ⟨vv, cs5, rfl, ⟨g5, o5, c5, rfl⟩, hpos5, hS5⟩ := hcut
              have Sk := Lib.hid hS5
              have hlen5 := hS5.len
              clear hS5 Sd
              by_cases hge : room - (cs5.length : Int) ≥ 4
              · skip
                go_wp2_with fail
                refine (pick_t w0 _ p (C + 1 + T + 5 + nb) vb bs 2 2 rfl Sk.out.rb (by omega) (by decide) (by decide)).mono ?_
                rintro e wk ⟨xwk, rfl, hxwk, hrwk, hgwk⟩
                have Sl := Lib.hid (Sk.out.step hrwk hgwk)
                clear hrwk hgwk Sk
                by_cases hx0 : xwk = 0
                · subst hx0
                  go_wp2_with (at_builtin; go_must (refine wl_appendLF elCode rfl _ _ rfl w.heap.size _ _ _ rfl Sl.out.own _ 1 _ [.int .i64 (12), .int .i64 (0), .int .i64 (0), .int .i64 (0)] rfl rfl rfl rfl (by decide) (by have := Sl.out.len; omega) Sl.out.at_.size ?_); intro v' wl hq hgq _; obtain ⟨cs6, g6, o6, c6, rfl, hpos6, hS6⟩ := Sl.out.appF (ds := [⟨12, 0, 0, 0⟩]) (M := 1) hq hgq (by simp) (by simp); have Sm := Lib.hid hS6; have hln6 := hS6.len; clear hq hgq hS6)
                  all_goals
                    refine (HREC.out hd3 _ (C + 1 + T + 5 + nb + 1) _ Sm.out.rb (by omega) (by have := Sm.out.len; omega) (by have := Sm.out.len; omega)).mono ?_
                    rintro e wr7 ⟨vr7, csr7, rfl, hor7, gr7, or7, cr7, rfl⟩
                    have T7 := Lib.hid (Sm.out.step hor7.rb hor7.at_)
                    have R7 := Lib.hid hor7
                    clear hor7 Sm
                    go_wp2_with (first | (at_builtin; refine wl_appendF elCode rfl _ _ rfl w.heap.size _ _ _ rfl T7.out.own gr7 or7 csr7.length _ (csr7.flatMap cdCells) rfl (flat4 _) (fun j u hu => (R7.out.own.cell j (by have := (List.getElem?_eq_some_iff.1 hu).1; rw [flat4] at this; exact this)).trans hu) (fun u hu => (List.all_eq_true.1 (one_cells _)) u hu) (by have := T7.out.len; have := R7.out.len; omega) (by have := T7.out.len; have := R7.out.len; omega) T7.out.at_.size ?_; intro v' wq7 hq hgq _; obtain ⟨cs7, g7, o7, c7, rfl, hpos7, hS7⟩ := T7.out.appF (M := lb) hq hgq R7.out.len (by omega); have S7 := Lib.hid hS7; have hln7 := hS7.len; clear hq hgq hS7) | (at_builtin; (refine wl_appendLF elCode rfl _ _ rfl w.heap.size _ _ _ rfl S7.out.own _ 1 _ [.int .i64 (14), .int .i64 (0), .int .i64 (0), .int .i64 (0)] rfl rfl rfl rfl (by decide) (by have := S7.out.len; omega) S7.out.at_.size ?_); intro v' wz7 hq hgq _; obtain ⟨csz7, gz7, oz7, cz7, rfl, hposz7, hSz7⟩ := S7.out.appF (ds := [⟨14, 0, 0, 0⟩]) (M := 1) hq hgq (by simp) (by simp); have Sz7 := Lib.hid hSz7; have hlnz7 := hSz7.len; clear hq hgq hSz7))
                    go_roundg (gk - 1)
                    case measure => omega
                    case rel =>
                      have hgk1 : ((gk - 1 : Nat) : Int) = (gk : Int) - 1 := by omega
                      exact ⟨_, _, by omega, by rw [hgk1], rfl, ⟨_, _, _, rfl⟩, by rw [HTn.out, HLn.out]; exact Sz7.out.more (by omega) (by omega)⟩
                · have hxb : ((xwk : Int) == 0) = false := by simp [hx0]
                  clear hx0
                  go_wp2_with (at_builtin; go_must (refine wl_appendLF elCode rfl _ _ rfl w.heap.size _ _ _ rfl Sl.out.own _ 1 _ [.int .i64 (14), .int .i64 (0), .int .i64 (0), .int .i64 (0)] rfl rfl rfl rfl (by decide) (by have := Sl.out.len; omega) Sl.out.at_.size ?_); intro v' wy2 hq hgq _; obtain ⟨csy2, gy2, oy2, cy2, rfl, hposy2, hSy2⟩ := Sl.out.appF (ds := [⟨14, 0, 0, 0⟩]) (M := 1) hq hgq (by simp) (by simp); have Sy2 := Lib.hid hSy2; have hlny2 := hSy2.len; clear hq hgq hSy2)
                  go_roundg (gk - 1)
                  case measure => omega
                  case rel =>
                    have hgk1 : ((gk - 1 : Nat) : Int) = (gk : Int) - 1 := by omega
                    exact ⟨_, _, by omega, by rw [hgk1], rfl, ⟨_, _, _, rfl⟩, by rw [HTn.out, HLn.out]; exact Sy2.out.more (by omega) (by omega)⟩
              · skip
                go_wp2_with (at_builtin; go_must (refine wl_appendLF elCode rfl _ _ rfl w.heap.size _ _ _ rfl Sk.out.own _ 1 _ [.int .i64 (14), .int .i64 (0), .int .i64 (0), .int .i64 (0)] rfl rfl rfl rfl (by decide) (by have := Sk.out.len; omega) Sk.out.at_.size ?_); intro v' wy3 hq hgq _; obtain ⟨csy3, gy3, oy3, cy3, rfl, hposy3, hSy3⟩ := Sk.out.appF (ds := [⟨14, 0, 0, 0⟩]) (M := 1) hq hgq (by simp) (by simp); have Sy3 := Lib.hid hSy3; have hlny3 := hSy3.len; clear hq hgq hSy3)
                go_roundg (gk - 1)
                case measure => omega
                case rel =>
                  have hgk1 : ((gk - 1 : Nat) : Int) = (gk : Int) - 1 := by omega
                  exact ⟨_, _, by omega, by rw [hgk1], rfl, ⟨_, _, _, rfl⟩, by rw [HTn.out, HLn.out]; exact Sy3.out.more (by omega) (by omega)⟩
          · go_wp2
            go_roundg (gk - 1)
            case measure => omega
            case rel =>
              have hgk1 : ((gk - 1 : Nat) : Int) = (gk : Int) - 1 := by omega
              exact ⟨_, _, by omega, by rw [hgk1], rfl, ⟨_, _, _, rfl⟩, by rw [HTn.out, HLn.out]; exact Sa.out.more (by omega) (by omega)⟩
        · go_wp2
          go_roundg (gk - 1)
          case measure => omega
          case rel =>
            have hgk1 : ((gk - 1 : Nat) : Int) = (gk : Int) - 1 := by omega
            exact ⟨_, _, by omega, by rw [hgk1], rfl, ⟨_, _, _, rfl⟩, by rw [HTn.out, HLn.out]; exact Sa.out.more (by omega) (by omega)⟩
      · by_cases hd3 : d < 3
        · by_cases hroom : room - (cs.length : Int) ≥ 5
          · skip
            go_wp2_with fail
            refine (pick_t w0 _ p (C + 1 + T + 1) vb bs 4 4 rfl Sa.out.rb (by omega) (by decide) (by decide)).mono ?_
            rintro e wb ⟨xwb, rfl, hxwb, hrwb, hgwb⟩
            have Sb := Lib.hid (Sa.out.step hrwb hgwb)
            clear hrwb hgwb Sa
            go_wp2_with fail
            refine (pick_t w0 _ p (C + 1 + T + 1 + 1) vb bs 4 4 rfl Sb.out.rb (by omega) (by decide) (by decide)).mono ?_
            rintro e wc ⟨xwc, rfl, hxwc, hrwc, hgwc⟩
            have Sc := Lib.hid (Sb.out.step hrwc hgwc)
            clear hrwc hgwc Sb
            go_wp2_with (at_builtin; go_must (refine wl_appendLF elCode rfl _ _ rfl w.heap.size _ _ _ rfl Sc.out.own _ 1 _ [.int .i64 (13), .int .i64 (xwb), .int .i64 (1 + (xwc : Int)), .int .i64 (0)] rfl rfl rfl rfl (by decide) (by have := Sc.out.len; omega) Sc.out.at_.size ?_); intro v' wd hq hgq _; obtain ⟨cs1, g1, o1, c1, rfl, hpos1, hS1⟩ := Sc.out.appF (ds := [⟨13, xwb, 1 + (xwc : Int), 0⟩]) (M := 1) hq hgq (by simp) (by simp); have Sd := Lib.hid hS1; have hln1 := hS1.len; clear hq hgq hS1)
            all_goals
              refine (HREC.out hd3 _ (C + 1 + T + 1 + 1 + 1) _ Sd.out.rb (by omega) (by have := Sd.out.len; omega) (by have := Sd.out.len; omega)).mono ?_
              rintro e wr2 ⟨vr2, csr2, rfl, hor2, gr2, or2, cr2, rfl⟩
              have T2 := Lib.hid (Sd.out.step hor2.rb hor2.at_)
              have R2 := Lib.hid hor2
              clear hor2 Sd
              go_wp2_with (first | (at_builtin; refine wl_appendF elCode rfl _ _ rfl w.heap.size _ _ _ rfl T2.out.own gr2 or2 csr2.length _ (csr2.flatMap cdCells) rfl (flat4 _) (fun j u hu => (R2.out.own.cell j (by have := (List.getElem?_eq_some_iff.1 hu).1; rw [flat4] at this; exact this)).trans hu) (fun u hu => (List.all_eq_true.1 (one_cells _)) u hu) (by have := T2.out.len; have := R2.out.len; omega) (by have := T2.out.len; have := R2.out.len; omega) T2.out.at_.size ?_; intro v' wq2 hq hgq _; obtain ⟨cs2, g2, o2, c2, rfl, hpos2, hS2⟩ := T2.out.appF (M := lb) hq hgq R2.out.len (by omega); have S2 := Lib.hid hS2; have hln2 := hS2.len; clear hq hgq hS2) | (at_builtin; (refine wl_appendLF elCode rfl _ _ rfl w.heap.size _ _ _ rfl S2.out.own _ 1 _ [.int .i64 (14), .int .i64 (0), .int .i64 (0), .int .i64 (0)] rfl rfl rfl rfl (by decide) (by have := S2.out.len; omega) S2.out.at_.size ?_); intro v' wz2 hq hgq _; obtain ⟨csz2, gz2, oz2, cz2, rfl, hposz2, hSz2⟩ := S2.out.appF (ds := [⟨14, 0, 0, 0⟩]) (M := 1) hq hgq (by simp) (by simp); have Sz2 := Lib.hid hSz2; have hlnz2 := hSz2.len; clear hq hgq hSz2))
              go_roundg (gk - 1)
              case measure => omega
              case rel =>
                have hgk1 : ((gk - 1 : Nat) : Int) = (gk : Int) - 1 := by omega
                exact ⟨_, _, by omega, by rw [hgk1], rfl, ⟨_, _, _, rfl⟩, by rw [HTn.out, HLn.out]; exact Sz2.out.more (by omega) (by omega)⟩
          · go_wp2
            go_roundg (gk - 1)
            case measure => omega
            case rel =>
              have hgk1 : ((gk - 1 : Nat) : Int) = (gk : Int) - 1 := by omega
              exact ⟨_, _, by omega, by rw [hgk1], rfl, ⟨_, _, _, rfl⟩, by rw [HTn.out, HLn.out]; exact Sa.out.more (by omega) (by omega)⟩
        · go_wp2
          go_roundg (gk - 1)
          case measure => omega
          case rel =>
            have hgk1 : ((gk - 1 : Nat) : Int) = (gk : Int) - 1 := by omega
            exact ⟨_, _, by omega, by rw [hgk1], rfl, ⟨_, _, _, rfl⟩, by rw [HTn.out, HLn.out]; exact Sa.out.more (by omega) (by omega)⟩
      · by_cases hd0 : d = 0
        · subst hd0
          go_wp2_with (at_builtin; go_must (refine wl_appendLF elCode rfl _ _ rfl w.heap.size _ _ _ rfl Sa.out.own _ 1 _ [.int .i64 (10), .int .i64 (0), .int .i64 (0), .int .i64 (0)] rfl rfl rfl rfl (by decide) (by have := Sa.out.len; omega) Sa.out.at_.size ?_); intro v' wb hq hgq _; obtain ⟨cs1, g1, o1, c1, rfl, hpos1, hS1⟩ := Sa.out.appF (ds := [⟨10, 0, 0, 0⟩]) (M := 1) hq hgq (by simp) (by simp); have Sb := Lib.hid hS1; have hln1 := hS1.len; clear hq hgq hS1)
          go_roundg (gk - 1)
          case measure => omega
          case rel =>
            have hgk1 : ((gk - 1 : Nat) : Int) = (gk : Int) - 1 := by omega
            exact ⟨_, _, by omega, by rw [hgk1], rfl, ⟨_, _, _, rfl⟩, by rw [HTn.out, HLn.out]; exact Sb.out.more (by omega) (by omega)⟩
        · have hdb : ((d : Int) == 0) = false := by simp [hd0]
          go_wp2_with fail
          refine (pick_t w0 _ p (C + 1 + T + 1) vb bs 9 9 rfl Sa.out.rb (by omega) (by decide) (by decide)).mono ?_
          rintro e wb ⟨xwb, rfl, hxwb, hrwb, hgwb⟩
          have Sb := Lib.hid (Sa.out.step hrwb hgwb)
          clear hrwb hgwb Sa
          by_cases hx0 : xwb = 0
          · subst hx0
            go_wp2_with (at_builtin; go_must (refine wl_appendLF elCode rfl _ _ rfl w.heap.size _ _ _ rfl Sb.out.own _ 1 _ [.int .i64 (10), .int .i64 (0), .int .i64 (0), .int .i64 (0)] rfl rfl rfl rfl (by decide) (by have := Sb.out.len; omega) Sb.out.at_.size ?_); intro v' wc hq hgq _; obtain ⟨cs1, g1, o1, c1, rfl, hpos1, hS1⟩ := Sb.out.appF (ds := [⟨10, 0, 0, 0⟩]) (M := 1) hq hgq (by simp) (by simp); have Sc := Lib.hid hS1; have hln1 := hS1.len; clear hq hgq hS1)
            go_roundg (gk - 1)
            case measure => omega
            case rel =>
              have hgk1 : ((gk - 1 : Nat) : Int) = (gk : Int) - 1 := by omega
              exact ⟨_, _, by omega, by rw [hgk1], rfl, ⟨_, _, _, rfl⟩, by rw [HTn.out, HLn.out]; exact Sc.out.more (by omega) (by omega)⟩
          · have hxb : ((xwb : Int) == 0) = false := by simp [hx0]
            go_wp2
            go_roundg (gk - 1)
            case measure => omega
            case rel =>
              have hgk1 : ((gk - 1 : Nat) : Int) = (gk : Int) - 1 := by omega
              exact ⟨_, _, by omega, by rw [hgk1], rfl, ⟨_, _, _, rfl⟩, by rw [HTn.out, HLn.out]; exact Sb.out.more (by omega) (by omega)⟩

      · have hb0 : ((xwa : Int) == 0) = false := by simp; omega
        have hb1 : ((xwa : Int) == 1) = false := by simp; omega
        have hb2 : ((xwa : Int) == 2) = false := by simp; omega
        go_wp2_with fail
        refine (plain_any w0 _ p (C + 1 + T + 1) vb bs Sa.out.rb (by omega)).mono ?_
        rintro e wb ⟨⟨z0, z1, z2, z3⟩, rfl, hrb, hgb⟩
        have Sb := Lib.hid (Sa.out.step hrb hgb)
        clear hrb hgb Sa
        unfold cdv
        go_wp2_with (at_builtin; go_must (refine wl_appendLF elCode rfl _ _ rfl w.heap.size _ _ _ rfl Sb.out.own _ 1 _ [.int .i64 (z0), .int .i64 (z1), .int .i64 (z2), .int .i64 (z3)] rfl rfl rfl rfl (by decide) (by have := Sb.out.len; omega) Sb.out.at_.size ?_); intro v' wc hq hgq _; obtain ⟨cs1, g1, o1, c1, rfl, hpos1, hS1⟩ := Sb.out.appF (ds := [⟨z0, z1, z2, z3⟩]) (M := 1) hq hgq (by simp) (by simp); have Sc := Lib.hid hS1; have hln1 := hS1.len; clear hq hgq hS1)
        go_roundg (gk - 1)
        case measure => omega
        case rel =>
          have hgk1 : ((gk - 1 : Nat) : Int) = (gk : Int) - 1 := by omega
          exact ⟨_, _, by omega, by rw [hgk1], rfl, ⟨_, _, _, rfl⟩, by rw [HTn.out, HLn.out]; exact Sc.out.more (by omega) (by omega)⟩
    · go_wp2
      go_ret
      exact ⟨_, cs, rfl, S.out.more (by omega) (by omega), ⟨_, _, _, rfl⟩⟩

end Go.Proofs.Ytkolnakcgjlcgaa
