/- Programs and memories that are drawn, and arguments of a run: any whatever, of bounded length. Memories that are drawn, and the arguments of a run: any whatever, of bounded length. The drawn inputs of the laws: any arguments of a run, any program, of bounded length. What the laws on drawn inputs share: that the program is alive; which arguments a run takes; equal lists are found equal. No condition. -/
import Derived.Test.YtkolnakcgjlcgaaQcc
import Derived.Test.YtkolnakcgjlcgaaQcg

namespace Go.Proofs.Ytkolnakcgjlcgaa
open Go.RowKit

theorem block_3 (w0 : World) (p : Nat) (vb : Value) (bs : List Int) (w : World) (C : Nat) (room : Int) (h : Rb w0 w p vb bs C) (hc : C ≤ 1000000000000) (hr1 : -1099511627776 ≤ room) (hr2 : room ≤ 1099511627776) :
    Calls Try.prog 99 #[.pointer (some ⟨p, 0, none⟩), .int .i64 room, .int .i64 ((3 : Nat) : Int)] w (BlockP w0 w p vb bs (C + 181) 36) :=
  (block_step 3 0 0 1000000000000 (by decide) (by decide) (by decide) (by decide) w0 p vb bs (fun h => absurd h (by decide)) w C room h hc hr1 hr2).mono fun e w' ⟨v, cs, he, ho, hf⟩ => ⟨v, cs, he, ho.more (by omega) (by omega), hf⟩
theorem block_2 (w0 : World) (p : Nat) (vb : Value) (bs : List Int) (w : World) (C : Nat) (room : Int) (h : Rb w0 w p vb bs C) (hc : C ≤ 999900000000) (hr1 : -1099511627776 ≤ room) (hr2 : room ≤ 1099511627776) :
    Calls Try.prog 99 #[.pointer (some ⟨p, 0, none⟩), .int .i64 room, .int .i64 ((2 : Nat) : Int)] w (BlockP w0 w p vb bs (C + 2353) 468) :=
  (block_step 2 181 36 999900000000 (by decide) (by decide) (by decide) (by decide) w0 p vb bs (fun _ w C room h hc h1 h2 => block_3 w0 p vb bs w C room h (by omega) h1 h2) w C room h hc hr1 hr2).mono fun e w' ⟨v, cs, he, ho, hf⟩ => ⟨v, cs, he, ho.more (by omega) (by omega), hf⟩
theorem block_1 (w0 : World) (p : Nat) (vb : Value) (bs : List Int) (w : World) (C : Nat) (room : Int) (h : Rb w0 w p vb bs C) (hc : C ≤ 999800000000) (hr1 : -1099511627776 ≤ room) (hr2 : room ≤ 1099511627776) :
    Calls Try.prog 99 #[.pointer (some ⟨p, 0, none⟩), .int .i64 room, .int .i64 ((1 : Nat) : Int)] w (BlockP w0 w p vb bs (C + 28417) 5652) :=
  (block_step 1 2353 468 999800000000 (by decide) (by decide) (by decide) (by decide) w0 p vb bs (fun _ w C room h hc h1 h2 => block_2 w0 p vb bs w C room h (by omega) h1 h2) w C room h hc hr1 hr2).mono fun e w' ⟨v, cs, he, ho, hf⟩ => ⟨v, cs, he, ho.more (by omega) (by omega), hf⟩
theorem block_any (w0 : World) (p : Nat) (vb : Value) (bs : List Int) (w : World) (C : Nat) (room : Int) (h : Rb w0 w p vb bs C) (hc : C ≤ 999700000000) (hr1 : -1099511627776 ≤ room) (hr2 : room ≤ 1099511627776) :
    Calls Try.prog 99 #[.pointer (some ⟨p, 0, none⟩), .int .i64 room, .int .i64 0] w (BlockP w0 w p vb bs (C + 341185) 67860) :=
  (block_step 0 28417 5652 999700000000 (by decide) (by decide) (by decide) (by decide) w0 p vb bs (fun _ w C room h hc h1 h2 => block_1 w0 p vb bs w C room h (by omega) h1 h2) w C room h hc hr1 hr2).mono fun e w' ⟨v, cs, he, ho, hf⟩ => ⟨v, cs, he, ho.more (by omega) (by omega), hf⟩

theorem Out.appA {w0 w wx wy : World} {p C L M : Nat} {v v' : Value} {vb : Value} {bs : List Int} {cs ds : List Cd} (h : Out w0 w p vb bs C L v cs wx) (hown : OwnO wy w.heap.size 36 4 v' (cs.length + ds.length) (cs.flatMap cdCells ++ ds.flatMap cdCells)) (hg : wx.grownBy wy v.ownBlock) (hd : ds.length ≤ M) :
    ∃ cs' A c, v' = .slice A cs'.length c ∧ Out w0 w p vb bs C (L + M) v' cs' wy := by
  have hS := h.app hown hg hd
  obtain ⟨A, c, e⟩ := hS.own.form
  exact ⟨_, A, c, e, hS⟩

section
variable {w0 w wx wy : World} {p C L M : Nat} {v v' : Value} {vb : Value} {bs : List Int} {cs ds : List Cd}
theorem Out.appL (h : Out w0 w p vb bs C L v cs wx) (hown : OwnO wy w.heap.size 36 4 v' (cs.length + ds.length) (cs.flatMap cdCells ++ ds.flatMap cdCells)) (hg : wx.grownBy wy v.ownBlock) :
    ∃ cs' A c, v' = .slice A cs'.length c ∧ Out w0 w p vb bs C cs'.length v' cs' wy ∧ cs'.length = cs.length + ds.length := by
  have hS := h.app (M := ds.length) hown hg (Nat.le_refl _)
  obtain ⟨A, c, e⟩ := hS.own.form
  exact ⟨_, A, c, e, ⟨hS.rb, hS.at_, hS.own, Nat.le_refl _, hS.w00⟩, by simp⟩
/-- A literal of instructions, in a new block. -/
theorem Out.lit (h : Out w0 w p vb bs C L v cs wx) (ds : List Cd) (hds : ds.length ≤ 1000) : Out w0 w p vb bs C ds.length (.slice (some ⟨wx.heap.size, 0, none⟩) ds.length ds.length) ds (wx.alloc (.cells (ds.flatMap cdCells).toArray 36)) := by
  have hp : Pure wx (wx.alloc (.cells (ds.flatMap cdCells).toArray 36)) := Pure.alloc (Pure.refl _) _
  refine ⟨h.rb.keep hp, h.at_.trans (Chg.of_pure hp), ?_, Nat.le_refl _, h.w00⟩
  have := OwnO.lit (e := 36) (s := 4) wx (ds.flatMap cdCells).toArray ds.length h.at_.size (by omega) (by rw [List.size_toArray]; exact flat4 ds)
  simpa using this
theorem set_flat : ∀ (cs : List Cd) (k : Nat) (x : Cd), k < cs.length → ((((cs.flatMap cdCells).set (k * 4) (.int .i64 x.op)).set (k * 4 + 1) (.int .i64 x.a)).set (k * 4 + 2) (.int .i64 x.b)).set (k * 4 + 3) (.int .i64 x.c) = (cs.set k x).flatMap cdCells
  | [], _, _, h => absurd h (by simp)
  | c :: r, 0, x, _ => by simp [cdCells]
  | c :: r, k + 1, x, h => by
    have ih := set_flat r k x (by simpa using h)
    rw [List.set_cons_succ, List.flatMap_cons, List.flatMap_cons, ← ih]
    have e : ∀ (l : List Value) (i : Nat) (v : Value), (cdCells c ++ l).set (i + 4) v = cdCells c ++ l.set i v := fun l i v => by
      rw [List.set_append]; simp [cdCells]; intro h; omega
    rw [show (k + 1) * 4 = k * 4 + 4 by omega, e, show k * 4 + 4 + 1 = (k * 4 + 1) + 4 by omega, e, show k * 4 + 4 + 2 = (k * 4 + 2) + 4 by omega, e, show k * 4 + 4 + 3 = (k * 4 + 3) + 4 by omega, e]
/-- An instruction is put into its place. -/
theorem Out.put {g off c k : Nat} (h : Out w0 w p vb bs C L (.slice (some ⟨g, off, none⟩) cs.length c) cs wx) (hk : k < cs.length) (x : Cd) :
    Out w0 w p vb bs C L (.slice (some ⟨g, off, none⟩) cs.length c) (cs.set k x) ((((wx.setCell ⟨g, off + k * 4, none⟩ (.int .i64 x.op)).setCell ⟨g, off + k * 4 + 1, none⟩ (.int .i64 x.a)).setCell ⟨g, off + k * 4 + 2, none⟩ (.int .i64 x.b)).setCell ⟨g, off + k * 4 + 3, none⟩ (.int .i64 x.c)) := by
  have hlo := (h.own.lt g rfl).1
  have s4 := (((h.own.stored (k * 4) (.int .i64 x.op)).stored (k * 4 + 1) (.int .i64 x.a)).stored (k * 4 + 2) (.int .i64 x.b)).stored (k * 4 + 3) (.int .i64 x.c)
  simp only [← Nat.add_assoc] at s4
  rw [set_flat cs k x hk] at s4
  have c1 : ∀ (w : World) (i : Nat) (v : Value), Chg (fun k => k = g) w (w.setCell ⟨g, i, none⟩ v) := fun w i v => Chg.of_set w g i v rfl
  have hc := ((c1 wx (off + k * 4) (.int .i64 x.op)).trans (c1 _ (off + k * 4 + 1) (.int .i64 x.a))).trans ((c1 _ (off + k * 4 + 2) (.int .i64 x.b)).trans (c1 _ (off + k * 4 + 3) (.int .i64 x.c)))
  have hne : p ≠ g := by
    obtain ⟨cur, hcc⟩ := h.rb.cell
    intro e
    exact h.own.ne_heap hcc (by decide) g rfl e.symm
  refine ⟨h.rb.chg hc (fun i e => by have := h.w00; omega) hne, Chg.trans' h.at_ hc (fun i hi e => by omega), ?_, by simpa using h.len, h.w00⟩
  rw [List.length_set]; exact s4
end

def FormP (v : Value) (cs : List Cd) : Prop := ∃ A c, v = .slice A cs.length c
def ProgP (w0 w : World) (p : Nat) (vb : Value) (bs : List Int) (C L : Nat) (e : Ending) (w' : World) : Prop :=
  ∃ v cs, e = .returned v ∧ Out w0 w p vb bs C L v cs w'

set_option maxHeartbeats 8000000 in
set_option maxRecDepth 100000 in
theorem prog_any (w0 w : World) (p C n : Nat) (vb : Value) (bs : List Int) (N : Int) (hN : N = n) (hn : n ≤ 1048576) (h : Rb w0 w p vb bs C) (hc : C ≤ 900000000000) :
    Calls Try.prog 80 #[.pointer (some ⟨p, 0, none⟩), .int .i64 N] w (ProgP w0 w p vb bs (C + 2000000) 300000) := by
  have H := Lib.hid h
  have HN := Lib.hid hN
  have h00 := h.pure.size
  clear h hN
  go_enter Try.func80, Try.ntmps80
  have S0 := Lib.hid (Out.start H.out (Chg.refl _ w) h00)
  go_wp2_with fail
  refine (pick_t w0 _ p (C) vb bs 4 4 rfl S0.out.rb (by omega) (by decide) (by decide)).mono ?_
  rintro e wa ⟨xwa, rfl, hxwa, hrwa, hgwa⟩
  have Sa := Lib.hid (S0.out.step hrwa hgwa)
  clear hrwa hgwa
  clear S0
  go_upto_block 0 with fail
  go_cut [5] (fun vv wx => ∃ (v : Value) (cs : List Cd), vv = v ∧ FormP v cs ∧ Out w0 w p vb bs (C + 3) 3 v cs wx)
  case first =>
    have hx4 : xwa = 0 ∨ xwa = 1 ∨ xwa = 2 ∨ 3 ≤ xwa := by omega
    rcases hx4 with rfl | rfl | rfl | h3
    · go_wp2_with (at_builtin; go_must (refine wl_appendLF elCode rfl _ _ rfl w.heap.size _ _ _ rfl Sa.out.own _ 2 _ [.int .i64 (2), .int .i64 (0), .int .i64 (0), .int .i64 (0), .int .i64 (5), .int .i64 (1), .int .i64 (0), .int .i64 (0)] rfl rfl rfl rfl (by decide) (by have := Sa.out.len; omega) Sa.out.at_.size ?_); intro v' wq1 hq hgq _; obtain ⟨cs1, g1, o1, c1, rfl, hpos1, hS1⟩ := Sa.out.appF (ds := [⟨2, 0, 0, 0⟩, ⟨5, 1, 0, 0⟩]) (M := 2) hq hgq (by simp) (by simp); have Sb := Lib.hid hS1; have hln1 := hS1.len; clear hq hgq hS1)
      go_meet
      case rel => exact ⟨_, _, rfl, ⟨_, _, rfl⟩, Sb.out.more (by omega) (by omega)⟩
    · go_wp2_with (at_builtin; go_must (refine wl_appendLF elCode rfl _ _ rfl w.heap.size _ _ _ rfl Sa.out.own _ 3 _ [.int .i64 (2), .int .i64 (3), .int .i64 (0), .int .i64 (0), .int .i64 (8), .int .i64 (0), .int .i64 (3), .int .i64 (0), .int .i64 (9), .int .i64 (0), .int .i64 (3), .int .i64 (0)] rfl rfl rfl rfl (by decide) (by have := Sa.out.len; omega) Sa.out.at_.size ?_); intro v' wq1 hq hgq _; obtain ⟨cs1, g1, o1, c1, rfl, hpos1, hS1⟩ := Sa.out.appF (ds := [⟨2, 3, 0, 0⟩, ⟨8, 0, 3, 0⟩, ⟨9, 0, 3, 0⟩]) (M := 3) hq hgq (by simp) (by simp); have Sb := Lib.hid hS1; have hln1 := hS1.len; clear hq hgq hS1)
      go_meet
      case rel => exact ⟨_, _, rfl, ⟨_, _, rfl⟩, Sb.out.more (by omega) (by omega)⟩
    · skip
      go_wp2_with fail
      refine (pick_t w0 _ p (C + 1) vb bs 4 4 rfl Sa.out.rb (by omega) (by decide) (by decide)).mono ?_
      rintro e wb ⟨xwb, rfl, hxwb, hrwb, hgwb⟩
      have Sb := Lib.hid (Sa.out.step hrwb hgwb)
      clear hrwb hgwb
      go_wp2_with fail
      refine (pick_t w0 _ p (C + 1 + 1) vb bs 4 4 rfl Sb.out.rb (by omega) (by decide) (by decide)).mono ?_
      rintro e wc ⟨xwc, rfl, hxwc, hrwc, hgwc⟩
      have Sc := Lib.hid (Sb.out.step hrwc hgwc)
      clear hrwc hgwc
      go_wp2_with (at_builtin; go_must (refine wl_appendLF elCode rfl _ _ rfl w.heap.size _ _ _ rfl Sc.out.own _ 1 _ [.int .i64 (1), .int .i64 (xwb), .int .i64 (1 + (xwc : Int)), .int .i64 (0)] rfl rfl rfl rfl (by decide) (by have := Sc.out.len; omega) Sc.out.at_.size ?_); intro v' wq1 hq hgq _; obtain ⟨cs1, g1, o1, c1, rfl, hpos1, hS1⟩ := Sc.out.appF (ds := [⟨1, xwb, 1 + (xwc : Int), 0⟩]) (M := 1) hq hgq (by simp) (by simp); have Sd := Lib.hid hS1; have hln1 := hS1.len; clear hq hgq hS1)
      go_meet
      case rel => exact ⟨_, _, rfl, ⟨_, _, rfl⟩, Sd.out.more (by omega) (by omega)⟩
    · have hb0 : ((xwa : Int) == 0) = false := by simp; omega
      have hb1 : ((xwa : Int) == 1) = false := by simp; omega
      have hb2 : ((xwa : Int) == 2) = false := by simp; omega
      go_wp2
      go_meet
      case rel => exact ⟨_, _, rfl, ⟨_, _, rfl⟩, Sa.out.more (by omega) (by omega)⟩
  case rest =>
  obtain ⟨v1, cs1, rfl, ⟨A1, c1, rfl⟩, hS1⟩ := hcut
  have S1 := Lib.hid hS1
  have hl1 := hS1.len
  clear hS1 Sa
  go_wp2_with fail
  refine (pick_t w0 _ p (C + 3) vb bs 3 3 rfl S1.out.rb (by omega) (by decide) (by decide)).mono ?_
  rintro e wb ⟨xwb, rfl, hxwb, hrwb, hgwb⟩
  have S2 := Lib.hid (S1.out.step hrwb hgwb)
  clear hrwb hgwb
  clear S1
  obtain ⟨tot, Ht⟩ : ∃ tot : Nat, Hid (1 + xwb = tot) := ⟨_, Lib.hid rfl⟩
  have ht3 : tot ≤ 3 := by have := Ht.out; omega
  go_upto_block 1 with fail
  go_cut [5] (fun vv wx => ∃ (v : Value) (cs : List Cd), vv = v ∧ FormP v cs ∧ Out w0 w p vb bs (C + 4 + 3 * 341185) (3 + 3 * 67860) v cs wx)
  case first =>
    go_wp2_with fail
    go_loopg [5, 6] tot (fun gk vv kk wr => ∃ (v : Value) (cs : List Cd), gk ≤ tot ∧ kk = .int .i64 (gk : Int) ∧ vv = v ∧ FormP v cs ∧ Out w0 w p vb bs (C + 4 + (tot - gk) * 341185) (3 + (tot - gk) * 67860) v cs wr)
    case atStart =>
      exact ⟨_, cs1, Nat.le_refl _, by rw [← Ht.out]; go_num, rfl, ⟨_, _, rfl⟩, S2.out.more (by omega) (by omega)⟩
    case round =>
      obtain ⟨v, cs, hgk, rfl, rfl, ⟨A, c, rfl⟩, hout⟩ := hrel
      have S := Lib.hid hout
      have hlen := hout.len
      clear hout S2
      by_cases hg0 : gk = 0
      · subst hg0
        go_wp2
        go_meet
        case rel => exact ⟨_, cs, rfl, ⟨_, _, rfl⟩, S.out.more (by omega) (by omega)⟩
      go_wp2_with fail
      refine (block_any w0 p vb bs _ (C + 4 + (tot - gk) * 341185) _ S.out.rb (by omega) (by omega) (by omega)).mono ?_
      rintro e wr2 ⟨vr, csr, rfl, hor, gr, or1, cr, rfl⟩
      have T := Lib.hid (S.out.step hor.rb hor.at_)
      have R := Lib.hid hor
      have hlr := hor.len
      clear hor S
      go_wp2_with (at_builtin; refine wl_appendF elCode rfl _ _ rfl w.heap.size _ _ _ rfl T.out.own gr or1 csr.length _ (csr.flatMap cdCells) rfl (flat4 _) (fun j u hu => (R.out.own.cell j (by have := (List.getElem?_eq_some_iff.1 hu).1; rw [flat4] at this; exact this)).trans hu) (fun u hu => (List.all_eq_true.1 (one_cells _)) u hu) (by omega) (by omega) T.out.at_.size ?_; intro v' wq hq hgq _; obtain ⟨cs5, A5, c5, rfl, hS5⟩ := T.out.appA (M := 67860) hq hgq hlr; have S5 := Lib.hid hS5; have hl5 := hS5.len; clear hq hgq hS5)
      all_goals first
        | (go_meet; case rel => exact ⟨_, cs5, rfl, ⟨_, _, rfl⟩, S5.out.more (by omega) (by omega)⟩)
        | (go_roundg (gk - 1); (case measure => omega); case rel => exact ⟨_, cs5, by omega, by rw [show ((gk - 1 : Nat) : Int) = (gk : Int) - 1 by omega], rfl, ⟨_, _, rfl⟩, S5.out.more (by omega) (by omega)⟩)
  case rest =>
  obtain ⟨v3, cs3, rfl, ⟨A3, c3, rfl⟩, hS3⟩ := hcut
  have S3 := Lib.hid hS3
  have hl3 := hS3.len
  clear hS3 S2 hl1
  go_upto_region 14 with fail
  go_cut [60] (fun bb wx => ∃ Bo : Bool, bb = .bool Bo ∧ Out w0 w p vb bs (C + 5 + 3 * 341185) (3 + 3 * 67860) (.slice A3 cs3.length c3) cs3 wx)
  case first =>
    go_wp2_with fail
    refine (odd_any w0 _ p (C + 4 + 3 * 341185) vb bs 3 3 rfl S3.out.rb (by omega) (by decide)).mono ?_
    rintro e w5 ⟨B, rfl, hr5, hg5⟩
    have S4 := Lib.hid (S3.out.step hr5 hg5)
    clear hr5 hg5
    cases B
    · go_wp2
      go_meet
      case rel => exact ⟨_, rfl, S4.out.more (by omega) (by omega)⟩
    · by_cases hlt : (cs3.length : Int) < 37
      · go_wp2
        go_meet
        case rel => exact ⟨_, rfl, S4.out.more (by omega) (by omega)⟩
      · go_wp2
        go_meet
        case rel => exact ⟨_, rfl, S4.out.more (by omega) (by omega)⟩
  case rest =>
  obtain ⟨Bo, rfl, hS4⟩ := hcut
  have S4 := Lib.hid hS4
  clear hS4 S3
  go_upto_if 60 with fail
  go_cut [5] (fun vv wx => ∃ (v : Value) (cs : List Cd), vv = v ∧ FormP v cs ∧ Out w0 w p vb bs (C + 6 + 3 * 341185) (5 + 3 * 67860) v cs wx)
  case first =>
    cases Bo
    · go_wp2
      go_meet
      case rel => exact ⟨_, cs3, rfl, ⟨_, _, rfl⟩, S4.out.more (by omega) (by omega)⟩
    · skip
      go_wp2_with fail
      refine (pick_t w0 _ p (C + 5 + 3 * 341185) vb bs 4 4 rfl S4.out.rb (by omega) (by decide) (by decide)).mono ?_
      rintro e wd ⟨xwd, rfl, hxwd, hrwd, hgwd⟩
      have S5 := Lib.hid (S4.out.step hrwd hgwd)
      clear hrwd hgwd
      go_wp2_with (at_builtin; go_must (refine wl_appendLF elCode rfl _ _ rfl w.heap.size _ _ _ rfl S5.out.own _ 2 _ [.int .i64 (2), .int .i64 (2), .int .i64 (0), .int .i64 (0), .int .i64 (9), .int .i64 (xwd), .int .i64 (2), .int .i64 (0)] rfl rfl rfl rfl (by decide) (by have := S5.out.len; omega) S5.out.at_.size ?_); intro v' wq7 hq hgq _; obtain ⟨cs7, g7, o7, c7, rfl, hpos7, hS7⟩ := S5.out.appF (ds := [⟨2, 2, 0, 0⟩, ⟨9, xwd, 2, 0⟩]) (M := 2) hq hgq (by simp) (by simp); have S6 := Lib.hid hS7; have hln7 := hS7.len; clear hq hgq hS7)
      go_meet
      case rel => exact ⟨_, cs7, rfl, ⟨_, _, rfl⟩, S6.out.more (by omega) (by omega)⟩
  case rest =>
  obtain ⟨v6, cs6, rfl, ⟨A6, c6, rfl⟩, hS6⟩ := hcut
  have S6 := Lib.hid hS6
  have hl6 := hS6.len
  clear hS6 S4 hl3
  go_upto_region 16 with fail
  go_cut [75] (fun bb wx => ∃ Bo : Bool, bb = .bool Bo ∧ (Bo = true → 0 < cs6.length) ∧ Out w0 w p vb bs (C + 7 + 3 * 341185) (5 + 3 * 67860) (.slice A6 cs6.length c6) cs6 wx)
  case first =>
    by_cases hpos : (cs6.length : Int) > 0
    · go_wp2_with fail
      refine (odd_any w0 _ p (C + 6 + 3 * 341185) vb bs n N HN.out S6.out.rb (by omega) hn).mono ?_
      rintro e w5 ⟨B, rfl, hr5, hg5⟩
      have S7 := Lib.hid (S6.out.step hr5 hg5)
      clear hr5 hg5
      go_wp2
      go_meet
      case rel => exact ⟨_, rfl, fun _ => by omega, S7.out.more (by omega) (by omega)⟩
    · go_wp2
      go_meet
      case rel => exact ⟨false, rfl, fun h => (by cases h), S6.out.more (by omega) (by omega)⟩
  case rest =>
  obtain ⟨Bo, rfl, hpos, hS7⟩ := hcut
  have S7 := Lib.hid hS7
  have HPOS := Lib.hid hpos
  clear hS7 S6 hpos
  cases Bo
  · go_wp2
    go_ret
    exact ⟨_, cs6, rfl, S7.out.more (by omega) (by omega)⟩
  have hpos := HPOS.out rfl
  go_wp2_with fail
  refine (pick_t w0 _ p (C + 7 + 3 * 341185) vb bs cs6.length _ rfl S7.out.rb (by omega) (by omega) (by omega)).mono ?_
  rintro e w8 ⟨xk, rfl, hxk, hr8, hg8⟩
  have S8 := Lib.hid (S7.out.step hr8 hg8)
  clear hr8 hg8 S7
  go_wp2_with fail
  refine (pick_t w0 _ p (C + 8 + 3 * 341185) vb bs 5 5 rfl S8.out.rb (by omega) (by decide) (by decide)).mono ?_
  rintro e we ⟨xwe, rfl, hxwe, hrwe, hgwe⟩
  have S9 := Lib.hid (S8.out.step hrwe hgwe)
  clear hrwe hgwe
  clear S8
  have hx5 : xwe = 0 ∨ xwe = 1 ∨ xwe = 2 ∨ xwe = 3 ∨ xwe = 4 := by omega
  rcases hx5 with rfl | rfl | rfl | rfl | rfl
  · obtain ⟨g6, o6, c6', hv6, _, _, _, _⟩ := S9.out.own.formSome hpos
    injection hv6 with e1 e2 e3
    subst e1 e3
    go_wp2_with fail
    refine (code_any w0 _ p (C + 9 + 3 * 341185) 1 vb bs 1 rfl (by decide) S9.out.rb (by omega)).mono ?_
    rintro e wf ⟨⟨z0, z1, z2, z3⟩, rfl, hrf, hgf⟩
    have Sf := Lib.hid (S9.out.step hrf hgf)
    clear hrf hgf S9
    unfold cdv
    obtain ⟨u0, q0⟩ := Sf.out.own.cellSome (xk * 4) (by omega)
    obtain ⟨u1, q1⟩ := Sf.out.own.cellSome (xk * 4 + 1) (by omega)
    obtain ⟨u2, q2⟩ := Sf.out.own.cellSome (xk * 4 + 2) (by omega)
    obtain ⟨u3, q3⟩ := Sf.out.own.cellSome (xk * 4 + 3) (by omega)
    rw [← Nat.add_assoc] at q1 q2 q3
    have f0 := Sf.out.own.frozen (o6 + xk * 4)
    have f1 := Sf.out.own.frozen (o6 + xk * 4 + 1)
    have f2 := Sf.out.own.frozen (o6 + xk * 4 + 2)
    have f3 := Sf.out.own.frozen (o6 + xk * 4 + 3)
    have SX := Lib.hid (Sf.out.put hxk ⟨z0, z1, z2, z3⟩)
    go_wp2
    go_ret
    exact ⟨_, _, rfl, SX.out.more (by omega) (by omega)⟩
  · go_wp2_with (at_builtin; go_must (refine wl_appendLF elCode rfl _ _ rfl w.heap.size _ _ _ rfl S9.out.own _ 1 _ [.int .i64 (14), .int .i64 (0), .int .i64 (0), .int .i64 (0)] rfl rfl rfl rfl (by decide) (by have := S9.out.len; omega) S9.out.at_.size ?_); intro v' wq8 hq hgq _; obtain ⟨cs8, g8, o8, c8, rfl, hpos8, hS8⟩ := S9.out.appF (ds := [⟨14, 0, 0, 0⟩]) (M := 1) hq hgq (by simp) (by simp); have Sx := Lib.hid hS8; have hln8 := hS8.len; clear hq hgq hS8)
    go_ret
    exact ⟨_, cs8, rfl, Sx.out.more (by omega) (by omega)⟩
  · go_wp2_with (at_builtin; go_must (refine wl_appendLF elCode rfl _ _ rfl w.heap.size _ _ _ rfl S9.out.own _ 1 _ [.int .i64 (12), .int .i64 (0), .int .i64 (0), .int .i64 (0)] rfl rfl rfl rfl (by decide) (by have := S9.out.len; omega) S9.out.at_.size ?_); intro v' wq8 hq hgq _; obtain ⟨cs8, g8, o8, c8, rfl, hpos8, hS8⟩ := S9.out.appF (ds := [⟨12, 0, 0, 0⟩]) (M := 1) hq hgq (by simp) (by simp); have Sx := Lib.hid hS8; have hln8 := hS8.len; clear hq hgq hS8)
    go_ret
    exact ⟨_, cs8, rfl, Sx.out.more (by omega) (by omega)⟩
  · obtain ⟨g6, o6, c6', hv6, _, _, _, _⟩ := S9.out.own.formSome hpos
    injection hv6 with e1 e2 e3
    subst e1 e3
    have SL := Lib.hid (S9.out.lit [⟨11, 0, 0, 0⟩, ⟨11, 0, 0, 0⟩, ⟨11, 0, 0, 0⟩, ⟨11, 0, 0, 0⟩, ⟨14, 0, 0, 0⟩, ⟨14, 0, 0, 0⟩, ⟨14, 0, 0, 0⟩, ⟨14, 0, 0, 0⟩] (by simp))
    have SK := Lib.hid (S9.out.keep (show Pure we (we.alloc (.cells (([⟨11, 0, 0, 0⟩, ⟨11, 0, 0, 0⟩, ⟨11, 0, 0, 0⟩, ⟨11, 0, 0, 0⟩, ⟨14, 0, 0, 0⟩, ⟨14, 0, 0, 0⟩, ⟨14, 0, 0, 0⟩, ⟨14, 0, 0, 0⟩] : List Cd).flatMap cdCells).toArray 36)) from (by repeat (first | assumption | exact Pure.refl _ | refine Pure.drewN ?_ _ | refine Pure.drew ?_ | refine Pure.alloc ?_ _ | refine Pure.setCell ?_ (by simp <;> omega) _))))
    go_wp2_with (at_builtin; refine wl_appendF elCode rfl _ _ rfl w.heap.size (.slice (some ⟨we.heap.size, 0, none⟩) 8 8) 8 (([⟨11, 0, 0, 0⟩, ⟨11, 0, 0, 0⟩, ⟨11, 0, 0, 0⟩, ⟨11, 0, 0, 0⟩, ⟨14, 0, 0, 0⟩, ⟨14, 0, 0, 0⟩, ⟨14, 0, 0, 0⟩, ⟨14, 0, 0, 0⟩] : List Cd).flatMap cdCells) rfl SL.out.own g6 o6 cs6.length _ (cs6.flatMap cdCells) rfl (flat4 _) (fun j u hu => (SK.out.own.cell j (by have := (List.getElem?_eq_some_iff.1 hu).1; rw [flat4] at this; exact this)).trans hu) (fun u hu => (List.all_eq_true.1 (one_cells _)) u hu) (by omega) (by omega) SL.out.at_.size ?_; intro v' wq hq hgq _; obtain ⟨cs8, A8, c8, rfl, hS8⟩ := SL.out.appA (ds := cs6) (M := 5 + 3 * 67860) hq hgq hl6; have S8 := Lib.hid hS8; clear hq hgq hS8)
    go_ret
    exact ⟨_, cs8, rfl, S8.out.more (by omega) (by simp)⟩
  · go_wp2_with fail
    go_loopg [5] (41 - cs6.length) (fun gk vv wr => ∃ (v : Value) (cs : List Cd), gk = 41 - cs.length ∧ gk ≤ 41 - cs6.length ∧ vv = v ∧ FormP v cs ∧ Out w0 w p vb bs (C + 10 + 3 * 341185 + 10 * (41 - cs6.length - gk)) (46 + 3 * 67860) v cs wr)
    case atStart => exact ⟨_, cs6, rfl, Nat.le_refl _, rfl, ⟨_, _, rfl⟩, S9.out.more (by omega) (by omega)⟩
    case round =>
      obtain ⟨v, cs, hgk, hgk2, rfl, ⟨A, c, rfl⟩, hout⟩ := hrel
      have S := Lib.hid hout
      have hlen := hout.len
      clear hout S9
      by_cases hle : (cs.length : Int) ≤ 40
      · go_wp2_with fail
        refine (plain_any w0 _ p (C + 10 + 3 * 341185 + 10 * (41 - cs6.length - gk)) vb bs S.out.rb (by omega)).mono ?_
        rintro e wg ⟨⟨z0, z1, z2, z3⟩, rfl, hrg, hgg⟩
        have Sg := Lib.hid (S.out.step hrg hgg)
        clear hrg hgg S
        unfold cdv
        go_wp2_with (at_builtin; go_must (refine wl_appendLF elCode rfl _ _ rfl w.heap.size _ _ _ rfl Sg.out.own _ 1 _ [.int .i64 z0, .int .i64 z1, .int .i64 z2, .int .i64 z3] rfl rfl rfl rfl (by decide) (by omega) Sg.out.at_.size ?_); intro v' wq hq hgq _; obtain ⟨cs9, A9, c9, rfl, hS9, hl9⟩ := Sg.out.appL (ds := [⟨z0, z1, z2, z3⟩]) hq hgq; have S9 := Lib.hid hS9; have HL9 := Lib.hid hl9; clear hq hgq hS9 hl9)
        have hl9 := HL9.out
        simp only [List.length_cons, List.length_nil] at hl9
        go_roundg (41 - cs9.length)
        case measure => omega
        case rel => exact ⟨_, cs9, rfl, by omega, rfl, ⟨_, _, rfl⟩, S9.out.more (D := C + 10 + 3 * 341185 + 10 * (41 - cs6.length - (41 - cs9.length))) (M := 46 + 3 * 67860) (by omega) (by omega)⟩
      · go_wp2
        go_ret
        exact ⟨_, cs, rfl, S.out.more (by omega) (by omega)⟩

end Go.Proofs.Ytkolnakcgjlcgaa

namespace Go.Proofs.Ytkolnakcgjlcgaa
open Go.RowKit

/-- Numbers under way: in a block of the draw's own. -/
structure OutM (w0 w : World) (p : Nat) (vb : Value) (bs : List Int) (C L : Nat) (v : Value) (xs : List Int) (wx : World) : Prop where
  rb : Rb w0 wx p vb bs C
  at_ : OnlyAt p w wx
  own : OwnO wx w.heap.size 3 1 v xs.length (xs.map (.int .i64))
  len : xs.length ≤ L
  w00 : w0.heap.size ≤ w.heap.size
section
variable {w0 w wx wy : World} {p C D L M : Nat} {v v' : Value} {vb : Value} {bs : List Int} {xs : List Int}
theorem OutM.step (h : OutM w0 w p vb bs C L v xs wx) (hr : Rb w0 wy p vb bs D) (hg : OnlyAt p wx wy) : OutM w0 w p vb bs D L v xs wy := by
  refine ⟨hr, h.at_.trans hg, h.own.chg hg fun g hg2 e => ?_, h.len, h.w00⟩
  subst e
  obtain ⟨cur, hc⟩ := h.rb.cell
  exact h.own.ne_heap hc (by decide) g hg2 rfl
theorem OutM.keep (h : OutM w0 w p vb bs C L v xs wx) (hp : Pure wx wy) : OutM w0 w p vb bs C L v xs wy := h.step (h.rb.keep hp) (Chg.of_pure hp)
theorem OutM.more (h : OutM w0 w p vb bs C L v xs wx) (hD : C ≤ D) (hM : L ≤ M) : OutM w0 w p vb bs D M v xs wx := ⟨h.rb.more hD, h.at_, h.own, Nat.le_trans h.len hM, h.w00⟩
theorem OutM.app (h : OutM w0 w p vb bs C L v xs wx) {x : Int} (hown : OwnO wy w.heap.size 3 1 v' (xs.length + 1) (xs.map (.int .i64) ++ [.int .i64 x])) (hg : wx.grownBy wy v.ownBlock) :
    ∃ ys g off c, v' = .slice (some ⟨g, off, none⟩) ys.length c ∧ ys.length = xs.length + 1 ∧ OutM w0 w p vb bs C (L + 1) v' ys wy := by
  have hc : Chg (fun k => v.ownBlock = some k) wx wy := Chg.of_grown hg (fun k hk => hk)
  have hlo : ∀ k, v.ownBlock = some k → w.heap.size ≤ k := fun k hk => (h.own.lt k hk).1
  have hS : OutM w0 w p vb bs C (L + 1) v' (xs ++ [x]) wy := by
    refine ⟨h.rb.chg hc (fun k hk => Nat.le_trans h.w00 (hlo k hk)) (fun e => ?_), Chg.trans' h.at_ hc (fun i hi e => by have := hlo i e; omega), by simpa using hown, by have := h.len; simp; omega, h.w00⟩
    obtain ⟨cur, hcc⟩ := h.rb.cell
    exact h.own.ne_heap hcc (by decide) p e rfl
  obtain ⟨g, off, c, e, _⟩ := hS.own.formSome (by simp)
  exact ⟨_, g, off, c, e, by simp, hS⟩
theorem OutM.start {w1 : World} (hr : Rb w0 w1 p vb bs C) (hg : OnlyAt p w w1) (h00 : w0.heap.size ≤ w.heap.size) : OutM w0 w p vb bs C 0 (.slice (some ⟨w1.heap.size, 0, none⟩) 0 0) [] (w1.alloc (.cells #[] 3)) :=
  ⟨hr.keep (by exact (by repeat (first | assumption | exact Pure.refl _ | refine Pure.drewN ?_ _ | refine Pure.drew ?_ | refine Pure.alloc ?_ _ | refine Pure.setCell ?_ (by simp <;> omega) _))), hg.trans (Chg.of_pure (by exact (by repeat (first | assumption | exact Pure.refl _ | refine Pure.drewN ?_ _ | refine Pure.drew ?_ | refine Pure.alloc ?_ _ | refine Pure.setCell ?_ (by simp <;> omega) _)))), OwnO.empty_lit hg.size, Nat.le_refl _, h00⟩
theorem OutM.put {g off c k : Nat} (h : OutM w0 w p vb bs C L (.slice (some ⟨g, off, none⟩) xs.length c) xs wx) (x : Int) :
    OutM w0 w p vb bs C L (.slice (some ⟨g, off, none⟩) xs.length c) (xs.set k x) (wx.setCell ⟨g, off + k, none⟩ (.int .i64 x)) := by
  have hlo := (h.own.lt g rfl).1
  have s1 := h.own.stored k (.int .i64 x)
  have hc : Chg (fun k => k = g) wx (wx.setCell ⟨g, off + k, none⟩ (.int .i64 x)) := Chg.of_set wx g _ _ rfl
  have hne : p ≠ g := by
    obtain ⟨cur, hcc⟩ := h.rb.cell
    intro e
    exact h.own.ne_heap hcc (by decide) g rfl e.symm
  refine ⟨h.rb.chg hc (fun i e => by have := h.w00; omega) hne, Chg.trans' h.at_ hc (fun i hi e => by omega), ?_, by simpa using h.len, h.w00⟩
  rw [List.length_set, List.map_set]; exact s1
end
theorem zeros_int (n : Nat) : zeros [.int .i64 0] n = (List.replicate n (0 : Int)).map (.int .i64) := by
  apply List.ext_getElem?
  intro j
  by_cases hj : j < n
  · rw [zeros_get _ _ _ (by simpa using hj)]
    simp [hj, Nat.mod_one]
  · rw [List.getElem?_eq_none (by rw [zeros_length]; simp; omega), List.getElem?_eq_none (by simp; omega)]
def MemP (w0 w : World) (p : Nat) (vb : Value) (bs : List Int) (C : Nat) (e : Ending) (w' : World) : Prop :=
  ∃ v xs, e = .returned v ∧ OutM w0 w p vb bs C 33 v xs w'

set_option maxHeartbeats 8000000 in
set_option maxRecDepth 100000 in
theorem mem_any (w0 w : World) (p C n : Nat) (vb : Value) (bs : List Int) (N : Int) (hN : N = n) (hn : n ≤ 1048576) (h : Rb w0 w p vb bs C) (hc : C ≤ 1000000000000) :
    Calls Try.prog 84 #[.pointer (some ⟨p, 0, none⟩), .int .i64 N] w (MemP w0 w p vb bs (C + 200)) := by
  have H := Lib.hid h
  have HN := Lib.hid hN
  have h00 := h.pure.size
  clear h hN
  go_enter Try.func84, Try.ntmps84
  have S0 := Lib.hid (OutM.start H.out (Chg.refl _ w) h00)
  go_wp2_with fail
  refine (pick_t w0 _ p C vb bs 12 12 rfl S0.out.rb (by omega) (by decide) (by decide)).mono ?_
  rintro e w1 ⟨x1, rfl, hx1, hr1, hg1⟩
  have S1 := Lib.hid (S0.out.step hr1 hg1)
  clear hr1 hg1 S0
  have HLIT := Lib.hid (heap_alloc_new w1 (.cells (([8, 16, 1 + (x1 : Int), 32] : List Int).map (Value.int .i64)).toArray 3))
  have hpl1 : p < w1.heap.size := S1.out.rb.lt
  have S2 := Lib.hid (S1.out.keep (show Pure w1 (w1.alloc (.cells #[.int .i64 8, .int .i64 16, .int .i64 (1 + (x1 : Int)), .int .i64 32] 3)) from (by repeat (first | assumption | exact Pure.refl _ | refine Pure.drewN ?_ _ | refine Pure.drew ?_ | refine Pure.alloc ?_ _ | refine Pure.setCell ?_ (by simp <;> omega) _))))
  clear S1
  go_wp2_with fail
  refine (pick_t w0 _ p (C + 1) vb bs 4 4 rfl S2.out.rb (by omega) (by decide) (by decide)).mono ?_
  rintro e w2 ⟨x2, rfl, hx2, hr2, hg2⟩
  obtain ⟨m0, hm0, hmm⟩ := lit_get [8, 16, 1 + (x1 : Int), 32] hg2 HLIT.out (by omega) hx2
  have S3 := Lib.hid (S2.out.step hr2 hg2)
  clear hr2 hg2 S2
  have hm32 : 1 ≤ m0 ∧ m0 ≤ 32 := by
    simp only [List.mem_cons, List.not_mem_nil, or_false] at hmm
    omega
  clear hmm
  obtain ⟨m, rfl⟩ : ∃ m : Nat, m0 = m := ⟨m0.toNat, by omega⟩
  go_wp2_with fail
  go_loopg [5, 6] m (fun gk vv kk wr => ∃ (v : Value) (xs : List Int), gk ≤ m ∧ kk = .int .i64 (gk : Int) ∧ vv = v ∧ xs.length = m - gk ∧ (∃ g off c, v = .slice (some ⟨g, off, none⟩) xs.length c) ∧ OutM w0 w p vb bs (C + 2 + 3 * (m - gk)) 32 v xs wr)
  case atStart => exact ⟨_, [], Nat.le_refl _, rfl, rfl, by simp, ⟨_, _, _, rfl⟩, S3.out.more (by omega) (by omega)⟩
  case round =>
    obtain ⟨v, xs, hgk, rfl, rfl, hxl, ⟨g, off, c, rfl⟩, hout⟩ := hrel
    have S := Lib.hid hout
    have hlen := hout.len
    have HXL := Lib.hid hxl
    clear hout S3 hxl
    by_cases hg0 : gk = 0
    · subst hg0
      go_wp2_with fail
      refine (odd_any w0 _ p (C + 2 + 3 * (m - 0)) vb bs n N HN.out S.out.rb (by omega) hn).mono ?_
      rintro e w3 ⟨B, rfl, hr3, hg3⟩
      have S4 := Lib.hid (S.out.step hr3 hg3)
      clear hr3 hg3 S
      cases B
      · go_wp2
        go_ret
        exact ⟨_, xs, rfl, S4.out.more (D := C + 200) (M := 33) (by omega) (by omega)⟩
      go_wp2_with fail
      refine (pick_t w0 _ p (C + 2 + 3 * (m - 0) + 1) vb bs 3 3 rfl S4.out.rb (by omega) (by decide) (by decide)).mono ?_
      rintro e w4 ⟨x4, rfl, hx4, hr4, hg4⟩
      have S5 := Lib.hid (S4.out.step hr4 hg4)
      clear hr4 hg4 S4
      have hx3 : x4 = 0 ∨ x4 = 1 ∨ x4 = 2 := by omega
      rcases hx3 with rfl | rfl | rfl
      · have S6 := Lib.hid (OutM.start S5.out.rb S5.out.at_ h00)
        go_wp2
        go_ret
        exact ⟨_, [], rfl, S6.out.more (D := C + 200) (M := 33) (by omega) (by omega)⟩
      · have HLI2 := Lib.hid (heap_alloc_new w4 (.cells (([-1, 256] : List Int).map (Value.int .i64)).toArray 3))
        have hpl4 : p < w4.heap.size := S5.out.rb.lt
        have S6 := Lib.hid (S5.out.keep (show Pure w4 (w4.alloc (.cells #[.int .i64 (-1), .int .i64 256] 3)) from (by repeat (first | assumption | exact Pure.refl _ | refine Pure.drewN ?_ _ | refine Pure.drew ?_ | refine Pure.alloc ?_ _ | refine Pure.setCell ?_ (by simp <;> omega) _))))
        go_wp2_with fail
        refine (pick_t w0 _ p (C + 2 + 3 * (m - 0) + 2) vb bs 2 2 rfl S6.out.rb (by omega) (by decide) (by decide)).mono ?_
        rintro e w5 ⟨x5, rfl, hx5, hr5, hg5⟩
        obtain ⟨y, hy, _⟩ := lit_get [-1, 256] hg5 HLI2.out (by omega) hx5
        have S7 := Lib.hid (S6.out.step hr5 hg5)
        clear hr5 hg5 S6 S5
        obtain ⟨u0, q0⟩ := S7.out.own.cellSome 0 (by have := HXL.out; omega)
        have f0 := S7.out.own.frozen off
        have hxpos : 0 < xs.length := by have := HXL.out; omega
        have S8 := Lib.hid (S7.out.put (k := 0) y)
        simp only [Nat.add_zero] at q0 S8
        go_wp2
        go_ret
        exact ⟨_, _, rfl, S8.out.more (D := C + 200) (M := 33) (by omega) (by omega)⟩
      · go_wp2_with (at_make; refine wl_make elInt rfl _ _ rfl w.heap.size _ _ _ _ 33 rfl rfl rfl rfl (by decide) (by decide) S5.out.at_.size ?_; intro w7 hown hp hsz; have HOWN := Lib.hid hown; have HP := Lib.hid hp; clear hown hp)
        go_ret
        have S6 := S5.out.keep HP.out
        refine ⟨_, List.replicate 33 0, rfl, (show OutM w0 w p vb bs (C + 2 + 3 * (m - 0) + 2) 33 _ _ _ from ⟨S6.rb, S6.at_, ?_, by simp, h00⟩).more (D := C + 200) (M := 33) (by omega) (by omega)⟩
        have := OwnO.of_own HOWN.out
        rw [zeros_int] at this
        simpa using this
    · have hlt : gk ≠ 0 := hg0
      go_wp2_with fail
      refine (pick_t w0 _ p (C + 2 + 3 * (m - gk)) vb bs 256 256 rfl S.out.rb (by omega) (by decide) (by decide)).mono ?_
      rintro e w3 ⟨x3, rfl, hx3, hr3, hg3⟩
      have S4 := Lib.hid (S.out.step hr3 hg3)
      clear hr3 hg3 S
      go_wp2_with fail
      refine (pick_t w0 _ p (C + 2 + 3 * (m - gk) + 1) vb bs 5 5 rfl S4.out.rb (by omega) (by decide) (by decide)).mono ?_
      rintro e w4 ⟨x4, rfl, hx4, hr4, hg4⟩
      have S5 := Lib.hid (S4.out.step hr4 hg4)
      clear hr4 hg4 S4
      have HLI2 := Lib.hid (heap_alloc_new w4 (.cells (([0, (x3 : Int), (x4 : Int)] : List Int).map (Value.int .i64)).toArray 3))
      have hpl4 : p < w4.heap.size := S5.out.rb.lt
      have S6 := Lib.hid (S5.out.keep (show Pure w4 (w4.alloc (.cells #[.int .i64 0, .int .i64 (x3 : Int), .int .i64 (x4 : Int)] 3)) from (by repeat (first | assumption | exact Pure.refl _ | refine Pure.drewN ?_ _ | refine Pure.drew ?_ | refine Pure.alloc ?_ _ | refine Pure.setCell ?_ (by simp <;> omega) _))))
      go_wp2_with fail
      refine (pick_t w0 _ p (C + 2 + 3 * (m - gk) + 2) vb bs 3 3 rfl S6.out.rb (by omega) (by decide) (by decide)).mono ?_
      rintro e w5 ⟨x5, rfl, hx5, hr5, hg5⟩
      obtain ⟨y, hy, _⟩ := lit_get [0, (x3 : Int), (x4 : Int)] hg5 HLI2.out (by omega) hx5
      have S7 := Lib.hid (S6.out.step hr5 hg5)
      clear hr5 hg5 S6 S5
      go_wp2_with (at_builtin; go_must (refine wl_append1F elInt rfl _ _ rfl w.heap.size _ _ _ rfl S7.out.own _ 1 [.int .i64 y] rfl rfl rfl rfl (by decide) (by have := HXL.out; omega) S7.out.at_.size ?_); intro v' wq hq hgq _; obtain ⟨ys, g', o', c', rfl, hyl, hS8⟩ := S7.out.app hq hgq; have S8 := Lib.hid hS8; have HYL := Lib.hid hyl; clear hq hgq hS8 hyl)
      have hyl := HYL.out
      have hxl := HXL.out
      go_roundg (gk - 1)
      case measure => omega
      case rel => exact ⟨_, ys, by omega, by rw [show ((gk - 1 : Nat) : Int) = (gk : Int) - 1 by omega], rfl, by omega, ⟨_, _, _, rfl⟩, ⟨S8.out.rb.more (by omega), S8.out.at_, S8.out.own, by omega, S8.out.w00⟩⟩

def RunP (w0 w : World) (p : Nat) (vb : Value) (bs : List Int) (C : Nat) (e : Ending) (w' : World) : Prop :=
  ∃ vl cs a vm xs, e = .returned (.tuple #[vl, .int .i64 a, vm]) ∧ 0 ≤ a ∧ a ≤ 9 ∧ Out w0 w p vb bs C 300000 vl cs w' ∧ OutM w0 w p vb bs C 33 vm xs w'
theorem OutM.base {w0 w w1 wx : World} {p C L : Nat} {v vb : Value} {bs xs : List Int} (h : OutM w0 w1 p vb bs C L v xs wx) (hg : OnlyAt p w w1) (h00 : w0.heap.size ≤ w.heap.size) : OutM w0 w p vb bs C L v xs wx :=
  ⟨h.rb, hg.trans h.at_, h.own.base' hg.size, h.len, h00⟩
theorem Out.base {w0 w w1 wx : World} {p C L : Nat} {v vb : Value} {bs : List Int} {cs : List Cd} (h : Out w0 w1 p vb bs C L v cs wx) (hg : OnlyAt p w w1) (h00 : w0.heap.size ≤ w.heap.size) : Out w0 w p vb bs C L v cs wx :=
  ⟨h.rb, hg.trans h.at_, h.own.base' hg.size, h.len, h00⟩

set_option maxHeartbeats 4000000 in
set_option maxRecDepth 100000 in
theorem run_any (w0 w : World) (p C n : Nat) (vb : Value) (bs : List Int) (N : Int) (hN : N = n) (hn : n ≤ 1048576) (h : Rb w0 w p vb bs C) (hc : C ≤ 800000000000) :
    Calls Try.prog 57 #[.pointer (some ⟨p, 0, none⟩), .int .i64 N] w (RunP w0 w p vb bs (C + 2001000)) := by
  have H := Lib.hid h
  have HN := Lib.hid hN
  have h00 := h.pure.size
  clear h hN
  go_enter Try.func57, Try.ntmps57
  go_wp2_with fail
  refine (prog_any w0 _ p C n vb bs N HN.out hn H.out (by omega)).mono ?_
  rintro e w1 ⟨vl, cs, rfl, hS1⟩
  have S1 := Lib.hid hS1
  clear hS1
  go_wp2_with fail
  refine (pick_t w0 _ p (C + 2000000) vb bs 5 5 rfl S1.out.rb (by omega) (by decide) (by decide)).mono ?_
  rintro e w2 ⟨x2, rfl, hx2, hr2, hg2⟩
  have S2 := Lib.hid (S1.out.step hr2 hg2)
  clear hr2 hg2 S1
  go_wp2_with fail
  refine (odd_any w0 _ p (C + 2000000 + 1) vb bs 9 9 rfl S2.out.rb (by omega) (by decide)).mono ?_
  rintro e w3 ⟨B, rfl, hr3, hg3⟩
  have S3 := Lib.hid (S2.out.step hr3 hg3)
  clear hr3 hg3 S2
  have Hrest : Hid (∀ (a : Int) (w4 : World), 0 ≤ a → a ≤ 9 → Out w0 w p vb bs (C + 2000000 + 2) 300000 vl cs w4 → True) := Lib.hid fun _ _ _ _ _ => trivial
  clear Hrest
  cases B
  · go_wp2_with fail
    refine (odd_any w0 _ p (C + 2000000 + 2) vb bs n N HN.out S3.out.rb (by omega) hn).mono ?_
    rintro e w4 ⟨B4, rfl, hr4, hg4⟩
    have S4 := Lib.hid (S3.out.step hr4 hg4)
    clear hr4 hg4 S3
    cases B4
    · go_wp2_with fail
      refine (mem_any w0 _ p (C + 2000000 + 3) n vb bs N HN.out hn S4.out.rb (by omega)).mono ?_
      rintro e w6 ⟨vm, xs, rfl, hM⟩
      have S5 := Lib.hid (S4.out.step hM.rb hM.at_)
      have SM := Lib.hid (hM.base S4.out.at_ h00)
      clear hM
      go_wp2
      go_ret3
      exact ⟨_, cs, _, _, xs, rfl, by omega, by omega, S5.out.more (by omega) (by omega), SM.out.more (by omega) (by omega)⟩
    · have HLI2 := Lib.hid (heap_alloc_new w4 (.cells (([0, 9] : List Int).map (Value.int .i64)).toArray 3))
      have hpl4 : p < w4.heap.size := S4.out.rb.lt
      have S6 := Lib.hid (S4.out.keep (show Pure w4 (w4.alloc (.cells #[.int .i64 0, .int .i64 9] 3)) from (by repeat (first | assumption | exact Pure.refl _ | refine Pure.drewN ?_ _ | refine Pure.drew ?_ | refine Pure.alloc ?_ _ | refine Pure.setCell ?_ (by simp <;> omega) _))))
      go_wp2_with fail
      refine (pick_t w0 _ p (C + 2000000 + 3) vb bs 2 2 rfl S6.out.rb (by omega) (by decide) (by decide)).mono ?_
      rintro e w5 ⟨x5, rfl, hx5, hr5, hg5⟩
      obtain ⟨y, hy, hym⟩ := lit_get [0, 9] hg5 HLI2.out (by omega) hx5
      have S7 := Lib.hid (S6.out.step hr5 hg5)
      clear hr5 hg5 S6 S4
      have hy9 : 0 ≤ y ∧ y ≤ 9 := by
        simp only [List.mem_cons, List.not_mem_nil, or_false] at hym
        omega
      clear hym
      go_wp2_with fail
      refine (mem_any w0 _ p (C + 2000000 + 4) n vb bs N HN.out hn S7.out.rb (by omega)).mono ?_
      rintro e w6 ⟨vm, xs, rfl, hM⟩
      have S5 := Lib.hid (S7.out.step hM.rb hM.at_)
      have SM := Lib.hid (hM.base S7.out.at_ h00)
      clear hM
      go_wp2
      go_ret3
      exact ⟨_, cs, _, _, xs, rfl, by omega, by omega, S5.out.more (by omega) (by omega), SM.out.more (by omega) (by omega)⟩
  · go_wp2_with fail
    refine (odd_any w0 _ p (C + 2000000 + 2) vb bs n N HN.out S3.out.rb (by omega) hn).mono ?_
    rintro e w4 ⟨B4, rfl, hr4, hg4⟩
    have S4 := Lib.hid (S3.out.step hr4 hg4)
    clear hr4 hg4 S3
    cases B4
    · go_wp2_with fail
      refine (mem_any w0 _ p (C + 2000000 + 3) n vb bs N HN.out hn S4.out.rb (by omega)).mono ?_
      rintro e w6 ⟨vm, xs, rfl, hM⟩
      have S5 := Lib.hid (S4.out.step hM.rb hM.at_)
      have SM := Lib.hid (hM.base S4.out.at_ h00)
      clear hM
      go_wp2
      go_ret3
      exact ⟨_, cs, _, _, xs, rfl, by omega, by omega, S5.out.more (by omega) (by omega), SM.out.more (by omega) (by omega)⟩
    · have HLI2 := Lib.hid (heap_alloc_new w4 (.cells (([0, 9] : List Int).map (Value.int .i64)).toArray 3))
      have hpl4 : p < w4.heap.size := S4.out.rb.lt
      have S6 := Lib.hid (S4.out.keep (show Pure w4 (w4.alloc (.cells #[.int .i64 0, .int .i64 9] 3)) from (by repeat (first | assumption | exact Pure.refl _ | refine Pure.drewN ?_ _ | refine Pure.drew ?_ | refine Pure.alloc ?_ _ | refine Pure.setCell ?_ (by simp <;> omega) _))))
      go_wp2_with fail
      refine (pick_t w0 _ p (C + 2000000 + 3) vb bs 2 2 rfl S6.out.rb (by omega) (by decide) (by decide)).mono ?_
      rintro e w5 ⟨x5, rfl, hx5, hr5, hg5⟩
      obtain ⟨y, hy, hym⟩ := lit_get [0, 9] hg5 HLI2.out (by omega) hx5
      have S7 := Lib.hid (S6.out.step hr5 hg5)
      clear hr5 hg5 S6 S4
      have hy9 : 0 ≤ y ∧ y ≤ 9 := by
        simp only [List.mem_cons, List.not_mem_nil, or_false] at hym
        omega
      clear hym
      go_wp2_with fail
      refine (mem_any w0 _ p (C + 2000000 + 4) n vb bs N HN.out hn S7.out.rb (by omega)).mono ?_
      rintro e w6 ⟨vm, xs, rfl, hM⟩
      have S5 := Lib.hid (S7.out.step hM.rb hM.at_)
      have SM := Lib.hid (hM.base S7.out.at_ h00)
      clear hM
      go_wp2
      go_ret3
      exact ⟨_, cs, _, _, xs, rfl, by omega, by omega, S5.out.more (by omega) (by omega), SM.out.more (by omega) (by omega)⟩

end Go.Proofs.Ytkolnakcgjlcgaa

namespace Go.Proofs.Ytkolnakcgjlcgaa
open Go.RowKit

def DrawRP (w : World) (e : Ending) (w' : World) : Prop :=
  ∃ vl cs a vm xs, e = .returned (.tuple #[vl, .int .i64 a, vm]) ∧ 0 ≤ a ∧ a ≤ 9 ∧ Codes w' vl cs ∧ Ints w' vm xs ∧ cs.length ≤ 300000 ∧ xs.length ≤ 33 ∧ Pure w w'
theorem flat_cdf (cs : List Cd) : ∀ j, j < cs.length * 4 → (cs.flatMap cdCells)[j]? = some (cdf cs j) := by
  induction cs with
  | nil => intro j h; simp at h
  | cons c r ih =>
    intro j h
    rw [List.flatMap_cons]
    by_cases h4 : j < 4
    · rw [List.getElem?_append_left (by simp [cdCells]; omega)]
      have : j = 0 ∨ j = 1 ∨ j = 2 ∨ j = 3 := by omega
      rcases this with rfl | rfl | rfl | rfl <;> rfl
    · rw [List.getElem?_append_right (by simp [cdCells]; omega)]
      have h1 := ih (j - 4) (by simp at h; omega)
      have e : (cdCells c).length = 4 := rfl
      rw [e, h1]
      unfold cdf
      rw [show j / 4 = (j - 4) / 4 + 1 by omega, show j % 4 = (j - 4) % 4 by omega]
      simp [List.getD_eq_getElem?_getD]
theorem Out.codes {w0 w wx : World} {p C L : Nat} {v vb : Value} {bs : List Int} {cs : List Cd} (h : Out w0 w p vb bs C L v cs wx) : Codes wx v cs := Codes.of_ownO h.own rfl (flat_cdf cs)
theorem OutM.ints {w0 w wx : World} {p C L : Nat} {v vb : Value} {bs xs : List Int} (h : OutM w0 w p vb bs C L v xs wx) : Ints wx v xs := by
  have ho := h.own
  unfold Ints
  refine Cells.of_ownO ho fun j hj => ?_
  have : j < xs.length := by omega
  simp [List.getD_eq_getElem?_getD, this]

set_option maxHeartbeats 1000000 in
theorem draw_DrawLockRegs (v : Value) (bs : List Int) (w : World) (h : Bytes w v bs) (hs : bs.length ≤ 1048576) : Calls Try.prog 23 #[v] w (DrawRP w) := by
  have H := Lib.hid h
  obtain ⟨A, c, rfl, hnc, hcm⟩ := h.form
  clear h
  go_enter Try.func23, Try.ntmps23
  go_wp2_with fail
  refine (draw_open _ bs _ H.out hs).mono ?_
  rintro e w1 ⟨p, vb, bs', rfl, hr, hp1⟩
  have HR := Lib.hid hr
  clear hr
  go_wp2_with fail
  refine (run_any w w1 p 0 14 vb bs' 14 rfl (by decide) HR.out (by decide)).mono ?_
  rintro e w2 ⟨vl, cs, a, vm, xs, rfl, ha0, ha9, hl, hm⟩
  have HL := Lib.hid hl
  have HM := Lib.hid hm
  clear hl hm
  go_wp2
  go_ret3
  exact ⟨vl, cs, a, vm, xs, rfl, ha0, ha9, HL.out.codes, HM.out.ints, HL.out.len, HM.out.len, HL.out.rb.pure⟩

end Go.Proofs.Ytkolnakcgjlcgaa

namespace Go.Proofs.Ytkolnakcgjlcgaa
open Go.RowKit

set_option maxHeartbeats 400000 in
theorem alive_any (w : World) : Calls Try.prog 20 #[] w fun e w' => e = .returned (.bool true) ∧ Pure w w' := by
  go_enter Try.func20, Try.ntmps20
  go_wp2_with fail
  refine (imaskall_any 3 _ (by decide) (by decide)).mono ?_
  rintro e w' ⟨rfl, rfl⟩
  go_wp2
  go_ret
  exact ⟨rfl, Pure.refl _⟩

set_option maxHeartbeats 1000000 in
theorem runs_any (vl vm : Value) (cs : List Cd) (a : Int) (mem : List Int) (w : World) (h : Codes w vl cs) (hm : Ints w vm mem) (hs1 : cs.length ≤ 1048576) (hs2 : mem.length ≤ 1048576) (B : Bool) (hB : B = true ↔ RunOk cs a mem) :
    Calls Try.prog 19 #[vl, .int .i64 a, vm] w fun e w' => e = .returned (.bool B) ∧ Pure w w' := by
  obtain ⟨B1, h1⟩ := runB cs
  obtain ⟨B2, h2⟩ := lanB a
  obtain ⟨B3, h3⟩ := memB mem
  obtain rfl := runB_of hB h1 h2 h3
  have H := Lib.hid h
  have HM := Lib.hid hm
  have H1 := Lib.hid h1
  have H2 := Lib.hid h2
  have H3 := Lib.hid h3
  obtain ⟨A, c, rfl, hnc, hcm⟩ := h.form
  obtain ⟨Am, cm, rfl⟩ := hm.form
  clear h hm h1 h2 h3 hB
  go_enter Try.func19, Try.ntmps19
  go_wp2_with fail
  refine (spv_any _ cs _ H.out hs1 B1 H1.out).mono ?_
  rintro e w1 ⟨rfl, hp1⟩
  cases B1
  · go_wp2
    go_ret
    exact ⟨rfl, hp1⟩
  by_cases ha1 : a ≥ 1
  · by_cases ha8 : a ≤ 8
    · have hb2 : B2 = true := H2.out.2 ⟨ha1, ha8⟩
      subst hb2
      go_wp2_with fail
      refine (smem_any _ mem _ (HM.out.keep hp1) (by omega) B3 H3.out).mono ?_
      rintro e w3 ⟨rfl, hp3⟩
      go_wp2
      go_ret
      exact ⟨ret_bool (by simp), hp1.trans hp3⟩
    · have hb2 : B2 = false := by
        cases hb : B2
        · rfl
        · exact absurd (H2.out.1 hb).2 ha8
      subst hb2
      have hd1 : decide (a ≥ 1) = true := by simp [ha1]
      have hd8 : decide (a ≤ 8) = false := by simp [ha8]
      go_wp2
      go_ret
      exact ⟨rfl, hp1⟩
  · have hb2 : B2 = false := by
      cases hb : B2
      · rfl
      · exact absurd (H2.out.1 hb).1 ha1
    subst hb2
    have hd1 : decide (a ≥ 1) = false := by simp [ha1]
    go_wp2
    go_ret
    exact ⟨rfl, hp1⟩

end Go.Proofs.Ytkolnakcgjlcgaa
