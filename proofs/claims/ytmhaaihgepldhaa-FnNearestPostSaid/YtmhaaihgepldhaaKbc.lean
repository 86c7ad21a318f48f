/- Programs and memories that are drawn, and arguments of a run: any whatever, of bounded length. Memories that are drawn, and the arguments of a run: any whatever, of bounded length. The drawn inputs of the laws: any arguments of a run, any program, of bounded length. Arguments that came in, opened into the words that the walks use. No condition. -/
import Derived.ProofKit
import Derived.OpenShut
import Derived.ChangeOld
import Derived.Deep.Matrix
import Derived.Test.YtmhaaihgepldhaaKaa
import Derived.Test.YtmhaaihgepldhaaKbb

namespace Go.Proofs.Ytmhaaihgepldhaa
open Go.RowKit

theorem block_3 (w0 : World) (p : Nat) (vb : Value) (bs : List Int) (w : World) (C : Nat) (room : Int) (h : Rb w0 w p vb bs C) (hc : C ≤ 1000000000000) (hr1 : -1099511627776 ≤ room) (hr2 : room ≤ 1099511627776) :
    Calls Try.prog 86 #[.pointer (some ⟨p, 0, none⟩), .int .i64 room, .int .i64 ((3 : Nat) : Int)] w (BlockP w0 w p vb bs (C + 181) 36) :=
  (block_step 3 0 0 1000000000000 (by decide) (by decide) (by decide) (by decide) w0 p vb bs (fun h => absurd h (by decide)) w C room h hc hr1 hr2).mono fun e w' ⟨v, cs, he, ho, hf⟩ => ⟨v, cs, he, ho.more (by omega) (by omega), hf⟩
theorem block_2 (w0 : World) (p : Nat) (vb : Value) (bs : List Int) (w : World) (C : Nat) (room : Int) (h : Rb w0 w p vb bs C) (hc : C ≤ 999900000000) (hr1 : -1099511627776 ≤ room) (hr2 : room ≤ 1099511627776) :
    Calls Try.prog 86 #[.pointer (some ⟨p, 0, none⟩), .int .i64 room, .int .i64 ((2 : Nat) : Int)] w (BlockP w0 w p vb bs (C + 2353) 468) :=
  (block_step 2 181 36 999900000000 (by decide) (by decide) (by decide) (by decide) w0 p vb bs (fun _ w C room h hc h1 h2 => block_3 w0 p vb bs w C room h (by omega) h1 h2) w C room h hc hr1 hr2).mono fun e w' ⟨v, cs, he, ho, hf⟩ => ⟨v, cs, he, ho.more (by omega) (by omega), hf⟩
theorem block_1 (w0 : World) (p : Nat) (vb : Value) (bs : List Int) (w : World) (C : Nat) (room : Int) (h : Rb w0 w p vb bs C) (hc : C ≤ 999800000000) (hr1 : -1099511627776 ≤ room) (hr2 : room ≤ 1099511627776) :
    Calls Try.prog 86 #[.pointer (some ⟨p, 0, none⟩), .int .i64 room, .int .i64 ((1 : Nat) : Int)] w (BlockP w0 w p vb bs (C + 28417) 5652) :=
  (block_step 1 2353 468 999800000000 (by decide) (by decide) (by decide) (by decide) w0 p vb bs (fun _ w C room h hc h1 h2 => block_2 w0 p vb bs w C room h (by omega) h1 h2) w C room h hc hr1 hr2).mono fun e w' ⟨v, cs, he, ho, hf⟩ => ⟨v, cs, he, ho.more (by omega) (by omega), hf⟩
theorem block_any (w0 : World) (p : Nat) (vb : Value) (bs : List Int) (w : World) (C : Nat) (room : Int) (h : Rb w0 w p vb bs C) (hc : C ≤ 999700000000) (hr1 : -1099511627776 ≤ room) (hr2 : room ≤ 1099511627776) :
    Calls Try.prog 86 #[.pointer (some ⟨p, 0, none⟩), .int .i64 room, .int .i64 0] w (BlockP w0 w p vb bs (C + 341185) 67860) :=
  (block_step 0 28417 5652 999700000000 (by decide) (by decide) (by decide) (by decide) w0 p vb bs (fun _ w C room h hc h1 h2 => block_1 w0 p vb bs w C room h (by omega) h1 h2) w C room h hc hr1 hr2).mono fun e w' ⟨v, cs, he, ho, hf⟩ => ⟨v, cs, he, ho.more (by omega) (by omega), hf⟩

theorem Out.appA {w0 w wx wy : World} {p C L M : Nat} {v v' : Value} {vb : Value} {bs : List Int} {cs ds : List Cd} (h : Out w0 w p vb bs C L v cs wx) (hown : OwnO wy w.heap.size 65 4 v' (cs.length + ds.length) (cs.flatMap cdCells ++ ds.flatMap cdCells)) (hg : wx.grownBy wy v.ownBlock) (hd : ds.length ≤ M) :
    ∃ cs' A c, v' = .slice A cs'.length c ∧ Out w0 w p vb bs C (L + M) v' cs' wy := by
  have hS := h.app hown hg hd
  obtain ⟨A, c, e⟩ := hS.own.form
  exact ⟨_, A, c, e, hS⟩

section
variable {w0 w wx wy : World} {p C L M : Nat} {v v' : Value} {vb : Value} {bs : List Int} {cs ds : List Cd}
theorem Out.appL (h : Out w0 w p vb bs C L v cs wx) (hown : OwnO wy w.heap.size 65 4 v' (cs.length + ds.length) (cs.flatMap cdCells ++ ds.flatMap cdCells)) (hg : wx.grownBy wy v.ownBlock) :
    ∃ cs' A c, v' = .slice A cs'.length c ∧ Out w0 w p vb bs C cs'.length v' cs' wy ∧ cs'.length = cs.length + ds.length := by
  have hS := h.app (M := ds.length) hown hg (Nat.le_refl _)
  obtain ⟨A, c, e⟩ := hS.own.form
  exact ⟨_, A, c, e, ⟨hS.rb, hS.at_, hS.own, Nat.le_refl _, hS.w00⟩, by simp⟩
/-- A literal of instructions, in a new block. -/
theorem Out.lit (h : Out w0 w p vb bs C L v cs wx) (ds : List Cd) (hds : ds.length ≤ 1000) : Out w0 w p vb bs C ds.length (.slice (some ⟨wx.heap.size, 0, none⟩) ds.length ds.length) ds (wx.alloc (.cells (ds.flatMap cdCells).toArray 65)) := by
  have hp : Pure wx (wx.alloc (.cells (ds.flatMap cdCells).toArray 65)) := Pure.alloc (Pure.refl _) _
  refine ⟨h.rb.keep hp, h.at_.trans (Chg.of_pure hp), ?_, Nat.le_refl _, h.w00⟩
  have := OwnO.lit (e := 65) (s := 4) wx (ds.flatMap cdCells).toArray ds.length h.at_.size (by omega) (by rw [List.size_toArray]; exact flat4 ds)
  simpa using this
theorem set_flat : ∀ (cs : List Cd) (k : Nat) (x : Cd), k < cs.length → ((((cs.flatMap cdCells).set (k * 4) (.int .i64 x.op)).set (k * 4 + 1) (.int .i64 x.a)).set (k * 4 + 2) (.int .i64 x.b)).set (k * 4 + 3) (.int .i64 x.c) = (cs.set k x).flatMap cdCells
  | [], _, _, h => absurd h (by simp)
  | c :: r, 0, x, _ => by simp [cdCells]
  | c :: r, k + 1, x, h => by
    have ih := set_flat r k x (by simpa using h)
    rw [List.set_cons_succ, List.flatMap_cons, List.flatMap_cons, ← ih]
    have e : ∀ (l : List Value) (i : Nat) (v : Value), (cdCells c ++ l).set (i + 4) v = cdCells c ++ l.set i v := fun l i v => by
      rw [List.set_append]; simp [cdCells]; intro h; omega
    rw [show (k + 1) * 4 = k * 4 + 4 by omega, e, show k * 4 + 4 + 1 = (k * 4 + 1) + 4 by omega, e, show k * 4 + 4 + 2 = (k * 4 + 2) + 4 by omega, e, show k * 4 + 4 + 3 = (k * 4 + 3) + 4 by omega, e]
/-- An instruction is put into its place. -/
theorem Out.put {g off c k : Nat} (h : Out w0 w p vb bs C L (.slice (some ⟨g, off, none⟩) cs.length c) cs wx) (hk : k < cs.length) (x : Cd) :
    Out w0 w p vb bs C L (.slice (some ⟨g, off, none⟩) cs.length c) (cs.set k x) ((((wx.setCell ⟨g, off + k * 4, none⟩ (.int .i64 x.op)).setCell ⟨g, off + k * 4 + 1, none⟩ (.int .i64 x.a)).setCell ⟨g, off + k * 4 + 2, none⟩ (.int .i64 x.b)).setCell ⟨g, off + k * 4 + 3, none⟩ (.int .i64 x.c)) := by
  have hlo := (h.own.lt g rfl).1
  have s4 := (((h.own.stored (k * 4) (.int .i64 x.op)).stored (k * 4 + 1) (.int .i64 x.a)).stored (k * 4 + 2) (.int .i64 x.b)).stored (k * 4 + 3) (.int .i64 x.c)
  simp only [← Nat.add_assoc] at s4
  rw [set_flat cs k x hk] at s4
  have c1 : ∀ (w : World) (i : Nat) (v : Value), Chg (fun k => k = g) w (w.setCell ⟨g, i, none⟩ v) := fun w i v => Chg.of_set w g i v rfl
  have hc := ((c1 wx (off + k * 4) (.int .i64 x.op)).trans (c1 _ (off + k * 4 + 1) (.int .i64 x.a))).trans ((c1 _ (off + k * 4 + 2) (.int .i64 x.b)).trans (c1 _ (off + k * 4 + 3) (.int .i64 x.c)))
  have hne : p ≠ g := by
    obtain ⟨cur, hcc⟩ := h.rb.cell
    intro e
    exact h.own.ne_heap hcc (by decide) g rfl e.symm
  refine ⟨h.rb.chg hc (fun i e => by have := h.w00; omega) hne, Chg.trans' h.at_ hc (fun i hi e => by omega), ?_, by simpa using h.len, h.w00⟩
  rw [List.length_set]; exact s4
end

def FormP (v : Value) (cs : List Cd) : Prop := ∃ A c, v = .slice A cs.length c
def ProgP (w0 w : World) (p : Nat) (vb : Value) (bs : List Int) (C L : Nat) (e : Ending) (w' : World) : Prop :=
  ∃ v cs, e = .returned v ∧ Out w0 w p vb bs C L v cs w'

set_option maxHeartbeats 8000000 in
set_option maxRecDepth 100000 in
theorem prog_any (w0 w : World) (p C n : Nat) (vb : Value) (bs : List Int) (N : Int) (hN : N = n) (hn : n ≤ 1048576) (h : Rb w0 w p vb bs C) (hc : C ≤ 900000000000) :
    Calls Try.prog 67 #[.pointer (some ⟨p, 0, none⟩), .int .i64 N] w (ProgP w0 w p vb bs (C + 2000000) 300000) := by
  have H := Lib.hid h
  have HN := Lib.hid hN
  have h00 := h.pure.size
  clear h hN
  go_enter Try.func67, Try.ntmps67
  have S0 := Lib.hid (Out.start H.out (Chg.refl _ w) h00)
  go_wp2_with fail
  refine (pick_t w0 _ p (C) vb bs 4 4 rfl S0.out.rb (by omega) (by decide) (by decide)).mono ?_
  rintro e wa ⟨xwa, rfl, hxwa, hrwa, hgwa⟩
  have Sa := Lib.hid (S0.out.step hrwa hgwa)
  clear hrwa hgwa
  clear S0
  go_upto_block 0 with fail
  go_cut [5] (fun vv wx => ∃ (v : Value) (cs : List Cd), vv = v ∧ FormP v cs ∧ Out w0 w p vb bs (C + 3) 3 v cs wx)
  case first =>
    have hx4 : xwa = 0 ∨ xwa = 1 ∨ xwa = 2 ∨ 3 ≤ xwa := by omega
    rcases hx4 with rfl | rfl | rfl | h3
    · go_wp2_with (at_builtin; go_must (refine wl_appendLF elCode rfl _ _ rfl w.heap.size _ _ _ rfl Sa.out.own _ 2 _ [.int .i64 (2), .int .i64 (0), .int .i64 (0), .int .i64 (0), .int .i64 (5), .int .i64 (1), .int .i64 (0), .int .i64 (0)] rfl rfl rfl rfl (by decide) (by have := Sa.out.len; omega) Sa.out.at_.size ?_); intro v' wq1 hq hgq _; obtain ⟨cs1, g1, o1, c1, rfl, hpos1, hS1⟩ := Sa.out.appF (ds := [⟨2, 0, 0, 0⟩, ⟨5, 1, 0, 0⟩]) (M := 2) hq hgq (by simp) (by simp); have Sb := Lib.hid hS1; have hln1 := hS1.len; clear hq hgq hS1)
      go_meet
      case rel => exact ⟨_, _, rfl, ⟨_, _, rfl⟩, Sb.out.more (by omega) (by omega)⟩
    · go_wp2_with (at_builtin; go_must (refine wl_appendLF elCode rfl _ _ rfl w.heap.size _ _ _ rfl Sa.out.own _ 3 _ [.int .i64 (2), .int .i64 (3), .int .i64 (0), .int .i64 (0), .int .i64 (8), .int .i64 (0), .int .i64 (3), .int .i64 (0), .int .i64 (9), .int .i64 (0), .int .i64 (3), .int .i64 (0)] rfl rfl rfl rfl (by decide) (by have := Sa.out.len; omega) Sa.out.at_.size ?_); intro v' wq1 hq hgq _; obtain ⟨cs1, g1, o1, c1, rfl, hpos1, hS1⟩ := Sa.out.appF (ds := [⟨2, 3, 0, 0⟩, ⟨8, 0, 3, 0⟩, ⟨9, 0, 3, 0⟩]) (M := 3) hq hgq (by simp) (by simp); have Sb := Lib.hid hS1; have hln1 := hS1.len; clear hq hgq hS1)
      go_meet
      case rel => exact ⟨_, _, rfl, ⟨_, _, rfl⟩, Sb.out.more (by omega) (by omega)⟩
    · skip
      go_wp2_with fail
      refine (pick_t w0 _ p (C + 1) vb bs 4 4 rfl Sa.out.rb (by omega) (by decide) (by decide)).mono ?_
      rintro e wb ⟨xwb, rfl, hxwb, hrwb, hgwb⟩
      have Sb := Lib.hid (Sa.out.step hrwb hgwb)
      clear hrwb hgwb
      go_wp2_with fail
      refine (pick_t w0 _ p (C + 1 + 1) vb bs 4 4 rfl Sb.out.rb (by omega) (by decide) (by decide)).mono ?_
      rintro e wc ⟨xwc, rfl, hxwc, hrwc, hgwc⟩
      have Sc := Lib.hid (Sb.out.step hrwc hgwc)
      clear hrwc hgwc
      go_wp2_with (at_builtin; go_must (refine wl_appendLF elCode rfl _ _ rfl w.heap.size _ _ _ rfl Sc.out.own _ 1 _ [.int .i64 (1), .int .i64 (xwb), .int .i64 (1 + (xwc : Int)), .int .i64 (0)] rfl rfl rfl rfl (by decide) (by have := Sc.out.len; omega) Sc.out.at_.size ?_); intro v' wq1 hq hgq _; obtain ⟨cs1, g1, o1, c1, rfl, hpos1, hS1⟩ := Sc.out.appF (ds := [⟨1, xwb, 1 + (xwc : Int), 0⟩]) (M := 1) hq hgq (by simp) (by simp); have Sd := Lib.hid hS1; have hln1 := hS1.len; clear hq hgq hS1)
      go_meet
      case rel => exact ⟨_, _, rfl, ⟨_, _, rfl⟩, Sd.out.more (by omega) (by omega)⟩
    · have hb0 : ((xwa : Int) == 0) = false := by simp; omega
      have hb1 : ((xwa : Int) == 1) = false := by simp; omega
      have hb2 : ((xwa : Int) == 2) = false := by simp; omega
      go_wp2
      go_meet
      case rel => exact ⟨_, _, rfl, ⟨_, _, rfl⟩, Sa.out.more (by omega) (by omega)⟩
  case rest =>
  obtain ⟨v1, cs1, rfl, ⟨A1, c1, rfl⟩, hS1⟩ := hcut
  have S1 := Lib.hid hS1
  have hl1 := hS1.len
  clear hS1 Sa
  go_wp2_with fail
  refine (pick_t w0 _ p (C + 3) vb bs 3 3 rfl S1.out.rb (by omega) (by decide) (by decide)).mono ?_
  rintro e wb ⟨xwb, rfl, hxwb, hrwb, hgwb⟩
  have S2 := Lib.hid (S1.out.step hrwb hgwb)
  clear hrwb hgwb
  clear S1
  obtain ⟨tot, Ht⟩ : ∃ tot : Nat, Hid (1 + xwb = tot) := ⟨_, Lib.hid rfl⟩
  have ht3 : tot ≤ 3 := by have := Ht.out; omega
  go_upto_block 1 with fail
  go_cut [5] (fun vv wx => ∃ (v : Value) (cs : List Cd), vv = v ∧ FormP v cs ∧ Out w0 w p vb bs (C + 4 + 3 * 341185) (3 + 3 * 67860) v cs wx)
  case first =>
    go_wp2_with fail
    go_loopg [5, 6] tot (fun gk vv kk wr => ∃ (v : Value) (cs : List Cd), gk ≤ tot ∧ kk = .int .i64 (gk : Int) ∧ vv = v ∧ FormP v cs ∧ Out w0 w p vb bs (C + 4 + (tot - gk) * 341185) (3 + (tot - gk) * 67860) v cs wr)
    case atStart =>
      exact ⟨_, cs1, Nat.le_refl _, by rw [← Ht.out]; go_num, rfl, ⟨_, _, rfl⟩, S2.out.more (by omega) (by omega)⟩
    case round =>
      obtain ⟨v, cs, hgk, rfl, rfl, ⟨A, c, rfl⟩, hout⟩ := hrel
      have S := Lib.hid hout
      have hlen := hout.len
      clear hout S2
      by_cases hg0 : gk = 0
      · subst hg0
        go_wp2
        go_meet
        case rel => exact ⟨_, cs, rfl, ⟨_, _, rfl⟩, S.out.more (by omega) (by omega)⟩
      go_wp2_with fail
      refine (block_any w0 p vb bs _ (C + 4 + (tot - gk) * 341185) _ S.out.rb (by omega) (by omega) (by omega)).mono ?_
      rintro e wr2 ⟨vr, csr, rfl, hor, gr, or1, cr, rfl⟩
      have T := Lib.hid (S.out.step hor.rb hor.at_)
      have R := Lib.hid hor
      have hlr := hor.len
      clear hor S
      go_wp2_with (at_builtin; refine wl_appendF elCode rfl _ _ rfl w.heap.size _ _ _ rfl T.out.own gr or1 csr.length _ (csr.flatMap cdCells) rfl (flat4 _) (fun j u hu => (R.out.own.cell j (by have := (List.getElem?_eq_some_iff.1 hu).1; rw [flat4] at this; exact this)).trans hu) (fun u hu => (List.all_eq_true.1 (one_cells _)) u hu) (by omega) (by omega) T.out.at_.size ?_; intro v' wq hq hgq _; obtain ⟨cs5, A5, c5, rfl, hS5⟩ := T.out.appA (M := 67860) hq hgq hlr; have S5 := Lib.hid hS5; have hl5 := hS5.len; clear hq hgq hS5)
      all_goals first
        | (go_meet; case rel => exact ⟨_, cs5, rfl, ⟨_, _, rfl⟩, S5.out.more (by omega) (by omega)⟩)
        | (go_roundg (gk - 1); (case measure => omega); case rel => exact ⟨_, cs5, by omega, by rw [show ((gk - 1 : Nat) : Int) = (gk : Int) - 1 by omega], rfl, ⟨_, _, rfl⟩, S5.out.more (by omega) (by omega)⟩)
  case rest =>
  obtain ⟨v3, cs3, rfl, ⟨A3, c3, rfl⟩, hS3⟩ := hcut
  have S3 := Lib.hid hS3
  have hl3 := hS3.len
  clear hS3 S2 hl1
  go_upto_region 14 with fail
  go_cut [60] (fun bb wx => ∃ Bo : Bool, bb = .bool Bo ∧ Out w0 w p vb bs (C + 5 + 3 * 341185) (3 + 3 * 67860) (.slice A3 cs3.length c3) cs3 wx)
  case first =>
    go_wp2_with fail
    refine (odd_any w0 _ p (C + 4 + 3 * 341185) vb bs 3 3 rfl S3.out.rb (by omega) (by decide)).mono ?_
    rintro e w5 ⟨B, rfl, hr5, hg5⟩
    have S4 := Lib.hid (S3.out.step hr5 hg5)
    clear hr5 hg5
    cases B
    · go_wp2
      go_meet
      case rel => exact ⟨_, rfl, S4.out.more (by omega) (by omega)⟩
    · by_cases hlt : (cs3.length : Int) < 37
      · go_wp2
        go_meet
        case rel => exact ⟨_, rfl, S4.out.more (by omega) (by omega)⟩
      · go_wp2
        go_meet
        case rel => exact ⟨_, rfl, S4.out.more (by omega) (by omega)⟩
  case rest =>
  obtain ⟨Bo, rfl, hS4⟩ := hcut
  have S4 := Lib.hid hS4
  clear hS4 S3
  go_upto_if 60 with fail
  go_cut [5] (fun vv wx => ∃ (v : Value) (cs : List Cd), vv = v ∧ FormP v cs ∧ Out w0 w p vb bs (C + 6 + 3 * 341185) (5 + 3 * 67860) v cs wx)
  case first =>
    cases Bo
    · go_wp2
      go_meet
      case rel => exact ⟨_, cs3, rfl, ⟨_, _, rfl⟩, S4.out.more (by omega) (by omega)⟩
    · skip
      go_wp2_with fail
      refine (pick_t w0 _ p (C + 5 + 3 * 341185) vb bs 4 4 rfl S4.out.rb (by omega) (by decide) (by decide)).mono ?_
      rintro e wd ⟨xwd, rfl, hxwd, hrwd, hgwd⟩
      have S5 := Lib.hid (S4.out.step hrwd hgwd)
      clear hrwd hgwd
      go_wp2_with (at_builtin; go_must (refine wl_appendLF elCode rfl _ _ rfl w.heap.size _ _ _ rfl S5.out.own _ 2 _ [.int .i64 (2), .int .i64 (2), .int .i64 (0), .int .i64 (0), .int .i64 (9), .int .i64 (xwd), .int .i64 (2), .int .i64 (0)] rfl rfl rfl rfl (by decide) (by have := S5.out.len; omega) S5.out.at_.size ?_); intro v' wq7 hq hgq _; obtain ⟨cs7, g7, o7, c7, rfl, hpos7, hS7⟩ := S5.out.appF (ds := [⟨2, 2, 0, 0⟩, ⟨9, xwd, 2, 0⟩]) (M := 2) hq hgq (by simp) (by simp); have S6 := Lib.hid hS7; have hln7 := hS7.len; clear hq hgq hS7)
      go_meet
      case rel => exact ⟨_, cs7, rfl, ⟨_, _, rfl⟩, S6.out.more (by omega) (by omega)⟩
  case rest =>
  obtain ⟨v6, cs6, rfl, ⟨A6, c6, rfl⟩, hS6⟩ := hcut
  have S6 := Lib.hid hS6
  have hl6 := hS6.len
  clear hS6 S4 hl3
  go_upto_region 16 with fail
  go_cut [75] (fun bb wx => ∃ Bo : Bool, bb = .bool Bo ∧ (Bo = true → 0 < cs6.length) ∧ Out w0 w p vb bs (C + 7 + 3 * 341185) (5 + 3 * 67860) (.slice A6 cs6.length c6) cs6 wx)
  case first =>
    by_cases hpos : (cs6.length : Int) > 0
    · go_wp2_with fail
      refine (odd_any w0 _ p (C + 6 + 3 * 341185) vb bs n N HN.out S6.out.rb (by omega) hn).mono ?_
      rintro e w5 ⟨B, rfl, hr5, hg5⟩
      have S7 := Lib.hid (S6.out.step hr5 hg5)
      clear hr5 hg5
      go_wp2
      go_meet
      case rel => exact ⟨_, rfl, fun _ => by omega, S7.out.more (by omega) (by omega)⟩
    · go_wp2
      go_meet
      case rel => exact ⟨false, rfl, fun h => (by cases h), S6.out.more (by omega) (by omega)⟩
  case rest =>
  obtain ⟨Bo, rfl, hpos, hS7⟩ := hcut
  have S7 := Lib.hid hS7
  have HPOS := Lib.hid hpos
  clear hS7 S6 hpos
  cases Bo
  · go_wp2
    go_ret
    exact ⟨_, cs6, rfl, S7.out.more (by omega) (by omega)⟩
  have hpos := HPOS.out rfl
  go_wp2_with fail
  refine (pick_t w0 _ p (C + 7 + 3 * 341185) vb bs cs6.length _ rfl S7.out.rb (by omega) (by omega) (by omega)).mono ?_
  rintro e w8 ⟨xk, rfl, hxk, hr8, hg8⟩
  have S8 := Lib.hid (S7.out.step hr8 hg8)
  clear hr8 hg8 S7
  go_wp2_with fail
  refine (pick_t w0 _ p (C + 8 + 3 * 341185) vb bs 5 5 rfl S8.out.rb (by omega) (by decide) (by decide)).mono ?_
  rintro e we ⟨xwe, rfl, hxwe, hrwe, hgwe⟩
  have S9 := Lib.hid (S8.out.step hrwe hgwe)
  clear hrwe hgwe
  clear S8
  have hx5 : xwe = 0 ∨ xwe = 1 ∨ xwe = 2 ∨ xwe = 3 ∨ xwe = 4 := by omega
  rcases hx5 with rfl | rfl | rfl | rfl | rfl
  · obtain ⟨g6, o6, c6', hv6, _, _, _, _⟩ := S9.out.own.formSome hpos
    injection hv6 with e1 e2 e3
    subst e1 e3
    go_wp2_with fail
    refine (code_any w0 _ p (C + 9 + 3 * 341185) 1 vb bs 1 rfl (by decide) S9.out.rb (by omega)).mono ?_
    rintro e wf ⟨⟨z0, z1, z2, z3⟩, rfl, hrf, hgf⟩
    have Sf := Lib.hid (S9.out.step hrf hgf)
    clear hrf hgf S9
    unfold cdv
    obtain ⟨u0, q0⟩ := Sf.out.own.cellSome (xk * 4) (by omega)
    obtain ⟨u1, q1⟩ := Sf.out.own.cellSome (xk * 4 + 1) (by omega)
    obtain ⟨u2, q2⟩ := Sf.out.own.cellSome (xk * 4 + 2) (by omega)
    obtain ⟨u3, q3⟩ := Sf.out.own.cellSome (xk * 4 + 3) (by omega)
    rw [← Nat.add_assoc] at q1 q2 q3
    have f0 := Sf.out.own.frozen (o6 + xk * 4)
    have f1 := Sf.out.own.frozen (o6 + xk * 4 + 1)
    have f2 := Sf.out.own.frozen (o6 + xk * 4 + 2)
    have f3 := Sf.out.own.frozen (o6 + xk * 4 + 3)
    have SX := Lib.hid (Sf.out.put hxk ⟨z0, z1, z2, z3⟩)
    go_wp2
    go_ret
    exact ⟨_, _, rfl, SX.out.more (by omega) (by omega)⟩
  · go_wp2_with (at_builtin; go_must (refine wl_appendLF elCode rfl _ _ rfl w.heap.size _ _ _ rfl S9.out.own _ 1 _ [.int .i64 (14), .int .i64 (0), .int .i64 (0), .int .i64 (0)] rfl rfl rfl rfl (by decide) (by have := S9.out.len; omega) S9.out.at_.size ?_); intro v' wq8 hq hgq _; obtain ⟨cs8, g8, o8, c8, rfl, hpos8, hS8⟩ := S9.out.appF (ds := [⟨14, 0, 0, 0⟩]) (M := 1) hq hgq (by simp) (by simp); have Sx := Lib.hid hS8; have hln8 := hS8.len; clear hq hgq hS8)
    go_ret
    exact ⟨_, cs8, rfl, Sx.out.more (by omega) (by omega)⟩
  · go_wp2_with (at_builtin; go_must (refine wl_appendLF elCode rfl _ _ rfl w.heap.size _ _ _ rfl S9.out.own _ 1 _ [.int .i64 (12), .int .i64 (0), .int .i64 (0), .int .i64 (0)] rfl rfl rfl rfl (by decide) (by have := S9.out.len; omega) S9.out.at_.size ?_); intro v' wq8 hq hgq _; obtain ⟨cs8, g8, o8, c8, rfl, hpos8, hS8⟩ := S9.out.appF (ds := [⟨12, 0, 0, 0⟩]) (M := 1) hq hgq (by simp) (by simp); have Sx := Lib.hid hS8; have hln8 := hS8.len; clear hq hgq hS8)
    go_ret
    exact ⟨_, cs8, rfl, Sx.out.more (by omega) (by omega)⟩
  · obtain ⟨g6, o6, c6', hv6, _, _, _, _⟩ := S9.out.own.formSome hpos
    injection hv6 with e1 e2 e3
    subst e1 e3
    have SL := Lib.hid (S9.out.lit [⟨11, 0, 0, 0⟩, ⟨11, 0, 0, 0⟩, ⟨11, 0, 0, 0⟩, ⟨11, 0, 0, 0⟩, ⟨14, 0, 0, 0⟩, ⟨14, 0, 0, 0⟩, ⟨14, 0, 0, 0⟩, ⟨14, 0, 0, 0⟩] (by simp))
    have SK := Lib.hid (S9.out.keep (show Pure we (we.alloc (.cells (([⟨11, 0, 0, 0⟩, ⟨11, 0, 0, 0⟩, ⟨11, 0, 0, 0⟩, ⟨11, 0, 0, 0⟩, ⟨14, 0, 0, 0⟩, ⟨14, 0, 0, 0⟩, ⟨14, 0, 0, 0⟩, ⟨14, 0, 0, 0⟩] : List Cd).flatMap cdCells).toArray 65)) from (by repeat (first | assumption | exact Pure.refl _ | refine Pure.drewN ?_ _ | refine Pure.drew ?_ | refine Pure.alloc ?_ _ | refine Pure.setCell ?_ (by simp <;> omega) _))))
    go_wp2_with (at_builtin; refine wl_appendF elCode rfl _ _ rfl w.heap.size (.slice (some ⟨we.heap.size, 0, none⟩) 8 8) 8 (([⟨11, 0, 0, 0⟩, ⟨11, 0, 0, 0⟩, ⟨11, 0, 0, 0⟩, ⟨11, 0, 0, 0⟩, ⟨14, 0, 0, 0⟩, ⟨14, 0, 0, 0⟩, ⟨14, 0, 0, 0⟩, ⟨14, 0, 0, 0⟩] : List Cd).flatMap cdCells) rfl SL.out.own g6 o6 cs6.length _ (cs6.flatMap cdCells) rfl (flat4 _) (fun j u hu => (SK.out.own.cell j (by have := (List.getElem?_eq_some_iff.1 hu).1; rw [flat4] at this; exact this)).trans hu) (fun u hu => (List.all_eq_true.1 (one_cells _)) u hu) (by omega) (by omega) SL.out.at_.size ?_; intro v' wq hq hgq _; obtain ⟨cs8, A8, c8, rfl, hS8⟩ := SL.out.appA (ds := cs6) (M := 5 + 3 * 67860) hq hgq hl6; have S8 := Lib.hid hS8; clear hq hgq hS8)
    go_ret
    exact ⟨_, cs8, rfl, S8.out.more (by omega) (by simp)⟩
  · go_wp2_with fail
    go_loopg [5] (41 - cs6.length) (fun gk vv wr => ∃ (v : Value) (cs : List Cd), gk = 41 - cs.length ∧ gk ≤ 41 - cs6.length ∧ vv = v ∧ FormP v cs ∧ Out w0 w p vb bs (C + 10 + 3 * 341185 + 10 * (41 - cs6.length - gk)) (46 + 3 * 67860) v cs wr)
    case atStart => exact ⟨_, cs6, rfl, Nat.le_refl _, rfl, ⟨_, _, rfl⟩, S9.out.more (by omega) (by omega)⟩
    case round =>
      obtain ⟨v, cs, hgk, hgk2, rfl, ⟨A, c, rfl⟩, hout⟩ := hrel
      have S := Lib.hid hout
      have hlen := hout.len
      clear hout S9
      by_cases hle : (cs.length : Int) ≤ 40
      · go_wp2_with fail
        refine (plain_any w0 _ p (C + 10 + 3 * 341185 + 10 * (41 - cs6.length - gk)) vb bs S.out.rb (by omega)).mono ?_
        rintro e wg ⟨⟨z0, z1, z2, z3⟩, rfl, hrg, hgg⟩
        have Sg := Lib.hid (S.out.step hrg hgg)
        clear hrg hgg S
        unfold cdv
        go_wp2_with (at_builtin; go_must (refine wl_appendLF elCode rfl _ _ rfl w.heap.size _ _ _ rfl Sg.out.own _ 1 _ [.int .i64 z0, .int .i64 z1, .int .i64 z2, .int .i64 z3] rfl rfl rfl rfl (by decide) (by omega) Sg.out.at_.size ?_); intro v' wq hq hgq _; obtain ⟨cs9, A9, c9, rfl, hS9, hl9⟩ := Sg.out.appL (ds := [⟨z0, z1, z2, z3⟩]) hq hgq; have S9 := Lib.hid hS9; have HL9 := Lib.hid hl9; clear hq hgq hS9 hl9)
        have hl9 := HL9.out
        simp only [List.length_cons, List.length_nil] at hl9
        go_roundg (41 - cs9.length)
        case measure => omega
        case rel => exact ⟨_, cs9, rfl, by omega, rfl, ⟨_, _, rfl⟩, S9.out.more (D := C + 10 + 3 * 341185 + 10 * (41 - cs6.length - (41 - cs9.length))) (M := 46 + 3 * 67860) (by omega) (by omega)⟩
      · go_wp2
        go_ret
        exact ⟨_, cs, rfl, S.out.more (by omega) (by omega)⟩

end Go.Proofs.Ytmhaaihgepldhaa

namespace Go.Proofs.Ytmhaaihgepldhaa
open Go.RowKit

/-- Numbers under way: in a block of the draw's own. -/
structure OutM (w0 w : World) (p : Nat) (vb : Value) (bs : List Int) (C L : Nat) (v : Value) (xs : List Int) (wx : World) : Prop where
  rb : Rb w0 wx p vb bs C
  at_ : OnlyAt p w wx
  own : OwnO wx w.heap.size 3 1 v xs.length (xs.map (.int .i64))
  len : xs.length ≤ L
  w00 : w0.heap.size ≤ w.heap.size
section
variable {w0 w wx wy : World} {p C D L M : Nat} {v v' : Value} {vb : Value} {bs : List Int} {xs : List Int}
theorem OutM.step (h : OutM w0 w p vb bs C L v xs wx) (hr : Rb w0 wy p vb bs D) (hg : OnlyAt p wx wy) : OutM w0 w p vb bs D L v xs wy := by
  refine ⟨hr, h.at_.trans hg, h.own.chg hg fun g hg2 e => ?_, h.len, h.w00⟩
  subst e
  obtain ⟨cur, hc⟩ := h.rb.cell
  exact h.own.ne_heap hc (by decide) g hg2 rfl
theorem OutM.keep (h : OutM w0 w p vb bs C L v xs wx) (hp : Pure wx wy) : OutM w0 w p vb bs C L v xs wy := h.step (h.rb.keep hp) (Chg.of_pure hp)
theorem OutM.more (h : OutM w0 w p vb bs C L v xs wx) (hD : C ≤ D) (hM : L ≤ M) : OutM w0 w p vb bs D M v xs wx := ⟨h.rb.more hD, h.at_, h.own, Nat.le_trans h.len hM, h.w00⟩
theorem OutM.app (h : OutM w0 w p vb bs C L v xs wx) {x : Int} (hown : OwnO wy w.heap.size 3 1 v' (xs.length + 1) (xs.map (.int .i64) ++ [.int .i64 x])) (hg : wx.grownBy wy v.ownBlock) :
    ∃ ys g off c, v' = .slice (some ⟨g, off, none⟩) ys.length c ∧ ys.length = xs.length + 1 ∧ OutM w0 w p vb bs C (L + 1) v' ys wy := by
  have hc : Chg (fun k => v.ownBlock = some k) wx wy := Chg.of_grown hg (fun k hk => hk)
  have hlo : ∀ k, v.ownBlock = some k → w.heap.size ≤ k := fun k hk => (h.own.lt k hk).1
  have hS : OutM w0 w p vb bs C (L + 1) v' (xs ++ [x]) wy := by
    refine ⟨h.rb.chg hc (fun k hk => Nat.le_trans h.w00 (hlo k hk)) (fun e => ?_), Chg.trans' h.at_ hc (fun i hi e => by have := hlo i e; omega), by simpa using hown, by have := h.len; simp; omega, h.w00⟩
    obtain ⟨cur, hcc⟩ := h.rb.cell
    exact h.own.ne_heap hcc (by decide) p e rfl
  obtain ⟨g, off, c, e, _⟩ := hS.own.formSome (by simp)
  exact ⟨_, g, off, c, e, by simp, hS⟩
theorem OutM.start {w1 : World} (hr : Rb w0 w1 p vb bs C) (hg : OnlyAt p w w1) (h00 : w0.heap.size ≤ w.heap.size) : OutM w0 w p vb bs C 0 (.slice (some ⟨w1.heap.size, 0, none⟩) 0 0) [] (w1.alloc (.cells #[] 3)) :=
  ⟨hr.keep (by exact (by repeat (first | assumption | exact Pure.refl _ | refine Pure.drewN ?_ _ | refine Pure.drew ?_ | refine Pure.alloc ?_ _ | refine Pure.setCell ?_ (by simp <;> omega) _))), hg.trans (Chg.of_pure (by exact (by repeat (first | assumption | exact Pure.refl _ | refine Pure.drewN ?_ _ | refine Pure.drew ?_ | refine Pure.alloc ?_ _ | refine Pure.setCell ?_ (by simp <;> omega) _)))), OwnO.empty_lit hg.size, Nat.le_refl _, h00⟩
theorem OutM.put {g off c k : Nat} (h : OutM w0 w p vb bs C L (.slice (some ⟨g, off, none⟩) xs.length c) xs wx) (x : Int) :
    OutM w0 w p vb bs C L (.slice (some ⟨g, off, none⟩) xs.length c) (xs.set k x) (wx.setCell ⟨g, off + k, none⟩ (.int .i64 x)) := by
  have hlo := (h.own.lt g rfl).1
  have s1 := h.own.stored k (.int .i64 x)
  have hc : Chg (fun k => k = g) wx (wx.setCell ⟨g, off + k, none⟩ (.int .i64 x)) := Chg.of_set wx g _ _ rfl
  have hne : p ≠ g := by
    obtain ⟨cur, hcc⟩ := h.rb.cell
    intro e
    exact h.own.ne_heap hcc (by decide) g rfl e.symm
  refine ⟨h.rb.chg hc (fun i e => by have := h.w00; omega) hne, Chg.trans' h.at_ hc (fun i hi e => by omega), ?_, by simpa using h.len, h.w00⟩
  rw [List.length_set, List.map_set]; exact s1
end
theorem zeros_int (n : Nat) : zeros [.int .i64 0] n = (List.replicate n (0 : Int)).map (.int .i64) := by
  apply List.ext_getElem?
  intro j
  by_cases hj : j < n
  · rw [zeros_get _ _ _ (by simpa using hj)]
    simp [hj, Nat.mod_one]
  · rw [List.getElem?_eq_none (by rw [zeros_length]; simp; omega), List.getElem?_eq_none (by simp; omega)]
def MemP (w0 w : World) (p : Nat) (vb : Value) (bs : List Int) (C : Nat) (e : Ending) (w' : World) : Prop :=
  ∃ v xs, e = .returned v ∧ OutM w0 w p vb bs C 33 v xs w'

def RunP (w0 w : World) (p : Nat) (vb : Value) (bs : List Int) (C : Nat) (e : Ending) (w' : World) : Prop :=
  ∃ vl cs a vm xs, e = .returned (.tuple #[vl, .int .i64 a, vm]) ∧ 0 ≤ a ∧ a ≤ 9 ∧ Out w0 w p vb bs C 300000 vl cs w' ∧ OutM w0 w p vb bs C 33 vm xs w'
theorem OutM.base {w0 w w1 wx : World} {p C L : Nat} {v vb : Value} {bs xs : List Int} (h : OutM w0 w1 p vb bs C L v xs wx) (hg : OnlyAt p w w1) (h00 : w0.heap.size ≤ w.heap.size) : OutM w0 w p vb bs C L v xs wx :=
  ⟨h.rb, hg.trans h.at_, h.own.base' hg.size, h.len, h00⟩
theorem Out.base {w0 w w1 wx : World} {p C L : Nat} {v vb : Value} {bs : List Int} {cs : List Cd} (h : Out w0 w1 p vb bs C L v cs wx) (hg : OnlyAt p w w1) (h00 : w0.heap.size ≤ w.heap.size) : Out w0 w p vb bs C L v cs wx :=
  ⟨h.rb, hg.trans h.at_, h.own.base' hg.size, h.len, h00⟩

end Go.Proofs.Ytmhaaihgepldhaa

namespace Go.Proofs.Ytmhaaihgepldhaa
open Go.RowKit

def DrawRP (w : World) (e : Ending) (w' : World) : Prop :=
  ∃ vl cs a vm xs, e = .returned (.tuple #[vl, .int .i64 a, vm]) ∧ 0 ≤ a ∧ a ≤ 9 ∧ Codes w' vl cs ∧ Ints w' vm xs ∧ cs.length ≤ 300000 ∧ xs.length ≤ 33 ∧ Pure w w'
def DrawPP (w : World) (e : Ending) (w' : World) : Prop := ∃ vl cs, e = .returned vl ∧ Codes w' vl cs ∧ cs.length ≤ 300000 ∧ Pure w w'
theorem flat_cdf (cs : List Cd) : ∀ j, j < cs.length * 4 → (cs.flatMap cdCells)[j]? = some (cdf cs j) := by
  induction cs with
  | nil => intro j h; simp at h
  | cons c r ih =>
    intro j h
    rw [List.flatMap_cons]
    by_cases h4 : j < 4
    · rw [List.getElem?_append_left (by simp [cdCells]; omega)]
      have : j = 0 ∨ j = 1 ∨ j = 2 ∨ j = 3 := by omega
      rcases this with rfl | rfl | rfl | rfl <;> rfl
    · rw [List.getElem?_append_right (by simp [cdCells]; omega)]
      have h1 := ih (j - 4) (by simp at h; omega)
      have e : (cdCells c).length = 4 := rfl
      rw [e, h1]
      unfold cdf
      rw [show j / 4 = (j - 4) / 4 + 1 by omega, show j % 4 = (j - 4) % 4 by omega]
      simp [List.getD_eq_getElem?_getD]
theorem Out.codes {w0 w wx : World} {p C L : Nat} {v vb : Value} {bs : List Int} {cs : List Cd} (h : Out w0 w p vb bs C L v cs wx) : Codes wx v cs := Codes.of_ownO h.own rfl (flat_cdf cs)
theorem OutM.ints {w0 w wx : World} {p C L : Nat} {v vb : Value} {bs xs : List Int} (h : OutM w0 w p vb bs C L v xs wx) : Ints wx v xs := by
  have ho := h.own
  unfold Ints
  refine Cells.of_ownO ho fun j hj => ?_
  have : j < xs.length := by omega
  simp [List.getD_eq_getElem?_getD, this]

set_option maxHeartbeats 1000000 in
theorem draw_DrawGraphOf (v : Value) (bs : List Int) (w : World) (h : Bytes w v bs) (hs : bs.length ≤ 1048576) : Calls Try.prog 30 #[v] w (DrawPP w) := by
  have H := Lib.hid h
  obtain ⟨A, c, rfl, hnc, hcm⟩ := h.form
  clear h
  go_enter Try.func30, Try.ntmps30
  go_wp2_with fail
  refine (draw_open _ bs _ H.out hs).mono ?_
  rintro e w1 ⟨p, vb, bs', rfl, hr, hp1⟩
  have HR := Lib.hid hr
  clear hr
  go_wp2_with fail
  refine (prog_any w w1 p 0 9 vb bs' 9 rfl (by decide) HR.out (by decide)).mono ?_
  rintro e w2 ⟨vl, cs, rfl, hl⟩
  have HL := Lib.hid hl
  clear hl
  go_wp2
  go_ret
  exact ⟨vl, cs, rfl, HL.out.codes, HL.out.len, HL.out.rb.pure⟩

end Go.Proofs.Ytmhaaihgepldhaa

namespace Go.Proofs.Ytmhaaihgepldhaa
open Go.ChangeShapes Go.WideShapes Go.ChangeAt Go.RowKit Go.Deep

theorem own_knob : ownKnob Try.prog.godebug = none := by kernel_rfl
theorem laid_out : laidOutB Try.prog = true := by kernel_rfl

theorem addr_form {w : World} {a : Addr} {v : Value} (h : w.cell? a = some v) : ∃ b o, a = ⟨b, o, none⟩ := by
  obtain ⟨b, o, s⟩ := a
  have := World.cell?_spot h
  simp only at this
  subst this
  exact ⟨b, o, rfl⟩
theorem block_of_cell {w : World} {b o : Nat} {v : Value} (h : w.cell? ⟨b, o, none⟩ = some v) : b < w.heap.size := World.block_lt_of_cell? w ⟨b, o, none⟩ h

theorem Cells.of_addr {w : World} {a : Addr} {len cap s : Nat} {f : Nat → Value} (hs : 0 < s) (h1 : len ≤ cap) (h2 : cap ≤ maxLen) (hc : ∀ j, j < len * s → w.cell? (a.add j) = some (f j)) : Cells w (.slice (some a) len cap) len s f := by
  refine ⟨_, cap, rfl, h1, by unfold maxLen at h2; omega, fun hn => ?_⟩
  have h0 := hc 0 (Nat.mul_pos hn hs)
  obtain ⟨b, o, rfl⟩ := addr_form (show w.cell? a = some (f 0) by simpa [Addr.add] using h0)
  refine ⟨b, o, rfl, block_of_cell (show w.cell? ⟨b, o, none⟩ = some (f 0) by simpa [Addr.add] using h0), fun j hj => ?_⟩
  rw [← add_mid]; exact hc j hj

section
variable {H : Type} {enc : TypeId × Value → H} {W : World} {base : Nat} {held : Bool}

theorem ints_open {fuel : Nat} {cs : List Value} {x : DataW H × List MemPlace} (h : DataW.trod enc Try.prog W base (fun _ => true) held fuel 53 cs = some x) : ∃ v xs, cs = [v] ∧ Ints W v xs ∧ xs.length * 8 ≤ maxLen * 8 := by
  rcases open_ints Try.underlying53 Try.underlying3 (by kernel_rfl) h with ⟨hcs, _⟩ | ⟨a, len, cap, zs, hcs, _, hl, hm, hz, _, hcell, hwz⟩
  · exact ⟨_, [], hcs, ⟨none, 0, rfl, by simp, by omega, fun h => absurd h (by simp)⟩, by simp⟩
  · simp only [if_true] at hz
    refine ⟨_, zs.take len, hcs, ?_, by simp; have := hm; omega⟩
    have hlen : (zs.take len).length = len := by simp; omega
    unfold Ints
    rw [hlen]
    refine Cells.of_addr (by omega) hl hm fun j hj => ?_
    rw [hcell j (by omega)]
    have : j < len := by omega
    simp [List.getD_eq_getElem?_getD, this]

theorem introws_open {fuel : Nat} {cs : List Value} {x : DataW H × List MemPlace} (h : DataW.trod enc Try.prog W base (fun _ => true) held fuel 22 cs = some x) : ∃ v xss, cs = [v] ∧ IntRows W v xss := by
  rcases open_int_rows Try.underlying22 Try.underlying53 Try.underlying3 (by kernel_rfl) (by kernel_rfl) h with ⟨hcs, _⟩ | ⟨a, len, cap, A, L, C, Z, hcs, _, hl, hm, _, hr⟩
  · exact ⟨_, [], hcs, ⟨none, 0, rfl, by simp, by omega, fun h => absurd h (by simp)⟩⟩
  · refine ⟨_, (List.range len).map fun r => (Z r).take (L r), hcs, ?_⟩
    have hlen : ((List.range len).map fun r => (Z r).take (L r)).length = len := by simp
    refine ⟨some a, cap, by rw [hlen], by rw [hlen]; exact hl, by unfold maxLen at hm; omega, fun hn => ?_⟩
    rw [hlen] at hn
    have h0 := (hr 0 (by omega)).1
    obtain ⟨b, o, rfl⟩ := addr_form (show W.cell? a = _ by simpa [Addr.add] using h0)
    refine ⟨b, o, rfl, block_of_cell (show W.cell? ⟨b, o, none⟩ = _ by simpa [Addr.add] using h0), fun k hk => ?_⟩
    rw [hlen] at hk
    obtain ⟨c1, c2, c3, c4, c5, c6, c7⟩ := hr k (by omega)
    refine ⟨_, by rw [← add_mid]; exact c1, ?_⟩
    have hrow : ((List.range len).map fun r => (Z r).take (L r)).getD k [] = (Z k).take (L k) := by simp [List.getD_eq_getElem?_getD, hk]
    rw [hrow]
    have hl2 : ((Z k).take (L k)).length = L k := by simp; omega
    unfold Ints
    rw [hl2]
    cases hA : A k with
    | none =>
      have := c6 hA
      exact ⟨none, C k, rfl, by omega, by unfold maxLen at c3; omega, fun h => absurd h (by omega)⟩
    | some a' =>
      refine Cells.of_addr (by omega) c2 c3 fun j hj => ?_
      rw [(c7 a' hA).2 j (by omega)]
      have : j < L k := by omega
      simp [List.getD_eq_getElem?_getD, this]
end
end Go.Proofs.Ytmhaaihgepldhaa
