/- The law FnLeastMask: lanes at the least place go on. Arguments that came in, opened into the words that the walks use. Bytes that came in, opened into the words that the walks use. No condition. -/
import Derived.ProofKit
import Derived.OpenShut
import Derived.ChangeOld
import Derived.Deep.Matrix
import Derived.Test.YtajaonejpggcbaaQaa
import Derived.Test.YtajaonejpggcbaaQbg
import Derived.Test.YtajaonejpggcbaaQbh
import Derived.Test.YtajaonejpggcbaaQcb

namespace Go.Proofs.Ytajaonejpggcbaa
open Go.RowKit

/-- What begins with no part of a block of two cells does not lie in it. -/
theorem Cells.apart {w w' : World} {v : Value} {n s g : Nat} {f : Nat → Value} {a b : Value} {t : TypeId} (h : Cells w v n s f) (hs : 0 < s) (hg : w.heap[g]? = some (.cells #[a, b] t (0, 0))) (h1 : 0 < n → f 0 ≠ a) (h2 : 0 < n → f 0 ≠ b) (hc : Chg (fun k => k = g) w w') : Cells w' v n s f := by
  obtain ⟨A, c, e, e1, e2, e3⟩ := h
  refine ⟨A, c, e, e1, e2, fun hn => ?_⟩
  obtain ⟨bb, o, ha, hb, hcl⟩ := e3 hn
  have hne : bb ≠ g := by
    rintro rfl
    have q := hcl 0 (Nat.mul_pos hn hs)
    rw [Nat.add_zero] at q
    have q2 := cell_of_row _ _ o _ _ _ hg
    rw [q] at q2
    match o, q2 with
    | 0, q2 => simp only [List.getElem?_toArray, List.getElem?_cons_zero, Option.some.injEq] at q2; exact h1 hn q2
    | 1, q2 => simp only [List.getElem?_toArray, List.getElem?_cons_succ, List.getElem?_cons_zero, Option.some.injEq] at q2; exact h2 hn q2
    | o + 2, q2 => simp at q2
  exact ⟨bb, o, ha, Nat.lt_of_lt_of_le hb hc.size, fun j hj => (hc.cell hb hne).trans (hcl j hj)⟩
theorem Ints.apart {w w' : World} {v : Value} {xs : List Int} {g n c n' c' : Nat} {A A' : Option Addr} {t : TypeId} (h : Ints w v xs) (hg : w.heap[g]? = some (.cells #[.slice A n c, .slice A' n' c'] t (0, 0))) (hc : Chg (fun k => k = g) w w') : Ints w' v xs :=
  Cells.apart h (by decide) hg (fun _ e => by cases e) (fun _ e => by cases e) hc
theorem Lanes.apart {w w' : World} {v : Value} {ls : List Lx} {g n c n' c' : Nat} {A A' : Option Addr} {t : TypeId} (h : Lanes w v ls) (hg : w.heap[g]? = some (.cells #[.slice A n c, .slice A' n' c'] t (0, 0))) (hc : Chg (fun k => k = g) w w') : Lanes w' v ls := by
  obtain ⟨A1, c1, e, e1, e2, e3⟩ := h
  refine ⟨A1, c1, e, e1, e2, fun hn => ?_⟩
  obtain ⟨bb, o, ha, hb, hl⟩ := e3 hn
  have hne : bb ≠ g := by
    rintro rfl
    obtain ⟨R, T, hat⟩ := hl 0 hn
    have q := hat.c1
    have q2 := cell_of_row _ _ (o + 0 * 4 + 1) _ _ _ hg
    rw [q] at q2
    match o, q2 with
    | 0, q2 => simp at q2
    | o + 1, q2 =>
      rw [show o + 1 + 0 * 4 + 1 = o + 2 by omega] at q2
      simp at q2
  refine ⟨bb, o, ha, Nat.lt_of_lt_of_le hb hc.size, fun k hk => ?_⟩
  obtain ⟨R, T, hat⟩ := hl k hk
  exact ⟨R, T, (hc.cell hb hne).trans hat.c0, (hc.cell hb hne).trans hat.c1, (hc.cell hb hne).trans hat.c2, (hc.cell hb hne).trans hat.c3, hat.r.apart hg hc, hat.t.apart hg hc⟩

set_option maxHeartbeats 1000000 in
theorem draw_DrawLeastMask (v : Value) (bs : List Int) (w : World) (h : Bytes w v bs) (hs : bs.length ≤ 1048576) : Calls Try.prog 33 #[v] w (CrowdDP w) := by
  have H := Lib.hid h
  obtain ⟨A, c, rfl, hnc, hcm⟩ := h.form
  clear h
  obtain ⟨wz, Hwz⟩ : ∃ wz, Hid (w.alloc (.cells #[.slice none 0 0, .slice none 0 0] 33) = wz) := ⟨_, Lib.hid rfl⟩
  have HPZ : Hid (Pure w wz) := Lib.hid (by rw [← Hwz.out]; exact (by repeat (first | assumption | exact Pure.refl _ | refine Pure.drewN ?_ _ | refine Pure.drew ?_ | refine Pure.alloc ?_ _ | refine Pure.setCell ?_ (by simp <;> omega) _)))
  have HZR : Hid (wz.heap[w.heap.size]? = some (.cells #[.slice none 0 0, .slice none 0 0] 33 (0, 0))) := Lib.hid (by rw [← Hwz.out]; exact heap_alloc_new w _)
  go_enter Try.func33, Try.ntmps33
  go_wp2_with fail
  rw [Hwz.out]
  refine (draw_open _ bs _ (H.out.keep HPZ.out) hs).mono ?_
  rintro e w1 ⟨p, vb, bs', rfl, hr, hp1⟩
  have HR := Lib.hid hr
  clear hr
  go_wp2_with fail
  refine (crowdd_any wz w1 p 0 12 vb bs' 12 rfl (by decide) HR.out (by decide)).mono ?_
  rintro e w2 ⟨x, y, v, c, cs, rfl, hl, hm, hc, h1, h2, h3, hp⟩
  have HL := Lib.hid hl; have HM := Lib.hid hm; have HC := Lib.hid hc
  obtain ⟨A1, c1, rfl, _⟩ := hl.form
  obtain ⟨A2, c2, rfl⟩ := hm.form
  obtain ⟨A3, c3, rfl, _⟩ := hc.form
  have HX := Lib.hid (hp.below.block w.heap.size (by have := (Array.getElem?_eq_some_iff.1 HZR.out).1; omega) ▸ HZR.out)
  obtain ⟨k0, kf0⟩ := row_pure hp HZR.out 0
  obtain ⟨k1, kf1⟩ := row_pure hp HZR.out 1
  simp only [List.getElem?_toArray, List.getElem?_cons_zero, List.getElem?_cons_succ] at k0 k1
  have HP := Lib.hid hp
  clear hl hm hc hp
  go_wp2
  refine bodyPost_ret (v := .tuple #[.agg #[.slice A1 c.ls.length c1, .slice A2 c.mem.length c2], .slice A3 cs.length c3]) (by simp [results, Try.results33, go_sem, k0, k1]) rfl ?_
  have hcw : ∀ (u : World) (i : Nat) (x : Value), Chg (fun b => b = w.heap.size) u (u.setCell ⟨w.heap.size, i, none⟩ x) := fun u i x => Chg.of_set u _ _ _ rfl
  have hcc := (hcw w2 0 (.slice A1 c.ls.length c1)).trans (hcw _ 1 (.slice A2 c.mem.length c2))
  refine ⟨_, _, _, c, cs, rfl, HL.out.apart HX.out hcc, HM.out.apart HX.out hcc, ?_, h1, h2, h3, Chg.pure (HPZ.out.trans HP.out) hcc (fun b e => by omega)⟩
  exact Cells.apart HC.out (by decide) HX.out (fun _ e => by rw [show cdf cs 0 = .int .i64 (cs.getD 0 default).op from rfl] at e; cases e) (fun _ e => by rw [show cdf cs 0 = .int .i64 (cs.getD 0 default).op from rfl] at e; cases e) hcc

theorem Lanes.get {w : World} {A : Option Addr} {n c : Nat} {ls : List Lx} (h : Lanes w (.slice A n c) ls) (hn : 0 < ls.length) : ∃ b o, A = some ⟨b, o, none⟩ ∧ b < w.heap.size ∧ ∀ k, k < ls.length → ∃ R T, LnAt w b (o + k * 4) (ls.getD k default) R T := by
  obtain ⟨A', c', e, _, _, h3⟩ := h
  injection e with e1 e2 e3
  subst e1
  exact h3 hn

set_option maxHeartbeats 4000000 in
set_option maxRecDepth 100000 in
theorem law_FnLeastMask (v : Value) (bs : List Int) (w : World) (h : Bytes w v bs) :
    Calls Try.prog 6 #[v] w fun e w' => e = .returned (.bool true) ∧ Pure w w' := by
  have H := Lib.hid h
  obtain ⟨A, c, rfl, hnc, hcm⟩ := h.form
  clear h
  by_cases hbig : (bs.length : Int) > 1048576
  · go_enter Try.func6, Try.ntmps6
    go_wp2
    go_ret
    exact ⟨rfl, Pure.refl _⟩
  go_enter Try.func6, Try.ntmps6
  go_wp2_with fail
  refine (draw_DrawLeastMask _ bs _ H.out (by omega)).mono ?_
  rintro e w1 ⟨x, y, v, c, cs, rfl, hl, hm, hc, h1, h2, h3, hp1⟩
  have HP1 := Lib.hid hp1
  obtain ⟨Al, cl, rfl, _⟩ := hl.form
  obtain ⟨Am, cm, rfl⟩ := hm.form
  obtain ⟨Ac, cc, rfl, hcc1, hcc2⟩ := hc.form
  obtain ⟨wx, Hwx⟩ : ∃ wx, Hid (w1.alloc (.cells #[.slice Al c.ls.length cl, .slice Am c.mem.length cm] 33) = wx) := ⟨_, Lib.hid rfl⟩
  have HPX : Hid (Pure w1 wx) := Lib.hid (by rw [← Hwx.out]; exact (by repeat (first | assumption | exact Pure.refl _ | refine Pure.drewN ?_ _ | refine Pure.drew ?_ | refine Pure.alloc ?_ _ | refine Pure.setCell ?_ (by simp <;> omega) _)))
  have HX : Hid (wx.heap[w1.heap.size]? = some (.cells #[.slice Al c.ls.length cl, .slice Am c.mem.length cm] 33 (0, 0))) := Lib.hid (by rw [← Hwx.out]; exact heap_alloc_new w1 _)
  have HL := Lib.hid (hl.keep HPX.out); have HM := Lib.hid (hm.keep HPX.out); have HC := Lib.hid (hc.keep HPX.out)
  obtain ⟨ga, Hga⟩ : ∃ ga, Hid ((leastC cs c).1 = ga) := ⟨_, Lib.hid rfl⟩
  obtain ⟨gb, Hgb⟩ : ∃ gb, Hid ((leastC cs c).2 = gb) := ⟨_, Lib.hid rfl⟩
  have HSL : Hid (∀ (vl vm v : Value) (u : World), Lanes u vl c.ls → Ints u vm c.mem → Codes u v cs → cs.length ≤ 1048576 → c.ls.length ≤ 1048576 → c.mem.length ≤ 1048576 → Calls Try.prog 15 #[.agg #[vl, vm], v] u fun e w' => e = .returned (.tuple #[.int .i64 ga, .int .i64 gb]) ∧ Pure u w') := Lib.hid (by
    rw [← Hga.out, ← Hgb.out]; exact fun vl vm v u a b d e f g => slm_any vl vm v c cs u a b d e f g)
  have HIL : Hid (∀ (vl vm v : Value) (u : World), Lanes u vl c.ls → Ints u vm c.mem → Codes u v cs → cs.length ≤ 1048576 → c.ls.length ≤ 1048576 → c.mem.length ≤ 1048576 → Calls Try.prog 18 #[.agg #[vl, vm], v] u fun e w' => e = .returned (.tuple #[.int .i64 ga, .int .i64 gb]) ∧ Pure u w') := Lib.hid (by
    rw [← Hga.out, ← Hgb.out]; exact fun vl vm v u a b d e f g => ilm_any vl vm v c cs u a b d e f g)
  have hba : (ga != ga) = false := by simp
  have hbb : (gb != gb) = false := by simp
  clear hl hm hc hp1
  have x0 := (cell_of_row _ _ 0 _ _ _ HX.out).trans (show _ = some (Value.slice Al c.ls.length cl) from rfl)
  have x1 := (cell_of_row _ _ 1 _ _ _ HX.out).trans (show _ = some (Value.slice Am c.mem.length cm) from rfl)
  go_wp2_with fail
  rw [Hwx.out]
  refine (HIL.out _ _ _ _ HL.out HM.out HC.out (by omega) (by omega) (by omega)).mono ?_
  rintro e w2 ⟨rfl, hp2⟩
  have HP2 := Lib.hid hp2
  obtain ⟨x0, _⟩ := row_pure hp2 HX.out 0
  obtain ⟨x1, _⟩ := row_pure hp2 HX.out 1
  simp only [List.getElem?_toArray, List.getElem?_cons_zero, List.getElem?_cons_succ] at x0 x1
  clear hp2
  go_wp2_with fail
  refine (HSL.out _ _ _ _ (HL.out.keep HP2.out) (HM.out.keep HP2.out) (HC.out.keep HP2.out) (by omega) (by omega) (by omega)).mono ?_
  rintro e w3 ⟨rfl, hp3⟩
  have HP3 := Lib.hid (HP2.out.trans hp3)
  clear hp3 x0 x1
  by_cases hok : CrowdOk cs c
  · have HOK := Lib.hid hok
    obtain ⟨mk, Hmk⟩ : ∃ mk, Hid ((leastTo cs (lnX c) c.ls.length).1 = mk) := ⟨_, Lib.hid rfl⟩
    obtain ⟨q, Hq⟩ : ∃ q, Hid ((leastTo cs (lnX c) c.ls.length).2 = q) := ⟨_, Lib.hid rfl⟩
    have hls := least_spec (cs := cs) (L := lnX c) c.ls.length
    rw [Hmk.out, Hq.out] at hls
    have HLS := Lib.hid hls
    have e1 : ga = (mk : Int) := by rw [← Hga.out, leastC_ok hok, Hmk.out]
    have e2 : gb = (q : Int) := by rw [← Hgb.out, leastC_ok hok, Hq.out]
    subst e1 e2
    have hm0 : ¬ ((mk : Int) < 0) := by omega
    have HBA := Lib.hid hba; have HBB := Lib.hid hbb
    clear HSL HIL hls hok
    go_wp2
    clear hba hbb
    go_loopg [9, 10] c.ls.length (fun gk i g wr => ∃ k : Nat, gk + k = c.ls.length ∧ i = .int .i64 k ∧ Pure wx wr)
    case atStart => exact ⟨0, rfl, rfl, HP3.out⟩
    case round =>
      obtain ⟨k, hgk, rfl, hp⟩ := hrel
      have Hgk := Lib.hid hgk
      have hkn : k ≤ c.ls.length := by omega
      clear hgk
      obtain ⟨x0, _⟩ := row_pure hp HX.out 0
      simp only [List.getElem?_toArray, List.getElem?_cons_zero] at x0
      by_cases hlt : k < c.ls.length
      · obtain ⟨b, o, rfl, hb, hrow⟩ := HL.out.get (by omega)
        obtain ⟨R, T, hat⟩ := hrow k hlt
        have hat' := hat.keep hp
        obtain ⟨l, Hl⟩ : ∃ l, Hid (c.ls.getD k default = l) := ⟨_, Lib.hid rfl⟩
        rw [Hl.out] at hat'
        have q1 := hat'.c1
        have q3 := hat'.c3
        have hlo := HOK.out.l k hlt
        rw [Hl.out] at hlo
        obtain ⟨a, ha⟩ : ∃ a : Nat, l.at_ = a := ⟨l.at_.toNat, by have := hlo.a0; omega⟩
        have HA := Lib.hid ha
        rw [ha] at q1
        have hatn : (lnX c k).at_ = a := by show (c.ls.getD k default).at_.toNat = a; rw [Hl.out, HA.out]; simp
        have hwt : (lnX c k).W = l.wt := by show (c.ls.getD k default).wt = _; rw [Hl.out]
        have hbit := HLS.out.2.2.1 k
        have hmin := HLS.out.2.1 k hlt
        unfold goesL at hbit hmin
        rw [hatn, hwt, decide_eq_true hlt, Bool.true_and] at hbit
        rw [hatn, hwt] at hmin
        have hdig := digit_eq1 mk k
        have hnn := digit_nonneg mk k
        clear hrow hat hat' hlo ha hatn hwt
        cases hW : l.wt with
        | true =>
          rw [hW] at q3 hbit
          simp only [Bool.not_true, Bool.false_and] at hbit
          rw [hbit] at hdig
          clear hmin hbit
          go_wp2
          go_quiet (fail)
          go_wp2
          go_roundg (c.ls.length - (k + 1))
          case measure => have := Hgk.out; omega
          case rel => exact ⟨k + 1, by have := Hgk.out; omega, by go_num, by exact (by repeat (first | assumption | exact Pure.refl _ | refine Pure.drewN ?_ _ | refine Pure.drew ?_ | refine Pure.alloc ?_ _ | refine Pure.setCell ?_ (by simp <;> omega) _))⟩
        | false =>
          rw [hW] at q3 hbit hmin
          simp only [Bool.not_false, Bool.true_and] at hbit hmin
          by_cases hal : a < cs.length
          · have hmin := hmin (decide_eq_true hal)
            rw [decide_eq_true hal, Bool.true_and] at hbit
            have HAL := Lib.hid hal
            have halI : (a : Int) < (cs.length : Int) := by omega
            obtain ⟨z, hz⟩ : ∃ z : Int, (mk : Int) / 2 ^ k = z := ⟨_, rfl⟩
            rw [hz] at hdig hnn
            by_cases haq : a = q
            · subst haq
              rw [decide_eq_true rfl] at hbit
              rw [hbit] at hdig
              have hz2 : z % 2 = 1 := by simpa using hdig
              clear hbit hdig hmin hal
              go_wp2
              try rw [decide_eq_true HAL.out]
              refine region_pure [.bool true, .bool true, .pointer (some ⟨w1.heap.size, 0, none⟩), .slice (some ⟨b, o, none⟩) c.ls.length cl, .int .i64 (k : Int), .pointer (some ⟨b, o + k * 4, none⟩), .pointer (some ⟨b, o + k * 4 + 1, none⟩), .int .i64 (a : Int), .int .i64 (a : Int), .bool false, .bool false, .bool false, .int .i64 (mk : Int), .int .i64 (k : Int), .int .i64 z, .int .i64 1, .bool true, .bool true, .bool true, .pointer (some ⟨w1.heap.size, 0, none⟩), .slice (some ⟨b, o, none⟩) c.ls.length cl, .int .i64 (k : Int), .pointer (some ⟨b, o + k * 4, none⟩), .pointer (some ⟨b, o + k * 4 + 1, none⟩), .int .i64 (a : Int), .int .i64 (a : Int), .bool true, .bool true, .bool false, .bool false] (Pure wr) (by kernel_rfl) (by kernel_rfl) rfl (by kernel_rfl) (Pure.drew (Pure.refl _)) ?_ ?_ (by kernel_rfl)
              · simp only [foldPut, Act.put, List.setIfInBounds_toArray, List.set_cons_succ, List.set_cons_zero]
                refine ⟨fun u hu => ?_, fun u hu => ?_, fun u hu => ?_, fun u hu => ?_, fun u hu => ?_, fun u hu => ?_, fun u hu => ?_, fun u hu => ?_, fun u hu => ?_, fun u hu => ?_, fun u hu => ?_, fun u hu => ?_, fun u hu => ?_, fun u hu => ?_, fun u hu => ?_, fun u hu => ?_, fun u hu => ?_, fun u hu => ?_, fun u hu => ?_, fun u hu => ?_, fun u hu => ?_, fun u hu => ?_, fun u hu => ?_, fun u hu => ?_, fun u hu => ?_, fun u hu => ?_, fun u hu => ?_, fun u hu => ?_, fun u hu => ?_, fun u hu => ?_, trivial⟩
                all_goals
                  have x0 := keepPc hu x0
                  have q1 := keepPc hu q1
                  go_wp2
                  exact ⟨by assumption, rfl⟩
              · intro u hu
                simp only [foldPut, Act.put, List.setIfInBounds_toArray, List.set_cons_succ, List.set_cons_zero]
                go_wp2
                go_roundg (c.ls.length - (k + 1))
                case measure => have := Hgk.out; omega
                case rel => exact ⟨k + 1, by have := Hgk.out; omega, by go_num, hp.trans hu⟩
            · rw [decide_eq_false haq] at hbit
              rw [hbit] at hdig
              have hz2 : z % 2 = 0 := by have h1 : ¬ z % 2 = 1 := by simpa using hdig
                                         omega
              have HL1 : Hid (decide ((a : Int) < (q : Int)) = false) := Lib.hid (decide_eq_false (by omega))
              have HL2 : Hid (decide (a < q) = false) := Lib.hid (decide_eq_false (by omega))
              have HE1 : Hid (((a : Int) == (q : Int)) = false) := Lib.hid (by rw [beq_eq_false_iff_ne]; omega)
              have HE2 : Hid (decide (a = q) = false) := Lib.hid (decide_eq_false haq)
              have HE3 : Hid ((a == q) = false) := Lib.hid (by rw [beq_eq_false_iff_ne]; exact haq)
              clear hbit hdig hal
              go_wp2
              try rw [decide_eq_true HAL.out]
              refine region_pure [.bool true, .bool true, .pointer (some ⟨w1.heap.size, 0, none⟩), .slice (some ⟨b, o, none⟩) c.ls.length cl, .int .i64 (k : Int), .pointer (some ⟨b, o + k * 4, none⟩), .pointer (some ⟨b, o + k * 4 + 1, none⟩), .int .i64 (a : Int), .int .i64 (q : Int), .bool false, .bool false, .bool false, .int .i64 (mk : Int), .int .i64 (k : Int), .int .i64 z, .int .i64 0, .bool false, .bool true, .bool true, .pointer (some ⟨w1.heap.size, 0, none⟩), .slice (some ⟨b, o, none⟩) c.ls.length cl, .int .i64 (k : Int), .pointer (some ⟨b, o + k * 4, none⟩), .pointer (some ⟨b, o + k * 4 + 1, none⟩), .int .i64 (a : Int), .int .i64 (q : Int), .bool false, .bool false, .bool false, .bool false] (Pure wr) (by kernel_rfl) (by kernel_rfl) rfl (by kernel_rfl) (Pure.drew (Pure.refl _)) ?_ ?_ (by kernel_rfl)
              · simp only [foldPut, Act.put, List.setIfInBounds_toArray, List.set_cons_succ, List.set_cons_zero]
                refine ⟨fun u hu => ?_, fun u hu => ?_, fun u hu => ?_, fun u hu => ?_, fun u hu => ?_, fun u hu => ?_, fun u hu => ?_, fun u hu => ?_, fun u hu => ?_, fun u hu => ?_, fun u hu => ?_, fun u hu => ?_, fun u hu => ?_, fun u hu => ?_, fun u hu => ?_, fun u hu => ?_, fun u hu => ?_, fun u hu => ?_, fun u hu => ?_, fun u hu => ?_, fun u hu => ?_, fun u hu => ?_, fun u hu => ?_, fun u hu => ?_, fun u hu => ?_, fun u hu => ?_, fun u hu => ?_, fun u hu => ?_, fun u hu => ?_, fun u hu => ?_, trivial⟩
                all_goals
                  have x0 := keepPc hu x0
                  have q1 := keepPc hu q1
                  go_wp2
                  first | exact ⟨by assumption, rfl⟩ | exact ⟨by assumption, by rw [HL1.out]⟩ | exact ⟨by assumption, by rw [HL2.out]⟩ | exact ⟨by assumption, by rw [HE1.out]⟩ | exact ⟨by assumption, by rw [HE2.out]⟩ | exact ⟨by assumption, by rw [HE3.out]⟩
              · intro u hu
                simp only [foldPut, Act.put, List.setIfInBounds_toArray, List.set_cons_succ, List.set_cons_zero]
                go_wp2
                go_roundg (c.ls.length - (k + 1))
                case measure => have := Hgk.out; omega
                case rel => exact ⟨k + 1, by have := Hgk.out; omega, by go_num, hp.trans hu⟩
          · rw [decide_eq_false hal, Bool.false_and] at hbit
            rw [hbit] at hdig
            have hd1 : decide ((a : Int) < (cs.length : Int)) = false := decide_eq_false (by omega)
            clear hbit hmin
            go_wp2
            go_quiet (fail)
            go_wp2
            go_roundg (c.ls.length - (k + 1))
            case measure => have := Hgk.out; omega
            case rel => exact ⟨k + 1, by have := Hgk.out; omega, by go_num, by exact (by repeat (first | assumption | exact Pure.refl _ | refine Pure.drewN ?_ _ | refine Pure.drew ?_ | refine Pure.alloc ?_ _ | refine Pure.setCell ?_ (by simp <;> omega) _))⟩
      · have hz := HLS.out.2.2.2.1
        by_cases hmz : mk = 0
        · have hqz := hz.1 hmz
          have b1 : ((mk : Int) == 0) = true := by rw [beq_iff_eq]; omega
          have b2 : ((q : Int) == (cs.length : Int)) = true := by rw [beq_iff_eq]; omega
          clear hz
          go_wp2
          go_ret
          exact ⟨rfl, HP1.out.trans (HPX.out.trans hp)⟩
        · have hqz : ¬ q = cs.length := fun e => hmz (hz.2 e)
          have b1 : ((mk : Int) == 0) = false := by rw [beq_eq_false_iff_ne]; omega
          have b2 : ((q : Int) == (cs.length : Int)) = false := by rw [beq_eq_false_iff_ne]; omega
          clear hz
          go_wp2
          go_ret
          exact ⟨rfl, HP1.out.trans (HPX.out.trans hp)⟩
  · have e1 : ga = -1 := by rw [← Hga.out, leastC_no hok]
    have e2 : gb = -1 := by rw [← Hgb.out, leastC_no hok]
    subst e1 e2
    clear HSL HIL
    go_wp2_with fail
    refine (alive_any _).mono ?_
    rintro e w4 ⟨rfl, hp4⟩
    go_wp2
    go_ret
    exact ⟨rfl, (HP1.out.trans (HPX.out.trans HP3.out)).trans hp4⟩

end Go.Proofs.Ytajaonejpggcbaa

namespace Go.Proofs.Ytajaonejpggcbaa
open Go.ChangeShapes Go.WideShapes Go.ChangeAt Go.RowKit Go.Deep

theorem own_knob : ownKnob Try.prog.godebug = none := by kernel_rfl
theorem laid_out : laidOutB Try.prog = true := by kernel_rfl

theorem addr_form {w : World} {a : Addr} {v : Value} (h : w.cell? a = some v) : ∃ b o, a = ⟨b, o, none⟩ := by
  obtain ⟨b, o, s⟩ := a
  have := World.cell?_spot h
  simp only at this
  subst this
  exact ⟨b, o, rfl⟩
theorem block_of_cell {w : World} {b o : Nat} {v : Value} (h : w.cell? ⟨b, o, none⟩ = some v) : b < w.heap.size := World.block_lt_of_cell? w ⟨b, o, none⟩ h

theorem Cells.of_addr {w : World} {a : Addr} {len cap s : Nat} {f : Nat → Value} (hs : 0 < s) (h1 : len ≤ cap) (h2 : cap ≤ maxLen) (hc : ∀ j, j < len * s → w.cell? (a.add j) = some (f j)) : Cells w (.slice (some a) len cap) len s f := by
  refine ⟨_, cap, rfl, h1, by unfold maxLen at h2; omega, fun hn => ?_⟩
  have h0 := hc 0 (Nat.mul_pos hn hs)
  obtain ⟨b, o, rfl⟩ := addr_form (show w.cell? a = some (f 0) by simpa [Addr.add] using h0)
  refine ⟨b, o, rfl, block_of_cell (show w.cell? ⟨b, o, none⟩ = some (f 0) by simpa [Addr.add] using h0), fun j hj => ?_⟩
  rw [← add_mid]; exact hc j hj

end Go.Proofs.Ytajaonejpggcbaa

namespace Go.Proofs.Ytajaonejpggcbaa
open Go.ChangeShapes Go.WideShapes Go.ChangeAt Go.RowKit Go.Deep

section
variable {H : Type} {enc : TypeId × Value → H} {W : World} {base : Nat} {held : Bool}

theorem bytes_open {fuel : Nat} {cs : List Value} {x : DataW H × List MemPlace} (h : DataW.trod enc Try.prog W base (fun _ => true) held fuel 50 cs = some x) : ∃ v xs, cs = [v] ∧ Bytes W v xs := by
  rcases open_ints Try.underlying50 Try.underlying5 (by kernel_rfl) h with ⟨hcs, _⟩ | ⟨a, len, cap, zs, hcs, _, hl, hm, hz, _, hcell, hwz⟩
  · exact ⟨_, [], hcs, ⟨none, 0, rfl, by simp, by omega, fun h => absurd h (by simp)⟩, by simp⟩
  · simp only [if_true] at hz
    refine ⟨_, zs.take len, hcs, ?_, fun x hx => ?_⟩
    · have hlen : (zs.take len).length = len := by simp; omega
      rw [hlen]
      refine Cells.of_addr (by omega) hl hm fun j hj => ?_
      rw [hcell j (by omega)]
      have : j < len := by omega
      simp [List.getD_eq_getElem?_getD, this]
    · have := hwz x (List.mem_of_mem_take hx)
      simp only [Lit.wf, Bool.and_eq_true, decide_eq_true_eq] at this
      exact ⟨this.1, this.2⟩
end
end Go.Proofs.Ytajaonejpggcbaa
