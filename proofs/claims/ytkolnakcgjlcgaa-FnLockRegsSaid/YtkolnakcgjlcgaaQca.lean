/- Copies of rows of numbers and of lanes. The block around a place, as the program finds it. Valid lanes and crowds, plainly: the loops around a place, by the stack and by the chain of the blocks. append of all that a slice holds (it may be nil) to a slice of the call's own; two equal rows of numbers, compared. Which lanes are valid, as the reference finds it. Which lanes are valid, as the program finds it: words in a row; the loops around a place. No condition. -/
import Derived.Test.YtkolnakcgjlcgaaQac
import Derived.Test.YtkolnakcgjlcgaaQag
import Derived.Test.YtkolnakcgjlcgaaQah
import Derived.Test.YtkolnakcgjlcgaaQaj
import Derived.Test.YtkolnakcgjlcgaaQba
import Derived.Test.YtkolnakcgjlcgaaQbe
import Derived.Test.YtkolnakcgjlcgaaQbi
import Derived.Test.YtkolnakcgjlcgaaQbj

namespace Go.Proofs.Ytkolnakcgjlcgaa
open Go.RowKit

def Clone0P (xs : List Int) (w : World) (e : Ending) (w' : World) : Prop :=
  ∃ A c, e = .returned (.slice A xs.length c) ∧ OwnO w' w.heap.size 3 1 (.slice A xs.length c) xs.length (xs.map (.int .i64)) ∧ Pure w w'
theorem range_ints (xs : List Int) : ((List.range (xs.length * 1)).map fun j => Value.int .i64 (xs.getD j 0)) = xs.map (.int .i64) := by
  apply List.ext_getElem?
  intro j
  by_cases hj : j < xs.length
  · simp [hj, List.getD_eq_getElem?_getD]
  · rw [List.getElem?_eq_none (by simp; omega), List.getElem?_eq_none (by simp; omega)]

set_option maxHeartbeats 1000000 in
theorem clone0_any (v : Value) (xs : List Int) (w : World) (h : Ints w v xs) (hs : xs.length ≤ 1048576) :
    Calls Try.prog 67 #[v] w (Clone0P xs w) := by
  have HM := Lib.hid h
  obtain ⟨A, c, rfl, hnc, hcm, hread⟩ := h
  cases A with
  | none =>
    have h0 : xs.length = 0 := by
      rcases Nat.eq_zero_or_pos xs.length with h | h
      · exact h
      · obtain ⟨b, o, hb, _⟩ := hread h
        cases hb
    have hx : xs = [] := List.length_eq_zero_iff.1 h0
    subst hx
    have hnil : ∀ w : World, (binOp BinOp.eql 24 (.slice none 0 c) (.slice none 0 0)).run Try.prog w = .ok (.bool true) w := fun _ => by kernel_rfl
    clear hread
    go_enter Try.func67, Try.ntmps67
    go_wp2
    go_ret
    exact ⟨none, 0, rfl, ⟨rfl, .inl ⟨rfl, rfl⟩⟩, Pure.refl _⟩
  | some a =>
    have hnil : ∀ w : World, (binOp BinOp.eql 24 (.slice (some a) xs.length c) (.slice none 0 0)).run Try.prog w = .ok (.bool false) w := fun _ => by kernel_rfl
    clear hread
    go_enter Try.func67, Try.ntmps67
    go_wp2_with (at_builtin; go_must (refine wl_copyF elInt rfl _ _ rfl w.heap.size rfl rfl _ rfl _ xs.length HM.out (fun j _ => rfl) (by decide) (by omega) rfl ?_); intro vm' wq hown hp; go_must (rw [range_ints] at hown; obtain ⟨Aq, cq, hvm⟩ := hown.form; subst hvm; have HOWN := Lib.hid hown; have HP := Lib.hid hp; clear hown hp))
    go_ret
    exact ⟨Aq, cq, rfl, HOWN.out, HP.out⟩

def CloneP (l : Lx) (w : World) (e : Ending) (w' : World) : Prop :=
  ∃ gR cr At ct, e = .returned (lnVX (.slice (some ⟨gR, 0, none⟩) l.rs.length cr) l.at_ (.slice At l.ts.length ct) l.wt) ∧ OwnO w' w.heap.size 3 1 (.slice (some ⟨gR, 0, none⟩) l.rs.length cr) l.rs.length (l.rs.map (.int .i64)) ∧
    OwnO w' w.heap.size 3 1 (.slice At l.ts.length ct) l.ts.length (l.ts.map (.int .i64)) ∧ (∀ g, (Value.slice At l.ts.length ct).ownBlock = some g → g ≠ gR) ∧ Pure w w'
theorem heap_alloc2 (w : World) (a b : Obj) : ((w.alloc a).alloc b).heap[w.heap.size]? = some a ∧ ((w.alloc a).alloc b).heap[w.heap.size + 1]? = some b := by
  have h1 : (w.alloc a).heap.size = w.heap.size + 1 := by simp
  refine ⟨(Chg.of_pure (S := fun _ => False) ((Pure.refl (w.alloc a)).alloc b)).heap (heap_alloc_new w a) id, ?_⟩
  have := heap_alloc_new (w.alloc a) b
  rw [h1] at this
  exact this

set_option maxHeartbeats 4000000 in
set_option maxRecDepth 100000 in
theorem lclone_any (R T : Value) (l : Lx) (w : World) (hr : Ints w R l.rs) (ht : Ints w T l.ts) (h1 : 1 ≤ l.rs.length) (h2 : l.rs.length ≤ 1048576) (h3 : l.ts.length ≤ 1048576) :
    Calls Try.prog 66 #[lnVX R l.at_ T l.wt] w (CloneP l w) := by
  unfold lnVX
  have HR := Lib.hid hr
  have HT := Lib.hid ht
  obtain ⟨Ar, cr, rfl⟩ := hr.form
  obtain ⟨At, ct, rfl⟩ := ht.form
  clear hr ht
  obtain ⟨wz, Hwz⟩ : ∃ wz, Hid ((w.alloc (.cells #[.slice Ar l.rs.length cr, .int .i64 l.at_, .slice At l.ts.length ct, .bool l.wt] 43)).alloc (.cells #[.slice none 0 0, .int .i64 0, .slice none 0 0, .bool false] 43) = wz) := ⟨_, Lib.hid rfl⟩
  have HPZ : Hid (Pure w wz) := Lib.hid (by rw [← Hwz.out]; exact (by repeat (first | assumption | exact Pure.refl _ | refine Pure.drewN ?_ _ | refine Pure.drew ?_ | refine Pure.alloc ?_ _ | refine Pure.setCell ?_ (by simp <;> omega) _)))
  have HZ := Lib.hid (Hwz.out ▸ heap_alloc2 w _ _)
  have HZS : Hid (wz.heap.size = w.heap.size + 2) := Lib.hid (by rw [← Hwz.out]; simp)
  obtain ⟨wd, Hwd⟩ : ∃ wd, Hid (wz.drew = wd) := ⟨_, Lib.hid rfl⟩
  have HPD : Hid (Pure wz wd) := Lib.hid (by rw [← Hwd.out]; exact (by repeat (first | assumption | exact Pure.refl _ | refine Pure.drewN ?_ _ | refine Pure.drew ?_ | refine Pure.alloc ?_ _ | refine Pure.setCell ?_ (by simp <;> omega) _)))
  have hzd : wz.heap.size ≤ wd.heap.size := HPD.out.size
  have HRd := Lib.hid (HR.out.keep (HPZ.out.trans HPD.out))
  have HTd := Lib.hid (HT.out.keep (HPZ.out.trans HPD.out))
  obtain ⟨a0, _⟩ := row_pure HPD.out HZ.out.1 0
  obtain ⟨a2, _⟩ := row_pure HPD.out HZ.out.1 2
  simp only [List.getElem?_toArray, List.getElem?_cons_zero, List.getElem?_cons_succ] at a0 a2
  go_enter Try.func66, Try.ntmps66
  go_wp2_with fail
  rw [Hwz.out]
  refine region_way (fun w' => wz.heap.size ≤ w'.heap.size) [0, 3] 8 9 (fun l => l.take 1 ++ (l.drop 3).take 1) (by kernel_rfl) (by kernel_rfl) (by kernel_rfl) (fun c a d v w h => by cases d <;> exact h) (show wz.heap.size ≤ wz.drew.heap.size from Nat.le_refl _) ?_
  simp only [List.take_succ_cons, List.take_zero, List.drop_succ_cons, List.drop_zero, List.cons_append, List.nil_append]
  iterate 2
    apply held_of
    · exact rfl
    · intro w' hS
      go_simp
      try exact rfl
    try go_simp
  refine held_nil ?_
  rw [Hwd.out]
  refine anyK_two (i := 1) (j := 4) (by kernel_rfl) rfl rfl ?_ ?_
  · skip
    go_wp2
    refine And.intro (by first | exact hz2 | exact fun _ => hz2 | exact hz1 | exact fun _ => hz1 | exact hzd | exact fun _ => hzd) ?_
    refine anyK_two (i := 2) (j := 4) (by kernel_rfl) rfl rfl ?_ ?_
    · skip
      go_wp2_with fail
      refine (clone_any _ l.rs _ HRd.out h1 (by omega)).mono ?_
      rintro e w1 ⟨g1, c1, rfl, ho1, hp1⟩
      rw [← Nat.mul_one l.rs.length, range_ints, Nat.mul_one] at ho1
      have HO1 := Lib.hid ho1
      have HP1 := Lib.hid hp1
      have a2 := keepP hp1 a2
      have hd1 : wd.heap.size ≤ w1.heap.size := hp1.size
      have hz1 : wz.heap.size ≤ w1.heap.size := by omega
      clear ho1 hp1
      go_wp2
      refine And.intro (by first | exact hz1 | exact fun _ => hz1) ?_
      refine anyK_one (i := 4) (by kernel_rfl) rfl ?_
      go_wp2
      refine And.intro (by first | exact hz2 | exact fun _ => hz2 | exact hz1 | exact fun _ => hz1 | exact hzd | exact fun _ => hzd) ?_
      refine anyK_two (i := 5) (j := 6) (by kernel_rfl) rfl rfl ?_ ?_
      · skip
        go_wp2_with fail
        refine (clone0_any _ l.ts _ (HTd.out.keep HP1.out) (by omega)).mono ?_
        rintro e w2 ⟨A2, c2, rfl, ho2, hp2⟩
        have HO2 := Lib.hid ho2
        have HP2 := Lib.hid (HP1.out.trans hp2)
        have HO12 := Lib.hid (HO1.out.pure hp2)
        have HG1 : Hid (g1 < w1.heap.size) := Lib.hid (HO1.out.lt g1 rfl).2
        have hz2 : wz.heap.size ≤ w2.heap.size := by have := hp2.size; omega
        have Z1 := (Chg.of_pure (S := fun _ => False) (HPD.out.trans HP2.out)).heap HZ.out.1 id
        have Z2 := (Chg.of_pure (S := fun _ => False) (HPD.out.trans HP2.out)).heap HZ.out.2 id
        have HZ1 := Lib.hid Z1
        have HZ2 := Lib.hid Z2
        have b0 := (cell_of_row _ _ 0 _ _ _ Z1).trans (show _ = some (Value.slice Ar l.rs.length cr) from rfl)
        have b1 := (cell_of_row _ _ 1 _ _ _ Z1).trans (show _ = some (Value.int .i64 l.at_) from rfl)
        have b2 := (cell_of_row _ _ 2 _ _ _ Z1).trans (show _ = some (Value.slice At l.ts.length ct) from rfl)
        have b3 := (cell_of_row _ _ 3 _ _ _ Z1).trans (show _ = some (Value.bool l.wt) from rfl)
        have f0 := frozen_of_row _ _ 0 _ _ Z1
        have f1 := frozen_of_row _ _ 1 _ _ Z1
        have f2 := frozen_of_row _ _ 2 _ _ Z1
        have f3 := frozen_of_row _ _ 3 _ _ Z1
        have d0 := (cell_of_row _ _ 0 _ _ _ Z2).trans (show _ = some (Value.slice none 0 0) from rfl)
        have d1 := (cell_of_row _ _ 1 _ _ _ Z2).trans (show _ = some (Value.int .i64 0) from rfl)
        have d2 := (cell_of_row _ _ 2 _ _ _ Z2).trans (show _ = some (Value.slice none 0 0) from rfl)
        have d3 := (cell_of_row _ _ 3 _ _ _ Z2).trans (show _ = some (Value.bool false) from rfl)
        have e0 := frozen_of_row _ _ 0 _ _ Z2
        have e1 := frozen_of_row _ _ 1 _ _ Z2
        have e2 := frozen_of_row _ _ 2 _ _ Z2
        have e3 := frozen_of_row _ _ 3 _ _ Z2
        clear ho2 hp2 Z1 Z2
        go_wp2
        refine And.intro (by first | exact hz2 | exact fun _ => hz2) ?_
        refine anyK_one (i := 6) (by kernel_rfl) rfl ?_
        go_wp2
        refine And.intro (by first | exact hz2 | exact fun _ => hz2 | exact hz1 | exact fun _ => hz1 | exact hzd | exact fun _ => hzd) ?_
        refine anyK_one (i := 7) (by kernel_rfl) rfl ?_
        go_wp2
        refine And.intro (by first | simpa using hz2 | exact fun _ => (by simpa using hz2)) ?_
        refine anyK_one (i := 8) (by kernel_rfl) rfl ?_
        go_wp2
        refine And.intro (by first | simpa using hz2 | exact fun _ => (by simpa using hz2)) ?_
        refine anyK_one (i := 9) (by kernel_rfl) rfl ?_
        go_wp2
        refine And.intro (by first | exact fun h => absurd rfl h | exact trivial) ?_
        refine anyK_end (by kernel_rfl) ?_
        go_wp2_with fail
        refine bodyPost_ret (v := lnVX (.slice (some ⟨g1, 0, none⟩) l.rs.length c1) l.at_ (.slice A2 l.ts.length c2) l.wt) (by simp [results, Try.results66, lnVX, go_sem, d0, d1, d2, d3]) rfl ?_
        obtain ⟨w3, Hw3⟩ : ∃ w3, Hid ((((((w2.setCell ⟨w.heap.size, 0, none⟩ (.slice (some ⟨g1, 0, none⟩) l.rs.length c1)).setCell ⟨w.heap.size, 2, none⟩ (.slice A2 l.ts.length c2)).setCell ⟨w.heap.size + 1, 0, none⟩ (.slice (some ⟨g1, 0, none⟩) l.rs.length c1)).setCell ⟨w.heap.size + 1, 1, none⟩ (.int .i64 l.at_)).setCell ⟨w.heap.size + 1, 2, none⟩ (.slice A2 l.ts.length c2)).setCell ⟨w.heap.size + 1, 3, none⟩ (.bool l.wt) = w3) := ⟨_, Lib.hid rfl⟩
        have hc3 : Chg (fun b => b = w.heap.size ∨ b = w.heap.size + 1) w2 w3 := by
          rw [← Hw3.out]
          repeat (first | refine Chg.trans ?_ (Chg.of_set _ _ _ _ (by show _ ∨ _; omega)))
          exact Chg.refl _ _
        rw [Hw3.out]
        have hzs := HZS.out
        refine ⟨g1, c1, A2, c2, rfl, (OwnO.base' HO12.out (by omega)).chg hc3 (fun g hg e => ?_), (OwnO.base' HO2.out (by omega)).chg hc3 (fun g hg e => ?_), fun g hg e => ?_, Chg.pure (HPZ.out.trans (HPD.out.trans HP2.out)) hc3 (fun k hk => by omega)⟩
        · have := HO12.out.lt g hg; omega
        · have := HO2.out.lt g hg; omega
        · have := (HO2.out.lt g hg).1
          have := HG1.out
          omega
      · skip
        go_wp2
        refine And.intro (by first | exact hz2 | exact fun _ => hz2 | exact hz1 | exact fun _ => hz1 | exact hzd | exact fun _ => hzd) ?_
        refine anyK_one (i := 5) (by kernel_rfl) rfl ?_
        go_wp2_with fail
        refine (clone0_any _ l.ts _ (HTd.out.keep HP1.out) (by omega)).mono ?_
        rintro e w2 ⟨A2, c2, rfl, ho2, hp2⟩
        have HO2 := Lib.hid ho2
        have HP2 := Lib.hid (HP1.out.trans hp2)
        have HO12 := Lib.hid (HO1.out.pure hp2)
        have HG1 : Hid (g1 < w1.heap.size) := Lib.hid (HO1.out.lt g1 rfl).2
        have hz2 : wz.heap.size ≤ w2.heap.size := by have := hp2.size; omega
        have Z1 := (Chg.of_pure (S := fun _ => False) (HPD.out.trans HP2.out)).heap HZ.out.1 id
        have Z2 := (Chg.of_pure (S := fun _ => False) (HPD.out.trans HP2.out)).heap HZ.out.2 id
        have HZ1 := Lib.hid Z1
        have HZ2 := Lib.hid Z2
        have b0 := (cell_of_row _ _ 0 _ _ _ Z1).trans (show _ = some (Value.slice Ar l.rs.length cr) from rfl)
        have b1 := (cell_of_row _ _ 1 _ _ _ Z1).trans (show _ = some (Value.int .i64 l.at_) from rfl)
        have b2 := (cell_of_row _ _ 2 _ _ _ Z1).trans (show _ = some (Value.slice At l.ts.length ct) from rfl)
        have b3 := (cell_of_row _ _ 3 _ _ _ Z1).trans (show _ = some (Value.bool l.wt) from rfl)
        have f0 := frozen_of_row _ _ 0 _ _ Z1
        have f1 := frozen_of_row _ _ 1 _ _ Z1
        have f2 := frozen_of_row _ _ 2 _ _ Z1
        have f3 := frozen_of_row _ _ 3 _ _ Z1
        have d0 := (cell_of_row _ _ 0 _ _ _ Z2).trans (show _ = some (Value.slice none 0 0) from rfl)
        have d1 := (cell_of_row _ _ 1 _ _ _ Z2).trans (show _ = some (Value.int .i64 0) from rfl)
        have d2 := (cell_of_row _ _ 2 _ _ _ Z2).trans (show _ = some (Value.slice none 0 0) from rfl)
        have d3 := (cell_of_row _ _ 3 _ _ _ Z2).trans (show _ = some (Value.bool false) from rfl)
        have e0 := frozen_of_row _ _ 0 _ _ Z2
        have e1 := frozen_of_row _ _ 1 _ _ Z2
        have e2 := frozen_of_row _ _ 2 _ _ Z2
        have e3 := frozen_of_row _ _ 3 _ _ Z2
        clear ho2 hp2 Z1 Z2
        go_wp2
        refine And.intro (by first | exact hz2 | exact fun _ => hz2) ?_
        refine anyK_one (i := 7) (by kernel_rfl) rfl ?_
        go_wp2
        refine And.intro (by first | simpa using hz2 | exact fun _ => (by simpa using hz2)) ?_
        refine anyK_one (i := 8) (by kernel_rfl) rfl ?_
        go_wp2
        refine And.intro (by first | simpa using hz2 | exact fun _ => (by simpa using hz2)) ?_
        refine anyK_one (i := 9) (by kernel_rfl) rfl ?_
        go_wp2
        refine And.intro (by first | exact fun h => absurd rfl h | exact trivial) ?_
        refine anyK_end (by kernel_rfl) ?_
        go_wp2_with fail
        refine bodyPost_ret (v := lnVX (.slice (some ⟨g1, 0, none⟩) l.rs.length c1) l.at_ (.slice A2 l.ts.length c2) l.wt) (by simp [results, Try.results66, lnVX, go_sem, d0, d1, d2, d3]) rfl ?_
        obtain ⟨w3, Hw3⟩ : ∃ w3, Hid ((((((w2.setCell ⟨w.heap.size, 0, none⟩ (.slice (some ⟨g1, 0, none⟩) l.rs.length c1)).setCell ⟨w.heap.size, 2, none⟩ (.slice A2 l.ts.length c2)).setCell ⟨w.heap.size + 1, 0, none⟩ (.slice (some ⟨g1, 0, none⟩) l.rs.length c1)).setCell ⟨w.heap.size + 1, 1, none⟩ (.int .i64 l.at_)).setCell ⟨w.heap.size + 1, 2, none⟩ (.slice A2 l.ts.length c2)).setCell ⟨w.heap.size + 1, 3, none⟩ (.bool l.wt) = w3) := ⟨_, Lib.hid rfl⟩
        have hc3 : Chg (fun b => b = w.heap.size ∨ b = w.heap.size + 1) w2 w3 := by
          rw [← Hw3.out]
          repeat (first | refine Chg.trans ?_ (Chg.of_set _ _ _ _ (by show _ ∨ _; omega)))
          exact Chg.refl _ _
        rw [Hw3.out]
        have hzs := HZS.out
        refine ⟨g1, c1, A2, c2, rfl, (OwnO.base' HO12.out (by omega)).chg hc3 (fun g hg e => ?_), (OwnO.base' HO2.out (by omega)).chg hc3 (fun g hg e => ?_), fun g hg e => ?_, Chg.pure (HPZ.out.trans (HPD.out.trans HP2.out)) hc3 (fun k hk => by omega)⟩
        · have := HO12.out.lt g hg; omega
        · have := HO2.out.lt g hg; omega
        · have := (HO2.out.lt g hg).1
          have := HG1.out
          omega
    · skip
      go_wp2
      refine And.intro (by first | exact hz2 | exact fun _ => hz2 | exact hz1 | exact fun _ => hz1 | exact hzd | exact fun _ => hzd) ?_
      refine anyK_one (i := 2) (by kernel_rfl) rfl ?_
      go_wp2_with fail
      refine (clone_any _ l.rs _ HRd.out h1 (by omega)).mono ?_
      rintro e w1 ⟨g1, c1, rfl, ho1, hp1⟩
      rw [← Nat.mul_one l.rs.length, range_ints, Nat.mul_one] at ho1
      have HO1 := Lib.hid ho1
      have HP1 := Lib.hid hp1
      have a2 := keepP hp1 a2
      have hd1 : wd.heap.size ≤ w1.heap.size := hp1.size
      have hz1 : wz.heap.size ≤ w1.heap.size := by omega
      clear ho1 hp1
      go_wp2
      refine And.intro (by first | exact hz1 | exact fun _ => hz1) ?_
      refine anyK_two (i := 5) (j := 6) (by kernel_rfl) rfl rfl ?_ ?_
      · skip
        go_wp2_with fail
        refine (clone0_any _ l.ts _ (HTd.out.keep HP1.out) (by omega)).mono ?_
        rintro e w2 ⟨A2, c2, rfl, ho2, hp2⟩
        have HO2 := Lib.hid ho2
        have HP2 := Lib.hid (HP1.out.trans hp2)
        have HO12 := Lib.hid (HO1.out.pure hp2)
        have HG1 : Hid (g1 < w1.heap.size) := Lib.hid (HO1.out.lt g1 rfl).2
        have hz2 : wz.heap.size ≤ w2.heap.size := by have := hp2.size; omega
        have Z1 := (Chg.of_pure (S := fun _ => False) (HPD.out.trans HP2.out)).heap HZ.out.1 id
        have Z2 := (Chg.of_pure (S := fun _ => False) (HPD.out.trans HP2.out)).heap HZ.out.2 id
        have HZ1 := Lib.hid Z1
        have HZ2 := Lib.hid Z2
        have b0 := (cell_of_row _ _ 0 _ _ _ Z1).trans (show _ = some (Value.slice Ar l.rs.length cr) from rfl)
        have b1 := (cell_of_row _ _ 1 _ _ _ Z1).trans (show _ = some (Value.int .i64 l.at_) from rfl)
        have b2 := (cell_of_row _ _ 2 _ _ _ Z1).trans (show _ = some (Value.slice At l.ts.length ct) from rfl)
        have b3 := (cell_of_row _ _ 3 _ _ _ Z1).trans (show _ = some (Value.bool l.wt) from rfl)
        have f0 := frozen_of_row _ _ 0 _ _ Z1
        have f1 := frozen_of_row _ _ 1 _ _ Z1
        have f2 := frozen_of_row _ _ 2 _ _ Z1
        have f3 := frozen_of_row _ _ 3 _ _ Z1
        have d0 := (cell_of_row _ _ 0 _ _ _ Z2).trans (show _ = some (Value.slice none 0 0) from rfl)
        have d1 := (cell_of_row _ _ 1 _ _ _ Z2).trans (show _ = some (Value.int .i64 0) from rfl)
        have d2 := (cell_of_row _ _ 2 _ _ _ Z2).trans (show _ = some (Value.slice none 0 0) from rfl)
        have d3 := (cell_of_row _ _ 3 _ _ _ Z2).trans (show _ = some (Value.bool false) from rfl)
        have e0 := frozen_of_row _ _ 0 _ _ Z2
        have e1 := frozen_of_row _ _ 1 _ _ Z2
        have e2 := frozen_of_row _ _ 2 _ _ Z2
        have e3 := frozen_of_row _ _ 3 _ _ Z2
        clear ho2 hp2 Z1 Z2
        go_wp2
        refine And.intro (by first | exact hz2 | exact fun _ => hz2) ?_
        refine anyK_one (i := 6) (by kernel_rfl) rfl ?_
        go_wp2
        refine And.intro (by first | exact hz2 | exact fun _ => hz2 | exact hz1 | exact fun _ => hz1 | exact hzd | exact fun _ => hzd) ?_
        refine anyK_one (i := 7) (by kernel_rfl) rfl ?_
        go_wp2
        refine And.intro (by first | simpa using hz2 | exact fun _ => (by simpa using hz2)) ?_
        refine anyK_one (i := 8) (by kernel_rfl) rfl ?_
        go_wp2
        refine And.intro (by first | simpa using hz2 | exact fun _ => (by simpa using hz2)) ?_
        refine anyK_one (i := 9) (by kernel_rfl) rfl ?_
        go_wp2
        refine And.intro (by first | exact fun h => absurd rfl h | exact trivial) ?_
        refine anyK_end (by kernel_rfl) ?_
        go_wp2_with fail
        refine bodyPost_ret (v := lnVX (.slice (some ⟨g1, 0, none⟩) l.rs.length c1) l.at_ (.slice A2 l.ts.length c2) l.wt) (by simp [results, Try.results66, lnVX, go_sem, d0, d1, d2, d3]) rfl ?_
        obtain ⟨w3, Hw3⟩ : ∃ w3, Hid ((((((w2.setCell ⟨w.heap.size, 0, none⟩ (.slice (some ⟨g1, 0, none⟩) l.rs.length c1)).setCell ⟨w.heap.size, 2, none⟩ (.slice A2 l.ts.length c2)).setCell ⟨w.heap.size + 1, 0, none⟩ (.slice (some ⟨g1, 0, none⟩) l.rs.length c1)).setCell ⟨w.heap.size + 1, 1, none⟩ (.int .i64 l.at_)).setCell ⟨w.heap.size + 1, 2, none⟩ (.slice A2 l.ts.length c2)).setCell ⟨w.heap.size + 1, 3, none⟩ (.bool l.wt) = w3) := ⟨_, Lib.hid rfl⟩
        have hc3 : Chg (fun b => b = w.heap.size ∨ b = w.heap.size + 1) w2 w3 := by
          rw [← Hw3.out]
          repeat (first | refine Chg.trans ?_ (Chg.of_set _ _ _ _ (by show _ ∨ _; omega)))
          exact Chg.refl _ _
        rw [Hw3.out]
        have hzs := HZS.out
        refine ⟨g1, c1, A2, c2, rfl, (OwnO.base' HO12.out (by omega)).chg hc3 (fun g hg e => ?_), (OwnO.base' HO2.out (by omega)).chg hc3 (fun g hg e => ?_), fun g hg e => ?_, Chg.pure (HPZ.out.trans (HPD.out.trans HP2.out)) hc3 (fun k hk => by omega)⟩
        · have := HO12.out.lt g hg; omega
        · have := HO2.out.lt g hg; omega
        · have := (HO2.out.lt g hg).1
          have := HG1.out
          omega
      · skip
        go_wp2
        refine And.intro (by first | exact hz2 | exact fun _ => hz2 | exact hz1 | exact fun _ => hz1 | exact hzd | exact fun _ => hzd) ?_
        refine anyK_one (i := 5) (by kernel_rfl) rfl ?_
        go_wp2_with fail
        refine (clone0_any _ l.ts _ (HTd.out.keep HP1.out) (by omega)).mono ?_
        rintro e w2 ⟨A2, c2, rfl, ho2, hp2⟩
        have HO2 := Lib.hid ho2
        have HP2 := Lib.hid (HP1.out.trans hp2)
        have HO12 := Lib.hid (HO1.out.pure hp2)
        have HG1 : Hid (g1 < w1.heap.size) := Lib.hid (HO1.out.lt g1 rfl).2
        have hz2 : wz.heap.size ≤ w2.heap.size := by have := hp2.size; omega
        have Z1 := (Chg.of_pure (S := fun _ => False) (HPD.out.trans HP2.out)).heap HZ.out.1 id
        have Z2 := (Chg.of_pure (S := fun _ => False) (HPD.out.trans HP2.out)).heap HZ.out.2 id
        have HZ1 := Lib.hid Z1
        have HZ2 := Lib.hid Z2
        have b0 := (cell_of_row _ _ 0 _ _ _ Z1).trans (show _ = some (Value.slice Ar l.rs.length cr) from rfl)
        have b1 := (cell_of_row _ _ 1 _ _ _ Z1).trans (show _ = some (Value.int .i64 l.at_) from rfl)
        have b2 := (cell_of_row _ _ 2 _ _ _ Z1).trans (show _ = some (Value.slice At l.ts.length ct) from rfl)
        have b3 := (cell_of_row _ _ 3 _ _ _ Z1).trans (show _ = some (Value.bool l.wt) from rfl)
        have f0 := frozen_of_row _ _ 0 _ _ Z1
        have f1 := frozen_of_row _ _ 1 _ _ Z1
        have f2 := frozen_of_row _ _ 2 _ _ Z1
        have f3 := frozen_of_row _ _ 3 _ _ Z1
        have d0 := (cell_of_row _ _ 0 _ _ _ Z2).trans (show _ = some (Value.slice none 0 0) from rfl)
        have d1 := (cell_of_row _ _ 1 _ _ _ Z2).trans (show _ = some (Value.int .i64 0) from rfl)
        have d2 := (cell_of_row _ _ 2 _ _ _ Z2).trans (show _ = some (Value.slice none 0 0) from rfl)
        have d3 := (cell_of_row _ _ 3 _ _ _ Z2).trans (show _ = some (Value.bool false) from rfl)
        have e0 := frozen_of_row _ _ 0 _ _ Z2
        have e1 := frozen_of_row _ _ 1 _ _ Z2
        have e2 := frozen_of_row _ _ 2 _ _ Z2
        have e3 := frozen_of_row _ _ 3 _ _ Z2
        clear ho2 hp2 Z1 Z2
        go_wp2
        refine And.intro (by first | exact hz2 | exact fun _ => hz2) ?_
        refine anyK_one (i := 7) (by kernel_rfl) rfl ?_
        go_wp2
        refine And.intro (by first | simpa using hz2 | exact fun _ => (by simpa using hz2)) ?_
        refine anyK_one (i := 8) (by kernel_rfl) rfl ?_
        go_wp2
        refine And.intro (by first | simpa using hz2 | exact fun _ => (by simpa using hz2)) ?_
        refine anyK_one (i := 9) (by kernel_rfl) rfl ?_
        go_wp2
        refine And.intro (by first | exact fun h => absurd rfl h | exact trivial) ?_
        refine anyK_end (by kernel_rfl) ?_
        go_wp2_with fail
        refine bodyPost_ret (v := lnVX (.slice (some ⟨g1, 0, none⟩) l.rs.length c1) l.at_ (.slice A2 l.ts.length c2) l.wt) (by simp [results, Try.results66, lnVX, go_sem, d0, d1, d2, d3]) rfl ?_
        obtain ⟨w3, Hw3⟩ : ∃ w3, Hid ((((((w2.setCell ⟨w.heap.size, 0, none⟩ (.slice (some ⟨g1, 0, none⟩) l.rs.length c1)).setCell ⟨w.heap.size, 2, none⟩ (.slice A2 l.ts.length c2)).setCell ⟨w.heap.size + 1, 0, none⟩ (.slice (some ⟨g1, 0, none⟩) l.rs.length c1)).setCell ⟨w.heap.size + 1, 1, none⟩ (.int .i64 l.at_)).setCell ⟨w.heap.size + 1, 2, none⟩ (.slice A2 l.ts.length c2)).setCell ⟨w.heap.size + 1, 3, none⟩ (.bool l.wt) = w3) := ⟨_, Lib.hid rfl⟩
        have hc3 : Chg (fun b => b = w.heap.size ∨ b = w.heap.size + 1) w2 w3 := by
          rw [← Hw3.out]
          repeat (first | refine Chg.trans ?_ (Chg.of_set _ _ _ _ (by show _ ∨ _; omega)))
          exact Chg.refl _ _
        rw [Hw3.out]
        have hzs := HZS.out
        refine ⟨g1, c1, A2, c2, rfl, (OwnO.base' HO12.out (by omega)).chg hc3 (fun g hg e => ?_), (OwnO.base' HO2.out (by omega)).chg hc3 (fun g hg e => ?_), fun g hg e => ?_, Chg.pure (HPZ.out.trans (HPD.out.trans HP2.out)) hc3 (fun k hk => by omega)⟩
        · have := HO12.out.lt g hg; omega
        · have := HO2.out.lt g hg; omega
        · have := (HO2.out.lt g hg).1
          have := HG1.out
          omega
  · skip
    go_wp2
    refine And.intro (by first | exact hz2 | exact fun _ => hz2 | exact hz1 | exact fun _ => hz1 | exact hzd | exact fun _ => hzd) ?_
    refine anyK_one (i := 1) (by kernel_rfl) rfl ?_
    go_wp2
    refine And.intro (by first | exact hz2 | exact fun _ => hz2 | exact hz1 | exact fun _ => hz1 | exact hzd | exact fun _ => hzd) ?_
    refine anyK_one (i := 2) (by kernel_rfl) rfl ?_
    go_wp2_with fail
    refine (clone_any _ l.rs _ HRd.out h1 (by omega)).mono ?_
    rintro e w1 ⟨g1, c1, rfl, ho1, hp1⟩
    rw [← Nat.mul_one l.rs.length, range_ints, Nat.mul_one] at ho1
    have HO1 := Lib.hid ho1
    have HP1 := Lib.hid hp1
    have a2 := keepP hp1 a2
    have hd1 : wd.heap.size ≤ w1.heap.size := hp1.size
    have hz1 : wz.heap.size ≤ w1.heap.size := by omega
    clear ho1 hp1
    go_wp2
    refine And.intro (by first | exact hz1 | exact fun _ => hz1) ?_
    refine anyK_two (i := 5) (j := 6) (by kernel_rfl) rfl rfl ?_ ?_
    · skip
      go_wp2_with fail
      refine (clone0_any _ l.ts _ (HTd.out.keep HP1.out) (by omega)).mono ?_
      rintro e w2 ⟨A2, c2, rfl, ho2, hp2⟩
      have HO2 := Lib.hid ho2
      have HP2 := Lib.hid (HP1.out.trans hp2)
      have HO12 := Lib.hid (HO1.out.pure hp2)
      have HG1 : Hid (g1 < w1.heap.size) := Lib.hid (HO1.out.lt g1 rfl).2
      have hz2 : wz.heap.size ≤ w2.heap.size := by have := hp2.size; omega
      have Z1 := (Chg.of_pure (S := fun _ => False) (HPD.out.trans HP2.out)).heap HZ.out.1 id
      have Z2 := (Chg.of_pure (S := fun _ => False) (HPD.out.trans HP2.out)).heap HZ.out.2 id
      have HZ1 := Lib.hid Z1
      have HZ2 := Lib.hid Z2
      have b0 := (cell_of_row _ _ 0 _ _ _ Z1).trans (show _ = some (Value.slice Ar l.rs.length cr) from rfl)
      have b1 := (cell_of_row _ _ 1 _ _ _ Z1).trans (show _ = some (Value.int .i64 l.at_) from rfl)
      have b2 := (cell_of_row _ _ 2 _ _ _ Z1).trans (show _ = some (Value.slice At l.ts.length ct) from rfl)
      have b3 := (cell_of_row _ _ 3 _ _ _ Z1).trans (show _ = some (Value.bool l.wt) from rfl)
      have f0 := frozen_of_row _ _ 0 _ _ Z1
      have f1 := frozen_of_row _ _ 1 _ _ Z1
      have f2 := frozen_of_row _ _ 2 _ _ Z1
      have f3 := frozen_of_row _ _ 3 _ _ Z1
      have d0 := (cell_of_row _ _ 0 _ _ _ Z2).trans (show _ = some (Value.slice none 0 0) from rfl)
      have d1 := (cell_of_row _ _ 1 _ _ _ Z2).trans (show _ = some (Value.int .i64 0) from rfl)
      have d2 := (cell_of_row _ _ 2 _ _ _ Z2).trans (show _ = some (Value.slice none 0 0) from rfl)
      have d3 := (cell_of_row _ _ 3 _ _ _ Z2).trans (show _ = some (Value.bool false) from rfl)
      have e0 := frozen_of_row _ _ 0 _ _ Z2
      have e1 := frozen_of_row _ _ 1 _ _ Z2
      have e2 := frozen_of_row _ _ 2 _ _ Z2
      have e3 := frozen_of_row _ _ 3 _ _ Z2
      clear ho2 hp2 Z1 Z2
      go_wp2
      refine And.intro (by first | exact hz2 | exact fun _ => hz2) ?_
      refine anyK_one (i := 6) (by kernel_rfl) rfl ?_
      go_wp2
      refine And.intro (by first | exact hz2 | exact fun _ => hz2 | exact hz1 | exact fun _ => hz1 | exact hzd | exact fun _ => hzd) ?_
      refine anyK_one (i := 7) (by kernel_rfl) rfl ?_
      go_wp2
      refine And.intro (by first | simpa using hz2 | exact fun _ => (by simpa using hz2)) ?_
      refine anyK_one (i := 8) (by kernel_rfl) rfl ?_
      go_wp2
      refine And.intro (by first | simpa using hz2 | exact fun _ => (by simpa using hz2)) ?_
      refine anyK_one (i := 9) (by kernel_rfl) rfl ?_
      go_wp2
      refine And.intro (by first | exact fun h => absurd rfl h | exact trivial) ?_
      refine anyK_end (by kernel_rfl) ?_
      go_wp2_with fail
      refine bodyPost_ret (v := lnVX (.slice (some ⟨g1, 0, none⟩) l.rs.length c1) l.at_ (.slice A2 l.ts.length c2) l.wt) (by simp [results, Try.results66, lnVX, go_sem, d0, d1, d2, d3]) rfl ?_
      obtain ⟨w3, Hw3⟩ : ∃ w3, Hid ((((((w2.setCell ⟨w.heap.size, 0, none⟩ (.slice (some ⟨g1, 0, none⟩) l.rs.length c1)).setCell ⟨w.heap.size, 2, none⟩ (.slice A2 l.ts.length c2)).setCell ⟨w.heap.size + 1, 0, none⟩ (.slice (some ⟨g1, 0, none⟩) l.rs.length c1)).setCell ⟨w.heap.size + 1, 1, none⟩ (.int .i64 l.at_)).setCell ⟨w.heap.size + 1, 2, none⟩ (.slice A2 l.ts.length c2)).setCell ⟨w.heap.size + 1, 3, none⟩ (.bool l.wt) = w3) := ⟨_, Lib.hid rfl⟩
      have hc3 : Chg (fun b => b = w.heap.size ∨ b = w.heap.size + 1) w2 w3 := by
        rw [← Hw3.out]
        repeat (first | refine Chg.trans ?_ (Chg.of_set _ _ _ _ (by show _ ∨ _; omega)))
        exact Chg.refl _ _
      rw [Hw3.out]
      have hzs := HZS.out
      refine ⟨g1, c1, A2, c2, rfl, (OwnO.base' HO12.out (by omega)).chg hc3 (fun g hg e => ?_), (OwnO.base' HO2.out (by omega)).chg hc3 (fun g hg e => ?_), fun g hg e => ?_, Chg.pure (HPZ.out.trans (HPD.out.trans HP2.out)) hc3 (fun k hk => by omega)⟩
      · have := HO12.out.lt g hg; omega
      · have := HO2.out.lt g hg; omega
      · have := (HO2.out.lt g hg).1
        have := HG1.out
        omega
    · skip
      go_wp2
      refine And.intro (by first | exact hz2 | exact fun _ => hz2 | exact hz1 | exact fun _ => hz1 | exact hzd | exact fun _ => hzd) ?_
      refine anyK_one (i := 5) (by kernel_rfl) rfl ?_
      go_wp2_with fail
      refine (clone0_any _ l.ts _ (HTd.out.keep HP1.out) (by omega)).mono ?_
      rintro e w2 ⟨A2, c2, rfl, ho2, hp2⟩
      have HO2 := Lib.hid ho2
      have HP2 := Lib.hid (HP1.out.trans hp2)
      have HO12 := Lib.hid (HO1.out.pure hp2)
      have HG1 : Hid (g1 < w1.heap.size) := Lib.hid (HO1.out.lt g1 rfl).2
      have hz2 : wz.heap.size ≤ w2.heap.size := by have := hp2.size; omega
      have Z1 := (Chg.of_pure (S := fun _ => False) (HPD.out.trans HP2.out)).heap HZ.out.1 id
      have Z2 := (Chg.of_pure (S := fun _ => False) (HPD.out.trans HP2.out)).heap HZ.out.2 id
      have HZ1 := Lib.hid Z1
      have HZ2 := Lib.hid Z2
      have b0 := (cell_of_row _ _ 0 _ _ _ Z1).trans (show _ = some (Value.slice Ar l.rs.length cr) from rfl)
      have b1 := (cell_of_row _ _ 1 _ _ _ Z1).trans (show _ = some (Value.int .i64 l.at_) from rfl)
      have b2 := (cell_of_row _ _ 2 _ _ _ Z1).trans (show _ = some (Value.slice At l.ts.length ct) from rfl)
      have b3 := (cell_of_row _ _ 3 _ _ _ Z1).trans (show _ = some (Value.bool l.wt) from rfl)
      have f0 := frozen_of_row _ _ 0 _ _ Z1
      have f1 := frozen_of_row _ _ 1 _ _ Z1
      have f2 := frozen_of_row _ _ 2 _ _ Z1
      have f3 := frozen_of_row _ _ 3 _ _ Z1
      have d0 := (cell_of_row _ _ 0 _ _ _ Z2).trans (show _ = some (Value.slice none 0 0) from rfl)
      have d1 := (cell_of_row _ _ 1 _ _ _ Z2).trans (show _ = some (Value.int .i64 0) from rfl)
      have d2 := (cell_of_row _ _ 2 _ _ _ Z2).trans (show _ = some (Value.slice none 0 0) from rfl)
      have d3 := (cell_of_row _ _ 3 _ _ _ Z2).trans (show _ = some (Value.bool false) from rfl)
      have e0 := frozen_of_row _ _ 0 _ _ Z2
      have e1 := frozen_of_row _ _ 1 _ _ Z2
      have e2 := frozen_of_row _ _ 2 _ _ Z2
      have e3 := frozen_of_row _ _ 3 _ _ Z2
      clear ho2 hp2 Z1 Z2
      go_wp2
      refine And.intro (by first | exact hz2 | exact fun _ => hz2) ?_
      refine anyK_one (i := 7) (by kernel_rfl) rfl ?_
      go_wp2
      refine And.intro (by first | simpa using hz2 | exact fun _ => (by simpa using hz2)) ?_
      refine anyK_one (i := 8) (by kernel_rfl) rfl ?_
      go_wp2
      refine And.intro (by first | simpa using hz2 | exact fun _ => (by simpa using hz2)) ?_
      refine anyK_one (i := 9) (by kernel_rfl) rfl ?_
      go_wp2
      refine And.intro (by first | exact fun h => absurd rfl h | exact trivial) ?_
      refine anyK_end (by kernel_rfl) ?_
      go_wp2_with fail
      refine bodyPost_ret (v := lnVX (.slice (some ⟨g1, 0, none⟩) l.rs.length c1) l.at_ (.slice A2 l.ts.length c2) l.wt) (by simp [results, Try.results66, lnVX, go_sem, d0, d1, d2, d3]) rfl ?_
      obtain ⟨w3, Hw3⟩ : ∃ w3, Hid ((((((w2.setCell ⟨w.heap.size, 0, none⟩ (.slice (some ⟨g1, 0, none⟩) l.rs.length c1)).setCell ⟨w.heap.size, 2, none⟩ (.slice A2 l.ts.length c2)).setCell ⟨w.heap.size + 1, 0, none⟩ (.slice (some ⟨g1, 0, none⟩) l.rs.length c1)).setCell ⟨w.heap.size + 1, 1, none⟩ (.int .i64 l.at_)).setCell ⟨w.heap.size + 1, 2, none⟩ (.slice A2 l.ts.length c2)).setCell ⟨w.heap.size + 1, 3, none⟩ (.bool l.wt) = w3) := ⟨_, Lib.hid rfl⟩
      have hc3 : Chg (fun b => b = w.heap.size ∨ b = w.heap.size + 1) w2 w3 := by
        rw [← Hw3.out]
        repeat (first | refine Chg.trans ?_ (Chg.of_set _ _ _ _ (by show _ ∨ _; omega)))
        exact Chg.refl _ _
      rw [Hw3.out]
      have hzs := HZS.out
      refine ⟨g1, c1, A2, c2, rfl, (OwnO.base' HO12.out (by omega)).chg hc3 (fun g hg e => ?_), (OwnO.base' HO2.out (by omega)).chg hc3 (fun g hg e => ?_), fun g hg e => ?_, Chg.pure (HPZ.out.trans (HPD.out.trans HP2.out)) hc3 (fun k hk => by omega)⟩
      · have := HO12.out.lt g hg; omega
      · have := HO2.out.lt g hg; omega
      · have := (HO2.out.lt g hg).1
        have := HG1.out
        omega

end Go.Proofs.Ytkolnakcgjlcgaa

namespace Go.Proofs.Ytkolnakcgjlcgaa
open Go.RowKit

theorem PValid.stk {cs : List Cd} (h : PValid cs) : ∀ {k : Nat}, k ≤ cs.length → ∃ st, sscan (cs.take k) 0 [] = some st ∧ Stk cs k st
  | 0, _ => ⟨[], by simp [sscan], Stk.nil cs⟩
  | k + 1, hk => by
    obtain ⟨st, h1, h2⟩ := PValid.stk h (k := k) (by omega)
    have h3 := sscan_take (show k < cs.length by omega) h1
    cases hs : sstep st k (cs.getD k default) with
    | none =>
      rw [hs] at h3
      have := sscan_none h3
      rw [h.2.2] at this; cases this
    | some st' => exact ⟨st', h3.trans hs, h2.step (by omega) hs⟩
end Go.Proofs.Ytkolnakcgjlcgaa

namespace Go.Proofs.Ytkolnakcgjlcgaa

/-- Below a place of the stack lies the stack of that place. -/
theorem stk_drop {cs : List Cd} : ∀ k, k ≤ cs.length → ∀ st, sscan (cs.take k) 0 [] = some st → ∀ i (h : i < st.length), sscan (cs.take st[i].1) 0 [] = some (st.drop (i + 1))
  | 0, _, st, h, i, hi => by
    simp [sscan] at h
    subst h
    simp at hi
  | k + 1, hk, st', h, i, hi => by
    cases hq : sscan (cs.take k) 0 [] with
    | none =>
      have h3 := sscan_append (cs.take k) [cs.getD k default] 0 []
      have : cs.take (k + 1) = cs.take k ++ [cs.getD k default] := by
        rw [List.take_succ_eq_append_getElem (show k < cs.length by omega)]
        simp [List.getD_eq_getElem?_getD, show k < cs.length by omega]
      rw [this, h3, hq] at h
      cases h
    | some st =>
      have ih := stk_drop k (by omega) st hq
      rw [sscan_take (show k < cs.length by omega) hq] at h
      unfold sstep at h
      split at h
      · split at h
        · injection h with h
          subst h
          cases i with
          | zero => simpa using hq
          | succ i => simpa using ih i (by simpa using hi)
        · cases h
      · split at h
        · match st, ih, h with
          | (p, m) :: r, ih, h =>
            simp only at h
            split at h
            · injection h with h
              subst h
              cases i with
              | zero => exact ih 0 (by simp)
              | succ i => exact ih (i + 1) (by simpa using hi)
            · cases h
          | [], _, h => cases h
        · split at h
          · match st, ih, h with
            | x :: r, ih, h =>
              injection h with h
              subst h
              exact ih (i + 1) (by simpa using hi)
            | [], _, h => cases h
          · injection h with h
            subst h
            exact ih i hi
/-- The stack of a place. -/
def stkOf (cs : List Cd) (k : Nat) : List Nat := (((sscan (cs.take k) 0 []).getD []).map (·.1))
theorem stkOf_pos (cs : List Cd) (k : Nat) : stkPos cs k = (stkOf cs k).reverse := rfl
theorem stkOf_end {cs : List Cd} (h : PValid cs) : stkOf cs cs.length = [] := by
  unfold stkOf; rw [List.take_length, h.2.2]; rfl
theorem stkOf_len {cs : List Cd} (h : PValid cs) {k : Nat} (hk : k ≤ cs.length) : (stkOf cs k).length ≤ 3 := by
  obtain ⟨st, h1, h2⟩ := h.stk hk
  unfold stkOf; rw [h1]; simpa using h2.len
theorem stkOf_lt {cs : List Cd} (h : PValid cs) {k : Nat} (hk : k ≤ cs.length) {i : Nat} (hi : i < (stkOf cs k).length) : (stkOf cs k).getD i 0 < k := by
  obtain ⟨st, h1, h2⟩ := h.stk hk
  unfold stkOf at hi ⊢
  rw [h1] at hi ⊢
  simp only [Option.getD_some, List.length_map] at hi ⊢
  have := h2.lt i hi
  simpa [List.getD_eq_getElem?_getD, hi] using this
theorem stkOf_first {cs : List Cd} (h : PValid cs) {k : Nat} (hk : k ≤ cs.length) : aroundAt cs k = if 0 < (stkOf cs k).length then (((stkOf cs k).getD 0 0 : Nat) : Int) else -1 := by
  obtain ⟨st, h1, h2⟩ := h.stk hk
  have ha := h2.around 0
  unfold aroundAt
  rw [ha]
  unfold stkOf
  rw [h1]
  cases st with
  | nil => rfl
  | cons x r => simp
/-- The loops among the first of a stack, the outermost one first. -/
def lpsTo (cs : List Cd) (k : Nat) : Nat → List Nat
  | 0 => []
  | i + 1 => if (cs.getD ((stkOf cs k).getD i 0) default).op = 13 then (stkOf cs k).getD i 0 :: lpsTo cs k i else lpsTo cs k i
def lps (cs : List Cd) (k : Nat) : List Nat := lpsTo cs k (stkOf cs k).length
theorem lpsTo_len (cs : List Cd) (k : Nat) : ∀ i, (lpsTo cs k i).length ≤ i
  | 0 => by simp [lpsTo]
  | i + 1 => by
    have := lpsTo_len cs k i
    unfold lpsTo
    split
    · simp; omega
    · omega
theorem lpsTo_lt {cs : List Cd} (h : PValid cs) {k : Nat} (hk : k ≤ cs.length) : ∀ i, i ≤ (stkOf cs k).length → ∀ x ∈ lpsTo cs k i, x < k
  | 0, _, x, hx => by simp [lpsTo] at hx
  | i + 1, hi, x, hx => by
    unfold lpsTo at hx
    split at hx
    · rcases List.mem_cons.1 hx with rfl | hx
      · exact stkOf_lt h hk (by omega)
      · exact lpsTo_lt h hk i (by omega) x hx
    · exact lpsTo_lt h hk i (by omega) x hx

/-- A lane that is valid for a program. -/
structure LaneOk (cs : List Cd) (l : Lx) : Prop where
  p : PValid cs
  n : l.rs.length = 4
  a0 : 0 ≤ l.at_
  a1 : l.at_ ≤ cs.length
  w : ∀ x ∈ l.rs, Word x
  tl : (lps cs l.at_.toNat).length = l.ts.length
  t : ∀ k, k < l.ts.length → 0 ≤ l.ts.getD k 0 ∧ l.ts.getD k 0 ≤ (cs.getD ((lps cs l.at_.toNat).getD k 0) default).b - 1
  b : l.wt = true → 0 < l.at_ ∧ (cs.getD (l.at_.toNat - 1) default).op = 10

end Go.Proofs.Ytkolnakcgjlcgaa

namespace Go.Proofs.Ytkolnakcgjlcgaa
open Go.RowKit

theorem ints_get {w : World} {A : Option Addr} {n c : Nat} {xs : List Int} (h : Ints w (.slice A n c) xs) {k : Nat} (hk : k < xs.length) : ∃ b o, A = some ⟨b, o, none⟩ ∧ b < w.heap.size ∧ ∀ j, j < xs.length → w.cell? ⟨b, o + j, none⟩ = some (.int .i64 (xs.getD j 0)) := by
  obtain ⟨A', c', hv, _, _, hrd⟩ := h
  cases hv
  obtain ⟨b, o, h1, h2, h3⟩ := hrd (by omega)
  exact ⟨b, o, h1, h2, fun j hj => h3 j (by omega)⟩

set_option maxHeartbeats 400000 in
theorem sameInts_same (v v' : Value) (xs : List Int) (w : World) (h : Ints w v xs) (h' : Ints w v' xs) (hl : xs.length ≤ 1048576) :
    Calls Try.prog 29 #[v, v'] w fun e w' => e = .returned (.bool true) ∧ Pure w w' := by
  have HF := Lib.hid h
  have HF' := Lib.hid h'
  obtain ⟨A, c, rfl⟩ := h.form
  obtain ⟨A', c', rfl⟩ := h'.form
  clear h h'
  have hd : ((xs.length : Int) != xs.length) = false := by simp
  go_enter Try.func29, Try.ntmps29
  go_wp2
  go_loopg [5] xs.length (fun gk i wr => ∃ k : Nat, gk + k = xs.length ∧ i = .int .i64 k ∧ Pure w wr)
  case atStart => exact ⟨0, rfl, rfl, Pure.refl _⟩
  case round =>
    obtain ⟨k, hgk, rfl, hp⟩ := hrel
    have Hgk := Lib.hid hgk
    have hkn : k ≤ xs.length := by omega
    clear hgk
    by_cases hlt : k < xs.length
    · obtain ⟨b, o, rfl, hb, hc⟩ := ints_get HF.out hlt
      obtain ⟨b', o', rfl, hb', hc'⟩ := ints_get HF'.out hlt
      have q0 := (hp.cell b _ hb).trans (hc k hlt)
      have r0 := (hp.cell b' _ hb').trans (hc' k hlt)
      obtain ⟨x, Hx⟩ : ∃ x : Int, Hid (xs.getD k 0 = x) := ⟨_, Lib.hid rfl⟩
      rw [Hx.out] at q0 r0
      have hxx : (x != x) = false := by simp
      clear hc hc'
      go_wp2
      go_quiet (fail)
      go_wp2
      go_roundg (xs.length - (k + 1))
      case measure => have := Hgk.out; omega
      case rel => exact ⟨k + 1, by have := Hgk.out; omega, by go_num, by exact (by repeat (first | assumption | exact Pure.refl _ | refine Pure.drewN ?_ _ | refine Pure.drew ?_ | refine Pure.alloc ?_ _ | refine Pure.setCell ?_ (by simp <;> omega) _))⟩
    · go_wp2
      go_ret
      exact ⟨rfl, hp⟩

end Go.Proofs.Ytkolnakcgjlcgaa

namespace Go.Proofs.Ytkolnakcgjlcgaa
open Go.RowKit

theorem b_no {B : Bool} {P : Prop} (hB : B = true ↔ P) (h : ¬ P) : B = false := by
  cases B
  · rfl
  · exact absurd (hB.1 rfl) h
theorem lpsTo_op {cs : List Cd} {k : Nat} : ∀ i, ∀ x ∈ lpsTo cs k i, (cs.getD x default).op = 13
  | 0, x, hx => by simp [lpsTo] at hx
  | i + 1, x, hx => by
    unfold lpsTo at hx
    split at hx
    · rename_i h
      rcases List.mem_cons.1 hx with rfl | hx
      · exact h
      · exact lpsTo_op i x hx
    · exact lpsTo_op i x hx
theorem lps_in {cs : List Cd} (h : PValid cs) {k : Nat} (hk : k ≤ cs.length) : ∀ j, j < (lps cs k).length → (lps cs k).getD j 0 < cs.length ∧ ∃ a b c, cs.getD ((lps cs k).getD j 0) default = ⟨13, a, b, c⟩ ∧ 0 ≤ b ∧ b ≤ 255 := by
  intro j hj
  have hm : (lps cs k).getD j 0 ∈ lps cs k := by simp [List.getD_eq_getElem?_getD, hj]
  have h1 : (lps cs k).getD j 0 < k := lpsTo_lt h hk _ (Nat.le_refl _) _ hm
  have h2 : (cs.getD ((lps cs k).getD j 0) default).op = 13 := lpsTo_op _ _ hm
  have h3 := h.1 _ (cdOk_mem (show (lps cs k).getD j 0 < cs.length by omega))
  refine ⟨by omega, ?_⟩
  generalize cs.getD ((lps cs k).getD j 0) default = cd at h2 h3
  obtain ⟨op, a, b, c⟩ := cd
  obtain rfl : op = 13 := h2
  unfold CdOk Reg at h3
  simp only at h3
  exact ⟨a, b, c, rfl, by omega, by omega⟩

theorem ints_at {w : World} {A : Option Addr} {n c : Nat} {xs : List Int} (h : Ints w (.slice A n c) xs) {k : Nat} (hk : k < xs.length) : ∃ b o, A = some ⟨b, o, none⟩ ∧ b < w.heap.size ∧ w.cell? ⟨b, o + k, none⟩ = some (.int .i64 (xs.getD k 0)) := by
  obtain ⟨A', c', hv, _, _, h4⟩ := h
  injection hv with e1 e2 e3
  subst e1
  obtain ⟨b, o, rfl, hb, hc⟩ := h4 (by omega)
  exact ⟨b, o, rfl, hb, hc k (by omega)⟩

end Go.Proofs.Ytkolnakcgjlcgaa

namespace Go.Proofs.Ytkolnakcgjlcgaa
open Go.RowKit

/-- The numbers of turns of the loops among places. -/
def lbs (cs : List Cd) (xs : List Nat) : List Int := (xs.filter fun p => decide ((cs.getD p default).op = 13)).map fun p => (cs.getD p default).b
theorem lpsTo_filter {cs : List Cd} {k : Nat} : ∀ i, i ≤ (stkOf cs k).length → lpsTo cs k i = (((stkOf cs k).take i).reverse).filter fun p => decide ((cs.getD p default).op = 13)
  | 0, _ => by simp [lpsTo]
  | i + 1, hi => by
    have ih := lpsTo_filter (cs := cs) (k := k) i (by omega)
    have e : (stkOf cs k).take (i + 1) = (stkOf cs k).take i ++ [(stkOf cs k).getD i 0] := by
      rw [List.take_succ_eq_append_getElem (show i < (stkOf cs k).length by omega)]
      simp [List.getD_eq_getElem?_getD, show i < (stkOf cs k).length by omega]
    rw [e, List.reverse_append, List.reverse_singleton, List.singleton_append]
    unfold lpsTo
    rw [ih, List.filter_cons]
    by_cases h : (cs.getD ((stkOf cs k).getD i 0) default).op = 13
    · rw [if_pos h, if_pos (decide_eq_true h)]
    · rw [if_neg h, if_neg (by rw [decide_eq_true_iff]; exact h)]
theorem lbs_all {cs : List Cd} {k : Nat} : lbs cs (stkPos cs k) = (lps cs k).map fun p => (cs.getD p default).b := by
  unfold lbs lps
  rw [lpsTo_filter _ (Nat.le_refl _), List.take_length, stkOf_pos]
theorem lbs_step {cs : List Cd} {xs : List Nat} {i : Nat} (hi : i < xs.length) : lbs cs (xs.take (i + 1)) = if (cs.getD (xs.getD i 0) default).op = 13 then lbs cs (xs.take i) ++ [(cs.getD (xs.getD i 0) default).b] else lbs cs (xs.take i) := by
  have e : xs.take (i + 1) = xs.take i ++ [xs.getD i 0] := by
    rw [List.take_succ_eq_append_getElem hi]
    simp [List.getD_eq_getElem?_getD, hi]
  unfold lbs
  rw [e, List.filter_append, List.map_append]
  by_cases h : (cs.getD (xs.getD i 0) default).op = 13
  · rw [if_pos h, List.filter_cons, if_pos (decide_eq_true h)]; rfl
  · rw [if_neg h, List.filter_cons, if_neg (by rw [decide_eq_true_iff]; exact h)]; simp
theorem lbs_le {cs : List Cd} {xs : List Nat} : (lbs cs xs).length ≤ xs.length := by
  unfold lbs
  rw [List.length_map]
  exact List.length_filter_le _ _

set_option maxHeartbeats 400000 in
theorem ilnv1_any (x : Int) (w : World) (B : Bool) (hB : B = true ↔ Word x) :
    Calls Try.prog 114 #[.int .i64 x] w fun e w' => e = .returned (.bool (!B)) ∧ w = w' := by
  have HB := Lib.hid hB; clear hB
  go_enter Try.func114, Try.ntmps114
  go_wp2_with fail
  refine (isWord_any _ _ B HB.out).mono ?_
  rintro e w' ⟨rfl, rfl⟩
  go_wp2
  go_ret
  exact ⟨rfl, rfl⟩

set_option maxHeartbeats 1000000 in
set_option maxRecDepth 100000 in
theorem ilnvix_any (v : Value) (mem : List Int) (w : World) (h : Ints w v mem) (hsmall : mem.length ≤ 1099511627776) :
    Calls Try.prog 125 #[v, .func (.func 114) #[] #[]] w fun e w' => ∃ r, e = .returned (.int .i64 r) ∧ memBadAt mem 0 r ∧ Pure w w' := by
  obtain ⟨A, c, rfl, hnc, hcm, hread⟩ := h
  have HRD := Lib.hid hread
  clear hread
  go_enter Try.func125, Try.ntmps125
  go_wp2
  go_loopg [8] mem.length (fun gk i wr => ∃ k : Nat, gk + k = mem.length ∧ i = .int .i64 k ∧ Pure w wr ∧ ∀ j, j < k → Word (mem.getD j 0))
  case atStart => exact ⟨0, rfl, rfl, Pure.refl _, fun j hj => absurd hj (by omega)⟩
  case round =>
    obtain ⟨k, hgk, rfl, hp, hall⟩ := hrel
    have Hgk := Lib.hid hgk
    have Hall := Lib.hid hall
    have hkn : k ≤ mem.length := by omega
    clear hgk hall
    by_cases hlt : k < mem.length
    · obtain ⟨b, o, rfl, hb, hc⟩ := HRD.out (by omega)
      obtain ⟨x, Hx⟩ : ∃ x, Hid (mem.getD k 0 = x) := ⟨_, rfl⟩
      have hx := (hp.cell b (o + k) hb).trans (hc k (by omega))
      try simp only [Nat.mod_one, Nat.div_one] at hx
      rw [Hx.out] at hx
      clear hc
      by_cases hok : Word x
      · have Hok := Lib.hid hok; clear hok
        have Hnext : Hid (∀ j, j < k + 1 → Word (mem.getD j 0)) := Lib.hid fun j hj => by
          by_cases e : j = k
          · rw [e, Hx.out]; exact Hok.out
          · exact Hall.out j (by omega)
        go_wp2_with fail
        refine (ilnv1_any x _ true (by simp [Hok.out])).mono ?_
        rintro e w1 ⟨rfl, rfl⟩
        go_wp2
        go_roundg (mem.length - (k + 1))
        case measure => have := Hgk.out; omega
        case rel => exact ⟨k + 1, by have := Hgk.out; omega, by go_num, hp, Hnext.out⟩
      · have Hok := Lib.hid hok; clear hok
        have Hbad : Hid (memBadAt mem 0 (k : Nat)) := Lib.hid (.inl ⟨k, hlt, rfl, by rw [Hx.out]; exact Hok.out⟩)
        go_wp2_with fail
        refine (ilnv1_any x _ false (by simp [Hok.out])).mono ?_
        rintro e w1 ⟨rfl, rfl⟩
        go_wp2
        go_ret
        exact ⟨_, rfl, Hbad.out, hp⟩
    · have hw : Hid (memBadAt mem 0 (-1)) := Lib.hid (.inr ⟨rfl, fun j hj => Hall.out j (by omega)⟩)
      go_wp2
      go_ret
      exact ⟨_, rfl, hw.out, hp⟩

set_option maxHeartbeats 1000000 in
set_option maxRecDepth 100000 in
theorem ilnvcf_any (v : Value) (mem : List Int) (w : World) (h : Ints w v mem) (hsmall : mem.length ≤ 1099511627776) (B : Bool) (hB : B = true ↔ ∀ x ∈ mem, Word x) :
    Calls Try.prog 113 #[v, .func (.func 114) #[] #[]] w fun e w' => e = .returned (.bool (!B)) ∧ Pure w w' := by
  have H := Lib.hid h
  have HB := Lib.hid hB
  obtain ⟨A, c, rfl⟩ := h.form
  clear h hB
  go_enter Try.func113, Try.ntmps113
  go_wp2_with fail
  refine (ilnvix_any _ mem _ H.out hsmall).mono ?_
  rintro e w1 ⟨r, rfl, hr, hp⟩
  rcases hr with ⟨j, hj, rfl, hbad⟩ | ⟨rfl, hall⟩
  · have hf : B = false := by
      cases hb : B
      · rfl
      · exact absurd (HB.out.1 hb _ (getD_mem hj)) hbad
    subst hf
    clear hbad
    go_wp2
    go_ret
    exact ⟨rfl, hp⟩
  · have ht : B = true := HB.out.2 (words_of hall)
    subst ht
    clear hall
    go_wp2
    go_ret
    exact ⟨rfl, hp⟩

end Go.Proofs.Ytkolnakcgjlcgaa
