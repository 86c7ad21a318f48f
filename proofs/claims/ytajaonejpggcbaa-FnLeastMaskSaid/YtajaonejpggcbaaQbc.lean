/- The reference's copy of a lane: new registers, new turns. No condition. -/
import Derived.StillTailTactics
import Derived.Test.YtajaonejpggcbaaQaj
import Derived.Test.YtajaonejpggcbaaQbb

namespace Go.Proofs.Ytajaonejpggcbaa
open Go.RowKit

/-- A lane as a value: its registers and its turns lie in vr and vt. -/
def lnV (vr vt : Value) (l : Ln) : Value := .agg #[vr, .int .i64 (l.at_ : Nat), vt, .bool l.W]
def regL (l : Ln) : List Value := (row4 l.R).toList
def trnL (l : Ln) : List Value := l.T.map (.int .i64)
/-- A lane in blocks of one's own. -/
abbrev LnO (w0 w : World) (B : Nat) (vr vt : Value) (l : Ln) : Prop := Two w0 w B 3 1 vr 4 (regL l) vt l.T.length (trnL l)
/-- A lane that can be read. -/
def LnR (w : World) (vr vt : Value) (l : Ln) : Prop := Cells w vr 4 1 (fun j => .int .i64 (l.R j)) ∧ Cells w vt l.T.length 1 (fun j => .int .i64 (l.T.getD j 0))
theorem LnR.keep {w w' : World} {vr vt : Value} {l : Ln} (h : LnR w vr vt l) (hp : Pure w w') : LnR w' vr vt l := ⟨h.1.keep hp, h.2.keep hp⟩
theorem LnO.read {w0 w : World} {B : Nat} {vr vt : Value} {l : Ln} (h : LnO w0 w B vr vt l) : LnR w vr vt l :=
  ⟨Cells.of_ownO (OwnO.of_own h.l) (fun j hj => by
      have : j = 0 ∨ j = 1 ∨ j = 2 ∨ j = 3 := by omega
      rcases this with rfl | rfl | rfl | rfl <;> rfl),
   Cells.of_ownO (OwnO.of_own h.r) (fun j hj => by
      have : j < l.T.length := by omega
      simp [trnL, List.getD_eq_getElem?_getD, this])⟩
theorem regL_range (l : Ln) : (List.range (4 * 1)).map (fun j => Value.int .i64 (l.R j)) = regL l := rfl
theorem trnL_range (l : Ln) : (List.range (l.T.length * 1)).map (fun j => Value.int .i64 (l.T.getD j 0)) = trnL l := by
  refine List.ext_getElem (by simp [trnL]) fun j h1 h2 => ?_
  have : j < l.T.length := by simpa using h1
  simp [trnL, List.getD_eq_getElem?_getD, this]
def CopyP (l : Ln) (w : World) (e : Ending) (w' : World) : Prop := ∃ vr vt, e = .returned (lnV vr vt l) ∧ LnO w w' w.heap.size vr vt l

theorem own_base {w : World} {B B' e s n : Nat} {v : Value} {xs : List Value} (h : w.ownsRow B e s v n xs) (hB : B' ≤ B) : w.ownsRow B' e s v n xs := by
  refine ⟨h.1, ?_⟩
  rcases h.2 with q | ⟨g, cap, cur, rfl, q1, q2, q3⟩
  · exact .inl q
  · exact .inr ⟨g, cap, cur, rfl, Nat.le_trans hB q1, q2, q3⟩
theorem copy_end {w wb wf wz : World} {vr vt : Value} {l : Ln} (hp : Pure w wb) (hs : wb.heap.size = w.heap.size + 2) (h : LnO wb wf wb.heap.size vr vt l) (hc : Chg (fun b => b = w.heap.size + 1) wf wz) : LnO w wz w.heap.size vr vt l :=
  ⟨Chg.pure (hp.trans h.pure) hc (fun k hk => by omega), own_base (own_chg h.l hc (fun g hg e => by have := (own_lt h.l g hg).1; omega)) (by omega), own_base (own_chg h.r hc (fun g hg e => by have := (own_lt h.r g hg).1; omega)) (by omega), h.ne⟩

set_option maxHeartbeats 4000000 in
set_option maxRecDepth 100000 in
theorem l6copy_any (vr vt : Value) (l : Ln) (w : World) (h : LnR w vr vt l) (hT : l.T.length ≤ 1048576) : Calls Try.prog 127 #[lnV vr vt l] w (CopyP l w) := by
  obtain ⟨HR0, HT0⟩ := h
  have HR := Lib.hid HR0
  have HT := Lib.hid HT0
  obtain ⟨Ar, cr, rfl, -⟩ := HR0
  obtain ⟨At, ct, rfl, -⟩ := HT0
  obtain ⟨R, at_, T, W⟩ := l
  obtain ⟨wb, hwb⟩ : ∃ wb, wb = (w.alloc (.cells #[.slice Ar 4 cr, .int .i64 (at_ : Nat), .slice At T.length ct, .bool W] 55)).alloc (.cells #[.slice none 0 0, .int .i64 0, .slice none 0 0, .bool false] 55) := ⟨_, rfl⟩
  have hx := heap_alloc_new w (.cells #[.slice Ar 4 cr, .int .i64 (at_ : Nat), .slice At T.length ct, .bool W] 55)
  have hp0 : Pure (w.alloc (.cells #[.slice Ar 4 cr, .int .i64 (at_ : Nat), .slice At T.length ct, .bool W] 55)) wb := by rw [hwb]; exact (by repeat (first | assumption | exact Pure.refl _ | refine Pure.drewN ?_ _ | refine Pure.drew ?_ | refine Pure.alloc ?_ _ | refine Pure.setCell ?_ (by simp <;> omega) _))
  have hbx := (Chg.of_pure (S := fun _ => False) hp0).heap hx id
  have hpb : Pure w wb := by rw [hwb]; exact (by repeat (first | assumption | exact Pure.refl _ | refine Pure.drewN ?_ _ | refine Pure.drew ?_ | refine Pure.alloc ?_ _ | refine Pure.setCell ?_ (by simp <;> omega) _))
  have hsz : wb.heap.size = w.heap.size + 2 := by rw [hwb]; simp
  have hrs : wb.heap[w.heap.size + 1]? = some (.cells #[.slice none 0 0, .int .i64 0, .slice none 0 0, .bool false] 55 (0, 0)) := by
    rw [hwb]
    have := heap_alloc_new (w.alloc (.cells #[.slice Ar 4 cr, .int .i64 (at_ : Nat), .slice At T.length ct, .bool W] 55)) (.cells #[.slice none 0 0, .int .i64 0, .slice none 0 0, .bool false] 55)
    simpa using this
  have HRS := Lib.hid hrs
  have hlt : w.heap.size < wb.heap.size := by omega
  have q0 := (cell_of_row _ _ 0 _ _ _ hbx).trans (show _ = some (Value.slice Ar 4 cr) from rfl)
  have q1 := (cell_of_row _ _ 1 _ _ _ hbx).trans (show _ = some (Value.int .i64 (at_ : Nat)) from rfl)
  have q2 := (cell_of_row _ _ 2 _ _ _ hbx).trans (show _ = some (Value.slice At T.length ct) from rfl)
  have q3 := (cell_of_row _ _ 3 _ _ _ hbx).trans (show _ = some (Value.bool W) from rfl)
  have HS : Hid (∀ u, Pure wb u → u.cell? ⟨w.heap.size, 0, none⟩ = some (.slice Ar 4 cr) ∧ u.cell? ⟨w.heap.size, 1, none⟩ = some (.int .i64 (at_ : Nat)) ∧ u.cell? ⟨w.heap.size, 2, none⟩ = some (.slice At T.length ct) ∧ u.cell? ⟨w.heap.size, 3, none⟩ = some (.bool W)) :=
    Lib.hid fun u hu => ⟨(hu.cell _ _ hlt).trans q0, (hu.cell _ _ hlt).trans q1, (hu.cell _ _ hlt).trans q2, (hu.cell _ _ hlt).trans q3⟩
  have HPB := Lib.hid hpb
  have HRb : ∀ u, Pure wb u → Cells u (.slice Ar 4 cr) 4 1 (fun j => .int .i64 (R j)) := fun u hu => HR.out.keep (HPB.out.trans hu)
  have HTb : ∀ u, Pure wb u → Cells u (.slice At T.length ct) T.length 1 (fun j => .int .i64 (T.getD j 0)) := fun u hu => HT.out.keep (HPB.out.trans hu)
  have HRB := Lib.hid HRb
  have HTB := Lib.hid HTb
  clear hx hp0 hbx hrs q0 q1 q2 q3 HRb HTb hpb
  simp only at hT
  go_enter Try.func127, Try.ntmps127
  unfold lnV
  go_wp2
  try rw [← hwb]
  clear hwb
  refine region_way (fun u => u.cell? ⟨w.heap.size, 0, none⟩ = some (.slice Ar 4 cr) ∧ u.cell? ⟨w.heap.size, 1, none⟩ = some (.int .i64 (at_ : Nat)) ∧ u.cell? ⟨w.heap.size, 2, none⟩ = some (.slice At T.length ct) ∧ u.cell? ⟨w.heap.size, 3, none⟩ = some (.bool W)) [1, 2, 4, 5, 7, 8, 10, 11] 6 13 (fun l => (l.drop 1).take 2 ++ (l.drop 4).take 2 ++ (l.drop 7).take 2 ++ (l.drop 10).take 2) (by kernel_rfl) (by kernel_rfl) (by kernel_rfl) (fun c a d v w h => by cases d <;> exact h) (HS.out _ (show Pure wb wb.drew from (by repeat (first | assumption | exact Pure.refl _ | refine Pure.drewN ?_ _ | refine Pure.drew ?_ | refine Pure.alloc ?_ _ | refine Pure.setCell ?_ (by simp <;> omega) _)))) ?_
  simp only [List.take_succ_cons, List.take_zero, List.drop_succ_cons, List.drop_zero, List.cons_append, List.nil_append]
  iterate 8
    apply held_of
    · exact rfl
    · intro w' hS
      have s0 := hS.1
      have s1 := hS.2.1
      have s2 := hS.2.2.1
      have s3 := hS.2.2.2
      go_simp
      try exact rfl
    try go_simp
  refine held_nil ?_
  obtain ⟨wd, hwd⟩ : ∃ wd, wd = wb.drew := ⟨_, rfl⟩
  have hpd : Pure wb wd := by rw [hwd]; exact (by repeat (first | assumption | exact Pure.refl _ | refine Pure.drewN ?_ _ | refine Pure.drew ?_ | refine Pure.alloc ?_ _ | refine Pure.setCell ?_ (by simp <;> omega) _))
  have HPD := Lib.hid (HPB.out.trans hpd)
  have HSZ : Hid (wd.heap.size = w.heap.size + 2) := Lib.hid (by rw [hwd]; simpa using hsz)
  have HRSD := Lib.hid ((Chg.of_pure (S := fun _ => False) hpd).heap HRS.out id)
  have HSD := Lib.hid (fun u (hu : Pure wd u) => HS.out u (hpd.trans hu))
  have HRD := Lib.hid (fun u (hu : Pure wd u) => HRB.out u (hpd.trans hu))
  have HTD := Lib.hid (fun u (hu : Pure wd u) => HTB.out u (hpd.trans hu))
  rw [← hwd]
  clear hwd hpd HS HRB HTB HRS HPB hsz hlt wb
  refine anyK_two (i := 0) (j := 6) (by kernel_rfl) rfl rfl ?_ ?_
  · skip
    go_wp2
    have HO := Lib.hid (own_empty (w := wd) (B := wd.heap.size) (e := 3) (s := 1) (Nat.le_refl _))
    have HP := Lib.hid (show Pure wd (wd.alloc (.cells #[] 3)) from (by repeat (first | assumption | exact Pure.refl _ | refine Pure.drewN ?_ _ | refine Pure.drew ?_ | refine Pure.alloc ?_ _ | refine Pure.setCell ?_ (by simp <;> omega) _)))
    refine And.intro (fun _ => HSD.out _ HP.out) ?_
    refine anyK_two (i := 3) (j := 6) (by kernel_rfl) rfl rfl ?_ ?_
    · skip
      refine wl_appendR elInt rfl _ _ rfl wd.heap.size _ 0 [] rfl HO.out _ rfl (fun j => .int .i64 (R j)) 4 (HRD.out _ HP.out) (fun j _ => rfl) (by decide) (by omega) HP.out.size ?_
      intro va w1 r1 r2 r3
      have HP := Lib.hid (HP.out.grown r2 (fun k hk => (own_lt HO.out k hk).1))
      rw [regL_range ⟨R, at_, T, W⟩, Nat.zero_add, List.nil_append] at r1; obtain ⟨ga, ca, rfl, -⟩ := own_form r1 (by omega)
      have HO : Hid (w1.ownsRow wd.heap.size 3 1 (.slice (some ⟨ga, 0, none⟩) 4 ca) 4 (regL ⟨R, at_, T, W⟩)) := Lib.hid (r1)
      clear r1 r2 r3
      go_wp2
      refine And.intro (fun _ => HSD.out _ HP.out) ?_
      refine anyK_one (i := 6) (by kernel_rfl) rfl ?_
      go_wp2
      have HX := Lib.hid (Two.first HP.out HO.out HP.out.size)
      refine And.intro (fun _ => HSD.out _ HX.out.pure) ?_
      refine anyK_one (i := 9) (by kernel_rfl) rfl ?_
      refine wl_appendR elInt rfl _ _ rfl wd.heap.size _ 0 [] rfl HX.out.r _ rfl (fun j => .int .i64 (T.getD j 0)) T.length (HTD.out _ HX.out.pure) (fun j _ => rfl) (by decide) (by omega) HX.out.pure.size ?_
      intro vt w3 r1 r2 r3
      rw [trnL_range ⟨R, at_, T, W⟩, Nat.zero_add, List.nil_append] at r1; obtain ⟨Ta, cta, rfl⟩ := (OwnO.of_own (show _ from r1)).form
      have HX := Lib.hid (HX.out.right (Nat.le_refl _) (show w3.ownsRow wd.heap.size 3 1 (.slice Ta T.length cta) T.length (trnL ⟨R, at_, T, W⟩) from r1) r2 r3)
      clear r1 r2 r3
      go_wp2
      refine And.intro (fun _ => HSD.out _ HX.out.pure) ?_
      refine anyK_one (i := 12) (by kernel_rfl) rfl ?_
      go_wp2
      refine And.intro (fun _ => HSD.out _ HX.out.pure) ?_
      refine anyK_one (i := 13) (by kernel_rfl) rfl ?_
      have hres := (Chg.of_pure (S := fun _ => False) HX.out.pure).heap HRSD.out id
      have k0 := cell_of_row _ _ 0 _ _ _ hres
      have k1 := cell_of_row _ _ 1 _ _ _ hres
      have k2 := cell_of_row _ _ 2 _ _ _ hres
      have k3 := cell_of_row _ _ 3 _ _ _ hres
      simp only [List.getElem?_toArray, List.getElem?_cons_zero, List.getElem?_cons_succ] at k0 k1 k2 k3
      have kf := fun j => frozen_of_row _ _ j _ _ hres
      have kf0 := kf 0
      have kf1 := kf 1
      have kf2 := kf 2
      have kf3 := kf 3
      clear hres kf
      go_wp2
      refine And.intro (by first | exact fun h => absurd rfl h | exact fun h => h.elim | simp) ?_
      refine anyK_end (by kernel_rfl) ?_
      go_wp2
      refine bodyPost_ret (v := lnV (.slice (some ⟨ga, 0, none⟩) 4 ca) (.slice Ta T.length cta) ⟨R, at_, T, W⟩) (by simp [results, Try.results127, lnV, go_sem, k0, k1, k2, k3]) rfl ?_
      have hcw : ∀ (u : World) (i : Nat) (x : Value), Chg (fun b => b = w.heap.size + 1) u (u.setCell ⟨w.heap.size + 1, i, none⟩ x) := fun u i x => Chg.of_set u _ _ _ rfl
      exact ⟨_, _, rfl, copy_end HPD.out HSZ.out HX.out ((((hcw _ _ _).trans (hcw _ _ _)).trans (hcw _ _ _)).trans (hcw _ _ _))⟩
    · skip
      go_wp2
      have HX := Lib.hid (Two.first HP.out HO.out HP.out.size)
      have h := HX.out
      rw [show (wd.alloc (.cells #[] 3)).heap.size = wd.heap.size + 1 from by simp] at h
      have HX := Lib.hid h
      clear h
      refine And.intro (fun _ => HSD.out _ HX.out.pure) ?_
      refine anyK_one (i := 3) (by kernel_rfl) rfl ?_
      refine wl_appendR elInt rfl _ _ rfl wd.heap.size _ 0 [] rfl HX.out.l _ rfl (fun j => .int .i64 (R j)) 4 (HRD.out _ HX.out.pure) (fun j _ => rfl) (by decide) (by omega) HX.out.pure.size ?_
      intro va w2 r1 r2 r3
      rw [regL_range ⟨R, at_, T, W⟩, Nat.zero_add, List.nil_append] at r1; obtain ⟨ga, ca, rfl, -⟩ := own_form r1 (by omega)
      have HX := Lib.hid (HX.out.left (Nat.le_refl _) (show w2.ownsRow wd.heap.size 3 1 (.slice (some ⟨ga, 0, none⟩) 4 ca) 4 (regL ⟨R, at_, T, W⟩) from r1) r2 r3)
      clear r1 r2 r3
      go_wp2
      refine And.intro (fun _ => HSD.out _ HX.out.pure) ?_
      refine anyK_one (i := 9) (by kernel_rfl) rfl ?_
      refine wl_appendR elInt rfl _ _ rfl wd.heap.size _ 0 [] rfl HX.out.r _ rfl (fun j => .int .i64 (T.getD j 0)) T.length (HTD.out _ HX.out.pure) (fun j _ => rfl) (by decide) (by omega) HX.out.pure.size ?_
      intro vt w3 r1 r2 r3
      rw [trnL_range ⟨R, at_, T, W⟩, Nat.zero_add, List.nil_append] at r1; obtain ⟨Ta, cta, rfl⟩ := (OwnO.of_own (show _ from r1)).form
      have HX := Lib.hid (HX.out.right (Nat.le_refl _) (show w3.ownsRow wd.heap.size 3 1 (.slice Ta T.length cta) T.length (trnL ⟨R, at_, T, W⟩) from r1) r2 r3)
      clear r1 r2 r3
      go_wp2
      refine And.intro (fun _ => HSD.out _ HX.out.pure) ?_
      refine anyK_one (i := 12) (by kernel_rfl) rfl ?_
      go_wp2
      refine And.intro (fun _ => HSD.out _ HX.out.pure) ?_
      refine anyK_one (i := 13) (by kernel_rfl) rfl ?_
      have hres := (Chg.of_pure (S := fun _ => False) HX.out.pure).heap HRSD.out id
      have k0 := cell_of_row _ _ 0 _ _ _ hres
      have k1 := cell_of_row _ _ 1 _ _ _ hres
      have k2 := cell_of_row _ _ 2 _ _ _ hres
      have k3 := cell_of_row _ _ 3 _ _ _ hres
      simp only [List.getElem?_toArray, List.getElem?_cons_zero, List.getElem?_cons_succ] at k0 k1 k2 k3
      have kf := fun j => frozen_of_row _ _ j _ _ hres
      have kf0 := kf 0
      have kf1 := kf 1
      have kf2 := kf 2
      have kf3 := kf 3
      clear hres kf
      go_wp2
      refine And.intro (by first | exact fun h => absurd rfl h | exact fun h => h.elim | simp) ?_
      refine anyK_end (by kernel_rfl) ?_
      go_wp2
      refine bodyPost_ret (v := lnV (.slice (some ⟨ga, 0, none⟩) 4 ca) (.slice Ta T.length cta) ⟨R, at_, T, W⟩) (by simp [results, Try.results127, lnV, go_sem, k0, k1, k2, k3]) rfl ?_
      have hcw : ∀ (u : World) (i : Nat) (x : Value), Chg (fun b => b = w.heap.size + 1) u (u.setCell ⟨w.heap.size + 1, i, none⟩ x) := fun u i x => Chg.of_set u _ _ _ rfl
      exact ⟨_, _, rfl, copy_end HPD.out HSZ.out HX.out ((((hcw _ _ _).trans (hcw _ _ _)).trans (hcw _ _ _)).trans (hcw _ _ _))⟩
  · skip
    go_wp2
    have HO := Lib.hid (own_empty (w := wd) (B := wd.heap.size) (e := 3) (s := 1) (Nat.le_refl _))
    have HP := Lib.hid (show Pure wd (wd.alloc (.cells #[] 3)) from (by repeat (first | assumption | exact Pure.refl _ | refine Pure.drewN ?_ _ | refine Pure.drew ?_ | refine Pure.alloc ?_ _ | refine Pure.setCell ?_ (by simp <;> omega) _)))
    refine And.intro (fun _ => HSD.out _ HP.out) ?_
    refine anyK_one (i := 0) (by kernel_rfl) rfl ?_
    go_wp2
    have HX := Lib.hid (Two.first HP.out HO.out HP.out.size)
    have h := HX.out
    rw [show (wd.alloc (.cells #[] 3)).heap.size = wd.heap.size + 1 from by simp] at h
    have HX := Lib.hid h
    clear h
    have HX := Lib.hid HX.out.swap
    refine And.intro (fun _ => HSD.out _ HX.out.pure) ?_
    refine anyK_one (i := 3) (by kernel_rfl) rfl ?_
    refine wl_appendR elInt rfl _ _ rfl wd.heap.size _ 0 [] rfl HX.out.l _ rfl (fun j => .int .i64 (R j)) 4 (HRD.out _ HX.out.pure) (fun j _ => rfl) (by decide) (by omega) HX.out.pure.size ?_
    intro va w2 r1 r2 r3
    rw [regL_range ⟨R, at_, T, W⟩, Nat.zero_add, List.nil_append] at r1; obtain ⟨ga, ca, rfl, -⟩ := own_form r1 (by omega)
    have HX := Lib.hid (HX.out.left (Nat.le_refl _) (show w2.ownsRow wd.heap.size 3 1 (.slice (some ⟨ga, 0, none⟩) 4 ca) 4 (regL ⟨R, at_, T, W⟩) from r1) r2 r3)
    clear r1 r2 r3
    go_wp2
    refine And.intro (fun _ => HSD.out _ HX.out.pure) ?_
    refine anyK_one (i := 9) (by kernel_rfl) rfl ?_
    refine wl_appendR elInt rfl _ _ rfl wd.heap.size _ 0 [] rfl HX.out.r _ rfl (fun j => .int .i64 (T.getD j 0)) T.length (HTD.out _ HX.out.pure) (fun j _ => rfl) (by decide) (by omega) HX.out.pure.size ?_
    intro vt w3 r1 r2 r3
    rw [trnL_range ⟨R, at_, T, W⟩, Nat.zero_add, List.nil_append] at r1; obtain ⟨Ta, cta, rfl⟩ := (OwnO.of_own (show _ from r1)).form
    have HX := Lib.hid (HX.out.right (Nat.le_refl _) (show w3.ownsRow wd.heap.size 3 1 (.slice Ta T.length cta) T.length (trnL ⟨R, at_, T, W⟩) from r1) r2 r3)
    clear r1 r2 r3
    go_wp2
    refine And.intro (fun _ => HSD.out _ HX.out.pure) ?_
    refine anyK_one (i := 12) (by kernel_rfl) rfl ?_
    go_wp2
    refine And.intro (fun _ => HSD.out _ HX.out.pure) ?_
    refine anyK_one (i := 13) (by kernel_rfl) rfl ?_
    have hres := (Chg.of_pure (S := fun _ => False) HX.out.pure).heap HRSD.out id
    have k0 := cell_of_row _ _ 0 _ _ _ hres
    have k1 := cell_of_row _ _ 1 _ _ _ hres
    have k2 := cell_of_row _ _ 2 _ _ _ hres
    have k3 := cell_of_row _ _ 3 _ _ _ hres
    simp only [List.getElem?_toArray, List.getElem?_cons_zero, List.getElem?_cons_succ] at k0 k1 k2 k3
    have kf := fun j => frozen_of_row _ _ j _ _ hres
    have kf0 := kf 0
    have kf1 := kf 1
    have kf2 := kf 2
    have kf3 := kf 3
    clear hres kf
    go_wp2
    refine And.intro (by first | exact fun h => absurd rfl h | exact fun h => h.elim | simp) ?_
    refine anyK_end (by kernel_rfl) ?_
    go_wp2
    refine bodyPost_ret (v := lnV (.slice (some ⟨ga, 0, none⟩) 4 ca) (.slice Ta T.length cta) ⟨R, at_, T, W⟩) (by simp [results, Try.results127, lnV, go_sem, k0, k1, k2, k3]) rfl ?_
    have hcw : ∀ (u : World) (i : Nat) (x : Value), Chg (fun b => b = w.heap.size + 1) u (u.setCell ⟨w.heap.size + 1, i, none⟩ x) := fun u i x => Chg.of_set u _ _ _ rfl
    exact ⟨_, _, rfl, copy_end HPD.out HSZ.out HX.out ((((hcw _ _ _).trans (hcw _ _ _)).trans (hcw _ _ _)).trans (hcw _ _ _))⟩

end Go.Proofs.Ytajaonejpggcbaa
