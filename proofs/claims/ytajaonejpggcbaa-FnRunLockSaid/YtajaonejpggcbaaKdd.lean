/- The reference's list of accesses, and the contracts of LockAccesses. Accesses that clash; whether a list of accesses has a race, as the reference and the program tell it. Whether a run has races, whether it is safe, and why not: the contracts of the reference's functions and of the program's. No condition. -/
import Derived.Test.YtajaonejpggcbaaKbe
import Derived.Test.YtajaonejpggcbaaKbf
import Derived.Test.YtajaonejpggcbaaKdc

namespace Go.Proofs.Ytajaonejpggcbaa
open Go.RowKit

theorem RM.rebase {o : RMo} {B' : Nat} {w : World} {R : Nat → Nat → Int} {M : Nat → Int} (h : RM o w R M) (hB : B' ≤ o.B) : RM { o with B := B' } w R M :=
  ⟨h.n8, h.m1, h.m32, h.cr1, h.cr2, Nat.le_trans hB h.lo, h.outer, fun k hk => Nat.le_trans hB (h.rlo k hk), h.row, h.inj, h.mem.base' hB, h.ne⟩

set_option maxHeartbeats 4000000 in
set_option maxRecDepth 100000 in
theorem slist_any (vl vm : Value) (cs : List Cd) (n : Nat) (mem : List Int) (w : World) (h : Codes w vl cs) (hm : Ints w vm mem) (hv : PValid cs) (hn1 : 1 ≤ n) (hn8 : n ≤ 8) (hmem : MemOk mem) :
    Calls Try.prog 149 #[vl, .int .i64 n, vm] w (fun e w' => ∃ v, e = .returned v ∧ OwnO w' w.heap.size 161 4 v (lockOf cs n mem).A.length (accsL (lockOf cs n mem).A) ∧ Pure w w') := by
  have H := Lib.hid h
  have HM := Lib.hid hm
  have HV := Lib.hid hv
  have HMEM := Lib.hid hmem
  obtain ⟨⟨hm1, hm32⟩, _⟩ := hmem
  obtain ⟨A, c, rfl, hnc, hcm⟩ := h.form
  obtain ⟨Am, cm, rfl, hmc, hmcm, _⟩ := hm
  clear h hv
  have HPA := Lib.hid (show Pure w ((w.alloc (.cells #[] 161)).alloc (.cells #[.slice (some ⟨w.heap.size, 0, none⟩) 0 0] 95)) from (by repeat (first | assumption | exact Pure.refl _ | refine Pure.drewN ?_ _ | refine Pure.drew ?_ | refine Pure.alloc ?_ _ | refine Pure.setCell ?_ (by simp <;> omega) _)))
  have HMA := Lib.hid (Cells.keep HM.out HPA.out)
  have HQA : Hid (((w.alloc (.cells #[] 161)).alloc (.cells #[.slice (some ⟨w.heap.size, 0, none⟩) 0 0] 95)).heap[w.heap.size + 1]? = some (.cells #[.slice (some ⟨w.heap.size, 0, none⟩) 0 0] 95 (0, 0))) := Lib.hid (by
    have := heap_alloc_new (w.alloc (.cells #[] 161)) (.cells #[.slice (some ⟨w.heap.size, 0, none⟩) 0 0] 95)
    simpa using this)
  have hsA : ((w.alloc (.cells #[] 161)).alloc (.cells #[.slice (some ⟨w.heap.size, 0, none⟩) 0 0] 95)).heap.size = w.heap.size + 2 := by simp
  have HSA := Lib.hid hsA
  have HAC : Hid (OwnO ((w.alloc (.cells #[] 161)).alloc (.cells #[.slice (some ⟨w.heap.size, 0, none⟩) 0 0] 95)) w.heap.size 161 4 (.slice (some ⟨w.heap.size, 0, none⟩) 0 0) 0 []) := Lib.hid ((OwnO.empty_lit (Nat.le_refl _)).pure (by exact (by repeat (first | assumption | exact Pure.refl _ | refine Pure.drewN ?_ _ | refine Pure.drew ?_ | refine Pure.alloc ?_ _ | refine Pure.setCell ?_ (by simp <;> omega) _))))
  clear hsA
  go_enter Try.func149, Try.ntmps149
  go_wp2_with (at_builtin; go_must (refine wl_copyR elInt rfl _ _ rfl (w.heap.size + 1 + 1) rfl _ rfl _ mem.length HMA.out (fun j _ => rfl) (by decide) (by omega) (by omega) ?_); intro vm' wq hown hp; go_must (obtain ⟨gm, cmm, hvm, hgm1, hgm2, hcm1, hcm2⟩ := own_form hown (by omega); subst hvm; have HOWN := Lib.hid hown; have HP := Lib.hid hp; clear hown hp))
  have HPo : Hid ((wq.alloc (.cells #[.slice A cs.length c, .int .i64 (n : Nat), .slice none 0 0, .slice (some ⟨gm, 0, none⟩) mem.length cmm, .slice none 0 0, .bool false, .slice none 0 0, .bool false] 104)).heap[wq.heap.size]? = some (.cells #[.slice A cs.length c, .int .i64 (n : Nat), .slice none 0 0, .slice (some ⟨gm, 0, none⟩) mem.length cmm, .slice none 0 0, .bool false, .slice none 0 0, .bool false] 104 (0, 0))) := Lib.hid (heap_alloc_new _ _)
  go_loopg [9] n (fun gk i wr => ∃ (j : Nat) (vr : Value) (rows : Nat → Nat), gk + j = n ∧ i = .int .i64 j ∧ Pure ((w.alloc (.cells #[] 161)).alloc (.cells #[.slice (some ⟨w.heap.size, 0, none⟩) 0 0] 95)) wr ∧ RegsB wr ((w.alloc (.cells #[] 161)).alloc (.cells #[.slice (some ⟨w.heap.size, 0, none⟩) 0 0] 95)).heap.size vr j rows ∧
    wr.heap[wq.heap.size]? = some (.cells #[.slice A cs.length c, .int .i64 (n : Nat), vr, .slice (some ⟨gm, 0, none⟩) mem.length cmm, .slice none 0 0, .bool false, .slice none 0 0, .bool false] 104 (0, 0)) ∧
    OwnO wr ((w.alloc (.cells #[] 161)).alloc (.cells #[.slice (some ⟨w.heap.size, 0, none⟩) 0 0] 95)).heap.size 3 1 (.slice (some ⟨gm, 0, none⟩) mem.length cmm) mem.length ((List.range mem.length).map fun j => .int .i64 (mem.getD j 0)) ∧
    (∀ i, i < j → rows i ≠ gm))
  case atStart =>
    refine ⟨0, .slice none 0 0, fun _ => 0, rfl, rfl, HP.out.trans (by exact (by repeat (first | assumption | exact Pure.refl _ | refine Pure.drewN ?_ _ | refine Pure.drew ?_ | refine Pure.alloc ?_ _ | refine Pure.setCell ?_ (by simp <;> omega) _))), ⟨World.ownsRow_nil _ _ _ _, fun i hi => absurd hi (by omega), fun i hi => absurd hi (by omega), fun i k hi => absurd hi (by omega)⟩, HPo.out, (OwnO.of_own HOWN.out).pure (by exact (by repeat (first | assumption | exact Pure.refl _ | refine Pure.drewN ?_ _ | refine Pure.drew ?_ | refine Pure.alloc ?_ _ | refine Pure.setCell ?_ (by simp <;> omega) _))), fun i hi => absurd hi (by omega)⟩
  case round =>
    obtain ⟨j, vr, rows, hgk, rfl, hp, hregs, hobj, hmem, hne⟩ := hrel
    have Hgk := Lib.hid hgk
    have HR := Lib.hid hregs
    have HO := Lib.hid hobj
    have HMe := Lib.hid hmem
    have HNe := Lib.hid hne
    have hjn : j ≤ n := by omega
    have hwr : w.heap.size ≤ wr.heap.size := Nat.le_trans HPA.out.size hp.size
    clear hgk hregs hmem hne HPo
    have p1 := (cell_of_row wr (wq.heap.size) 1 _ _ _ hobj).trans rfl
    have p2 := (cell_of_row wr (wq.heap.size) 2 _ _ _ hobj).trans rfl
    have hpfr := frozen_of_row wr (wq.heap.size) 2 _ _ hobj
    have hplt : wq.heap.size < wr.heap.size := (Array.getElem?_eq_some_iff.1 hobj).1
    clear hobj
    by_cases hlt : j < n
    · go_wp2
      refine region_heldF (fun w' => w'.cell? ⟨wq.heap.size, 2, none⟩ = some vr) (List.range 5) [5, 6, 7, 8, 9, 10] (fun l => List.take 5 l) (fun l => List.drop 5 l) (by kernel_rfl) (by kernel_rfl) (by kernel_rfl) (by kernel_rfl) (fun c a d v w h => by cases d <;> exact h) (by exact p2) ?_
      simp only [List.take_succ_cons, List.take_zero, List.drop_succ_cons, List.drop_zero]
      iterate 5
        apply held_of
        · exact rfl
        · intro w' hS
          go_simp
          try exact rfl
        try go_simp
      refine held_nil ?_
      unfold Tail
      refine wl_make elInt rfl _ _ rfl ((w.alloc (.cells #[] 161)).alloc (.cells #[.slice (some ⟨w.heap.size, 0, none⟩) 0 0] 95)).heap.size _ _ _ _ 4 rfl rfl rfl rfl (by decide) (by decide) hp.size ?_
      intro w4 hown4 hp4 hsz4
      have HZ4 := Lib.hid (own_zero4 hown4)
      have HP4 := Lib.hid ((show Pure wr wr.drew from Pure.drew (Pure.refl _)).trans hp4)
      have z2 := (HP4.out.cell _ _ hplt).trans p2
      have hplt4 := Nat.lt_of_lt_of_le hplt HP4.out.size
      clear hown4 hp4
      go_wp2
      refine And.intro z2 ?_
      unfold Tail
      go_wp2
      refine And.intro (keepPc (by exact (by repeat (first | assumption | exact Pure.refl _ | refine Pure.drewN ?_ _ | refine Pure.drew ?_ | refine Pure.alloc ?_ _ | refine Pure.setCell ?_ (by simp <;> omega) _))) z2) ?_
      unfold Tail
      have hgx := heap_alloc_new w4 (.cells #[.slice (some ⟨wr.heap.size, 0, none⟩) 4 4] 23)
      have hcx := cell_of_row _ _ 0 _ _ _ hgx
      refine wl_append elInts rfl _ _ rfl ((w.alloc (.cells #[] 161)).alloc (.cells #[.slice (some ⟨w.heap.size, 0, none⟩) 0 0] 95)).heap.size vr j _ rfl (own_pure HR.out.own (HP4.out.trans (by exact (by repeat (first | assumption | exact Pure.refl _ | refine Pure.drewN ?_ _ | refine Pure.drew ?_ | refine Pure.alloc ?_ _ | refine Pure.setCell ?_ (by simp <;> omega) _))))) w4.heap.size 1 1 [.slice (some ⟨wr.heap.size, 0, none⟩) 4 4] rfl rfl (fun i u hu => ?_) (by intro u hu; simp at hu; subst hu; rfl) (by omega) (by omega) (Nat.le_trans hp.size (Nat.le_trans HP4.out.size (by simp))) ?_
      · have hi : i = 0 := by
          by_cases e : i = 0
          · exact e
          · rw [List.getElem?_eq_none (by simp; omega)] at hu; cases hu
        subst hi
        rw [← hu]; exact hcx
      intro v5 w5 hown5 hg5
      obtain ⟨g5, c5, hv5, _, _, _, _⟩ := own_form hown5 (by omega)
      subst hv5
      have hPw1 : Pure wr (w4.alloc (.cells #[.slice (some ⟨wr.heap.size, 0, none⟩) 4 4] 23)) := HP4.out.trans (by exact (by repeat (first | assumption | exact Pure.refl _ | refine Pure.drewN ?_ _ | refine Pure.drew ?_ | refine Pure.alloc ?_ _ | refine Pure.setCell ?_ (by simp <;> omega) _)))
      have hc5 : Chg (fun k => vr.ownBlock = some k) (w4.alloc (.cells #[.slice (some ⟨wr.heap.size, 0, none⟩) 4 4] 23)) w5 := Chg.of_grown hg5 (fun k hk => hk)
      have hvrp : ∀ k, vr.ownBlock = some k → k ≠ wq.heap.size := own_ne_heap HR.out.own HO.out (by decide)
      have hO5 : w5.heap[wq.heap.size]? = some (.cells #[.slice A cs.length c, .int .i64 (n : Nat), vr, .slice (some ⟨gm, 0, none⟩) mem.length cmm, .slice none 0 0, .bool false, .slice none 0 0, .bool false] 104 (0, 0)) :=
        hc5.heap ((Chg.of_pure (S := fun _ => False) hPw1).heap HO.out id) (fun e => hvrp _ e rfl)
      have hz1 := (Chg.of_pure (S := fun _ => False) (show Pure w4 (w4.alloc (.cells #[.slice (some ⟨wr.heap.size, 0, none⟩) 4 4] 23)) from (by repeat (first | assumption | exact Pure.refl _ | refine Pure.drewN ?_ _ | refine Pure.drew ?_ | refine Pure.alloc ?_ _ | refine Pure.setCell ?_ (by simp <;> omega) _)))).heap HZ4.out id
      have hR5 := HR.out.push hPw1 (Nat.le_refl _) hp.size hz1 hown5 hg5
      have hM5 := (HMe.out.pure hPw1).chg hc5 (fun g hg e => (OwnO.of_own (own_pure HR.out.own hPw1)).ne (HMe.out.pure hPw1) (by decide) g e hg.symm)
      have hP5 : Pure ((w.alloc (.cells #[] 161)).alloc (.cells #[.slice (some ⟨w.heap.size, 0, none⟩) 0 0] 95)) w5 := Chg.pure (hp.trans hPw1) hc5 (fun k hk => (own_lt HR.out.own k hk).1)
      have hc6 : Chg (fun k => k = wq.heap.size) w5 (w5.setCell ⟨wq.heap.size, 2, none⟩ (.slice (some ⟨g5, 0, none⟩) (j + 1) c5)) := Chg.of_set w5 _ _ _ rfl
      have HO6 : Hid ((w5.setCell ⟨wq.heap.size, 2, none⟩ (.slice (some ⟨g5, 0, none⟩) (j + 1) c5)).heap[wq.heap.size]? = some (.cells #[.slice A cs.length c, .int .i64 (n : Nat), .slice (some ⟨g5, 0, none⟩) (j + 1) c5, .slice (some ⟨gm, 0, none⟩) mem.length cmm, .slice none 0 0, .bool false, .slice none 0 0, .bool false] 104 (0, 0))) := Lib.hid (by
        rw [heap_setCell_same w5 (wq.heap.size) 2 _ _ _ hO5]; rfl)
      have HR6 := Lib.hid (hR5.chg hc6 (fun g hg e => own_ne_heap hR5.own hO5 (by decide) g hg e) (fun i hi e => ne_of_heap (hR5.row i hi) hO5 (by decide) e))
      have HM6 := Lib.hid (hM5.chg hc6 (fun g hg e => hM5.ne_heap hO5 (by decide) g hg e))
      have HP6 : Hid (Pure ((w.alloc (.cells #[] 161)).alloc (.cells #[.slice (some ⟨w.heap.size, 0, none⟩) 0 0] 95)) (w5.setCell ⟨wq.heap.size, 2, none⟩ (.slice (some ⟨g5, 0, none⟩) (j + 1) c5))) := Lib.hid (Chg.pure hP5 hc6 (fun k hk => by rw [hk]; exact HP.out.size))
      have z5 := (cell_of_row w5 (wq.heap.size) 2 _ _ _ hO5).trans rfl
      have zf5 := frozen_of_row w5 (wq.heap.size) 2 _ _ hO5
      have hgmlt : gm < wr.heap.size := (HMe.out.lt gm rfl).2
      clear hown5 hg5 hPw1 hc5 hvrp hO5 hz1 hR5 hM5 hP5 hc6 hgx hcx z2
      go_wp2
      refine And.intro z5 ?_
      unfold Tail
      go_wp2
      refine And.intro z5 ?_
      unfold Tail
      go_wp2
      refine And.intro z5 ?_
      unfold Tail
      go_wp2
      go_roundg (n - (j + 1))
      case measure => have := Hgk.out; omega
      case rel =>
        refine ⟨j + 1, _, _, by have := Hgk.out; omega, by go_num, HP6.out, HR6.out, HO6.out, HM6.out, fun i hi => ?_⟩
        show (if i = j then wr.heap.size else rows i) ≠ gm
        split
        · omega
        · exact HNe.out i (by omega)
    · have hjl : j = n := by have := Hgk.out; omega
      subst hjl
      obtain ⟨gr, cr, hvr, hgr1, hgr2, hcr1, hcr2⟩ := own_form HR.out.own (by omega)
      subst hvr
      obtain ⟨h1, h2, h3⟩ := treeOf_spec HV.out
      have hlen : (treeOf cs).len = cs.length := (congrArg List.length h1).symm
      have hPX : Pure wr (wr.alloc (.cells #[.int .i64 0] 3)) := by exact (by repeat (first | assumption | exact Pure.refl _ | refine Pure.drewN ?_ _ | refine Pure.drew ?_ | refine Pure.alloc ?_ _ | refine Pure.setCell ?_ (by simp <;> omega) _))
      have hpb := heap_alloc_new wr (.cells #[.int .i64 0] 3)
      have hrm := (HR.out.rm hn1 hn8 hm1 hm32 HMe.out HNe.out).rebase (B' := w.heap.size) HPA.out.size
      have hrun : WRun ⟨⟨w.heap.size, j, mem.length, gr, cr, gm, cmm, rows⟩, w, cs, .slice A cs.length c, wq.heap.size, .slice none 0 0, false, fun _ => 0⟩ (w.heap.size + 1) wr.heap.size (wr.alloc (.cells #[.int .i64 0] 3)) (.slice (some ⟨w.heap.size, 0, none⟩) 0 0) (startLS mem) :=
        ⟨(HPA.out.trans hp).trans hPX, H.out, rfl, hrm.pure hPX, hn1, (Chg.of_pure (S := fun _ => False) hPX).heap HO.out id, Nat.le_trans HPA.out.size HP.out.size, (Chg.of_pure (S := fun _ => False) (hp.trans hPX)).heap HQA.out id, Nat.le_succ _, hpb, hwr, by
          rintro (⟨k, hk, e⟩ | e)
          · have := (Array.getElem?_eq_some_iff.1 (hrm.row k hk)).1; rw [← e] at this; omega
          · have := hrm.gmlo.2; rw [← e] at this; omega, HAC.out.pure (hp.trans hPX), startLS_good HMEM.out⟩
      have HRUN := Lib.hid hrun
      have hcost : msz (startLS mem) + 10 * (treeOf cs).cost ≤ 1099511626000 := by
        have := HV.out.cost h1 h2 h3
        show 0 + _ ≤ _
        omega
      have hpow : 2 ^ j - 1 < 2 ^ j := Nat.sub_lt (Nat.two_pow_pos j) (by decide)
      have HTREE := Lib.hid (And.intro h2 (And.intro hlen (And.intro hcost hpow)))
      have HSEG : Hid (Seg cs 0 (treeOf cs)) := Lib.hid (Seg.whole h1)
      have HPX := Lib.hid hPX
      clear h1 h2 h3 hlen hrun hcost hpow hrm hpb hPX
      go_wp2_with fail
      refine (smaskall_any j _ hn1 hn8).mono ?_
      rintro e w' ⟨rfl, rfl⟩
      go_wp2_with fail
      refine (watch_any ⟨⟨w.heap.size, j, mem.length, gr, cr, gm, cmm, rows⟩, w, cs, .slice A cs.length c, wq.heap.size, .slice none 0 0, false, fun _ => 0⟩ (w.heap.size + 1) wr.heap.size HV.out _ (treeOf cs) 0 (2 ^ j - 1) (startLS mem) _ _ _ _ (Nat.le_refl _) HTREE.out.1 HSEG.out (by have := HTREE.out.2.1; show 0 + (treeOf cs).len ≤ cs.length; omega) HTREE.out.2.2.2 HTREE.out.2.2.1 HRUN.out (by simp) (by rw [HTREE.out.2.1]; simp)).mono ?_
      rintro e w7 ⟨rfl, va7, hr7, _⟩
      have H7 := Lib.hid hr7
      have z7 := cell_of_row _ _ 0 _ _ _ hr7.qb
      simp only [List.getElem?_toArray, List.getElem?_cons_zero] at z7
      clear hr7
      go_wp2_with fail
      go_ret
      exact ⟨va7, rfl, H7.out.ac, H7.out.pure⟩

def AccP (cs : List Cd) (a : Int) (mem : List Int) (w : World) (e : Ending) (w' : World) : Prop :=
  ∃ v, e = .returned v ∧ OwnO w' w.heap.size 161 4 v (lockA cs a mem).A.length (accsL (lockA cs a mem).A) ∧ Pure w w'

set_option maxHeartbeats 1000000 in
set_option maxRecDepth 100000 in
theorem sacc_any (vl vm : Value) (cs : List Cd) (a : Int) (mem : List Int) (w : World) (h : Codes w vl cs) (hm : Ints w vm mem) (hs1 : cs.length ≤ 1048576) (hs2 : mem.length ≤ 1048576) :
    Calls Try.prog 118 #[vl, .int .i64 a, vm] w (AccP cs a mem w) := by
  have H := Lib.hid h
  have HM := Lib.hid hm
  obtain ⟨A, c, rfl, hnc, hcm⟩ := h.form
  obtain ⟨Am, cm, rfl⟩ := hm.form
  clear h hm
  unfold AccP
  by_cases hok : RunOk cs a mem
  · have HOK := Lib.hid hok
    obtain ⟨n, rfl, hn1, hn8⟩ := lanes_nat hok.2.1
    rw [lockA_ok hok]
    clear hok
    go_enter Try.func118, Try.ntmps118
    go_wp2_with fail
    refine (sok_any _ _ cs n mem _ H.out HM.out hs1 hs2 true (by simp only [true_iff]; exact HOK.out)).mono ?_
    rintro e w1 ⟨rfl, hp1⟩
    have HP1 := Lib.hid hp1
    clear hp1
    go_wp2_with fail
    refine (slist_any _ _ cs n mem _ (H.out.keep HP1.out) (Cells.keep HM.out HP1.out) HOK.out.1 hn1 hn8 HOK.out.2.2).mono ?_
    rintro e w2 ⟨v2, rfl, ho2, hp2⟩
    have HO := Lib.hid ho2
    have HP2 := Lib.hid hp2
    clear ho2 hp2
    go_wp2
    go_ret
    exact ⟨_, rfl, HO.out.base' HP1.out.size, HP1.out.trans HP2.out⟩
  · have HOK := Lib.hid hok
    rw [lockA_no hok]
    clear hok
    go_enter Try.func118, Try.ntmps118
    go_wp2_with fail
    refine (sok_any _ _ cs a mem _ H.out HM.out hs1 hs2 false (by simp [HOK.out])).mono ?_
    rintro e w1 ⟨rfl, hp1⟩
    have HE := Lib.hid (OwnO.empty_lit (w := w1) (B := w.heap.size) (e := 161) (s := 4) hp1.size)
    have HP1 := Lib.hid hp1
    clear hp1
    go_wp2
    go_ret
    exact ⟨_, rfl, HE.out, HP1.out.trans (by exact (by repeat (first | assumption | exact Pure.refl _ | refine Pure.drewN ?_ _ | refine Pure.drew ?_ | refine Pure.alloc ?_ _ | refine Pure.setCell ?_ (by simp <;> omega) _)))⟩

theorem lockA_lenA {cs : List Cd} {a : Int} {mem : List Int} : (lockA cs a mem).A.length ≤ 25600 := by
  by_cases h : RunOk cs a mem
  · obtain ⟨n, rfl, hn1, hn8⟩ := lanes_nat h.2.1
    rw [lockA_ok h]
    obtain ⟨h1, h2, h3⟩ := treeOf_spec h.1
    have hc := h.1.cost h1 h2 h3
    have := run_msz n mem.length hn8 (treeOf cs) 0 (2 ^ n - 1) (startLS mem)
    have h0 : msz (startLS mem) = 0 := rfl
    unfold msz at this
    unfold lockOf
    unfold msz at h0
    omega
  · rw [lockA_no h]; exact Nat.zero_le _

end Go.Proofs.Ytajaonejpggcbaa

namespace Go.Proofs.Ytajaonejpggcbaa
open Go.RowKit

def acv (x : Ac) : Value := .agg #[.int .i64 (x.who : Nat), .int .i64 (x.cell : Nat), .bool x.wr, .int .i64 (x.ph : Nat)]
def clashB (x y : Ac) : Bool := (x.ph == y.ph) && ((x.who != y.who) && ((x.cell == y.cell) && (x.wr || y.wr)))
/-- Two accesses of the list clash, the first one standing before the second one. -/
def Race (A : List Ac) : Prop := ∃ q p, p < q ∧ q < A.length ∧ clashB (A.getD p default) (A.getD q default) = true
theorem castEq (a b : Nat) : (((a : Nat) : Int) == ((b : Nat) : Int)) = (a == b) := by rw [Bool.eq_iff_iff, beq_iff_eq, beq_iff_eq]; omega
theorem castNe (a b : Nat) : (((a : Nat) : Int) != ((b : Nat) : Int)) = (a != b) := by rw [Bool.eq_iff_iff, bne_iff_ne, bne_iff_ne]; omega

set_option maxHeartbeats 1000000 in
theorem sclash_any (x y : Ac) (w : World) : Calls Try.prog 148 #[acv x, acv y] w fun e w' => e = .returned (.bool (clashB x y)) ∧ Pure w w' := by
  obtain ⟨xw, xc, xr, xp⟩ := x
  obtain ⟨yw, yc, yr, yp⟩ := y
  unfold clashB acv
  simp only
  have d1 := castEq xp yp
  have d2 := castNe xw yw
  have d3 := castEq xc yc
  generalize (xp == yp) = b1 at d1 ⊢
  generalize (xw != yw) = b2 at d2 ⊢
  generalize (xc == yc) = b3 at d3 ⊢
  go_enter Try.func148, Try.ntmps148
  cases b1 <;> cases b2 <;> cases b3 <;> cases xr <;> cases yr <;> (go_wp2; go_ret; exact ⟨rfl, (by repeat (first | assumption | exact Pure.refl _ | refine Pure.drewN ?_ _ | refine Pure.drew ?_ | refine Pure.alloc ?_ _ | refine Pure.setCell ?_ (by simp <;> omega) _))⟩)

set_option maxHeartbeats 1000000 in
theorem iclash_any (x y : Ac) (w : World) : Calls Try.prog 145 #[acv x, acv y] w fun e w' => e = .returned (.bool (clashB x y)) ∧ Pure w w' := by
  obtain ⟨xw, xc, xr, xp⟩ := x
  obtain ⟨yw, yc, yr, yp⟩ := y
  unfold clashB acv
  simp only
  have d1 := castEq xp yp
  have d2 := castNe xw yw
  have d3 := castEq xc yc
  generalize (xp == yp) = b1 at d1 ⊢
  generalize (xw != yw) = b2 at d2 ⊢
  generalize (xc == yc) = b3 at d3 ⊢
  go_enter Try.func145, Try.ntmps145
  cases b1 <;> cases b2 <;> cases b3 <;> cases xr <;> cases yr <;> (go_wp2; go_ret; exact ⟨rfl, (by repeat (first | assumption | exact Pure.refl _ | refine Pure.drewN ?_ _ | refine Pure.drew ?_ | refine Pure.alloc ?_ _ | refine Pure.setCell ?_ (by simp <;> omega) _))⟩)

structure AcAt (w : World) (b o : Nat) (x : Ac) : Prop where
  c0 : w.cell? ⟨b, o, none⟩ = some (.int .i64 (x.who : Nat))
  c1 : w.cell? ⟨b, o + 1, none⟩ = some (.int .i64 (x.cell : Nat))
  c2 : w.cell? ⟨b, o + 2, none⟩ = some (.bool x.wr)
  c3 : w.cell? ⟨b, o + 3, none⟩ = some (.int .i64 (x.ph : Nat))
theorem AcAt.keep {w w' : World} {b o : Nat} {x : Ac} (h : AcAt w b o x) (hp : Pure w w') : AcAt w' b o x := by
  have hb := World.block_lt_of_cell? _ _ h.c0
  exact ⟨(hp.cell _ _ hb).trans h.c0, (hp.cell _ _ hb).trans h.c1, (hp.cell _ _ hb).trans h.c2, (hp.cell _ _ hb).trans h.c3⟩
theorem AcAt.box (w : World) (x : Ac) (t : TypeId) : AcAt (w.alloc (.cells #[.int .i64 (x.who : Nat), .int .i64 (x.cell : Nat), .bool x.wr, .int .i64 (x.ph : Nat)] t)) w.heap.size 0 x := by
  have hh := heap_alloc_new w (.cells #[.int .i64 (x.who : Nat), .int .i64 (x.cell : Nat), .bool x.wr, .int .i64 (x.ph : Nat)] t)
  exact ⟨(cell_of_row _ _ 0 _ _ _ hh).trans rfl, (cell_of_row _ _ 1 _ _ _ hh).trans rfl, (cell_of_row _ _ 2 _ _ _ hh).trans rfl, (cell_of_row _ _ 3 _ _ _ hh).trans rfl⟩
theorem accs_at {w : World} {A : Option Addr} {n c : Nat} {H : List Ac} (h : Flat w (.slice A n c) H.length 4 (accsL H)) {k : Nat} (hk : k < H.length) : ∃ b o, A = some ⟨b, o, none⟩ ∧ b < w.heap.size ∧ ∀ j, j < H.length → AcAt w b (o + j * 4) (H.getD j default) := by
  obtain ⟨A', c', hv, h1, h2, h3⟩ := h
  injection hv with e1 e2 e3
  subst e1 e2 e3
  obtain ⟨b, o, rfl, hb, hc⟩ := h3 (by omega)
  refine ⟨b, o, rfl, hb, fun j hj => ?_⟩
  have a0 := hc (j * 4) (by omega)
  have a1 := hc (j * 4 + 1) (by omega)
  have a2 := hc (j * 4 + 2) (by omega)
  have a3 := hc (j * 4 + 3) (by omega)
  simp only [getD_of (acc_at H j hj).1] at a0
  simp only [getD_of (acc_at H j hj).2.1, ← Nat.add_assoc] at a1
  simp only [getD_of (acc_at H j hj).2.2.1, ← Nat.add_assoc] at a2
  simp only [getD_of (acc_at H j hj).2.2.2, ← Nat.add_assoc] at a3
  exact ⟨a0, a1, a2, a3⟩
def RaceP (H : List Ac) (w : World) (e : Ending) (w' : World) : Prop :=
  ∃ (i j : Int) (B : Bool), e = .returned (.tuple #[.int .i64 i, .int .i64 j, .bool B]) ∧ (B = true ↔ Race H) ∧ Pure w w'
theorem Race.no {H : List Ac} (h : ∀ q, q < H.length → ∀ p, p < q → clashB (H.getD p default) (H.getD q default) = false) : ¬ Race H := by
  rintro ⟨q, p, h1, h2, h3⟩
  rw [h q h2 p h1] at h3
  cases h3

set_option maxHeartbeats 2000000 in
set_option maxRecDepth 100000 in
theorem sfr_any (v : Value) (H : List Ac) (w : World) (h : Flat w v H.length 4 (accsL H)) (_hl : H.length ≤ 1048576) : Calls Try.prog 117 #[v] w (RaceP H w) := by
  have HF := Lib.hid h
  obtain ⟨A, c, rfl, hnc, hcm⟩ := h.form
  clear h
  go_enter Try.func117, Try.ntmps117
  go_wp2
  go_loopg [5] H.length (fun gk i wr => ∃ k : Nat, gk + k = H.length ∧ i = .int .i64 k ∧ Pure w wr ∧ ∀ q, q < k → ∀ p, p < q → clashB (H.getD p default) (H.getD q default) = false)
  case atStart => exact ⟨0, rfl, rfl, Pure.refl _, fun q hq => absurd hq (by omega)⟩
  case round =>
    obtain ⟨k, hgk, rfl, hp, hno⟩ := hrel
    have Hgk := Lib.hid hgk
    have HP := Lib.hid hp
    have HN := Lib.hid hno
    have hkn : k ≤ H.length := by omega
    clear hgk hp hno
    by_cases hlt : k < H.length
    · obtain ⟨b, o, rfl, hb, hc⟩ := accs_at HF.out hlt
      have HC := Lib.hid hc
      clear hc
      go_wp2_with fail
      go_loopg [6] k (fun g2 i wr => ∃ j : Nat, g2 + j = k ∧ i = .int .i64 j ∧ Pure w wr ∧ ∀ p, p < j → clashB (H.getD p default) (H.getD k default) = false)
      case atStart => exact ⟨0, rfl, rfl, HP.out, fun q hq => absurd hq (by omega)⟩
      case round =>
        obtain ⟨j, hg2, rfl, hp2, hno2⟩ := hrel
        have Hg2 := Lib.hid hg2
        have HP2 := Lib.hid hp2
        have HN2 := Lib.hid hno2
        have hjk : j ≤ k := by omega
        clear hg2 hp2 hno2
        by_cases hj : j < k
        · obtain ⟨p0, p1, p2, p3⟩ := (HC.out j (by omega)).keep HP2.out
          obtain ⟨q0, q1, q2, q3⟩ := (HC.out k hlt).keep HP2.out
          obtain ⟨x, Hx⟩ : ∃ x, Hid (H.getD j default = x) := ⟨_, Lib.hid rfl⟩
          obtain ⟨y, Hy⟩ : ∃ y, Hid (H.getD k default = y) := ⟨_, Lib.hid rfl⟩
          rw [Hx.out] at p0 p1 p2 p3
          rw [Hy.out] at q0 q1 q2 q3
          obtain ⟨B, HB⟩ : ∃ B, Hid (clashB x y = B) := ⟨_, Lib.hid rfl⟩
          have hj0 : (0 : Int) ≤ (j : Int) := by omega
          have hj1 : (j : Int) < (H.length : Int) := by omega
          have hk0 : (0 : Int) ≤ (k : Int) := by omega
          have hk1 : (k : Int) < (H.length : Int) := by omega
          go_wp2_with fail
          refine region_tail 8 (by kernel_rfl) (by kernel_rfl) ?_
          simp only [List.take_succ_cons, List.take_zero, List.drop_succ_cons, List.drop_zero]
          repeat still_step
          refine wpStill_nil ?_
          go_wp2_with fail
          refine (sclash_any x y _).mono ?_
          rintro e w7 ⟨rfl, hp7⟩
          rw [HB.out]
          cases B
          · go_wp2_with fail
            go_roundg (k - (j + 1))
            case measure => have := Hg2.out; omega
            case rel => exact ⟨j + 1, by have := Hg2.out; omega, by go_num, HP2.out.drew.trans hp7, fun p hp => by
              by_cases e : p = j
              · subst e; rw [Hx.out, Hy.out, HB.out]
              · exact HN2.out p (by omega)⟩
          · go_wp2_with fail
            go_ret3
            exact ⟨_, _, true, rfl, by simp only [true_iff]; exact ⟨k, j, hj, hlt, by rw [Hx.out, Hy.out, HB.out]⟩, HP2.out.drew.trans hp7⟩
        · have hjk2 : j = k := by omega
          subst hjk2
          go_wp2_with fail
          go_roundg (H.length - (j + 1))
          case measure => have := Hgk.out; omega
          case rel => exact ⟨j + 1, by have := Hgk.out; omega, by go_num, HP2.out, fun q hq p hp => by
            by_cases e : q = j
            · subst e; exact HN2.out p hp
            · exact HN.out q (by omega) p hp⟩
    · have hkl : k = H.length := by omega
      subst hkl
      go_wp2_with fail
      go_ret3
      exact ⟨_, _, false, rfl, by simp only [Bool.false_eq_true, false_iff]; exact Race.no HN.out, HP.out⟩

set_option maxHeartbeats 2000000 in
set_option maxRecDepth 100000 in
theorem ifr_any (v : Value) (H : List Ac) (w : World) (h : Flat w v H.length 4 (accsL H)) (_hl : H.length ≤ 1048576) : Calls Try.prog 111 #[v] w (RaceP H w) := by
  have HF := Lib.hid h
  obtain ⟨A, c, rfl, hnc, hcm⟩ := h.form
  clear h
  go_enter Try.func111, Try.ntmps111
  go_wp2
  go_loopg [11] H.length (fun gk i wr => ∃ k : Nat, gk + k = H.length ∧ i = .int .i64 k ∧ Pure w wr ∧ ∀ q, q < k → ∀ p, p < q → clashB (H.getD p default) (H.getD q default) = false)
  case atStart => exact ⟨0, rfl, rfl, Pure.refl _, fun q hq => absurd hq (by omega)⟩
  case round =>
    obtain ⟨k, hgk, rfl, hp, hno⟩ := hrel
    have Hgk := Lib.hid hgk
    have HP := Lib.hid hp
    have HN := Lib.hid hno
    have hkn : k ≤ H.length := by omega
    clear hgk hp hno
    by_cases hlt : k < H.length
    · obtain ⟨b, o, rfl, hb, hc⟩ := accs_at HF.out hlt
      have HC := Lib.hid hc
      obtain ⟨q0, q1, q2, q3⟩ := (hc k hlt).keep HP.out
      obtain ⟨y, Hy⟩ : ∃ y, Hid (H.getD k default = y) := ⟨_, Lib.hid rfl⟩
      rw [Hy.out] at q0 q1 q2 q3
      have HX := Lib.hid (AcAt.box wr y 161)
      have HPX := Lib.hid (show Pure wr (wr.alloc (.cells #[.int .i64 (y.who : Nat), .int .i64 (y.cell : Nat), .bool y.wr, .int .i64 (y.ph : Nat)] 161)) from (by repeat (first | assumption | exact Pure.refl _ | refine Pure.drewN ?_ _ | refine Pure.drew ?_ | refine Pure.alloc ?_ _ | refine Pure.setCell ?_ (by simp <;> omega) _)))
      clear hc
      go_wp2_with fail
      go_loopg [20] k (fun g2 i wr2 => ∃ j : Nat, g2 + j = k ∧ i = .int .i64 j ∧ Pure (wr.alloc (.cells #[.int .i64 (y.who : Nat), .int .i64 (y.cell : Nat), .bool y.wr, .int .i64 (y.ph : Nat)] 161)) wr2 ∧ ∀ p, p < j → clashB (H.getD p default) y = false)
      case atStart => exact ⟨0, rfl, rfl, Pure.refl _, fun q hq => absurd hq (by omega)⟩
      case round =>
        obtain ⟨j, hg2, rfl, hp2, hno2⟩ := hrel
        have Hg2 := Lib.hid hg2
        have HP2 := Lib.hid hp2
        have HN2 := Lib.hid hno2
        have hjk : j ≤ k := by omega
        clear hg2 hp2 hno2 q0 q1 q2 q3
        by_cases hj : j < k
        · obtain ⟨p0, p1, p2, p3⟩ := (HC.out j (by omega)).keep ((HP.out.trans HPX.out).trans HP2.out)
          obtain ⟨q0, q1, q2, q3⟩ := HX.out.keep HP2.out
          obtain ⟨x, Hx⟩ : ∃ x, Hid (H.getD j default = x) := ⟨_, Lib.hid rfl⟩
          rw [Hx.out] at p0 p1 p2 p3
          obtain ⟨B, HB⟩ : ∃ B, Hid (clashB x y = B) := ⟨_, Lib.hid rfl⟩
          have hblt := World.block_lt_of_cell? _ _ q0
          go_wp2_with fail
          refine (iclash_any x y _).mono ?_
          rintro e w7 ⟨rfl, hp7⟩
          rw [HB.out]
          cases B
          · go_wp2_with fail
            go_roundg (k - (j + 1))
            case measure => have := Hg2.out; omega
            case rel => exact ⟨j + 1, by have := Hg2.out; omega, by go_num, (HP2.out.trans (by exact (by repeat (first | assumption | exact Pure.refl _ | refine Pure.drewN ?_ _ | refine Pure.drew ?_ | refine Pure.alloc ?_ _ | refine Pure.setCell ?_ (by simp <;> omega) _)))).trans hp7, fun p hp => by
              by_cases e : p = j
              · subst e; rw [Hx.out, HB.out]
              · exact HN2.out p (by omega)⟩
          · go_wp2_with fail
            go_ret3
            exact ⟨_, _, true, rfl, by simp only [true_iff]; exact ⟨k, j, hj, hlt, by rw [Hx.out, Hy.out, HB.out]⟩, ((HP.out.trans HPX.out).trans (HP2.out.trans (by exact (by repeat (first | assumption | exact Pure.refl _ | refine Pure.drewN ?_ _ | refine Pure.drew ?_ | refine Pure.alloc ?_ _ | refine Pure.setCell ?_ (by simp <;> omega) _))))).trans hp7⟩
        · have hjk2 : j = k := by omega
          subst hjk2
          go_wp2_with fail
          go_roundg (H.length - (j + 1))
          case measure => have := Hgk.out; omega
          case rel => exact ⟨j + 1, by have := Hgk.out; omega, by go_num, (HP.out.trans HPX.out).trans HP2.out, fun q hq p hp => by
            by_cases e : q = j
            · subst e; rw [Hy.out]; exact HN2.out p hp
            · exact HN.out q (by omega) p hp⟩
    · have hkl : k = H.length := by omega
      subst hkl
      go_wp2_with fail
      go_ret3
      exact ⟨_, _, false, rfl, by simp only [Bool.false_eq_true, false_iff]; exact Race.no HN.out, HP.out⟩

end Go.Proofs.Ytajaonejpggcbaa

namespace Go.Proofs.Ytajaonejpggcbaa
open Go.RowKit

open Classical in
/-- Whether a run is free of races. -/
noncomputable def freeA (cs : List Cd) (a : Int) (mem : List Int) : Bool := decide (RunOk cs a mem ∧ ¬ Race (lockA cs a mem).A)
open Classical in
noncomputable def reasonA (cs : List Cd) (a : Int) (mem : List Int) : Int := if RunOk cs a mem then (if wholeA cs a mem = true then (if freeA cs a mem = true then 0 else 3) else 2) else 1
noncomputable def safeA (cs : List Cd) (a : Int) (mem : List Int) : Bool := wholeA cs a mem && freeA cs a mem
open Classical in
theorem freeA_no {cs : List Cd} {a : Int} {mem : List Int} (h : ¬ RunOk cs a mem) : freeA cs a mem = false := by
  unfold freeA; exact decide_eq_false (fun hh => h hh.1)
open Classical in
theorem freeA_iff {cs : List Cd} {a : Int} {mem : List Int} (h : RunOk cs a mem) : freeA cs a mem = true ↔ ¬ Race (lockA cs a mem).A := by
  unfold freeA; rw [decide_eq_true_iff]; exact ⟨fun hh => hh.2, fun hh => ⟨h, hh⟩⟩
theorem freeA_of {cs : List Cd} {a : Int} {mem : List Int} {B : Bool} (h : RunOk cs a mem) (hB : B = true ↔ Race (lockA cs a mem).A) : freeA cs a mem = !B := by
  have := freeA_iff h
  cases B
  · simp only [Bool.not_false]; rw [this]; intro hr; have := hB.2 hr; cases this
  · rw [Bool.not_true]
    by_cases hf : freeA cs a mem = true
    · exact absurd (hB.1 rfl) (this.1 hf)
    · simpa using hf
theorem reason_0 {cs : List Cd} {a : Int} {mem : List Int} : decide (reasonA cs a mem = 0) = safeA cs a mem := by
  unfold reasonA safeA
  by_cases h : RunOk cs a mem
  · rw [if_pos h]
    cases wholeA cs a mem <;> cases freeA cs a mem <;> simp
  · rw [if_neg h, freeA_no h]; simp

set_option maxHeartbeats 1000000 in
set_option maxRecDepth 100000 in
theorem srf_any (vl vm : Value) (cs : List Cd) (a : Int) (mem : List Int) (w : World) (h : Codes w vl cs) (hm : Ints w vm mem) (hs1 : cs.length ≤ 1048576) (hs2 : mem.length ≤ 1048576) :
    Calls Try.prog 76 #[vl, .int .i64 a, vm] w fun e w' => e = .returned (.bool (freeA cs a mem)) ∧ Pure w w' := by
  have H := Lib.hid h
  have HM := Lib.hid hm
  obtain ⟨A, c, rfl, hnc, hcm⟩ := h.form
  obtain ⟨Am, cm, rfl⟩ := hm.form
  clear h hm
  by_cases hok : RunOk cs a mem
  · have HOK := Lib.hid hok
    clear hok
    go_enter Try.func76, Try.ntmps76
    go_wp2_with fail
    refine (sok_any _ _ cs a mem _ H.out HM.out hs1 hs2 true (by simp only [true_iff]; exact HOK.out)).mono ?_
    rintro e w1 ⟨rfl, hp1⟩
    have HP1 := Lib.hid hp1
    clear hp1
    go_wp2_with fail
    refine (sacc_any _ _ cs a mem _ (H.out.keep HP1.out) (Cells.keep HM.out HP1.out) hs1 hs2).mono ?_
    rintro e w2 ⟨v2, rfl, ho2, hp2⟩
    have HO := Lib.hid (Flat.of_own ho2)
    have HP2 := Lib.hid (HP1.out.trans hp2)
    obtain ⟨A2, c2, rfl, _⟩ := HO.out.form
    clear ho2 hp2
    go_wp2_with fail
    refine (sfr_any _ (lockA cs a mem).A _ HO.out (by have := lockA_lenA (cs := cs) (a := a) (mem := mem); omega)).mono ?_
    rintro e w3 ⟨i, j, B, rfl, hB, hp3⟩
    have HB := Lib.hid (freeA_of HOK.out hB)
    clear hB
    go_wp2
    go_ret
    exact ⟨by rw [HB.out]; rfl, HP2.out.trans hp3⟩
  · have HOK := Lib.hid hok
    rw [freeA_no hok]
    clear hok
    go_enter Try.func76, Try.ntmps76
    go_wp2_with fail
    refine (sok_any _ _ cs a mem _ H.out HM.out hs1 hs2 false (by simp [HOK.out])).mono ?_
    rintro e w1 ⟨rfl, hp1⟩
    go_wp2
    go_ret
    exact ⟨rfl, hp1⟩

set_option maxHeartbeats 1000000 in
set_option maxRecDepth 100000 in
theorem ssafe_any (vl vm : Value) (cs : List Cd) (a : Int) (mem : List Int) (w : World) (h : Codes w vl cs) (hm : Ints w vm mem) (hs1 : cs.length ≤ 1048576) (hs2 : mem.length ≤ 1048576) :
    Calls Try.prog 47 #[vl, .int .i64 a, vm] w fun e w' => e = .returned (.bool (safeA cs a mem)) ∧ Pure w w' := by
  have H := Lib.hid h
  have HM := Lib.hid hm
  obtain ⟨A, c, rfl, hnc, hcm⟩ := h.form
  obtain ⟨Am, cm, rfl⟩ := hm.form
  clear h hm
  obtain ⟨bw, Hbw⟩ : ∃ bw, Hid (wholeA cs a mem = bw) := ⟨_, Lib.hid rfl⟩
  go_enter Try.func47, Try.ntmps47
  go_wp2_with fail
  refine (srl_any _ _ cs a mem _ H.out HM.out hs1 hs2).mono ?_
  rintro e w1 ⟨v1, rfl, ho1, hp1⟩
  rw [Hbw.out]
  have HP1 := Lib.hid hp1
  obtain ⟨A1, c1, rfl⟩ := ho1.form
  clear ho1 hp1
  cases bw
  · go_wp2
    go_ret
    exact ⟨by unfold safeA; rw [Hbw.out]; rfl, HP1.out⟩
  · go_wp2_with fail
    refine (srf_any _ _ cs a mem _ (H.out.keep HP1.out) (Cells.keep HM.out HP1.out) hs1 hs2).mono ?_
    rintro e w2 ⟨rfl, hp2⟩
    go_wp2
    go_ret
    exact ⟨by unfold safeA; rw [Hbw.out]; rfl, HP1.out.trans hp2⟩

set_option maxHeartbeats 2000000 in
set_option maxRecDepth 100000 in
theorem ireason_any (vl vm : Value) (cs : List Cd) (a : Int) (mem : List Int) (w : World) (h : Codes w vl cs) (hm : Ints w vm mem) (hs1 : cs.length ≤ 1048576) (hs2 : mem.length ≤ 1048576) :
    Calls Try.prog 73 #[vl, .int .i64 a, vm] w fun e w' => e = .returned (.int .i64 (reasonA cs a mem)) ∧ Pure w w' := by
  have H := Lib.hid h
  have HM := Lib.hid hm
  obtain ⟨A, c, rfl, hnc, hcm⟩ := h.form
  obtain ⟨Am, cm, rfl⟩ := hm.form
  clear h hm
  by_cases hok : RunOk cs a mem
  · have HOK := Lib.hid hok
    obtain ⟨n, rfl, hn1, hn8⟩ := lanes_nat hok.2.1
    have HL := Lib.hid (lockA_ok hok)
    have HW : Hid (wholeA cs n mem = (splA cs n mem).isNone) := Lib.hid (by unfold wholeA; simp [hok])
    have HSA : Hid (splA cs n mem = (lockOf cs n mem).H.find? (splBad cs n)) := Lib.hid (by unfold splA; rw [lockA_ok hok, show ((n : Int)).toNat = n by omega])
    clear hok
    go_enter Try.func73, Try.ntmps73
    go_wp2_with fail
    refine (ilock_any _ _ cs n mem _ H.out HM.out HOK.out.1 hn1 hn8 HOK.out.2.2).mono ?_
    rintro e w1 ⟨o, vb, va, rfl, hp0, hcs, hvl, hlk, hn, hmm, hrun⟩
    have p4 : w1.cell? ⟨o.p, 4, none⟩ = some va := hrun.obj.cell 4
    have hac := hrun.ac
    rw [← HL.out] at hac
    have HA := Lib.hid (Flat.of_own hac)
    obtain ⟨Aa, ca, rfl, _⟩ := HA.out.form
    have HR := Lib.hid hrun
    have HP := Lib.hid (hp0.trans hrun.pure)
    have HIN : Hid (∀ x ∈ (lockOf cs n mem).H, x.1 < o.cs.length) := Lib.hid (by rw [hcs]; exact fun x hx => (lockOf_in HOK.out.1 x hx).2.1)
    have hlen := lockOf_len (n := n) (mem := mem) HOK.out.1
    have HSP : Hid ((lockOf cs n mem).H.find? (splBad o.cs o.rm.n) = splA cs n mem) := Lib.hid (by rw [hcs, hn, HSA.out])
    clear hrun hvl hlk hp0 hcs hn hmm hac
    go_wp2_with fail
    refine (isplit_any o _ _ _ _ HR.out HIN.out (by omega)).mono ?_
    rintro e w2 ⟨rfl, hp2⟩
    rw [HSP.out]
    have z4 := keepPc hp2 p4
    have HP2 := Lib.hid (HP.out.trans hp2)
    have HA2 := Lib.hid (HA.out.keep hp2)
    have hplt : o.p < w2.heap.size := World.block_lt_of_cell? _ _ z4
    clear p4 hp2
    cases hsp : splA cs n mem with
    | none =>
      have HW2 : Hid (wholeA cs n mem = true) := Lib.hid (by rw [HW.out, hsp]; rfl)
      unfold spl2
      clear hsp
      go_wp2_with fail
      refine (ifr_any _ (lockA cs n mem).A _ (HA2.out.keep (by exact (by repeat (first | assumption | exact Pure.refl _ | refine Pure.drewN ?_ _ | refine Pure.drew ?_ | refine Pure.alloc ?_ _ | refine Pure.setCell ?_ (by simp <;> omega) _)))) (by have := lockA_lenA (cs := cs) (a := n) (mem := mem); omega)).mono ?_
      rintro e w3 ⟨i, j, B, rfl, hB, hp3⟩
      have HB := Lib.hid (freeA_of HOK.out hB)
      clear hB
      cases B
      · go_wp2
        go_ret
        exact ⟨by unfold reasonA; rw [if_pos HOK.out, HW2.out, HB.out]; rfl, (HP2.out.trans (by exact (by repeat (first | assumption | exact Pure.refl _ | refine Pure.drewN ?_ _ | refine Pure.drew ?_ | refine Pure.alloc ?_ _ | refine Pure.setCell ?_ (by simp <;> omega) _)))).trans hp3⟩
      · go_wp2
        go_ret
        exact ⟨by unfold reasonA; rw [if_pos HOK.out, HW2.out, HB.out]; rfl, (HP2.out.trans (by exact (by repeat (first | assumption | exact Pure.refl _ | refine Pure.drewN ?_ _ | refine Pure.drew ?_ | refine Pure.alloc ?_ _ | refine Pure.setCell ?_ (by simp <;> omega) _)))).trans hp3⟩
    | some y =>
      have HW2 : Hid (wholeA cs n mem = false) := Lib.hid (by rw [HW.out, hsp]; rfl)
      obtain ⟨u0, u1, u2⟩ := y
      unfold spl2
      clear hsp
      simp only
      go_wp2
      go_ret
      exact ⟨by unfold reasonA; rw [if_pos HOK.out, HW2.out]; rfl, HP2.out.trans (by exact (by repeat (first | assumption | exact Pure.refl _ | refine Pure.drewN ?_ _ | refine Pure.drew ?_ | refine Pure.alloc ?_ _ | refine Pure.setCell ?_ (by simp <;> omega) _)))⟩
  · have HOK := Lib.hid hok
    clear hok
    go_enter Try.func73, Try.ntmps73
    go_wp2_with fail
    refine (ino_any _ _ cs a mem _ H.out HM.out hs1 hs2 HOK.out).mono ?_
    rintro e w1 ⟨rfl, hp1⟩
    go_wp2
    go_ret
    exact ⟨by unfold reasonA; rw [if_neg HOK.out]; rfl, hp1⟩

set_option maxHeartbeats 1000000 in
set_option maxRecDepth 100000 in
theorem isafe_any (vl vm : Value) (cs : List Cd) (a : Int) (mem : List Int) (w : World) (h : Codes w vl cs) (hm : Ints w vm mem) (hs1 : cs.length ≤ 1048576) (hs2 : mem.length ≤ 1048576) :
    Calls Try.prog 44 #[vl, .int .i64 a, vm] w fun e w' => e = .returned (.bool (safeA cs a mem)) ∧ Pure w w' := by
  have H := Lib.hid h
  have HM := Lib.hid hm
  obtain ⟨A, c, rfl, hnc, hcm⟩ := h.form
  obtain ⟨Am, cm, rfl⟩ := hm.form
  clear h hm
  have hz : (reasonA cs a mem == 0) = safeA cs a mem := by rw [← reason_0, Bool.eq_iff_iff, beq_iff_eq, decide_eq_true_iff]
  obtain ⟨r, Hr⟩ : ∃ r, Hid (reasonA cs a mem = r) := ⟨_, Lib.hid rfl⟩
  rw [Hr.out] at hz
  go_enter Try.func44, Try.ntmps44
  go_wp2_with fail
  refine (ireason_any _ _ cs a mem _ H.out HM.out hs1 hs2).mono ?_
  rintro e w1 ⟨rfl, hp1⟩
  rw [Hr.out]
  go_wp2
  go_ret
  exact ⟨rfl, hp1⟩

end Go.Proofs.Ytajaonejpggcbaa
