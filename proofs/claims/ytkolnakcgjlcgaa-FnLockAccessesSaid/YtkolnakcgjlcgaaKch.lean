/- The reference's list of accesses, and the contracts of LockAccesses. Accesses that clash; whether a list of accesses has a race, as the reference and the program tell it. Whether a run has races, whether it is safe, and why not: the contracts of the reference's functions and of the program's. Races, plainly: by members of the list; with a barrier more or an instruction less no race comes up. No program in sight. Helpers of the laws on accesses. What one instruction does in lockstep: the registers of each lane, the accesses. No program in sight. No condition. -/
import Derived.Test.YtkolnakcgjlcgaaKbd
import Derived.Test.YtkolnakcgjlcgaaKbj
import Derived.Test.YtkolnakcgjlcgaaKcc
import Derived.Test.YtkolnakcgjlcgaaKcd
import Derived.Test.YtkolnakcgjlcgaaKcg

namespace Go.Proofs.Ytkolnakcgjlcgaa
open Go.RowKit

theorem RM.rebase {o : RMo} {B' : Nat} {w : World} {R : Nat → Nat → Int} {M : Nat → Int} (h : RM o w R M) (hB : B' ≤ o.B) : RM { o with B := B' } w R M :=
  ⟨h.n8, h.m1, h.m32, h.cr1, h.cr2, Nat.le_trans hB h.lo, h.outer, fun k hk => Nat.le_trans hB (h.rlo k hk), h.row, h.inj, h.mem.base' hB, h.ne⟩

set_option maxHeartbeats 4000000 in
set_option maxRecDepth 100000 in
theorem slist_any (vl vm : Value) (cs : List Cd) (n : Nat) (mem : List Int) (w : World) (h : Codes w vl cs) (hm : Ints w vm mem) (hv : PValid cs) (hn1 : 1 ≤ n) (hn8 : n ≤ 8) (hmem : MemOk mem) :
    Calls Try.prog 73 #[vl, .int .i64 n, vm] w (fun e w' => ∃ v, e = .returned v ∧ OwnO w' w.heap.size 57 4 v (lockOf cs n mem).A.length (accsL (lockOf cs n mem).A) ∧ Pure w w') := by
  have H := Lib.hid h
  have HM := Lib.hid hm
  have HV := Lib.hid hv
  have HMEM := Lib.hid hmem
  obtain ⟨⟨hm1, hm32⟩, _⟩ := hmem
  obtain ⟨A, c, rfl, hnc, hcm⟩ := h.form
  obtain ⟨Am, cm, rfl, hmc, hmcm, _⟩ := hm
  clear h hv
  have HPA := Lib.hid (show Pure w ((w.alloc (.cells #[] 57)).alloc (.cells #[.slice (some ⟨w.heap.size, 0, none⟩) 0 0] 52)) from (by repeat (first | assumption | exact Pure.refl _ | refine Pure.drewN ?_ _ | refine Pure.drew ?_ | refine Pure.alloc ?_ _ | refine Pure.setCell ?_ (by simp <;> omega) _)))
  have HMA := Lib.hid (Cells.keep HM.out HPA.out)
  have HQA : Hid (((w.alloc (.cells #[] 57)).alloc (.cells #[.slice (some ⟨w.heap.size, 0, none⟩) 0 0] 52)).heap[w.heap.size + 1]? = some (.cells #[.slice (some ⟨w.heap.size, 0, none⟩) 0 0] 52 (0, 0))) := Lib.hid (by
    have := heap_alloc_new (w.alloc (.cells #[] 57)) (.cells #[.slice (some ⟨w.heap.size, 0, none⟩) 0 0] 52)
    simpa using this)
  have hsA : ((w.alloc (.cells #[] 57)).alloc (.cells #[.slice (some ⟨w.heap.size, 0, none⟩) 0 0] 52)).heap.size = w.heap.size + 2 := by simp
  have HSA := Lib.hid hsA
  have HAC : Hid (OwnO ((w.alloc (.cells #[] 57)).alloc (.cells #[.slice (some ⟨w.heap.size, 0, none⟩) 0 0] 52)) w.heap.size 57 4 (.slice (some ⟨w.heap.size, 0, none⟩) 0 0) 0 []) := Lib.hid ((OwnO.empty_lit (Nat.le_refl _)).pure (by exact (by repeat (first | assumption | exact Pure.refl _ | refine Pure.drewN ?_ _ | refine Pure.drew ?_ | refine Pure.alloc ?_ _ | refine Pure.setCell ?_ (by simp <;> omega) _))))
  clear hsA
  go_enter Try.func73, Try.ntmps73
  go_wp2_with (at_builtin; go_must (refine wl_copyR elInt rfl _ _ rfl (w.heap.size + 1 + 1) rfl _ rfl _ mem.length HMA.out (fun j _ => rfl) (by decide) (by omega) (by omega) ?_); intro vm' wq hown hp; go_must (obtain ⟨gm, cmm, hvm, hgm1, hgm2, hcm1, hcm2⟩ := own_form hown (by omega); subst hvm; have HOWN := Lib.hid hown; have HP := Lib.hid hp; clear hown hp))
  have HPo : Hid ((wq.alloc (.cells #[.slice A cs.length c, .int .i64 (n : Nat), .slice none 0 0, .slice (some ⟨gm, 0, none⟩) mem.length cmm, .slice none 0 0, .bool false, .slice none 0 0, .bool false] 80)).heap[wq.heap.size]? = some (.cells #[.slice A cs.length c, .int .i64 (n : Nat), .slice none 0 0, .slice (some ⟨gm, 0, none⟩) mem.length cmm, .slice none 0 0, .bool false, .slice none 0 0, .bool false] 80 (0, 0))) := Lib.hid (heap_alloc_new _ _)
  go_loopg [9] n (fun gk i wr => ∃ (j : Nat) (vr : Value) (rows : Nat → Nat), gk + j = n ∧ i = .int .i64 j ∧ Pure ((w.alloc (.cells #[] 57)).alloc (.cells #[.slice (some ⟨w.heap.size, 0, none⟩) 0 0] 52)) wr ∧ RegsB wr ((w.alloc (.cells #[] 57)).alloc (.cells #[.slice (some ⟨w.heap.size, 0, none⟩) 0 0] 52)).heap.size vr j rows ∧
    wr.heap[wq.heap.size]? = some (.cells #[.slice A cs.length c, .int .i64 (n : Nat), vr, .slice (some ⟨gm, 0, none⟩) mem.length cmm, .slice none 0 0, .bool false, .slice none 0 0, .bool false] 80 (0, 0)) ∧
    OwnO wr ((w.alloc (.cells #[] 57)).alloc (.cells #[.slice (some ⟨w.heap.size, 0, none⟩) 0 0] 52)).heap.size 3 1 (.slice (some ⟨gm, 0, none⟩) mem.length cmm) mem.length ((List.range mem.length).map fun j => .int .i64 (mem.getD j 0)) ∧
    (∀ i, i < j → rows i ≠ gm))
  case atStart =>
    refine ⟨0, .slice none 0 0, fun _ => 0, rfl, rfl, HP.out.trans (by exact (by repeat (first | assumption | exact Pure.refl _ | refine Pure.drewN ?_ _ | refine Pure.drew ?_ | refine Pure.alloc ?_ _ | refine Pure.setCell ?_ (by simp <;> omega) _))), ⟨World.ownsRow_nil _ _ _ _, fun i hi => absurd hi (by omega), fun i hi => absurd hi (by omega), fun i k hi => absurd hi (by omega)⟩, HPo.out, (OwnO.of_own HOWN.out).pure (by exact (by repeat (first | assumption | exact Pure.refl _ | refine Pure.drewN ?_ _ | refine Pure.drew ?_ | refine Pure.alloc ?_ _ | refine Pure.setCell ?_ (by simp <;> omega) _))), fun i hi => absurd hi (by omega)⟩
  case round =>
    obtain ⟨j, vr, rows, hgk, rfl, hp, hregs, hobj, hmem, hne⟩ := hrel
    have Hgk := Lib.hid hgk
    have HR := Lib.hid hregs
    have HO := Lib.hid hobj
    have HMe := Lib.hid hmem
    have HNe := Lib.hid hne
    have hjn : j ≤ n := by omega
    have hwr : w.heap.size ≤ wr.heap.size := Nat.le_trans HPA.out.size hp.size
    clear hgk hregs hmem hne HPo
    have p1 := (cell_of_row wr (wq.heap.size) 1 _ _ _ hobj).trans rfl
    have p2 := (cell_of_row wr (wq.heap.size) 2 _ _ _ hobj).trans rfl
    have hpfr := frozen_of_row wr (wq.heap.size) 2 _ _ hobj
    have hplt : wq.heap.size < wr.heap.size := (Array.getElem?_eq_some_iff.1 hobj).1
    clear hobj
    by_cases hlt : j < n
    · go_wp2
      refine region_heldF (fun w' => w'.cell? ⟨wq.heap.size, 2, none⟩ = some vr) (List.range 5) [5, 6, 7, 8, 9, 10] (fun l => List.take 5 l) (fun l => List.drop 5 l) (by kernel_rfl) (by kernel_rfl) (by kernel_rfl) (by kernel_rfl) (fun c a d v w h => by cases d <;> exact h) (by exact p2) ?_
      simp only [List.take_succ_cons, List.take_zero, List.drop_succ_cons, List.drop_zero]
      apply held_of
      · exact rfl
      · intro w' hS
        go_simp
        try exact rfl
      try go_simp
      apply held_of
      · exact rfl
      · intro w' hS
        go_simp
        try exact rfl
      try go_simp
      apply held_of
      · exact rfl
      · intro w' hS
        go_simp
        try exact rfl
      try go_simp
      apply held_of
      · exact rfl
      · intro w' hS
        go_simp
        try exact rfl
      try go_simp
      apply held_of
      · exact rfl
      · intro w' hS
        go_simp
        try exact rfl
      try go_simp
      refine held_nil ?_
      unfold Tail
      refine wl_make elInt rfl _ _ rfl ((w.alloc (.cells #[] 57)).alloc (.cells #[.slice (some ⟨w.heap.size, 0, none⟩) 0 0] 52)).heap.size _ _ _ _ 4 rfl rfl rfl rfl (by decide) (by decide) hp.size ?_
      intro w4 hown4 hp4 hsz4
      have HZ4 := Lib.hid (own_zero4 hown4)
      have HP4 := Lib.hid ((show Pure wr wr.drew from Pure.drew (Pure.refl _)).trans hp4)
      have z2 := (HP4.out.cell _ _ hplt).trans p2
      have hplt4 := Nat.lt_of_lt_of_le hplt HP4.out.size
      clear hown4 hp4
      go_wp2
      refine And.intro z2 ?_
      unfold Tail
      go_wp2
      refine And.intro (keepPc (by exact (by repeat (first | assumption | exact Pure.refl _ | refine Pure.drewN ?_ _ | refine Pure.drew ?_ | refine Pure.alloc ?_ _ | refine Pure.setCell ?_ (by simp <;> omega) _))) z2) ?_
      unfold Tail
      have hgx := heap_alloc_new w4 (.cells #[.slice (some ⟨wr.heap.size, 0, none⟩) 4 4] 24)
      have hcx := cell_of_row _ _ 0 _ _ _ hgx
      refine wl_append elInts rfl _ _ rfl ((w.alloc (.cells #[] 57)).alloc (.cells #[.slice (some ⟨w.heap.size, 0, none⟩) 0 0] 52)).heap.size vr j _ rfl (own_pure HR.out.own (HP4.out.trans (by exact (by repeat (first | assumption | exact Pure.refl _ | refine Pure.drewN ?_ _ | refine Pure.drew ?_ | refine Pure.alloc ?_ _ | refine Pure.setCell ?_ (by simp <;> omega) _))))) w4.heap.size 1 1 [.slice (some ⟨wr.heap.size, 0, none⟩) 4 4] rfl rfl (fun i u hu => ?_) (by intro u hu; simp at hu; subst hu; rfl) (by omega) (by omega) (Nat.le_trans hp.size (Nat.le_trans HP4.out.size (by simp))) ?_
      · have hi : i = 0 := by
          by_cases e : i = 0
          · exact e
          · rw [List.getElem?_eq_none (by simp; omega)] at hu; cases hu
        subst hi
        rw [← hu]; exact hcx
      intro v5 w5 hown5 hg5
      obtain ⟨g5, c5, hv5, _, _, _, _⟩ := own_form hown5 (by omega)
      subst hv5
      have hPw1 : Pure wr (w4.alloc (.cells #[.slice (some ⟨wr.heap.size, 0, none⟩) 4 4] 24)) := HP4.out.trans (by exact (by repeat (first | assumption | exact Pure.refl _ | refine Pure.drewN ?_ _ | refine Pure.drew ?_ | refine Pure.alloc ?_ _ | refine Pure.setCell ?_ (by simp <;> omega) _)))
      have hc5 : Chg (fun k => vr.ownBlock = some k) (w4.alloc (.cells #[.slice (some ⟨wr.heap.size, 0, none⟩) 4 4] 24)) w5 := Chg.of_grown hg5 (fun k hk => hk)
      have hvrp : ∀ k, vr.ownBlock = some k → k ≠ wq.heap.size := own_ne_heap HR.out.own HO.out (by decide)
      have hO5 : w5.heap[wq.heap.size]? = some (.cells #[.slice A cs.length c, .int .i64 (n : Nat), vr, .slice (some ⟨gm, 0, none⟩) mem.length cmm, .slice none 0 0, .bool false, .slice none 0 0, .bool false] 80 (0, 0)) :=
        hc5.heap ((Chg.of_pure (S := fun _ => False) hPw1).heap HO.out id) (fun e => hvrp _ e rfl)
      have hz1 := (Chg.of_pure (S := fun _ => False) (show Pure w4 (w4.alloc (.cells #[.slice (some ⟨wr.heap.size, 0, none⟩) 4 4] 24)) from (by repeat (first | assumption | exact Pure.refl _ | refine Pure.drewN ?_ _ | refine Pure.drew ?_ | refine Pure.alloc ?_ _ | refine Pure.setCell ?_ (by simp <;> omega) _)))).heap HZ4.out id
      have hR5 := HR.out.push hPw1 (Nat.le_refl _) hp.size hz1 hown5 hg5
      have hM5 := (HMe.out.pure hPw1).chg hc5 (fun g hg e => (OwnO.of_own (own_pure HR.out.own hPw1)).ne (HMe.out.pure hPw1) (by decide) g e hg.symm)
      have hP5 : Pure ((w.alloc (.cells #[] 57)).alloc (.cells #[.slice (some ⟨w.heap.size, 0, none⟩) 0 0] 52)) w5 := Chg.pure (hp.trans hPw1) hc5 (fun k hk => (own_lt HR.out.own k hk).1)
      have hc6 : Chg (fun k => k = wq.heap.size) w5 (w5.setCell ⟨wq.heap.size, 2, none⟩ (.slice (some ⟨g5, 0, none⟩) (j + 1) c5)) := Chg.of_set w5 _ _ _ rfl
      have HO6 : Hid ((w5.setCell ⟨wq.heap.size, 2, none⟩ (.slice (some ⟨g5, 0, none⟩) (j + 1) c5)).heap[wq.heap.size]? = some (.cells #[.slice A cs.length c, .int .i64 (n : Nat), .slice (some ⟨g5, 0, none⟩) (j + 1) c5, .slice (some ⟨gm, 0, none⟩) mem.length cmm, .slice none 0 0, .bool false, .slice none 0 0, .bool false] 80 (0, 0))) := Lib.hid (by
        rw [heap_setCell_same w5 (wq.heap.size) 2 _ _ _ hO5]; rfl)
      have HR6 := Lib.hid (hR5.chg hc6 (fun g hg e => own_ne_heap hR5.own hO5 (by decide) g hg e) (fun i hi e => ne_of_heap (hR5.row i hi) hO5 (by decide) e))
      have HM6 := Lib.hid (hM5.chg hc6 (fun g hg e => hM5.ne_heap hO5 (by decide) g hg e))
      have HP6 : Hid (Pure ((w.alloc (.cells #[] 57)).alloc (.cells #[.slice (some ⟨w.heap.size, 0, none⟩) 0 0] 52)) (w5.setCell ⟨wq.heap.size, 2, none⟩ (.slice (some ⟨g5, 0, none⟩) (j + 1) c5))) := Lib.hid (Chg.pure hP5 hc6 (fun k hk => by rw [hk]; exact HP.out.size))
      have z5 := (cell_of_row w5 (wq.heap.size) 2 _ _ _ hO5).trans rfl
      have zf5 := frozen_of_row w5 (wq.heap.size) 2 _ _ hO5
      have hgmlt : gm < wr.heap.size := (HMe.out.lt gm rfl).2
      clear hown5 hg5 hPw1 hc5 hvrp hO5 hz1 hR5 hM5 hP5 hc6 hgx hcx z2
      go_wp2
      refine And.intro z5 ?_
      unfold Tail
      go_wp2
      refine And.intro z5 ?_
      unfold Tail
      go_wp2
      refine And.intro z5 ?_
      unfold Tail
      go_wp2
      go_roundg (n - (j + 1))
      case measure => have := Hgk.out; omega
      case rel =>
        refine ⟨j + 1, _, _, by have := Hgk.out; omega, by go_num, HP6.out, HR6.out, HO6.out, HM6.out, fun i hi => ?_⟩
        show (if i = j then wr.heap.size else rows i) ≠ gm
        split
        · omega
        · exact HNe.out i (by omega)
    · have hjl : j = n := by have := Hgk.out; omega
      subst hjl
      obtain ⟨gr, cr, hvr, hgr1, hgr2, hcr1, hcr2⟩ := own_form HR.out.own (by omega)
      subst hvr
      obtain ⟨h1, h2, h3⟩ := treeOf_spec HV.out
      have hlen : (treeOf cs).len = cs.length := (congrArg List.length h1).symm
      have hPX : Pure wr (wr.alloc (.cells #[.int .i64 0] 3)) := by exact (by repeat (first | assumption | exact Pure.refl _ | refine Pure.drewN ?_ _ | refine Pure.drew ?_ | refine Pure.alloc ?_ _ | refine Pure.setCell ?_ (by simp <;> omega) _))
      have hpb := heap_alloc_new wr (.cells #[.int .i64 0] 3)
      have hrm := (HR.out.rm hn1 hn8 hm1 hm32 HMe.out HNe.out).rebase (B' := w.heap.size) HPA.out.size
      have hrun : WRun ⟨⟨w.heap.size, j, mem.length, gr, cr, gm, cmm, rows⟩, w, cs, .slice A cs.length c, wq.heap.size, .slice none 0 0, false, fun _ => 0⟩ (w.heap.size + 1) wr.heap.size (wr.alloc (.cells #[.int .i64 0] 3)) (.slice (some ⟨w.heap.size, 0, none⟩) 0 0) (startLS mem) :=
        ⟨(HPA.out.trans hp).trans hPX, H.out, rfl, hrm.pure hPX, hn1, (Chg.of_pure (S := fun _ => False) hPX).heap HO.out id, Nat.le_trans HPA.out.size HP.out.size, (Chg.of_pure (S := fun _ => False) (hp.trans hPX)).heap HQA.out id, Nat.le_succ _, hpb, hwr, by
          rintro (⟨k, hk, e⟩ | e)
          · have := (Array.getElem?_eq_some_iff.1 (hrm.row k hk)).1; rw [← e] at this; omega
          · have := hrm.gmlo.2; rw [← e] at this; omega, HAC.out.pure (hp.trans hPX), startLS_good HMEM.out⟩
      have HRUN := Lib.hid hrun
      have hcost : msz (startLS mem) + 10 * (treeOf cs).cost ≤ 1099511626000 := by
        have := HV.out.cost h1 h2 h3
        show 0 + _ ≤ _
        omega
      have hpow : 2 ^ j - 1 < 2 ^ j := Nat.sub_lt (Nat.two_pow_pos j) (by decide)
      have HTREE := Lib.hid (And.intro h2 (And.intro hlen (And.intro hcost hpow)))
      have HSEG : Hid (Seg cs 0 (treeOf cs)) := Lib.hid (Seg.whole h1)
      have HPX := Lib.hid hPX
      clear h1 h2 h3 hlen hrun hcost hpow hrm hpb hPX
      go_wp2_with fail
      refine (smaskall_any j _ hn1 hn8).mono ?_
      rintro e w' ⟨rfl, rfl⟩
      go_wp2_with fail
      refine (watch_any ⟨⟨w.heap.size, j, mem.length, gr, cr, gm, cmm, rows⟩, w, cs, .slice A cs.length c, wq.heap.size, .slice none 0 0, false, fun _ => 0⟩ (w.heap.size + 1) wr.heap.size HV.out _ (treeOf cs) 0 (2 ^ j - 1) (startLS mem) _ _ _ _ (Nat.le_refl _) HTREE.out.1 HSEG.out (by have := HTREE.out.2.1; show 0 + (treeOf cs).len ≤ cs.length; omega) HTREE.out.2.2.2 HTREE.out.2.2.1 HRUN.out (by simp) (by rw [HTREE.out.2.1]; simp)).mono ?_
      rintro e w7 ⟨rfl, va7, hr7, _⟩
      have H7 := Lib.hid hr7
      have z7 := cell_of_row _ _ 0 _ _ _ hr7.qb
      simp only [List.getElem?_toArray, List.getElem?_cons_zero] at z7
      clear hr7
      go_wp2_with fail
      go_ret
      exact ⟨va7, rfl, H7.out.ac, H7.out.pure⟩

def AccP (cs : List Cd) (a : Int) (mem : List Int) (w : World) (e : Ending) (w' : World) : Prop :=
  ∃ v, e = .returned v ∧ OwnO w' w.heap.size 57 4 v (lockA cs a mem).A.length (accsL (lockA cs a mem).A) ∧ Pure w w'

set_option maxHeartbeats 1000000 in
set_option maxRecDepth 100000 in
theorem sacc_any (vl vm : Value) (cs : List Cd) (a : Int) (mem : List Int) (w : World) (h : Codes w vl cs) (hm : Ints w vm mem) (hs1 : cs.length ≤ 1048576) (hs2 : mem.length ≤ 1048576) :
    Calls Try.prog 37 #[vl, .int .i64 a, vm] w (AccP cs a mem w) := by
  have H := Lib.hid h
  have HM := Lib.hid hm
  obtain ⟨A, c, rfl, hnc, hcm⟩ := h.form
  obtain ⟨Am, cm, rfl⟩ := hm.form
  clear h hm
  unfold AccP
  by_cases hok : RunOk cs a mem
  · have HOK := Lib.hid hok
    obtain ⟨n, rfl, hn1, hn8⟩ := lanes_nat hok.2.1
    rw [lockA_ok hok]
    clear hok
    go_enter Try.func37, Try.ntmps37
    go_wp2_with fail
    refine (sok_any _ _ cs n mem _ H.out HM.out hs1 hs2 true (by simp only [true_iff]; exact HOK.out)).mono ?_
    rintro e w1 ⟨rfl, hp1⟩
    have HP1 := Lib.hid hp1
    clear hp1
    go_wp2_with fail
    refine (slist_any _ _ cs n mem _ (H.out.keep HP1.out) (Cells.keep HM.out HP1.out) HOK.out.1 hn1 hn8 HOK.out.2.2).mono ?_
    rintro e w2 ⟨v2, rfl, ho2, hp2⟩
    have HO := Lib.hid ho2
    have HP2 := Lib.hid hp2
    clear ho2 hp2
    go_wp2
    go_ret
    exact ⟨_, rfl, HO.out.base' HP1.out.size, HP1.out.trans HP2.out⟩
  · have HOK := Lib.hid hok
    rw [lockA_no hok]
    clear hok
    go_enter Try.func37, Try.ntmps37
    go_wp2_with fail
    refine (sok_any _ _ cs a mem _ H.out HM.out hs1 hs2 false (by simp [HOK.out])).mono ?_
    rintro e w1 ⟨rfl, hp1⟩
    have HE := Lib.hid (OwnO.empty_lit (w := w1) (B := w.heap.size) (e := 57) (s := 4) hp1.size)
    have HP1 := Lib.hid hp1
    clear hp1
    go_wp2
    go_ret
    exact ⟨_, rfl, HE.out, HP1.out.trans (by exact (by repeat (first | assumption | exact Pure.refl _ | refine Pure.drewN ?_ _ | refine Pure.drew ?_ | refine Pure.alloc ?_ _ | refine Pure.setCell ?_ (by simp <;> omega) _)))⟩

set_option maxHeartbeats 1000000 in
set_option maxRecDepth 100000 in
theorem iacc_any (vl vm : Value) (cs : List Cd) (a : Int) (mem : List Int) (w : World) (h : Codes w vl cs) (hm : Ints w vm mem) (hs1 : cs.length ≤ 1048576) (hs2 : mem.length ≤ 1048576) :
    Calls Try.prog 35 #[vl, .int .i64 a, vm] w (AccP cs a mem w) := by
  have H := Lib.hid h
  have HM := Lib.hid hm
  obtain ⟨A, c, rfl, hnc, hcm⟩ := h.form
  obtain ⟨Am, cm, rfl⟩ := hm.form
  clear h hm
  unfold AccP
  by_cases hok : RunOk cs a mem
  · have HOK := Lib.hid hok
    obtain ⟨n, rfl, hn1, hn8⟩ := lanes_nat hok.2.1
    rw [lockA_ok hok]
    clear hok
    go_enter Try.func35, Try.ntmps35
    go_wp2_with fail
    refine (ilock_any _ _ cs n mem _ H.out HM.out HOK.out.1 hn1 hn8 HOK.out.2.2).mono ?_
    rintro e w1 ⟨o, vb, va, rfl, hp0, hcs, hvl, hlk, hn, hmm, hrun⟩
    have p4 : w1.cell? ⟨o.p, 4, none⟩ = some va := hrun.obj.cell 4
    have HB := Lib.hid hrun.ac
    have HP := Lib.hid (hp0.trans hrun.pure)
    have HP0 := Lib.hid hp0
    clear hrun hcs hvl hn hmm hlk hp0
    go_wp2
    go_ret
    exact ⟨_, rfl, HB.out.base' HP0.out.size, HP.out⟩
  · have HOK := Lib.hid hok
    rw [lockA_no hok]
    clear hok
    go_enter Try.func35, Try.ntmps35
    go_wp2_with fail
    refine (ino_any _ _ cs a mem _ H.out HM.out hs1 hs2 HOK.out).mono ?_
    rintro e w1 ⟨rfl, hp1⟩
    go_wp2
    go_ret
    exact ⟨_, rfl, OwnO.of_own (World.ownsRow_nil _ _ _ _), hp1⟩

theorem lockA_lenA {cs : List Cd} {a : Int} {mem : List Int} : (lockA cs a mem).A.length ≤ 25600 := by
  by_cases h : RunOk cs a mem
  · obtain ⟨n, rfl, hn1, hn8⟩ := lanes_nat h.2.1
    rw [lockA_ok h]
    obtain ⟨h1, h2, h3⟩ := treeOf_spec h.1
    have hc := h.1.cost h1 h2 h3
    have := run_msz n mem.length hn8 (treeOf cs) 0 (2 ^ n - 1) (startLS mem)
    have h0 : msz (startLS mem) = 0 := rfl
    unfold msz at this
    unfold lockOf
    unfold msz at h0
    omega
  · rw [lockA_no h]; exact Nat.zero_le _

end Go.Proofs.Ytkolnakcgjlcgaa

namespace Go.Proofs.Ytkolnakcgjlcgaa
open Go.RowKit

def acv (x : Ac) : Value := .agg #[.int .i64 (x.who : Nat), .int .i64 (x.cell : Nat), .bool x.wr, .int .i64 (x.ph : Nat)]
def clashB (x y : Ac) : Bool := (x.ph == y.ph) && ((x.who != y.who) && ((x.cell == y.cell) && (x.wr || y.wr)))
/-- Two accesses of the list clash, the first one standing before the second one. -/
def Race (A : List Ac) : Prop := ∃ q p, p < q ∧ q < A.length ∧ clashB (A.getD p default) (A.getD q default) = true
theorem castEq (a b : Nat) : (((a : Nat) : Int) == ((b : Nat) : Int)) = (a == b) := by rw [Bool.eq_iff_iff, beq_iff_eq, beq_iff_eq]; omega
theorem castNe (a b : Nat) : (((a : Nat) : Int) != ((b : Nat) : Int)) = (a != b) := by rw [Bool.eq_iff_iff, bne_iff_ne, bne_iff_ne]; omega

structure AcAt (w : World) (b o : Nat) (x : Ac) : Prop where
  c0 : w.cell? ⟨b, o, none⟩ = some (.int .i64 (x.who : Nat))
  c1 : w.cell? ⟨b, o + 1, none⟩ = some (.int .i64 (x.cell : Nat))
  c2 : w.cell? ⟨b, o + 2, none⟩ = some (.bool x.wr)
  c3 : w.cell? ⟨b, o + 3, none⟩ = some (.int .i64 (x.ph : Nat))
theorem AcAt.keep {w w' : World} {b o : Nat} {x : Ac} (h : AcAt w b o x) (hp : Pure w w') : AcAt w' b o x := by
  have hb := World.block_lt_of_cell? _ _ h.c0
  exact ⟨(hp.cell _ _ hb).trans h.c0, (hp.cell _ _ hb).trans h.c1, (hp.cell _ _ hb).trans h.c2, (hp.cell _ _ hb).trans h.c3⟩
theorem AcAt.box (w : World) (x : Ac) (t : TypeId) : AcAt (w.alloc (.cells #[.int .i64 (x.who : Nat), .int .i64 (x.cell : Nat), .bool x.wr, .int .i64 (x.ph : Nat)] t)) w.heap.size 0 x := by
  have hh := heap_alloc_new w (.cells #[.int .i64 (x.who : Nat), .int .i64 (x.cell : Nat), .bool x.wr, .int .i64 (x.ph : Nat)] t)
  exact ⟨(cell_of_row _ _ 0 _ _ _ hh).trans rfl, (cell_of_row _ _ 1 _ _ _ hh).trans rfl, (cell_of_row _ _ 2 _ _ _ hh).trans rfl, (cell_of_row _ _ 3 _ _ _ hh).trans rfl⟩
theorem accs_at {w : World} {A : Option Addr} {n c : Nat} {H : List Ac} (h : Flat w (.slice A n c) H.length 4 (accsL H)) {k : Nat} (hk : k < H.length) : ∃ b o, A = some ⟨b, o, none⟩ ∧ b < w.heap.size ∧ ∀ j, j < H.length → AcAt w b (o + j * 4) (H.getD j default) := by
  obtain ⟨A', c', hv, h1, h2, h3⟩ := h
  injection hv with e1 e2 e3
  subst e1 e2 e3
  obtain ⟨b, o, rfl, hb, hc⟩ := h3 (by omega)
  refine ⟨b, o, rfl, hb, fun j hj => ?_⟩
  have a0 := hc (j * 4) (by omega)
  have a1 := hc (j * 4 + 1) (by omega)
  have a2 := hc (j * 4 + 2) (by omega)
  have a3 := hc (j * 4 + 3) (by omega)
  simp only [getD_of (acc_at H j hj).1] at a0
  simp only [getD_of (acc_at H j hj).2.1, ← Nat.add_assoc] at a1
  simp only [getD_of (acc_at H j hj).2.2.1, ← Nat.add_assoc] at a2
  simp only [getD_of (acc_at H j hj).2.2.2, ← Nat.add_assoc] at a3
  exact ⟨a0, a1, a2, a3⟩
def RaceP (H : List Ac) (w : World) (e : Ending) (w' : World) : Prop :=
  ∃ (i j : Int) (B : Bool), e = .returned (.tuple #[.int .i64 i, .int .i64 j, .bool B]) ∧ (B = true ↔ Race H) ∧ Pure w w'
theorem Race.no {H : List Ac} (h : ∀ q, q < H.length → ∀ p, p < q → clashB (H.getD p default) (H.getD q default) = false) : ¬ Race H := by
  rintro ⟨q, p, h1, h2, h3⟩
  rw [h q h2 p h1] at h3
  cases h3

end Go.Proofs.Ytkolnakcgjlcgaa

namespace Go.Proofs.Ytkolnakcgjlcgaa
open Go.RowKit

open Classical in
/-- Whether a run is free of races. -/
noncomputable def freeA (cs : List Cd) (a : Int) (mem : List Int) : Bool := decide (RunOk cs a mem ∧ ¬ Race (lockA cs a mem).A)
open Classical in
noncomputable def reasonA (cs : List Cd) (a : Int) (mem : List Int) : Int := if RunOk cs a mem then (if wholeA cs a mem = true then (if freeA cs a mem = true then 0 else 3) else 2) else 1
noncomputable def safeA (cs : List Cd) (a : Int) (mem : List Int) : Bool := wholeA cs a mem && freeA cs a mem
open Classical in
theorem freeA_no {cs : List Cd} {a : Int} {mem : List Int} (h : ¬ RunOk cs a mem) : freeA cs a mem = false := by
  unfold freeA; exact decide_eq_false (fun hh => h hh.1)
open Classical in
theorem freeA_iff {cs : List Cd} {a : Int} {mem : List Int} (h : RunOk cs a mem) : freeA cs a mem = true ↔ ¬ Race (lockA cs a mem).A := by
  unfold freeA; rw [decide_eq_true_iff]; exact ⟨fun hh => hh.2, fun hh => ⟨h, hh⟩⟩
theorem freeA_of {cs : List Cd} {a : Int} {mem : List Int} {B : Bool} (h : RunOk cs a mem) (hB : B = true ↔ Race (lockA cs a mem).A) : freeA cs a mem = !B := by
  have := freeA_iff h
  cases B
  · simp only [Bool.not_false]; rw [this]; intro hr; have := hB.2 hr; cases this
  · rw [Bool.not_true]
    by_cases hf : freeA cs a mem = true
    · exact absurd (hB.1 rfl) (this.1 hf)
    · simpa using hf
theorem reason_0 {cs : List Cd} {a : Int} {mem : List Int} : decide (reasonA cs a mem = 0) = safeA cs a mem := by
  unfold reasonA safeA
  by_cases h : RunOk cs a mem
  · rw [if_pos h]
    cases wholeA cs a mem <;> cases freeA cs a mem <;> simp
  · rw [if_neg h, freeA_no h]; simp

end Go.Proofs.Ytkolnakcgjlcgaa

namespace Go.Proofs.Ytkolnakcgjlcgaa

theorem clash_iff {x y : Ac} : clashB x y = true ↔ x.ph = y.ph ∧ x.who ≠ y.who ∧ x.cell = y.cell ∧ (x.wr = true ∨ y.wr = true) := by
  unfold clashB
  simp [Bool.and_eq_true, bne_iff_ne]
theorem clash_symm {x y : Ac} (h : clashB x y = true) : clashB y x = true := by
  rw [clash_iff] at h ⊢
  exact ⟨h.1.symm, fun e => h.2.1 e.symm, h.2.2.1.symm, h.2.2.2.symm⟩
theorem clash_irr (x : Ac) : clashB x x = false := by
  cases h : clashB x x
  · rfl
  · exact absurd rfl (clash_iff.1 h).2.1
theorem acMem {A : List Ac} {p : Nat} (h : p < A.length) : A.getD p default ∈ A := by
  simp [List.getD_eq_getElem?_getD, h]
theorem race_iff {A : List Ac} : Race A ↔ ∃ x ∈ A, ∃ y ∈ A, clashB x y = true := by
  constructor
  · rintro ⟨q, p, h1, h2, h3⟩
    exact ⟨_, acMem (by omega), _, acMem h2, h3⟩
  · rintro ⟨x, hx, y, hy, h⟩
    obtain ⟨i, hi, rfl⟩ := List.getElem_of_mem hx
    obtain ⟨j, hj, rfl⟩ := List.getElem_of_mem hy
    rcases Nat.lt_trichotomy i j with hij | hij | hij
    · exact ⟨j, i, hij, hj, by simpa [List.getD_eq_getElem?_getD, hi, hj] using h⟩
    · subst hij; rw [clash_irr] at h; cases h
    · exact ⟨i, j, hij, hi, by have := clash_symm h; simpa [List.getD_eq_getElem?_getD, hi, hj] using this⟩
theorem race_sub {A B : List Ac} (h : ∀ x ∈ A, x ∈ B) (hr : Race A) : Race B := by
  rw [race_iff] at hr ⊢
  obtain ⟨x, hx, y, hy, h1⟩ := hr
  exact ⟨x, h x hx, y, h y hy, h1⟩
theorem clash_up {e : Nat} {x y : Ac} : clashB (acUp e x) (acUp e y) = clashB x y := by
  unfold clashB acUp
  have : (x.ph + e == y.ph + e) = (x.ph == y.ph) := by rw [Bool.eq_iff_iff, beq_iff_eq, beq_iff_eq]; omega
  simp only [this]
/-- With a barrier more no race comes up. -/
theorem race_ins {X L : List Ac} {p : Nat} (h1 : ∀ x ∈ X, x.ph ≤ p) (h2 : ∀ x ∈ L, p ≤ x.ph) (hr : Race (X ++ L.map (acUp 1))) : Race (X ++ L) := by
  rw [race_iff] at hr ⊢
  obtain ⟨x, hx, y, hy, hc⟩ := hr
  have hmix : ∀ x ∈ X, ∀ z ∈ L, clashB x (acUp 1 z) = true → False := by
    intro x hx z hz hc
    have := (clash_iff.1 hc).1
    have e : (acUp 1 z).ph = z.ph + 1 := rfl
    have := h1 x hx; have := h2 z hz; omega
  rcases List.mem_append.1 hx with hx | hx
  · rcases List.mem_append.1 hy with hy | hy
    · exact ⟨x, List.mem_append_left _ hx, y, List.mem_append_left _ hy, hc⟩
    · obtain ⟨z, hz, rfl⟩ := List.mem_map.1 hy
      exact absurd hc (fun hc => hmix x hx z hz hc)
  · obtain ⟨z, hz, rfl⟩ := List.mem_map.1 hx
    rcases List.mem_append.1 hy with hy | hy
    · exact absurd (clash_symm hc) (fun hc => hmix y hy z hz hc)
    · obtain ⟨u, hu, rfl⟩ := List.mem_map.1 hy
      rw [clash_up] at hc
      exact ⟨z, List.mem_append_right _ hz, u, List.mem_append_right _ hu, hc⟩
theorem ins_safe {cs : List Cd} {at_ n : Nat} {mem : List Int} (hok : RunOk cs n mem) (h40 : cs.length + 1 ≤ 40) (h : at_ = 0 ∨ (at_ ≤ cs.length ∧ aroundAt cs at_ = -1)) :
    RunOk (insC cs at_) n mem ∧ memA (insC cs at_) n mem = memA cs n mem ∧ wholeA (insC cs at_) n mem = wholeA cs n mem ∧ (freeA cs n mem = true → freeA (insC cs at_) n mem = true) := by
  have hn : 1 ≤ n := by have := hok.2.1.1; omega
  obtain ⟨hp, hM, hS, X, L, p, hA, hA', h1, h2, _⟩ := ins_lock (mem := mem) hn hok.1 h40 h
  have hk : RunOk (insC cs at_) n mem := ⟨hp, hok.2⟩
  refine ⟨hk, ?_, ?_, ?_⟩
  · rw [memA_ok hk, memA_ok hok, hM]
  · rw [wholeA_ok hk, wholeA_ok hok, hS]
  · rw [freeA_iff hok, freeA_iff hk, lockA_ok hok, lockA_ok hk, hA, hA']
    exact fun hno hr => hno (race_ins h1 h2 hr)
theorem ins_later {cs : List Cd} {n : Nat} {mem : List Int} (hok : RunOk cs n mem) (h40 : cs.length + 1 ≤ 40) : RunOk (cBar :: cs) n mem ∧ (lockA (cBar :: cs) n mem).A = (lockA cs n mem).A.map (acUp 1) := by
  have hn : 1 ≤ n := by have := hok.2.1.1; omega
  obtain ⟨hp, _, _, X, L, p, hA, hA', _, _, h0⟩ := ins_lock (at_ := 0) (mem := mem) hn hok.1 h40 (.inl rfl)
  have e0 : insC cs 0 = cBar :: cs := rfl
  rw [e0] at hp hA'
  have hk : RunOk (cBar :: cs) n mem := ⟨hp, hok.2⟩
  rw [h0 rfl, List.nil_append] at hA hA'
  exact ⟨hk, by rw [lockA_ok hok, lockA_ok hk, hA, hA']⟩

/-- The phases are small. -/
theorem lockA_ph {cs : List Cd} {a : Int} {mem : List Int} : ∀ x ∈ (lockA cs a mem).A, x.ph ≤ 1099511627776 := by
  by_cases h : RunOk cs a mem
  · obtain ⟨n, rfl, hn1, hn8⟩ := lanes_nat h.2.1
    rw [lockA_ok h]
    obtain ⟨h1, h2, h3⟩ := treeOf_spec h.1
    have hc := h.1.cost h1 h2 h3
    have hm := run_msz n mem.length hn8 (treeOf cs) 0 (2 ^ n - 1) (startLS mem)
    have hp := phase_le (cs := cs) n mem.length (mask := 2 ^ n - 1) (s := startLS mem) h2 (Seg.whole h1) (full_lt n) (fun x hx => absurd hx (by simp [startLS]))
    have h0 : msz (startLS mem) = 0 := rfl
    intro x hx
    have := hp x hx
    unfold msz at hm h0
    omega
  · rw [lockA_no h]; exact fun x hx => absurd hx (by simp [noLS])

end Go.Proofs.Ytkolnakcgjlcgaa

namespace Go.Proofs.Ytkolnakcgjlcgaa
open Go.RowKit

set_option maxHeartbeats 1000000 in
theorem sameAccesses_same (v v' : Value) (H : List Ac) (w : World) (h : Flat w v H.length 4 (accsL H)) (h' : Flat w v' H.length 4 (accsL H)) :
    Calls Try.prog 36 #[v, v'] w fun e w' => e = .returned (.bool true) ∧ Pure w w' := by
  have HF := Lib.hid h
  have HF' := Lib.hid h'
  obtain ⟨A, c, rfl, hnc, hcm⟩ := h.form
  obtain ⟨A', c', rfl, hnc', hcm'⟩ := h'.form
  clear h h'
  have hd : ((H.length : Int) != H.length) = false := by simp
  go_enter Try.func36, Try.ntmps36
  go_wp2
  go_loopg [5] H.length (fun gk i wr => ∃ k : Nat, gk + k = H.length ∧ i = .int .i64 k ∧ Pure w wr)
  case atStart => exact ⟨0, rfl, rfl, Pure.refl _⟩
  case round =>
    obtain ⟨k, hgk, rfl, hp⟩ := hrel
    have Hgk := Lib.hid hgk
    have hkn : k ≤ H.length := by omega
    clear hgk
    by_cases hlt : k < H.length
    · obtain ⟨b, o, rfl, hb, hc⟩ := accs_at HF.out hlt
      obtain ⟨b', o', rfl, hb', hc'⟩ := accs_at HF'.out hlt
      obtain ⟨q0, q1, q2, q3⟩ := (hc k hlt).keep hp
      obtain ⟨r0, r1, r2, r3⟩ := (hc' k hlt).keep hp
      obtain ⟨x, Hx⟩ : ∃ x : Int, Hid ((((H.getD k default).who : Nat) : Int) = x) := ⟨_, Lib.hid rfl⟩
      obtain ⟨y, Hy⟩ : ∃ y : Int, Hid ((((H.getD k default).cell : Nat) : Int) = y) := ⟨_, Lib.hid rfl⟩
      obtain ⟨z, Hz⟩ : ∃ z : Int, Hid ((((H.getD k default).ph : Nat) : Int) = z) := ⟨_, Lib.hid rfl⟩
      obtain ⟨u, Hu⟩ : ∃ u : Bool, Hid ((H.getD k default).wr = u) := ⟨_, Lib.hid rfl⟩
      rw [Hx.out] at q0 r0
      rw [Hy.out] at q1 r1
      rw [Hu.out] at q2 r2
      rw [Hz.out] at q3 r3
      clear hc hc'
      go_wp2
      go_quiet (fail)
      go_wp2
      go_roundg (H.length - (k + 1))
      case measure => have := Hgk.out; omega
      case rel => exact ⟨k + 1, by have := Hgk.out; omega, by go_num, by exact (by repeat (first | assumption | exact Pure.refl _ | refine Pure.drewN ?_ _ | refine Pure.drew ?_ | refine Pure.alloc ?_ _ | refine Pure.setCell ?_ (by simp <;> omega) _))⟩
    · go_wp2
      go_ret
      exact ⟨rfl, hp⟩

theorem bar_cells (cs : List Cd) : cdCells cBar ++ (List.range (cs.length * 4)).map (cdf cs) = (cBar :: cs).flatMap cdCells := by
  rw [range_cdf]
  simp
theorem bar_open {w : World} {B T : Nat} {v : Value} {n : Nat} {cs : List Cd} (hT : T = 36) (ho : OwnO w B T 4 v n (cdCells cBar ++ (List.range (cs.length * 4)).map (cdf cs))) (hn : n = (cBar :: cs).length) : Codes w v (cBar :: cs) := by
  subst hT
  rw [bar_cells] at ho
  exact Codes.of_ownO ho hn (flat_cdf _)

/-- A block that holds the cells of a program, wholly. -/
theorem codes_lit {w : World} {b n : Nat} {cs : List Cd} {t : TypeId} (h : w.heap[b]? = some (.cells (cs.flatMap cdCells).toArray t (0, 0))) (hn : n = cs.length) (hl : n ≤ 1048576) : Codes w (.slice (some ⟨b, 0, none⟩) n n) cs := by
  subst hn
  refine ⟨_, _, rfl, Nat.le_refl _, by omega, fun hn0 => ⟨b, 0, rfl, ?_, fun j hj => ?_⟩⟩
  · exact (Array.getElem?_eq_some_iff.1 h).1
  · have hc := flat_cdf cs j hj
    exact (cell_of_row _ _ _ _ _ _ h).trans (by simpa using hc)

end Go.Proofs.Ytkolnakcgjlcgaa

namespace Go.Proofs.Ytkolnakcgjlcgaa

theorem simR_M {c : Cd} (h : c.op ≠ 8) (id m : Nat) (f M M' : Nat → Int) : simR c id m f M = simR c id m f M' := by
  unfold simR
  rw [if_neg h, if_neg h]
theorem lanes_M {c : Cd} (h : c.op ≠ 9) (m mask : Nat) (s : LS) : ∀ j, (lanesTo c m mask j s).M = s.M
  | 0 => rfl
  | j + 1 => by
    have ih := lanes_M h m mask s j
    unfold lanesTo
    split
    · show simM c m _ (lanesTo c m mask j s).M = _
      unfold simM; rw [if_neg h]; exact ih
    · exact ih
theorem lanes_R (c : Cd) (m mask : Nat) (s : LS) : ∀ j l, (lanesTo c m mask j s).R l = if l < j ∧ mask.testBit l = true then simR c l m (s.R l) s.M else s.R l
  | 0, l => by rw [if_neg (by omega)]; rfl
  | j + 1, l => by
    have ih := lanes_R c m mask s j
    have hM : simR c j m (s.R j) (lanesTo c m mask j s).M = simR c j m (s.R j) s.M := by
      by_cases h : c.op = 9
      · exact simR_M (by omega) j m _ _ _
      · rw [lanes_M h]
    unfold lanesTo
    split
    · rename_i hb
      show (if l = j then simR c j m ((lanesTo c m mask j s).R j) (lanesTo c m mask j s).M else (lanesTo c m mask j s).R l) = _
      by_cases hl : l = j
      · subst hl
        rw [if_pos rfl, if_pos ⟨by omega, hb⟩, ih l, if_neg (by omega)]
        exact hM
      · rw [if_neg hl, ih l]
        by_cases hq : l < j ∧ mask.testBit l = true
        · rw [if_pos hq, if_pos ⟨by omega, hq.2⟩]
        · rw [if_neg hq, if_neg (fun h => hq ⟨by omega, h.2⟩)]
    · rename_i hb
      rw [ih l]
      by_cases hq : l < j ∧ mask.testBit l = true
      · rw [if_pos hq, if_pos ⟨by omega, hq.2⟩]
      · rw [if_neg hq, if_neg (fun h => by
          by_cases hl : l = j
          · subst hl; exact hb h.2
          · exact hq ⟨by omega, h.2⟩)]
/-- The accesses of the lanes below j of a mask. -/
def accTo (c : Cd) (m mask P : Nat) (R : Nat → Nat → Int) : Nat → List Ac
  | 0 => []
  | j + 1 => if mask.testBit j then accTo c m mask P R j ++ [⟨j, cellOf c m (R j), decide (c.op = 9), P⟩] else accTo c m mask P R j
theorem accTo_mem {c : Cd} {m mask P : Nat} {R : Nat → Nat → Int} {x : Ac} : ∀ {j : Nat}, x ∈ accTo c m mask P R j ↔ ∃ l, l < j ∧ mask.testBit l = true ∧ x = ⟨l, cellOf c m (R l), decide (c.op = 9), P⟩
  | 0 => ⟨fun h => absurd h (by simp [accTo]), fun ⟨l, h, _⟩ => absurd h (by omega)⟩
  | j + 1 => by
    unfold accTo
    split
    · rename_i hb
      rw [List.mem_append, accTo_mem (j := j)]
      constructor
      · rintro (⟨l, h1, h2, h3⟩ | h)
        · exact ⟨l, by omega, h2, h3⟩
        · simp at h; exact ⟨j, by omega, hb, h⟩
      · rintro ⟨l, h1, h2, h3⟩
        by_cases hl : l = j
        · subst hl; exact .inr (by simp [h3])
        · exact .inl ⟨l, by omega, h2, h3⟩
    · rename_i hb
      rw [accTo_mem (j := j)]
      constructor
      · rintro ⟨l, h1, h2, h3⟩
        exact ⟨l, by omega, h2, h3⟩
      · rintro ⟨l, h1, h2, h3⟩
        by_cases hl : l = j
        · subst hl; exact absurd h2 hb
        · exact ⟨l, by omega, h2, h3⟩
theorem cellOf_eq {c : Cd} {m : Nat} {f g : Nat → Int} (h : f c.b.toNat = g c.b.toNat) : cellOf c m f = cellOf c m g := by unfold cellOf; rw [h]
theorem lanes_A (c : Cd) (m mask : Nat) (s : LS) : ∀ j, (lanesTo c m mask j s).A = if c.op = 8 ∨ c.op = 9 then s.A ++ accTo c m mask s.P s.R j else s.A
  | 0 => by
    split
    · show s.A = s.A ++ []; simp
    · rfl
  | j + 1 => by
    have ih := lanes_A c m mask s j
    unfold lanesTo accTo
    split
    · show (if c.op = 8 ∨ c.op = 9 then (lanesTo c m mask j s).A ++ [⟨j, cellOf c m ((lanesTo c m mask j s).R j), decide (c.op = 9), (lanesTo c m mask j s).P⟩] else (lanesTo c m mask j s).A) = _
      split
      · rw [ih, if_pos (by assumption), lanesTo_P, lanes_R, if_neg (by omega), List.append_assoc]
      · rw [ih, if_neg (by assumption)]
    · exact ih
theorem exec_R (c : Cd) (n m i mask : Nat) (s : LS) (l : Nat) : (exec c n m i mask s).R l = if l < n ∧ mask.testBit l = true then simR c l m (s.R l) s.M else s.R l := by
  have h := lanes_R c m mask (beat i mask s) n l
  unfold exec
  simp only
  split
  · exact h
  · exact h
theorem exec_A (c : Cd) (n m i mask : Nat) (s : LS) : (exec c n m i mask s).A = if c.op = 8 ∨ c.op = 9 then s.A ++ accTo c m mask s.P s.R n else s.A := by
  have h := lanes_A c m mask (beat i mask s) n
  unfold exec
  simp only
  split
  · exact h
  · exact h
theorem exec_P (c : Cd) (n m i mask : Nat) (s : LS) : (exec c n m i mask s).P = if c.op = 10 then s.P + 1 else s.P := by
  have h := lanesTo_P c m mask (beat i mask s) n
  unfold exec
  simp only
  split
  · show (lanesTo c m mask n (beat i mask s)).P + 1 = _; rw [h]; rfl
  · rw [h]; rfl
theorem exec_M {c : Cd} (h9 : c.op ≠ 9) (n m i mask : Nat) (s : LS) : (exec c n m i mask s).M = s.M := by
  have h := lanes_M h9 m mask (beat i mask s) n
  unfold exec
  simp only
  split
  · exact h
  · exact h
theorem full_bit {n l : Nat} (h : l < n) : (2 ^ n - 1 : Nat).testBit l = true := by
  rw [Nat.testBit_two_pow_sub_one]; simp [h]
/-- With all lanes. -/
theorem exec_Rf (c : Cd) (n m i : Nat) (s : LS) (l : Nat) (h : l < n) : (exec c n m i (2 ^ n - 1) s).R l = simR c l m (s.R l) s.M := by
  rw [exec_R, if_pos ⟨h, full_bit h⟩]
theorem accTo_full {c : Cd} {n m P : Nat} {R : Nat → Nat → Int} {x : Ac} : x ∈ accTo c m (2 ^ n - 1) P R n ↔ ∃ l, l < n ∧ x = ⟨l, cellOf c m (R l), decide (c.op = 9), P⟩ := by
  rw [accTo_mem]
  exact ⟨fun ⟨l, h1, _, h3⟩ => ⟨l, h1, h3⟩, fun ⟨l, h1, h3⟩ => ⟨l, h1, full_bit h1, h3⟩⟩

/-- A program of plain instructions alone. -/
def lineT : List Cd → Tr
  | [] => .nil
  | c :: r => .op c (lineT r)
theorem line_flat : ∀ cs : List Cd, (lineT cs).flat = cs
  | [] => rfl
  | c :: r => by show c :: (lineT r).flat = _; rw [line_flat r]
theorem line_ok : ∀ {cs : List Cd}, (∀ c ∈ cs, Plain c) → (lineT cs).Ok
  | [], _ => trivial
  | c :: r, h => ⟨h c (by simp), line_ok fun x hx => h x (by simp [hx])⟩
theorem line_depth : ∀ cs : List Cd, (lineT cs).depth = 0
  | [] => rfl
  | _ :: r => line_depth r
def lineRun (n m : Nat) : List Cd → Nat → LS → LS
  | [], _, s => s
  | c :: r, i, s => lineRun n m r (i + 1) (exec c n m i (2 ^ n - 1) s)
theorem line_run (n m : Nat) (hn : 1 ≤ n) : ∀ (cs : List Cd) (i : Nat) (s : LS), run n m (lineT cs) i (2 ^ n - 1) s = lineRun n m cs i s
  | [], _, _ => rfl
  | c :: r, i, s => by
    show (if (2 ^ n - 1 : Nat) = 0 then s else run n m (lineT r) (i + 1) (2 ^ n - 1) (exec c n m i (2 ^ n - 1) s)) = _
    rw [if_neg (full_ne hn), line_run n m hn r]
    rfl
theorem line_lock {cs : List Cd} {n : Nat} {mem : List Int} (hn : 1 ≤ n) (hp : ∀ c ∈ cs, Plain c) (h40 : cs.length ≤ 40) : PValid cs ∧ lockOf cs n mem = lineRun n mem.length cs 0 (startLS mem) := by
  have hv := valid_of_tree (line_ok hp) (by rw [line_depth]; omega) (by unfold Tr.len; rw [line_flat]; exact h40)
  have e := treeOf_eq hv rfl (line_ok hp)
  rw [line_flat] at hv e
  refine ⟨hv, ?_⟩
  unfold lockOf
  rw [e, line_run n mem.length hn]

end Go.Proofs.Ytkolnakcgjlcgaa
