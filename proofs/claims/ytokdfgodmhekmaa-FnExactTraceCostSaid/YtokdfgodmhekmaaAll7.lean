/- The whole run in lockstep, as the program makes it. No condition. -/
import Derived.Test.YtokdfgodmhekmaaBlockI
import Derived.Test.YtokdfgodmhekmaaCanRun
namespace Go.Proofs.Ytokdfgodmhekmaa
open Go.RowKit

set_option maxHeartbeats 400000 in
theorem imaskall_any (n : Nat) (w : World) (h1 : 1 ≤ n) (h8 : n ≤ 8) :
    Calls Try.prog 68 #[.int .i64 n] w fun e w' => e = .returned (.int .i64 ((2 ^ n - 1 : Nat) : Int)) ∧ w = w' := by
  have hs := shl8 (j := n) (by omega)
  have hp := pow8 h8
  have hp1 : 1 ≤ 2 ^ n := Nat.one_le_two_pow
  have HC : Hid (((2 ^ n - 1 : Nat) : Int) = ((2 ^ n : Nat) : Int) - 1) := Lib.hid (by omega)
  rw [HC.out]
  obtain ⟨q, Hq⟩ : ∃ q, Hid (2 ^ n = q) := ⟨2 ^ n, Lib.hid rfl⟩
  rw [Hq.out] at hs hp hp1 ⊢
  have HS := Lib.hid hs
  go_enter Try.func68, Try.ntmps68
  go_wp2_with fail
  refine (ilanesok_any _ _ true (by simp only [true_iff]; unfold LanesOk; omega)).mono ?_
  rintro e w' ⟨rfl, rfl⟩
  go_wp2
  go_ret
  exact ⟨rfl, rfl⟩

set_option maxHeartbeats 1000000 in
set_option maxRecDepth 100000 in
theorem clone_any (v : Value) (mem : List Int) (w : World) (h : Ints w v mem) (h1 : 1 ≤ mem.length) (hsmall : mem.length ≤ 1048576) :
    Calls Try.prog 82 #[v] w fun e w' => ∃ g c, e = .returned (.slice (some ⟨g, 0, none⟩) mem.length c) ∧ OwnO w' w.heap.size 3 1 (.slice (some ⟨g, 0, none⟩) mem.length c) mem.length ((List.range mem.length).map fun j => .int .i64 (mem.getD j 0)) ∧ Pure w w' := by
  have HM := Lib.hid h
  obtain ⟨A, c, rfl, hnc, hcm, hread⟩ := h
  obtain ⟨b, o, rfl, hb, hc⟩ := hread (by omega)
  clear hc hread
  have hnil : ∀ w : World, (binOp BinOp.eql 23 (.slice (some ⟨b, o, none⟩) mem.length c) (.slice none 0 0)).run Try.prog w = .ok (.bool false) w := fun _ => by kernel_rfl
  go_enter Try.func82, Try.ntmps82
  go_wp2_with (at_builtin; go_must (refine wl_copyR elInt rfl _ _ rfl w.heap.size rfl _ rfl _ mem.length HM.out (fun j _ => rfl) (by decide) (by omega) (by omega) ?_); intro vm' wq hown hp; go_must (obtain ⟨gm, cmm, hvm, hgm1, hgm2, hcm1, hcm2⟩ := own_form hown (by omega); subst hvm; have HOWN := Lib.hid hown; have HP := Lib.hid hp; clear hown hp))
  go_ret
  exact ⟨gm, cmm, rfl, OwnO.of_own HOWN.out, HP.out⟩

set_option maxHeartbeats 1000000 in
theorem nm_any (v : Value) (cs : List Cd) (w : World) (h : Codes w v cs) (hv : PValid cs) :
    Calls Try.prog 81 #[v] w fun e w' => ∃ p va vo, e = .returned (.pointer (some ⟨p, 0, none⟩)) ∧ Pure w w' ∧ w'.cell? ⟨p, 0, none⟩ = some v ∧ w'.cell? ⟨p, 1, none⟩ = some vo ∧ Tabs w' va vo cs := by
  have H := Lib.hid h
  have HV := Lib.hid hv
  obtain ⟨A, c, rfl, hnc, hcm⟩ := h.form
  clear h hv
  go_enter Try.func81, Try.ntmps81
  go_wp2_with fail
  refine (blocks_any _ cs _ H.out HV.out.2.1).mono ?_
  rintro e w1 ⟨hp, hm⟩
  rw [HV.out.2.2] at hm
  obtain ⟨va, vo, rfl, ht⟩ := hm
  have HT := Lib.hid (ht rfl)
  obtain ⟨_, ⟨Ao, co, rfl, _⟩, _⟩ := ht rfl
  clear ht
  go_wp2
  go_ret
  have hx := heap_alloc_new w1 (.cells #[.slice A cs.length c, .slice Ao cs.length co] 90)
  exact ⟨w1.heap.size, va, _, rfl, hp.trans (by exact (by repeat (first | assumption | exact Pure.refl _ | refine Pure.drewN ?_ _ | refine Pure.drew ?_ | refine Pure.alloc ?_ _ | refine Pure.setCell ?_ (by simp <;> omega) _))), (cell_of_row _ _ 0 _ _ _ hx).trans rfl, (cell_of_row _ _ 1 _ _ _ hx).trans rfl, HT.out.keep (by exact (by repeat (first | assumption | exact Pure.refl _ | refine Pure.drewN ?_ _ | refine Pure.drew ?_ | refine Pure.alloc ?_ _ | refine Pure.setCell ?_ (by simp <;> omega) _)))⟩

def LockP (cs : List Cd) (n : Nat) (mem : List Int) (vl : Value) (w : World) (e : Ending) (w' : World) : Prop :=
  ∃ (o : IObj) (vb va : Value), e = .returned (.tuple #[.pointer (some ⟨o.p, 0, none⟩), .bool true]) ∧ Pure w o.w0 ∧ o.cs = cs ∧ o.vl = vl ∧ o.look = .nilFunc ∧ o.rm.n = n ∧ o.rm.m = mem.length ∧ ORun o w' vb va (lockOf cs n mem)

set_option maxHeartbeats 1000000 in
set_option maxRecDepth 100000 in
theorem ino_any (vl vm : Value) (cs : List Cd) (a : Int) (mem : List Int) (w : World) (h : Codes w vl cs) (hm : Ints w vm mem) (hs1 : cs.length ≤ 1048576) (hs2 : mem.length ≤ 1048576) (hno : ¬ RunOk cs a mem) :
    Calls Try.prog 60 #[vl, .int .i64 a, vm, .nilFunc] w fun e w' => e = .returned (.tuple #[.pointer none, .bool false]) ∧ Pure w w' := by
  have H := Lib.hid h
  have HM := Lib.hid hm
  have HNO := Lib.hid hno
  obtain ⟨A, c, rfl, hnc, hcm⟩ := h.form
  obtain ⟨Am, cm, rfl⟩ := hm.form
  clear h hm hno
  go_enter Try.func60, Try.ntmps60
  go_wp2_with fail
  refine (icanrun_any _ _ cs a mem _ H.out HM.out hs1 hs2 false (by simp [HNO.out])).mono ?_
  rintro e w1 ⟨rfl, hp1⟩
  go_wp2
  refine bodyPost_ret (results_tmp2 rfl _ _ _) rfl ?_
  exact ⟨rfl, hp1⟩

set_option maxHeartbeats 4000000 in
set_option maxRecDepth 100000 in
theorem ilock_any (vl vm : Value) (cs : List Cd) (n : Nat) (mem : List Int) (w : World) (h : Codes w vl cs) (hm : Ints w vm mem) (hv : PValid cs) (hn1 : 1 ≤ n) (hn8 : n ≤ 8) (hmem : MemOk mem) :
    Calls Try.prog 60 #[vl, .int .i64 n, vm, .nilFunc] w (LockP cs n mem vl w) := by
  have H := Lib.hid h
  have HM := Lib.hid hm
  have HV := Lib.hid hv
  have HMEM := Lib.hid hmem
  have hc40 := hv.2.1
  obtain ⟨⟨hm1, hm32⟩, _⟩ := hmem
  obtain ⟨A, c, rfl, hnc, hcm⟩ := h.form
  obtain ⟨Am, cm, rfl, hmc, hmcm, _⟩ := hm
  clear h hv
  go_enter Try.func60, Try.ntmps60
  go_wp2_with fail
  refine (icanrun_any _ _ cs n mem _ H.out HM.out (by omega) (by omega) true (by simp only [true_iff]; exact ⟨HV.out, ⟨by omega, by omega⟩, HMEM.out⟩)).mono ?_
  rintro e wa ⟨rfl, hpa⟩
  go_wp2_with fail
  refine (nm_any _ cs _ (H.out.keep hpa) HV.out).mono ?_
  rintro e wb ⟨pm, va0, vo0, rfl, hpb, hpm0, hpm1, htab⟩
  have HPB := Lib.hid (hpa.trans hpb)
  have HPM := Lib.hid (And.intro hpm0 hpm1)
  have HTAB := Lib.hid htab
  clear hpa hpb hpm0 hpm1 htab
  go_wp2_with fail
  refine (clone_any _ mem _ (HM.out.keep HPB.out) hm1 (by omega)).mono ?_
  rintro e wq ⟨gm, cmm, rfl, hown, hp⟩
  obtain ⟨hgm1, hgm2⟩ := hown.lt gm rfl
  have HOWN := Lib.hid hown
  have HP := Lib.hid hp
  clear hown hp
  go_wp2
  have HPo : Hid ((wq.alloc (.cells #[.pointer (some ⟨pm, 0, none⟩), .slice none 0 0, .slice (some ⟨gm, 0, none⟩) mem.length cmm, .slice none 0 0, .slice none 0 0, .int .i64 0, .nilFunc] 71)).heap[wq.heap.size]? = some (.cells #[.pointer (some ⟨pm, 0, none⟩), .slice none 0 0, .slice (some ⟨gm, 0, none⟩) mem.length cmm, .slice none 0 0, .slice none 0 0, .int .i64 0, .nilFunc] 71 (0, 0))) := Lib.hid (heap_alloc_new _ _)
  go_loopg [24] n (fun gk i wr => ∃ (j : Nat) (vr : Value) (rows : Nat → Nat), gk + j = n ∧ i = .int .i64 j ∧ Pure wb wr ∧ RegsB wr wb.heap.size vr j rows ∧
    wr.heap[wq.heap.size]? = some (.cells #[.pointer (some ⟨pm, 0, none⟩), vr, .slice (some ⟨gm, 0, none⟩) mem.length cmm, .slice none 0 0, .slice none 0 0, .int .i64 0, .nilFunc] 71 (0, 0)) ∧
    OwnO wr wb.heap.size 3 1 (.slice (some ⟨gm, 0, none⟩) mem.length cmm) mem.length ((List.range mem.length).map fun j => .int .i64 (mem.getD j 0)) ∧
    OwnO wr wb.heap.size 44 2 (.slice none 0 0) 0 [] ∧ (∀ i, i < j → rows i ≠ gm))
  case atStart =>
    refine ⟨0, .slice none 0 0, fun _ => 0, rfl, rfl, HP.out.trans (by exact (by repeat (first | assumption | exact Pure.refl _ | refine Pure.drewN ?_ _ | refine Pure.drew ?_ | refine Pure.alloc ?_ _ | refine Pure.setCell ?_ (by simp <;> omega) _))), ⟨World.ownsRow_nil _ _ _ _, fun i hi => absurd hi (by omega), fun i hi => absurd hi (by omega), fun i k hi => absurd hi (by omega)⟩, HPo.out, HOWN.out.pure (by exact (by repeat (first | assumption | exact Pure.refl _ | refine Pure.drewN ?_ _ | refine Pure.drew ?_ | refine Pure.alloc ?_ _ | refine Pure.setCell ?_ (by simp <;> omega) _))), OwnO.of_own (World.ownsRow_nil _ _ _ _), fun i hi => absurd hi (by omega)⟩
  case round =>
    obtain ⟨j, vr, rows, hgk, rfl, hp, hregs, hobj, hmem, htr, hne⟩ := hrel
    have Hgk := Lib.hid hgk
    have HR := Lib.hid hregs
    have HO := Lib.hid hobj
    have HMe := Lib.hid hmem
    have HTr := Lib.hid htr
    have HNe := Lib.hid hne
    have hjn : j ≤ n := by omega
    clear hgk hregs hmem htr hne HPo
    have p2 := (cell_of_row wr wq.heap.size 1 _ _ _ hobj).trans rfl
    have hpfr := frozen_of_row wr wq.heap.size 1 _ _ hobj
    have hplt : wq.heap.size < wr.heap.size := (Array.getElem?_eq_some_iff.1 hobj).1
    clear hobj
    by_cases hlt : j < n
    · go_wp2
      refine region_heldF (fun w' => w'.cell? ⟨wq.heap.size, 1, none⟩ = some vr) (List.range 5) [5, 6, 7, 8, 9, 10] (fun l => List.take 5 l) (fun l => List.drop 5 l) (by kernel_rfl) (by kernel_rfl) (by kernel_rfl) (by kernel_rfl) (fun c a d v w h => by cases d <;> exact h) (by exact p2) ?_
      simp only [List.take_succ_cons, List.take_zero, List.drop_succ_cons, List.drop_zero, List.cons_append, List.nil_append]
      apply held_of
      · exact rfl
      · intro w' hS
        go_simp
        try exact rfl
      try go_simp
      apply held_of
      · exact rfl
      · intro w' hS
        go_simp
        try exact rfl
      try go_simp
      apply held_of
      · exact rfl
      · intro w' hS
        go_simp
        try exact rfl
      try go_simp
      apply held_of
      · exact rfl
      · intro w' hS
        go_simp
        try exact rfl
      try go_simp
      apply held_of
      · exact rfl
      · intro w' hS
        go_simp
        try exact rfl
      try go_simp
      refine held_nil ?_
      unfold Tail
      refine wl_make elInt rfl _ _ rfl wb.heap.size _ _ _ _ 4 rfl rfl rfl rfl (by decide) (by decide) hp.size ?_
      intro w4 hown4 hp4 hsz4
      have HZ4 := Lib.hid (own_zero4 hown4)
      have HP4 := Lib.hid ((show Pure wr wr.drew from Pure.drew (Pure.refl _)).trans hp4)
      have z2 := (HP4.out.cell _ _ hplt).trans p2
      have hplt4 := Nat.lt_of_lt_of_le hplt HP4.out.size
      clear hown4 hp4
      go_wp2
      refine And.intro z2 ?_
      unfold Tail
      go_wp2
      refine And.intro (keepPc (by exact (by repeat (first | assumption | exact Pure.refl _ | refine Pure.drewN ?_ _ | refine Pure.drew ?_ | refine Pure.alloc ?_ _ | refine Pure.setCell ?_ (by simp <;> omega) _))) z2) ?_
      unfold Tail
      have hgx := heap_alloc_new w4 (.cells #[.slice (some ⟨wr.heap.size, 0, none⟩) 4 4] 23)
      have hcx := cell_of_row _ _ 0 _ _ _ hgx
      refine wl_append elInts rfl _ _ rfl wb.heap.size vr j _ rfl (own_pure HR.out.own (HP4.out.trans (by exact (by repeat (first | assumption | exact Pure.refl _ | refine Pure.drewN ?_ _ | refine Pure.drew ?_ | refine Pure.alloc ?_ _ | refine Pure.setCell ?_ (by simp <;> omega) _))))) w4.heap.size 1 1 [.slice (some ⟨wr.heap.size, 0, none⟩) 4 4] rfl rfl (fun i u hu => ?_) (by intro u hu; simp at hu; subst hu; rfl) (by omega) (by omega) (Nat.le_trans hp.size (Nat.le_trans HP4.out.size (by simp))) ?_
      · have hi : i = 0 := by
          by_cases e : i = 0
          · exact e
          · rw [List.getElem?_eq_none (by simp; omega)] at hu; cases hu
        subst hi
        rw [← hu]; exact hcx
      intro v5 w5 hown5 hg5
      obtain ⟨g5, c5, hv5, _, _, _, _⟩ := own_form hown5 (by omega)
      subst hv5
      have hPw1 : Pure wr (w4.alloc (.cells #[.slice (some ⟨wr.heap.size, 0, none⟩) 4 4] 23)) := HP4.out.trans (by exact (by repeat (first | assumption | exact Pure.refl _ | refine Pure.drewN ?_ _ | refine Pure.drew ?_ | refine Pure.alloc ?_ _ | refine Pure.setCell ?_ (by simp <;> omega) _)))
      have hc5 : Chg (fun k => vr.ownBlock = some k) (w4.alloc (.cells #[.slice (some ⟨wr.heap.size, 0, none⟩) 4 4] 23)) w5 := Chg.of_grown hg5 (fun k hk => hk)
      have hvrp : ∀ k, vr.ownBlock = some k → k ≠ wq.heap.size := own_ne_heap HR.out.own HO.out (by decide)
      have hO5 : w5.heap[wq.heap.size]? = some (.cells #[.pointer (some ⟨pm, 0, none⟩), vr, .slice (some ⟨gm, 0, none⟩) mem.length cmm, .slice none 0 0, .slice none 0 0, .int .i64 0, .nilFunc] 71 (0, 0)) :=
        hc5.heap ((Chg.of_pure (S := fun _ => False) hPw1).heap HO.out id) (fun e => hvrp _ e rfl)
      have hz1 := (Chg.of_pure (S := fun _ => False) (show Pure w4 (w4.alloc (.cells #[.slice (some ⟨wr.heap.size, 0, none⟩) 4 4] 23)) from (by repeat (first | assumption | exact Pure.refl _ | refine Pure.drewN ?_ _ | refine Pure.drew ?_ | refine Pure.alloc ?_ _ | refine Pure.setCell ?_ (by simp <;> omega) _)))).heap HZ4.out id
      have hR5 := HR.out.push hPw1 (Nat.le_refl _) hp.size hz1 hown5 hg5
      have hM5 := (HMe.out.pure hPw1).chg hc5 (fun g hg e => (OwnO.of_own (own_pure HR.out.own hPw1)).ne (HMe.out.pure hPw1) (by decide) g e hg.symm)
      have hT5 := (HTr.out.pure hPw1).chg hc5 (fun g hg e => (OwnO.of_own (own_pure HR.out.own hPw1)).ne (HTr.out.pure hPw1) (by decide) g e hg.symm)
      have hP5 : Pure wb w5 := Chg.pure (hp.trans hPw1) hc5 (fun k hk => (own_lt HR.out.own k hk).1)
      have hc6 : Chg (fun k => k = wq.heap.size) w5 (w5.setCell ⟨wq.heap.size, 1, none⟩ (.slice (some ⟨g5, 0, none⟩) (j + 1) c5)) := Chg.of_set w5 _ _ _ rfl
      have HO6 : Hid ((w5.setCell ⟨wq.heap.size, 1, none⟩ (.slice (some ⟨g5, 0, none⟩) (j + 1) c5)).heap[wq.heap.size]? = some (.cells #[.pointer (some ⟨pm, 0, none⟩), .slice (some ⟨g5, 0, none⟩) (j + 1) c5, .slice (some ⟨gm, 0, none⟩) mem.length cmm, .slice none 0 0, .slice none 0 0, .int .i64 0, .nilFunc] 71 (0, 0))) := Lib.hid (by
        rw [heap_setCell_same w5 wq.heap.size 1 _ _ _ hO5]; rfl)
      have HR6 := Lib.hid (hR5.chg hc6 (fun g hg e => own_ne_heap hR5.own hO5 (by decide) g hg e) (fun i hi e => ne_of_heap (hR5.row i hi) hO5 (by decide) e))
      have HM6 := Lib.hid (hM5.chg hc6 (fun g hg e => hM5.ne_heap hO5 (by decide) g hg e))
      have HT6 := Lib.hid (hT5.chg hc6 (fun g hg e => hT5.ne_heap hO5 (by decide) g hg e))
      have HP6 : Hid (Pure wb (w5.setCell ⟨wq.heap.size, 1, none⟩ (.slice (some ⟨g5, 0, none⟩) (j + 1) c5))) := Lib.hid (Chg.pure hP5 hc6 (fun k hk => by rw [hk]; have := HP.out.size; omega))
      have z5 := (cell_of_row w5 wq.heap.size 1 _ _ _ hO5).trans rfl
      have zf5 := frozen_of_row w5 wq.heap.size 1 _ _ hO5
      have hgmlt : gm < wr.heap.size := (HMe.out.lt gm rfl).2
      clear hown5 hg5 hPw1 hc5 hvrp hO5 hz1 hR5 hM5 hT5 hP5 hc6 hgx hcx z2
      go_wp2
      refine And.intro z5 ?_
      unfold Tail
      go_wp2
      refine And.intro z5 ?_
      unfold Tail
      go_wp2
      refine And.intro z5 ?_
      unfold Tail
      go_wp2
      go_roundg (n - (j + 1))
      case measure => have := Hgk.out; omega
      case rel =>
        refine ⟨j + 1, _, _, by have := Hgk.out; omega, by go_num, HP6.out, HR6.out, HO6.out, HM6.out, HT6.out, fun i hi => ?_⟩
        show (if i = j then wr.heap.size else rows i) ≠ gm
        split
        · omega
        · exact HNe.out i (by omega)
    · have hjl : j = n := by have := Hgk.out; omega
      subst hjl
      obtain ⟨gr, cr, hvr, hgr1, hgr2, hcr1, hcr2⟩ := own_form HR.out.own (by omega)
      subst hvr
      go_wp2_with fail
      refine (imaskall_any j _ hn1 hn8).mono ?_
      rintro e w' ⟨rfl, rfl⟩
      obtain ⟨h1, h2, h3⟩ := treeOf_spec HV.out
      have hlen : (treeOf cs).len = cs.length := (congrArg List.length h1).symm
      have hrun : ORun ⟨⟨wb.heap.size, j, mem.length, gr, cr, gm, cmm, rows⟩, wb, cs, .slice A cs.length c, va0, vo0, pm, wq.heap.size, .nilFunc⟩ wr (.slice none 0 0) (.slice none 0 0) (startLS mem) :=
        ⟨hp, H.out.keep HPB.out, HPM.out, HTAB.out, rfl, HR.out.rm hn1 hn8 hm1 hm32 HMe.out HNe.out, hn1, HO.out, HP.out.size, HTr.out, OwnO.of_own (World.ownsRow_nil _ _ _ _), startLS_good HMEM.out⟩
      have HRUN := Lib.hid hrun
      have hcost : msz (startLS mem) + 10 * (treeOf cs).cost ≤ 1099511627000 := by
        have := HV.out.cost h1 h2 h3
        have e : msz (startLS mem) = 0 := rfl
        omega
      have hpow : 2 ^ j - 1 < 2 ^ j := Nat.sub_lt (Nat.two_pow_pos j) (by decide)
      have HTREE := Lib.hid (And.intro h2 (And.intro hlen (And.intro hcost hpow)))
      have HSEG : Hid (Seg cs 0 (treeOf cs)) := Lib.hid (Seg.whole h1)
      clear h1 h2 h3 hlen hrun hcost hpow
      go_wp2_with fail
      refine (iblock_any ⟨⟨wb.heap.size, j, mem.length, gr, cr, gm, cmm, rows⟩, wb, cs, .slice A cs.length c, va0, vo0, pm, wq.heap.size, .nilFunc⟩ HV.out rfl _ (treeOf cs) 0 (2 ^ j - 1) (startLS mem) _ _ wr _ _ (Nat.le_refl _) HTREE.out.1 HSEG.out (by have := HTREE.out.2.1; show 0 + (treeOf cs).len ≤ cs.length; omega) HTREE.out.2.2.2 HTREE.out.2.2.1 HRUN.out (by simp) (by rw [HTREE.out.2.1]; simp)).mono ?_
      rintro e w7 ⟨rfl, vb7, va7, hr7, _⟩
      have H7 := Lib.hid hr7
      clear hr7
      go_wp2_with fail
      refine bodyPost_ret (results_tmp2 rfl _ _ _) rfl ?_
      exact ⟨_, vb7, va7, rfl, HPB.out, rfl, rfl, rfl, rfl, rfl, H7.out⟩

end Go.Proofs.Ytokdfgodmhekmaa
