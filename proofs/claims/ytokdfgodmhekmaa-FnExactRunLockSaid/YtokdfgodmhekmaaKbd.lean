/- The whole run in lockstep, as the program makes it. The laws' helpers on steps and accesses: equal ones are found equal; marks are written and found. What a run gives for any arguments: its steps, and the first that splits a barrier. The first step that splits a barrier, and the memory of a run, the program's and the reference's. The split step and the memory of a run, for any arguments, the program's and the reference's. No condition. -/
import Derived.Test.YtokdfgodmhekmaaKac
import Derived.Test.YtokdfgodmhekmaaKae
import Derived.Test.YtokdfgodmhekmaaKaj
import Derived.Test.YtokdfgodmhekmaaKba
import Derived.Test.YtokdfgodmhekmaaKbc

namespace Go.Proofs.Ytokdfgodmhekmaa
open Go.RowKit

set_option maxHeartbeats 400000 in
theorem imaskall_any (n : Nat) (w : World) (h1 : 1 ≤ n) (h8 : n ≤ 8) :
    Calls Try.prog 68 #[.int .i64 n] w fun e w' => e = .returned (.int .i64 ((2 ^ n - 1 : Nat) : Int)) ∧ w = w' := by
  have hs := shl8 (j := n) (by omega)
  have hp := pow8 h8
  have hp1 : 1 ≤ 2 ^ n := Nat.one_le_two_pow
  have HC : Hid (((2 ^ n - 1 : Nat) : Int) = ((2 ^ n : Nat) : Int) - 1) := Lib.hid (by omega)
  rw [HC.out]
  obtain ⟨q, Hq⟩ : ∃ q, Hid (2 ^ n = q) := ⟨2 ^ n, Lib.hid rfl⟩
  rw [Hq.out] at hs hp hp1 ⊢
  have HS := Lib.hid hs
  go_enter Try.func68, Try.ntmps68
  go_wp2_with fail
  refine (ilanesok_any _ _ true (by simp only [true_iff]; unfold LanesOk; omega)).mono ?_
  rintro e w' ⟨rfl, rfl⟩
  go_wp2
  go_ret
  exact ⟨rfl, rfl⟩

set_option maxHeartbeats 1000000 in
set_option maxRecDepth 100000 in
theorem clone_any (v : Value) (mem : List Int) (w : World) (h : Ints w v mem) (h1 : 1 ≤ mem.length) (hsmall : mem.length ≤ 1048576) :
    Calls Try.prog 82 #[v] w fun e w' => ∃ g c, e = .returned (.slice (some ⟨g, 0, none⟩) mem.length c) ∧ OwnO w' w.heap.size 3 1 (.slice (some ⟨g, 0, none⟩) mem.length c) mem.length ((List.range mem.length).map fun j => .int .i64 (mem.getD j 0)) ∧ Pure w w' := by
  have HM := Lib.hid h
  obtain ⟨A, c, rfl, hnc, hcm, hread⟩ := h
  obtain ⟨b, o, rfl, hb, hc⟩ := hread (by omega)
  clear hc hread
  have hnil : ∀ w : World, (binOp BinOp.eql 23 (.slice (some ⟨b, o, none⟩) mem.length c) (.slice none 0 0)).run Try.prog w = .ok (.bool false) w := fun _ => by kernel_rfl
  go_enter Try.func82, Try.ntmps82
  go_wp2_with (at_builtin; go_must (refine wl_copyR elInt rfl _ _ rfl w.heap.size rfl _ rfl _ mem.length HM.out (fun j _ => rfl) (by decide) (by omega) (by omega) ?_); intro vm' wq hown hp; go_must (obtain ⟨gm, cmm, hvm, hgm1, hgm2, hcm1, hcm2⟩ := own_form hown (by omega); subst hvm; have HOWN := Lib.hid hown; have HP := Lib.hid hp; clear hown hp))
  go_ret
  exact ⟨gm, cmm, rfl, OwnO.of_own HOWN.out, HP.out⟩

set_option maxHeartbeats 1000000 in
theorem nm_any (v : Value) (cs : List Cd) (w : World) (h : Codes w v cs) (hv : PValid cs) :
    Calls Try.prog 81 #[v] w fun e w' => ∃ p va vo, e = .returned (.pointer (some ⟨p, 0, none⟩)) ∧ Pure w w' ∧ w'.cell? ⟨p, 0, none⟩ = some v ∧ w'.cell? ⟨p, 1, none⟩ = some vo ∧ Tabs w' va vo cs := by
  have H := Lib.hid h
  have HV := Lib.hid hv
  obtain ⟨A, c, rfl, hnc, hcm⟩ := h.form
  clear h hv
  go_enter Try.func81, Try.ntmps81
  go_wp2_with fail
  refine (blocks_any _ cs _ H.out HV.out.2.1).mono ?_
  rintro e w1 ⟨hp, hm⟩
  rw [HV.out.2.2] at hm
  obtain ⟨va, vo, rfl, ht⟩ := hm
  have HT := Lib.hid (ht rfl)
  obtain ⟨_, ⟨Ao, co, rfl, _⟩, _⟩ := ht rfl
  clear ht
  go_wp2
  go_ret
  have hx := heap_alloc_new w1 (.cells #[.slice A cs.length c, .slice Ao cs.length co] 90)
  exact ⟨w1.heap.size, va, _, rfl, hp.trans (by exact (by repeat (first | assumption | exact Pure.refl _ | refine Pure.drewN ?_ _ | refine Pure.drew ?_ | refine Pure.alloc ?_ _ | refine Pure.setCell ?_ (by simp <;> omega) _))), (cell_of_row _ _ 0 _ _ _ hx).trans rfl, (cell_of_row _ _ 1 _ _ _ hx).trans rfl, HT.out.keep (by exact (by repeat (first | assumption | exact Pure.refl _ | refine Pure.drewN ?_ _ | refine Pure.drew ?_ | refine Pure.alloc ?_ _ | refine Pure.setCell ?_ (by simp <;> omega) _)))⟩

def LockP (cs : List Cd) (n : Nat) (mem : List Int) (vl : Value) (w : World) (e : Ending) (w' : World) : Prop :=
  ∃ (o : IObj) (vb va : Value), e = .returned (.tuple #[.pointer (some ⟨o.p, 0, none⟩), .bool true]) ∧ Pure w o.w0 ∧ o.cs = cs ∧ o.vl = vl ∧ o.look = .nilFunc ∧ o.rm.n = n ∧ o.rm.m = mem.length ∧ ORun o w' vb va (lockOf cs n mem)

set_option maxHeartbeats 1000000 in
set_option maxRecDepth 100000 in
theorem ino_any (vl vm : Value) (cs : List Cd) (a : Int) (mem : List Int) (w : World) (h : Codes w vl cs) (hm : Ints w vm mem) (hs1 : cs.length ≤ 1048576) (hs2 : mem.length ≤ 1048576) (hno : ¬ RunOk cs a mem) :
    Calls Try.prog 60 #[vl, .int .i64 a, vm, .nilFunc] w fun e w' => e = .returned (.tuple #[.pointer none, .bool false]) ∧ Pure w w' := by
  have H := Lib.hid h
  have HM := Lib.hid hm
  have HNO := Lib.hid hno
  obtain ⟨A, c, rfl, hnc, hcm⟩ := h.form
  obtain ⟨Am, cm, rfl⟩ := hm.form
  clear h hm hno
  go_enter Try.func60, Try.ntmps60
  go_wp2_with fail
  refine (icanrun_any _ _ cs a mem _ H.out HM.out hs1 hs2 false (by simp [HNO.out])).mono ?_
  rintro e w1 ⟨rfl, hp1⟩
  go_wp2
  refine bodyPost_ret (results_tmp2 rfl _ _ _) rfl ?_
  exact ⟨rfl, hp1⟩

set_option maxHeartbeats 4000000 in
set_option maxRecDepth 100000 in
theorem ilock_any (vl vm : Value) (cs : List Cd) (n : Nat) (mem : List Int) (w : World) (h : Codes w vl cs) (hm : Ints w vm mem) (hv : PValid cs) (hn1 : 1 ≤ n) (hn8 : n ≤ 8) (hmem : MemOk mem) :
    Calls Try.prog 60 #[vl, .int .i64 n, vm, .nilFunc] w (LockP cs n mem vl w) := by
  have H := Lib.hid h
  have HM := Lib.hid hm
  have HV := Lib.hid hv
  have HMEM := Lib.hid hmem
  have hc40 := hv.2.1
  obtain ⟨⟨hm1, hm32⟩, _⟩ := hmem
  obtain ⟨A, c, rfl, hnc, hcm⟩ := h.form
  obtain ⟨Am, cm, rfl, hmc, hmcm, _⟩ := hm
  clear h hv
  go_enter Try.func60, Try.ntmps60
  go_wp2_with fail
  refine (icanrun_any _ _ cs n mem _ H.out HM.out (by omega) (by omega) true (by simp only [true_iff]; exact ⟨HV.out, ⟨by omega, by omega⟩, HMEM.out⟩)).mono ?_
  rintro e wa ⟨rfl, hpa⟩
  go_wp2_with fail
  refine (nm_any _ cs _ (H.out.keep hpa) HV.out).mono ?_
  rintro e wb ⟨pm, va0, vo0, rfl, hpb, hpm0, hpm1, htab⟩
  have HPB := Lib.hid (hpa.trans hpb)
  have HPM := Lib.hid (And.intro hpm0 hpm1)
  have HTAB := Lib.hid htab
  clear hpa hpb hpm0 hpm1 htab
  go_wp2_with fail
  refine (clone_any _ mem _ (HM.out.keep HPB.out) hm1 (by omega)).mono ?_
  rintro e wq ⟨gm, cmm, rfl, hown, hp⟩
  obtain ⟨hgm1, hgm2⟩ := hown.lt gm rfl
  have HOWN := Lib.hid hown
  have HP := Lib.hid hp
  clear hown hp
  go_wp2
  have HPo : Hid ((wq.alloc (.cells #[.pointer (some ⟨pm, 0, none⟩), .slice none 0 0, .slice (some ⟨gm, 0, none⟩) mem.length cmm, .slice none 0 0, .slice none 0 0, .int .i64 0, .nilFunc] 71)).heap[wq.heap.size]? = some (.cells #[.pointer (some ⟨pm, 0, none⟩), .slice none 0 0, .slice (some ⟨gm, 0, none⟩) mem.length cmm, .slice none 0 0, .slice none 0 0, .int .i64 0, .nilFunc] 71 (0, 0))) := Lib.hid (heap_alloc_new _ _)
  go_loopg [24] n (fun gk i wr => ∃ (j : Nat) (vr : Value) (rows : Nat → Nat), gk + j = n ∧ i = .int .i64 j ∧ Pure wb wr ∧ RegsB wr wb.heap.size vr j rows ∧
    wr.heap[wq.heap.size]? = some (.cells #[.pointer (some ⟨pm, 0, none⟩), vr, .slice (some ⟨gm, 0, none⟩) mem.length cmm, .slice none 0 0, .slice none 0 0, .int .i64 0, .nilFunc] 71 (0, 0)) ∧
    OwnO wr wb.heap.size 3 1 (.slice (some ⟨gm, 0, none⟩) mem.length cmm) mem.length ((List.range mem.length).map fun j => .int .i64 (mem.getD j 0)) ∧
    OwnO wr wb.heap.size 44 2 (.slice none 0 0) 0 [] ∧ (∀ i, i < j → rows i ≠ gm))
  case atStart =>
    refine ⟨0, .slice none 0 0, fun _ => 0, rfl, rfl, HP.out.trans (by exact (by repeat (first | assumption | exact Pure.refl _ | refine Pure.drewN ?_ _ | refine Pure.drew ?_ | refine Pure.alloc ?_ _ | refine Pure.setCell ?_ (by simp <;> omega) _))), ⟨World.ownsRow_nil _ _ _ _, fun i hi => absurd hi (by omega), fun i hi => absurd hi (by omega), fun i k hi => absurd hi (by omega)⟩, HPo.out, HOWN.out.pure (by exact (by repeat (first | assumption | exact Pure.refl _ | refine Pure.drewN ?_ _ | refine Pure.drew ?_ | refine Pure.alloc ?_ _ | refine Pure.setCell ?_ (by simp <;> omega) _))), OwnO.of_own (World.ownsRow_nil _ _ _ _), fun i hi => absurd hi (by omega)⟩
  case round =>
    obtain ⟨j, vr, rows, hgk, rfl, hp, hregs, hobj, hmem, htr, hne⟩ := hrel
    have Hgk := Lib.hid hgk
    have HR := Lib.hid hregs
    have HO := Lib.hid hobj
    have HMe := Lib.hid hmem
    have HTr := Lib.hid htr
    have HNe := Lib.hid hne
    have hjn : j ≤ n := by omega
    clear hgk hregs hmem htr hne HPo
    have p2 := (cell_of_row wr wq.heap.size 1 _ _ _ hobj).trans rfl
    have hpfr := frozen_of_row wr wq.heap.size 1 _ _ hobj
    have hplt : wq.heap.size < wr.heap.size := (Array.getElem?_eq_some_iff.1 hobj).1
    clear hobj
    by_cases hlt : j < n
    · go_wp2
      refine region_heldF (fun w' => w'.cell? ⟨wq.heap.size, 1, none⟩ = some vr) (List.range 5) [5, 6, 7, 8, 9, 10] (fun l => List.take 5 l) (fun l => List.drop 5 l) (by kernel_rfl) (by kernel_rfl) (by kernel_rfl) (by kernel_rfl) (fun c a d v w h => by cases d <;> exact h) (by exact p2) ?_
      simp only [List.take_succ_cons, List.take_zero, List.drop_succ_cons, List.drop_zero, List.cons_append, List.nil_append]
      apply held_of
      · exact rfl
      · intro w' hS
        go_simp
        try exact rfl
      try go_simp
      apply held_of
      · exact rfl
      · intro w' hS
        go_simp
        try exact rfl
      try go_simp
      apply held_of
      · exact rfl
      · intro w' hS
        go_simp
        try exact rfl
      try go_simp
      apply held_of
      · exact rfl
      · intro w' hS
        go_simp
        try exact rfl
      try go_simp
      apply held_of
      · exact rfl
      · intro w' hS
        go_simp
        try exact rfl
      try go_simp
      refine held_nil ?_
      unfold Tail
      refine wl_make elInt rfl _ _ rfl wb.heap.size _ _ _ _ 4 rfl rfl rfl rfl (by decide) (by decide) hp.size ?_
      intro w4 hown4 hp4 hsz4
      have HZ4 := Lib.hid (own_zero4 hown4)
      have HP4 := Lib.hid ((show Pure wr wr.drew from Pure.drew (Pure.refl _)).trans hp4)
      have z2 := (HP4.out.cell _ _ hplt).trans p2
      have hplt4 := Nat.lt_of_lt_of_le hplt HP4.out.size
      clear hown4 hp4
      go_wp2
      refine And.intro z2 ?_
      unfold Tail
      go_wp2
      refine And.intro (keepPc (by exact (by repeat (first | assumption | exact Pure.refl _ | refine Pure.drewN ?_ _ | refine Pure.drew ?_ | refine Pure.alloc ?_ _ | refine Pure.setCell ?_ (by simp <;> omega) _))) z2) ?_
      unfold Tail
      have hgx := heap_alloc_new w4 (.cells #[.slice (some ⟨wr.heap.size, 0, none⟩) 4 4] 23)
      have hcx := cell_of_row _ _ 0 _ _ _ hgx
      refine wl_append elInts rfl _ _ rfl wb.heap.size vr j _ rfl (own_pure HR.out.own (HP4.out.trans (by exact (by repeat (first | assumption | exact Pure.refl _ | refine Pure.drewN ?_ _ | refine Pure.drew ?_ | refine Pure.alloc ?_ _ | refine Pure.setCell ?_ (by simp <;> omega) _))))) w4.heap.size 1 1 [.slice (some ⟨wr.heap.size, 0, none⟩) 4 4] rfl rfl (fun i u hu => ?_) (by intro u hu; simp at hu; subst hu; rfl) (by omega) (by omega) (Nat.le_trans hp.size (Nat.le_trans HP4.out.size (by simp))) ?_
      · have hi : i = 0 := by
          by_cases e : i = 0
          · exact e
          · rw [List.getElem?_eq_none (by simp; omega)] at hu; cases hu
        subst hi
        rw [← hu]; exact hcx
      intro v5 w5 hown5 hg5
      obtain ⟨g5, c5, hv5, _, _, _, _⟩ := own_form hown5 (by omega)
      subst hv5
      have hPw1 : Pure wr (w4.alloc (.cells #[.slice (some ⟨wr.heap.size, 0, none⟩) 4 4] 23)) := HP4.out.trans (by exact (by repeat (first | assumption | exact Pure.refl _ | refine Pure.drewN ?_ _ | refine Pure.drew ?_ | refine Pure.alloc ?_ _ | refine Pure.setCell ?_ (by simp <;> omega) _)))
      have hc5 : Chg (fun k => vr.ownBlock = some k) (w4.alloc (.cells #[.slice (some ⟨wr.heap.size, 0, none⟩) 4 4] 23)) w5 := Chg.of_grown hg5 (fun k hk => hk)
      have hvrp : ∀ k, vr.ownBlock = some k → k ≠ wq.heap.size := own_ne_heap HR.out.own HO.out (by decide)
      have hO5 : w5.heap[wq.heap.size]? = some (.cells #[.pointer (some ⟨pm, 0, none⟩), vr, .slice (some ⟨gm, 0, none⟩) mem.length cmm, .slice none 0 0, .slice none 0 0, .int .i64 0, .nilFunc] 71 (0, 0)) :=
        hc5.heap ((Chg.of_pure (S := fun _ => False) hPw1).heap HO.out id) (fun e => hvrp _ e rfl)
      have hz1 := (Chg.of_pure (S := fun _ => False) (show Pure w4 (w4.alloc (.cells #[.slice (some ⟨wr.heap.size, 0, none⟩) 4 4] 23)) from (by repeat (first | assumption | exact Pure.refl _ | refine Pure.drewN ?_ _ | refine Pure.drew ?_ | refine Pure.alloc ?_ _ | refine Pure.setCell ?_ (by simp <;> omega) _)))).heap HZ4.out id
      have hR5 := HR.out.push hPw1 (Nat.le_refl _) hp.size hz1 hown5 hg5
      have hM5 := (HMe.out.pure hPw1).chg hc5 (fun g hg e => (OwnO.of_own (own_pure HR.out.own hPw1)).ne (HMe.out.pure hPw1) (by decide) g e hg.symm)
      have hT5 := (HTr.out.pure hPw1).chg hc5 (fun g hg e => (OwnO.of_own (own_pure HR.out.own hPw1)).ne (HTr.out.pure hPw1) (by decide) g e hg.symm)
      have hP5 : Pure wb w5 := Chg.pure (hp.trans hPw1) hc5 (fun k hk => (own_lt HR.out.own k hk).1)
      have hc6 : Chg (fun k => k = wq.heap.size) w5 (w5.setCell ⟨wq.heap.size, 1, none⟩ (.slice (some ⟨g5, 0, none⟩) (j + 1) c5)) := Chg.of_set w5 _ _ _ rfl
      have HO6 : Hid ((w5.setCell ⟨wq.heap.size, 1, none⟩ (.slice (some ⟨g5, 0, none⟩) (j + 1) c5)).heap[wq.heap.size]? = some (.cells #[.pointer (some ⟨pm, 0, none⟩), .slice (some ⟨g5, 0, none⟩) (j + 1) c5, .slice (some ⟨gm, 0, none⟩) mem.length cmm, .slice none 0 0, .slice none 0 0, .int .i64 0, .nilFunc] 71 (0, 0))) := Lib.hid (by
        rw [heap_setCell_same w5 wq.heap.size 1 _ _ _ hO5]; rfl)
      have HR6 := Lib.hid (hR5.chg hc6 (fun g hg e => own_ne_heap hR5.own hO5 (by decide) g hg e) (fun i hi e => ne_of_heap (hR5.row i hi) hO5 (by decide) e))
      have HM6 := Lib.hid (hM5.chg hc6 (fun g hg e => hM5.ne_heap hO5 (by decide) g hg e))
      have HT6 := Lib.hid (hT5.chg hc6 (fun g hg e => hT5.ne_heap hO5 (by decide) g hg e))
      have HP6 : Hid (Pure wb (w5.setCell ⟨wq.heap.size, 1, none⟩ (.slice (some ⟨g5, 0, none⟩) (j + 1) c5))) := Lib.hid (Chg.pure hP5 hc6 (fun k hk => by rw [hk]; have := HP.out.size; omega))
      have z5 := (cell_of_row w5 wq.heap.size 1 _ _ _ hO5).trans rfl
      have zf5 := frozen_of_row w5 wq.heap.size 1 _ _ hO5
      have hgmlt : gm < wr.heap.size := (HMe.out.lt gm rfl).2
      clear hown5 hg5 hPw1 hc5 hvrp hO5 hz1 hR5 hM5 hT5 hP5 hc6 hgx hcx z2
      go_wp2
      refine And.intro z5 ?_
      unfold Tail
      go_wp2
      refine And.intro z5 ?_
      unfold Tail
      go_wp2
      refine And.intro z5 ?_
      unfold Tail
      go_wp2
      go_roundg (n - (j + 1))
      case measure => have := Hgk.out; omega
      case rel =>
        refine ⟨j + 1, _, _, by have := Hgk.out; omega, by go_num, HP6.out, HR6.out, HO6.out, HM6.out, HT6.out, fun i hi => ?_⟩
        show (if i = j then wr.heap.size else rows i) ≠ gm
        split
        · omega
        · exact HNe.out i (by omega)
    · have hjl : j = n := by have := Hgk.out; omega
      subst hjl
      obtain ⟨gr, cr, hvr, hgr1, hgr2, hcr1, hcr2⟩ := own_form HR.out.own (by omega)
      subst hvr
      go_wp2_with fail
      refine (imaskall_any j _ hn1 hn8).mono ?_
      rintro e w' ⟨rfl, rfl⟩
      obtain ⟨h1, h2, h3⟩ := treeOf_spec HV.out
      have hlen : (treeOf cs).len = cs.length := (congrArg List.length h1).symm
      have hrun : ORun ⟨⟨wb.heap.size, j, mem.length, gr, cr, gm, cmm, rows⟩, wb, cs, .slice A cs.length c, va0, vo0, pm, wq.heap.size, .nilFunc⟩ wr (.slice none 0 0) (.slice none 0 0) (startLS mem) :=
        ⟨hp, H.out.keep HPB.out, HPM.out, HTAB.out, rfl, HR.out.rm hn1 hn8 hm1 hm32 HMe.out HNe.out, hn1, HO.out, HP.out.size, HTr.out, OwnO.of_own (World.ownsRow_nil _ _ _ _), startLS_good HMEM.out⟩
      have HRUN := Lib.hid hrun
      have hcost : msz (startLS mem) + 10 * (treeOf cs).cost ≤ 1099511627000 := by
        have := HV.out.cost h1 h2 h3
        have e : msz (startLS mem) = 0 := rfl
        omega
      have hpow : 2 ^ j - 1 < 2 ^ j := Nat.sub_lt (Nat.two_pow_pos j) (by decide)
      have HTREE := Lib.hid (And.intro h2 (And.intro hlen (And.intro hcost hpow)))
      have HSEG : Hid (Seg cs 0 (treeOf cs)) := Lib.hid (Seg.whole h1)
      clear h1 h2 h3 hlen hrun hcost hpow
      go_wp2_with fail
      refine (iblock_any ⟨⟨wb.heap.size, j, mem.length, gr, cr, gm, cmm, rows⟩, wb, cs, .slice A cs.length c, va0, vo0, pm, wq.heap.size, .nilFunc⟩ HV.out rfl _ (treeOf cs) 0 (2 ^ j - 1) (startLS mem) _ _ wr _ _ (Nat.le_refl _) HTREE.out.1 HSEG.out (by have := HTREE.out.2.1; show 0 + (treeOf cs).len ≤ cs.length; omega) HTREE.out.2.2.2 HTREE.out.2.2.1 HRUN.out (by simp) (by rw [HTREE.out.2.1]; simp)).mono ?_
      rintro e w7 ⟨rfl, vb7, va7, hr7, _⟩
      have H7 := Lib.hid hr7
      clear hr7
      go_wp2_with fail
      refine bodyPost_ret (results_tmp2 rfl _ _ _) rfl ?_
      exact ⟨_, vb7, va7, rfl, HPB.out, rfl, rfl, rfl, rfl, rfl, H7.out⟩

end Go.Proofs.Ytokdfgodmhekmaa

namespace Go.Proofs.Ytokdfgodmhekmaa
open Go.RowKit

/-- A slice whose cells read as a list. -/
def Flat (w : World) (v : Value) (n s : Nat) (xs : List Value) : Prop := Cells w v n s fun j => xs.getD j undef
theorem Flat.keep {w w' : World} {v : Value} {n s : Nat} {xs : List Value} (h : Flat w v n s xs) (hp : Pure w w') : Flat w' v n s xs := Cells.keep h hp
theorem Flat.of_own {w : World} {B e s n : Nat} {v : Value} {xs : List Value} (h : OwnO w B e s v n xs) : Flat w v n s xs :=
  Cells.of_ownO h fun j hj => by
    have : j < xs.length := by rw [h.1]; exact hj
    simp [List.getD_eq_getElem?_getD, this]
theorem Flat.form {w : World} {v : Value} {n s : Nat} {xs : List Value} (h : Flat w v n s xs) : ∃ A c, v = .slice A n c ∧ n ≤ c ∧ c ≤ 9223372036854775807 := by
  obtain ⟨A, c, h1, h2, h3, _⟩ := h
  exact ⟨A, c, h1, h2, h3⟩
theorem Flat.at_ {w : World} {A : Option Addr} {n s c : Nat} {xs : List Value} (h : Flat w (.slice A n c) n s xs) (hn : 0 < n) : ∃ b o, A = some ⟨b, o, none⟩ ∧ b < w.heap.size ∧ ∀ j, j < n * s → w.cell? ⟨b, o + j, none⟩ = some (xs.getD j undef) := by
  obtain ⟨A', c', hv, _, _, h4⟩ := h
  injection hv with e1 e2 e3
  subst e1
  exact h4 hn
theorem getD_of {xs : List Value} {j : Nat} {v : Value} (h : xs[j]? = some v) : xs.getD j undef = v := by simp [List.getD_eq_getElem?_getD, h]
theorem beatsI_eq (H : List (Nat × Nat × (Nat → Nat → Int))) : beatsI H = beatsL H := rfl
theorem beat_at : ∀ (H : List (Nat × Nat × (Nat → Nat → Int))) (k : Nat), k < H.length → (beatsL H)[k * 2]? = some (.int .i64 ((H.getD k default).1 : Nat)) ∧ (beatsL H)[k * 2 + 1]? = some (.int .i64 ((H.getD k default).2.1 : Nat))
  | [], _, h => absurd h (by simp)
  | x :: r, 0, _ => ⟨rfl, rfl⟩
  | x :: r, k + 1, h => by
    have := beat_at r k (by simpa using h)
    have e : beatsL (x :: r) = .int .i64 (x.1 : Nat) :: .int .i64 (x.2.1 : Nat) :: beatsL r := rfl
    have e2 : (k + 1) * 2 = k * 2 + 1 + 1 := by omega
    rw [e, e2]
    simpa using this
theorem acc_at : ∀ (H : List Ac) (k : Nat), k < H.length → (accsL H)[k * 4]? = some (.int .i64 ((H.getD k default).who : Nat)) ∧ (accsL H)[k * 4 + 1]? = some (.int .i64 ((H.getD k default).cell : Nat)) ∧ (accsL H)[k * 4 + 2]? = some (.bool (H.getD k default).wr) ∧ (accsL H)[k * 4 + 3]? = some (.int .i64 ((H.getD k default).ph : Nat))
  | [], _, h => absurd h (by simp)
  | x :: r, 0, _ => ⟨rfl, rfl, rfl, rfl⟩
  | x :: r, k + 1, h => by
    have := acc_at r k (by simpa using h)
    have e : accsL (x :: r) = .int .i64 (x.who : Nat) :: .int .i64 (x.cell : Nat) :: .bool x.wr :: .int .i64 (x.ph : Nat) :: accsL r := rfl
    have e2 : (k + 1) * 4 = k * 4 + 1 + 1 + 1 + 1 := by omega
    rw [e, e2]
    simpa using this

set_option maxHeartbeats 400000 in
theorem eqBeat_same (x y : Int) (w : World) :
    Calls Try.prog 37 #[.agg #[.int .i64 x, .int .i64 y], .agg #[.int .i64 x, .int .i64 y]] w fun e w' => e = .returned (.bool true) ∧ Pure w w' := by
  have d0 : (x != x) = false := by simp
  have d1 : (y != y) = false := by simp
  go_enter Try.func37, Try.ntmps37
  go_wp2
  go_ret
  exact ⟨rfl, (by repeat (first | assumption | exact Pure.refl _ | refine Pure.drewN ?_ _ | refine Pure.drew ?_ | refine Pure.alloc ?_ _ | refine Pure.setCell ?_ (by simp <;> omega) _))⟩

set_option maxHeartbeats 400000 in
theorem eqBeatS_same (v v' : Value) (H : List (Nat × Nat × (Nat → Nat → Int))) (w : World) (h : Flat w v H.length 2 (beatsL H)) (h' : Flat w v' H.length 2 (beatsL H)) :
    Calls Try.prog 27 #[v, v'] w fun e w' => e = .returned (.bool true) ∧ Pure w w' := by
  have HF := Lib.hid h
  have HF' := Lib.hid h'
  obtain ⟨A, c, rfl, hnc, hcm⟩ := h.form
  obtain ⟨A', c', rfl, hnc', hcm'⟩ := h'.form
  clear h h'
  have hd : ((H.length : Int) != H.length) = false := by simp
  go_enter Try.func27, Try.ntmps27
  go_wp2
  go_loopg [5] H.length (fun gk i wr => ∃ k : Nat, gk + k = H.length ∧ i = .int .i64 k ∧ Pure w wr)
  case atStart => exact ⟨0, rfl, rfl, Pure.refl _⟩
  case round =>
    obtain ⟨k, hgk, rfl, hp⟩ := hrel
    have Hgk := Lib.hid hgk
    have hkn : k ≤ H.length := by omega
    clear hgk
    by_cases hlt : k < H.length
    · obtain ⟨b, o, rfl, hb, hc⟩ := HF.out.at_ (by omega)
      obtain ⟨b', o', rfl, hb', hc'⟩ := HF'.out.at_ (by omega)
      have q0 := (hp.cell b _ hb).trans (hc (k * 2) (by omega))
      have q1 := (hp.cell b _ hb).trans (hc (k * 2 + 1) (by omega))
      have r0 := (hp.cell b' _ hb').trans (hc' (k * 2) (by omega))
      have r1 := (hp.cell b' _ hb').trans (hc' (k * 2 + 1) (by omega))
      rw [getD_of (beat_at H k hlt).1] at q0 r0
      rw [getD_of (beat_at H k hlt).2] at q1 r1
      rw [← Nat.add_assoc] at q1 r1
      obtain ⟨x, Hx⟩ : ∃ x : Int, Hid ((((H.getD k default).1 : Nat) : Int) = x) := ⟨_, Lib.hid rfl⟩
      obtain ⟨y, Hy⟩ : ∃ y : Int, Hid ((((H.getD k default).2.1 : Nat) : Int) = y) := ⟨_, Lib.hid rfl⟩
      rw [Hx.out] at q0 r0
      rw [Hy.out] at q1 r1
      clear hc hc'
      go_wp2
      go_region_with (first | (go_at_call 37; refine (eqBeat_same x y _).mono ?_; rintro e w1 ⟨rfl, hp1⟩))
      all_goals
        have hp2 := hp.drew.trans hp1
        go_wp2
        go_roundg (H.length - (k + 1))
        case measure => have := Hgk.out; omega
        case rel => exact ⟨k + 1, by have := Hgk.out; omega, by go_num, hp2⟩
    · go_wp2
      go_ret
      exact ⟨rfl, hp⟩

set_option maxHeartbeats 1000000 in
theorem markBeatS_any (v : Value) (n B : Nat) (ys : List Value) (k : Int) (w : World) (h : OwnO w B 44 2 v n ys) (hn : n ≤ 1099511627776) (hk0 : 0 ≤ k) (hk1 : k ≤ 1099511627776) :
    Calls Try.prog 28 #[v, .int .i64 k] w fun e w' => e = .returned (.int .i64 (k + 2 * n)) ∧ OwnO w' B 44 2 v n ((marked k (n * 2)).map (.int .i64)) ∧ w.grownBy w' v.ownBlock := by
  have H := Lib.hid h
  obtain ⟨A, c, rfl⟩ := h.form
  clear h
  go_enter Try.func28, Try.ntmps28
  go_wp2
  go_loopg [1, 5] n (fun gk m i wr => ∃ (j : Nat) (zs : List Value), gk + j = n ∧ i = .int .i64 j ∧ m = .int .i64 (k + 2 * j) ∧ OwnO wr B 44 2 (.slice A n c) n zs ∧ (∀ i, i < j * 2 → zs[i]? = some (.int .i64 (k + i))) ∧ w.grownBy wr (Value.slice A n c).ownBlock)
  case atStart => exact ⟨0, ys, rfl, rfl, by go_num, H.out, fun j hj => absurd hj (by omega), grown_refl _ _⟩
  case round =>
    obtain ⟨j, zs, hgk, rfl, rfl, hown, hzs, hg⟩ := hrel
    have Hgk := Lib.hid hgk
    have Hown := Lib.hid hown
    have Hzs := Lib.hid hzs
    have Hg := Lib.hid hg
    have hjn : j ≤ n := by omega
    clear hgk hown hzs hg
    by_cases hlt : j < n
    · obtain ⟨g, off, c', hv, h1, h2, h3, h4⟩ := Hown.out.formSome (by omega)
      injection hv with e1 e2 e3
      subst e1
      subst e3
      obtain ⟨u0, q0⟩ := Hown.out.cellSome (j * 2) (by omega)
      obtain ⟨u1, q1⟩ := Hown.out.cellSome (j * 2 + 1) (by omega)
      rw [← Nat.add_assoc] at q1
      have f0 := Hown.out.frozen (off + j * 2)
      have f1 := Hown.out.frozen (off + j * 2 + 1)
      have s1 := Hown.out.stored (j * 2) (.int .i64 (k + 2 * j))
      have s2 := s1.stored (j * 2 + 1) (.int .i64 (k + 2 * j + 1))
      simp only [← Nat.add_assoc] at s2
      have HS := Lib.hid s2
      have HL : Hid (zs.length = n * 2) := Lib.hid Hown.out.1
      clear s1 s2
      go_wp2
      go_roundg (n - (j + 1))
      case measure => have := Hgk.out; omega
      case rel =>
        refine ⟨j + 1, _, by have := Hgk.out; omega, by go_num, by go_num, HS.out, fun i hi => ?_, ?_⟩
        · by_cases e : i = j * 2 + 1
          · subst e
            rw [List.getElem?_set_self (by have := HL.out; simp; omega)]
            congr 2; push_cast; omega
          · rw [List.getElem?_set_ne (by omega)]
            by_cases e2 : i = j * 2
            · subst e2
              rw [List.getElem?_set_self (by have := HL.out; omega)]
              congr 2; push_cast; omega
            · rw [List.getElem?_set_ne (by omega)]; exact Hzs.out i (by omega)
        · exact grown_set (grown_set Hg.out)
    · have hjl : j = n := by omega
      subst hjl
      go_wp2
      go_ret
      refine ⟨rfl, ?_, Hg.out⟩
      have : (marked k (j * 2)).map (Value.int .i64) = zs := by
        apply List.ext_getElem?
        intro i
        by_cases hi : i < j * 2
        · rw [Hzs.out i hi]; simp [marked, hi]
        · rw [List.getElem?_eq_none (by simp [marked]; omega), List.getElem?_eq_none (by have := Hown.out.1; omega)]
      rw [this]; exact Hown.out

theorem marked_at (k : Int) {n j : Nat} (h : j < n) : ((marked k n).map (Value.int .i64)).getD j undef = .int .i64 (k + j) := by
  simp [marked, List.getD_eq_getElem?_getD, h]

set_option maxHeartbeats 400000 in
theorem heldBeatS_any (v : Value) (n : Nat) (k : Int) (w : World) (h : Flat w v n 2 ((marked k (n * 2)).map (.int .i64))) (hn : n ≤ 1099511627776) (hk0 : 0 ≤ k) (hk1 : k ≤ 1099511627776) :
    Calls Try.prog 29 #[v, .int .i64 k] w fun e w' => e = .returned (.int .i64 (k + 2 * n)) ∧ Pure w w' := by
  have H := Lib.hid h
  obtain ⟨A, c, rfl, hnc, hcm⟩ := h.form
  clear h
  go_enter Try.func29, Try.ntmps29
  go_wp2
  go_loopg [1, 5] n (fun gk m i wr => ∃ (j : Nat), gk + j = n ∧ i = .int .i64 j ∧ m = .int .i64 (k + 2 * j) ∧ Pure w wr)
  case atStart => exact ⟨0, rfl, rfl, by go_num, Pure.refl _⟩
  case round =>
    obtain ⟨j, hgk, rfl, rfl, hp⟩ := hrel
    have Hgk := Lib.hid hgk
    have hjn : j ≤ n := by omega
    clear hgk
    by_cases hlt : j < n
    · obtain ⟨b, o, rfl, hb, hc⟩ := H.out.at_ (by omega)
      have q0 := (hp.cell b _ hb).trans (hc (j * 2) (by omega))
      have q1 := (hp.cell b _ hb).trans (hc (j * 2 + 1) (by omega))
      rw [marked_at k (by omega)] at q0 q1
      have e0 : k + ((j * 2 : Nat) : Int) = k + 2 * j := by omega
      have e1 : k + ((j * 2 + 1 : Nat) : Int) = k + 2 * j + 1 := by omega
      rw [e0] at q0
      rw [e1, ← Nat.add_assoc] at q1
      clear hc e0 e1
      have hd : ((k + 2 * (j : Int)) != (k + 2 * (j : Int))) = false := by simp
      have hd1 : ((k + 2 * (j : Int) + 1) != (k + 2 * (j : Int) + 1)) = false := by simp
      go_wp2
      go_roundg (n - (j + 1))
      case measure => have := Hgk.out; omega
      case rel => exact ⟨j + 1, by have := Hgk.out; omega, by go_num, by go_num, hp⟩
    · have hjl : j = n := by omega
      subst hjl
      go_wp2
      go_ret
      exact ⟨rfl, hp⟩

end Go.Proofs.Ytokdfgodmhekmaa

namespace Go.Proofs.Ytokdfgodmhekmaa
open Go.RowKit

def noLS : LS := ⟨fun _ _ => 0, fun _ => 0, [], [], 0⟩
open Classical in
noncomputable def lockA (cs : List Cd) (a : Int) (mem : List Int) : LS := if RunOk cs a mem then lockOf cs a.toNat mem else noLS
theorem lockA_ok {cs : List Cd} {n : Nat} {mem : List Int} (h : RunOk cs n mem) : lockA cs n mem = lockOf cs n mem := by
  unfold lockA; rw [if_pos h]; rfl
theorem lockA_no {cs : List Cd} {a : Int} {mem : List Int} (h : ¬ RunOk cs a mem) : lockA cs a mem = noLS := by
  unfold lockA; rw [if_neg h]
theorem lockA_in {cs : List Cd} {a : Int} {mem : List Int} : ∀ x ∈ (lockA cs a mem).H, StepIn a.toNat 0 cs.length x ∧ RunOk cs a mem := by
  intro x hx
  by_cases h : RunOk cs a mem
  · unfold lockA at hx; rw [if_pos h] at hx
    exact ⟨lockOf_in h.1 x hx, h⟩
  · rw [lockA_no h] at hx; cases hx
theorem lockA_len {cs : List Cd} {a : Int} {mem : List Int} : (lockA cs a mem).H.length ≤ 2560 := by
  by_cases h : RunOk cs a mem
  · unfold lockA; rw [if_pos h]; exact lockOf_len h.1
  · rw [lockA_no h]; exact Nat.zero_le _

/-- A step by which a barrier is split. -/
def splBad (cs : List Cd) (n : Nat) (x : Nat × Nat × (Nat → Nat → Int)) : Bool := decide ((cs.getD x.1 default).op = 10) && !decide (x.2.1 = 2 ^ n - 1)
theorem find_first {α : Type} [Inhabited α] {p : α → Bool} : ∀ {H : List α} {k : Nat}, (∀ j, j < k → p (H.getD j default) = false) → k < H.length → p (H.getD k default) = true → H.find? p = some (H.getD k default)
  | [], _, _, h, _ => absurd h (by simp)
  | x :: r, 0, _, _, h => by simp at h; simp [h]
  | x :: r, k + 1, h1, h2, h3 => by
    have h0 := h1 0 (by omega)
    simp at h0
    have := find_first (H := r) (k := k) (fun j hj => by have := h1 (j + 1) (by omega); simpa using this) (by simpa using h2) (by simpa using h3)
    simp [h0]; simpa using this
theorem find_none {α : Type} [Inhabited α] {p : α → Bool} {H : List α} (h : ∀ j, j < H.length → p (H.getD j default) = false) : H.find? p = none := by
  rw [List.find?_eq_none]
  intro x hx
  obtain ⟨j, hj, rfl⟩ := List.getElem_of_mem hx
  have := h j hj
  simpa [List.getD_eq_getElem?_getD, hj] using this
def spl2 (x : Option (Nat × Nat × (Nat → Nat → Int))) : Value := match x with
  | some y => .tuple #[.agg #[.int .i64 (y.1 : Nat), .int .i64 (y.2.1 : Nat)], .bool true]
  | none => .tuple #[.agg #[.int .i64 0, .int .i64 0], .bool false]
noncomputable def splA (cs : List Cd) (a : Int) (mem : List Int) : Option (Nat × Nat × (Nat → Nat → Int)) := (lockA cs a mem).H.find? (splBad cs a.toNat)

set_option maxHeartbeats 1000000 in
set_option maxRecDepth 100000 in
theorem stra_any (vl vm : Value) (cs : List Cd) (a : Int) (mem : List Int) (w : World) (h : Codes w vl cs) (hm : Ints w vm mem) (hs1 : cs.length ≤ 1048576) (hs2 : mem.length ≤ 1048576) :
    Calls Try.prog 25 #[vl, .int .i64 a, vm] w fun e w' => ∃ v, e = .returned v ∧ OwnO w' w.heap.size 44 2 v (lockA cs a mem).H.length (beatsL (lockA cs a mem).H) ∧ Pure w w' := by
  by_cases hok : RunOk cs a mem
  · obtain ⟨n, rfl, hn1, hn8⟩ := lanes_nat hok.2.1
    rw [lockA_ok hok]
    exact strace_any vl vm cs n mem w h hm hok
  · rw [lockA_no hok]
    have H := Lib.hid h
    have HM := Lib.hid hm
    have HOK := Lib.hid hok
    obtain ⟨A, c, rfl, hnc, hcm⟩ := h.form
    obtain ⟨Am, cm, rfl⟩ := hm.form
    clear h hm hok
    go_enter Try.func25, Try.ntmps25
    go_wp2_with fail
    refine (sok_any _ _ cs a mem _ H.out HM.out hs1 hs2 false (by simp [HOK.out])).mono ?_
    rintro e w1 ⟨rfl, hp1⟩
    go_wp2
    go_ret
    exact ⟨_, rfl, OwnO.empty_lit hp1.size, hp1.trans (by exact (by repeat (first | assumption | exact Pure.refl _ | refine Pure.drewN ?_ _ | refine Pure.drew ?_ | refine Pure.alloc ?_ _ | refine Pure.setCell ?_ (by simp <;> omega) _)))⟩

set_option maxHeartbeats 1000000 in
set_option maxRecDepth 100000 in
theorem itra_any (vl vm : Value) (cs : List Cd) (a : Int) (mem : List Int) (w : World) (h : Codes w vl cs) (hm : Ints w vm mem) (hs1 : cs.length ≤ 1048576) (hs2 : mem.length ≤ 1048576) :
    Calls Try.prog 26 #[vl, .int .i64 a, vm] w fun e w' => ∃ v, e = .returned v ∧ OwnO w' w.heap.size 44 2 v (lockA cs a mem).H.length (beatsL (lockA cs a mem).H) ∧ Pure w w' := by
  have H := Lib.hid h
  have HM := Lib.hid hm
  obtain ⟨A, c, rfl, hnc, hcm⟩ := h.form
  obtain ⟨Am, cm, rfl⟩ := hm.form
  clear h hm
  by_cases hok : RunOk cs a mem
  · have HOK := Lib.hid hok
    obtain ⟨n, rfl, hn1, hn8⟩ := lanes_nat hok.2.1
    rw [lockA_ok hok]
    clear hok
    go_enter Try.func26, Try.ntmps26
    go_wp2_with fail
    refine (ilock_any _ _ cs n mem _ H.out HM.out HOK.out.1 hn1 hn8 HOK.out.2.2).mono ?_
    rintro e w1 ⟨o, vb, va, rfl, hp0, hcs, hvl, hlk, hn, hmm, hrun⟩
    have p3 : w1.cell? ⟨o.p, 3, none⟩ = some vb := hrun.obj.cell 3
    have HB := Lib.hid hrun.bt
    have HP := Lib.hid (hp0.trans hrun.pure)
    have HP0 := Lib.hid hp0
    clear hrun hcs hvl hn hmm hlk hp0
    go_wp2
    go_ret
    exact ⟨_, rfl, HB.out.base' HP0.out.size, HP.out⟩
  · have HOK := Lib.hid hok
    rw [lockA_no hok]
    clear hok
    go_enter Try.func26, Try.ntmps26
    go_wp2_with fail
    refine (ino_any _ _ cs a mem _ H.out HM.out hs1 hs2 HOK.out).mono ?_
    rintro e w1 ⟨rfl, hp1⟩
    go_wp2
    go_ret
    exact ⟨_, rfl, OwnO.of_own (World.ownsRow_nil _ _ _ _), hp1⟩

/-- A pair of cells, written and read again. -/
theorem pair_set {w : World} {g e : Nat} {x y : Value} (h : w.heap[g]? = some (.cells #[x, y] e (0, 0))) (u v : Value) :
    (w.setCell ⟨g, 0, none⟩ u).cell? ⟨g, 0, none⟩ = some u ∧ ((w.setCell ⟨g, 0, none⟩ u).setCell ⟨g, 1, none⟩ v).cell? ⟨g, 0, none⟩ = some u ∧ ((w.setCell ⟨g, 0, none⟩ u).setCell ⟨g, 1, none⟩ v).cell? ⟨g, 1, none⟩ = some v := by
  have h1 := heap_setCell_same w g 0 _ _ u h
  have h2 := heap_setCell_same _ g 1 _ _ v h1
  exact ⟨(cell_of_row _ g 0 _ _ _ h1).trans rfl, (cell_of_row _ g 0 _ _ _ h2).trans rfl, (cell_of_row _ g 1 _ _ _ h2).trans rfl⟩

set_option maxHeartbeats 2000000 in
set_option maxRecDepth 100000 in
theorem sspl_any (vl vm : Value) (cs : List Cd) (a : Int) (mem : List Int) (w : World) (h : Codes w vl cs) (hm : Ints w vm mem) (hs1 : cs.length ≤ 1048576) (hs2 : mem.length ≤ 1048576) :
    Calls Try.prog 35 #[vl, .int .i64 a, vm] w fun e w' => e = .returned (spl2 (splA cs a mem)) ∧ Pure w w' := by
  have H := Lib.hid h
  have HM := Lib.hid hm
  obtain ⟨A, c, rfl, hnc, hcm⟩ := h.form
  obtain ⟨Am, cm, rfl⟩ := hm.form
  clear h hm
  obtain ⟨r, Hr⟩ : ∃ r, Hid (splA cs a mem = r) := ⟨_, Lib.hid rfl⟩
  rw [Hr.out]
  go_enter Try.func35, Try.ntmps35
  go_wp2_with fail
  refine (stra_any _ _ cs a mem _ (H.out.keep (by exact (by repeat (first | assumption | exact Pure.refl _ | refine Pure.drewN ?_ _ | refine Pure.drew ?_ | refine Pure.alloc ?_ _ | refine Pure.setCell ?_ (by simp <;> omega) _)))) (HM.out.keep (by exact (by repeat (first | assumption | exact Pure.refl _ | refine Pure.drewN ?_ _ | refine Pure.drew ?_ | refine Pure.alloc ?_ _ | refine Pure.setCell ?_ (by simp <;> omega) _)))) hs1 hs2).mono ?_
  rintro e w1 ⟨v, rfl, hown, hp1⟩
  have HIN := Lib.hid (lockA_in (cs := cs) (a := a) (mem := mem))
  have hlen := lockA_len (cs := cs) (a := a) (mem := mem)
  obtain ⟨L, HL⟩ : ∃ L, Hid ((lockA cs a mem).H = L) := ⟨_, Lib.hid rfl⟩
  have HF : Hid (L.find? (splBad cs a.toNat) = r) := Lib.hid (by rw [← HL.out]; exact Hr.out)
  rw [HL.out] at hown hlen HIN
  have HO := Lib.hid hown
  obtain ⟨Av, cv, rfl⟩ := hown.form
  have HP1 : Hid (Pure w w1) := Lib.hid (Pure.trans (by exact (by repeat (first | assumption | exact Pure.refl _ | refine Pure.drewN ?_ _ | refine Pure.drew ?_ | refine Pure.alloc ?_ _ | refine Pure.setCell ?_ (by simp <;> omega) _))) hp1)
  have HC : Hid (w1.heap[w.heap.size]? = some (.cells #[.int .i64 0, .int .i64 0] 44 (0, 0))) := Lib.hid ((Chg.of_pure (S := fun _ => False) hp1).heap (heap_alloc_new _ _) id)
  clear hown hp1
  go_wp2
  go_loopg [9] L.length (fun gk i wr => ∃ k : Nat, gk + k = L.length ∧ i = .int .i64 k ∧ Pure w1 wr ∧ ∀ j, j < k → splBad cs a.toNat (L.getD j default) = false)
  case atStart => exact ⟨0, rfl, rfl, Pure.refl _, fun j hj => absurd hj (by omega)⟩
  case round =>
    obtain ⟨k, hgk, rfl, hp, hall⟩ := hrel
    have Hgk := Lib.hid hgk
    have Hall := Lib.hid hall
    have hkn : k ≤ L.length := by omega
    have hC := (Chg.of_pure (S := fun _ => False) hp).heap HC.out id
    have c0 : wr.cell? ⟨w.heap.size, 0, none⟩ = some (.int .i64 0) := (cell_of_row wr w.heap.size 0 _ _ _ hC).trans rfl
    have c1 : wr.cell? ⟨w.heap.size, 1, none⟩ = some (.int .i64 0) := (cell_of_row wr w.heap.size 1 _ _ _ hC).trans rfl
    have f0 := frozen_of_row wr w.heap.size 0 _ _ hC
    have f1 := frozen_of_row wr w.heap.size 1 _ _ hC
    have HCr : Hid (∀ n, (wr.drewN n).heap[w.heap.size]? = some (.cells #[.int .i64 0, .int .i64 0] 44 (0, 0))) := Lib.hid fun n => hC
    have hpr := HP1.out.trans hp
    clear hgk hall hC
    by_cases hlt : k < L.length
    · obtain ⟨hin, hok⟩ := HIN.out _ (getD_mem' hlt)
      have HOK := Lib.hid hok
      obtain ⟨n, han, hn1, hn8⟩ := lanes_nat hok.2.1
      subst han
      have hnn : (n : Int).toNat = n := by omega
      have hpl : (L.getD k default).1 < cs.length := hin.2.1
      have Hnext : Hid (∀ j, j < k + 1 → splBad cs n (L.getD k default) = false → splBad cs n (L.getD j default) = false) := Lib.hid fun j hj he => by
        by_cases e : j = k
        · rw [e]; exact he
        · have := Hall.out j (by omega); rwa [hnn] at this
      have Hhit : Hid (splBad cs n (L.getD k default) = true → r = some (L.getD k default)) := Lib.hid fun he => by
        rw [← HF.out]; exact find_first Hall.out hlt (by rw [hnn]; exact he)
      clear hin hok
      obtain ⟨b, o, rfl, hb, hc⟩ := H.out.at_ hpl
      obtain ⟨b', o', hv', hb', hc'⟩ := (Flat.of_own (HO.out.pure hp)).at_ (by omega)
      subst hv'
      have q0 := hc' (k * 2) (by omega)
      have q1 := hc' (k * 2 + 1) (by omega)
      rw [getD_of (beat_at L k hlt).1] at q0
      rw [getD_of (beat_at L k hlt).2, ← Nat.add_assoc] at q1
      obtain ⟨cd, Hcd⟩ : ∃ cd, Hid (cs.getD (L.getD k default).1 default = cd) := ⟨_, Lib.hid rfl⟩
      have hat := hc.keep (HP1.out.trans hp) hb
      rw [Hcd.out] at hat
      obtain ⟨r0, r1, r2, r3⟩ := hat
      clear hc hc' r1 r2 r3
      have hbad : splBad cs n (L.getD k default) = (decide (cd.op = 10) && !decide ((L.getD k default).2.1 = 2 ^ n - 1)) := by unfold splBad; rw [Hcd.out]
      obtain ⟨p, Hp⟩ : ∃ p, Hid ((L.getD k default).1 = p) := ⟨_, Lib.hid rfl⟩
      obtain ⟨mk, Hmk⟩ : ∃ mk, Hid ((L.getD k default).2.1 = mk) := ⟨_, Lib.hid rfl⟩
      rw [Hp.out] at q0 hpl r0
      rw [Hmk.out] at q1 hbad
      obtain ⟨z, Hz⟩ : ∃ z, Hid (cd.op = z) := ⟨_, Lib.hid rfl⟩
      rw [Hz.out] at r0 hbad
      by_cases hz : z = 10
      · subst hz
        have hM := Lib.hid hbad
        clear hbad
        obtain ⟨T, HT⟩ : ∃ T, Hid (2 ^ n - 1 = T) := ⟨_, Lib.hid rfl⟩
        have HMA : Hid (∀ u : World, Calls Try.prog 63 #[.int .i64 (n : Int)] u fun e w' => e = .returned (.int .i64 (T : Int)) ∧ w' = u) := Lib.hid fun u => by
          have := smaskall_any n u hn1 hn8
          rw [HT.out] at this; exact this.mono fun e w' h => ⟨h.1, h.2.symm⟩
        rw [HT.out] at hM
        by_cases hmk : mk = T
        · have hmb : ((mk : Int) != (T : Int)) = false := by simp [hmk]
          have hB : Hid (splBad cs n (L.getD k default) = false) := Lib.hid (by rw [hM.out]; simp [hmk])
          clear hmk
          go_wp2
          go_quiet ((go_at_call 63; refine Calls.quiet_of_same (HMA.out _)))
          go_wp2
          go_roundg (L.length - (k + 1))
          case measure => have := Hgk.out; omega
          case rel => exact ⟨k + 1, by have := Hgk.out; omega, by go_num, by exact (by repeat (first | assumption | exact Pure.refl _ | refine Pure.drewN ?_ _ | refine Pure.drew ?_ | refine Pure.alloc ?_ _ | refine Pure.setCell ?_ (by simp <;> omega) _)), fun j hj => by rw [hnn]; exact Hnext.out j hj hB.out⟩
        · have hmb : ((mk : Int) != (T : Int)) = true := by simp; omega
          have hB : Hid (splBad cs n (L.getD k default) = true) := Lib.hid (by rw [hM.out]; simp [hmk])
          have HR : Hid (spl2 r = .tuple #[.agg #[.int .i64 p, .int .i64 mk], .bool true]) := Lib.hid (by rw [Hhit.out hB.out, ← Hp.out, ← Hmk.out]; rfl)
          clear hmk
          go_wp2
          go_quiet ((go_at_call 63; refine Calls.quiet_of_same (HMA.out _)))
          go_wp2
          obtain ⟨y0, y1, y2⟩ := pair_set (HCr.out nq) (.int .i64 p) (.int .i64 mk)
          refine bodyPost_ret (v := .tuple #[.agg #[.int .i64 p, .int .i64 mk], .bool true]) (by simp [results, Try.results35, go_sem, y0, y1, y2]) rfl ?_
          exact ⟨by rw [HR.out], by exact (by repeat (first | assumption | exact Pure.refl _ | refine Pure.drewN ?_ _ | refine Pure.drew ?_ | refine Pure.alloc ?_ _ | refine Pure.setCell ?_ (by simp <;> omega) _))⟩
      · have hzb : (z == 10) = false := by simp [hz]
        have hB : Hid (splBad cs n (L.getD k default) = false) := Lib.hid (by rw [hbad]; simp [hz])
        clear hbad hz
        go_wp2
        go_quiet (fail)
        go_wp2
        go_roundg (L.length - (k + 1))
        case measure => have := Hgk.out; omega
        case rel => exact ⟨k + 1, by have := Hgk.out; omega, by go_num, by exact (by repeat (first | assumption | exact Pure.refl _ | refine Pure.drewN ?_ _ | refine Pure.drew ?_ | refine Pure.alloc ?_ _ | refine Pure.setCell ?_ (by simp <;> omega) _)), fun j hj => by rw [hnn]; exact Hnext.out j hj hB.out⟩
    · have hkl : k = L.length := by omega
      have HN : Hid (r = none) := Lib.hid (by rw [← HF.out]; exact find_none fun j hj => Hall.out j (by omega))
      go_wp2
      obtain ⟨y0, y1, y2⟩ := pair_set (HCr.out 0) (.int .i64 0) (.int .i64 0)
      simp only [show wr.drewN 0 = wr from rfl] at y0 y1 y2
      refine bodyPost_ret (v := .tuple #[.agg #[.int .i64 0, .int .i64 0], .bool false]) (by simp [results, Try.results35, go_sem, y0, y1, y2]) rfl ?_
      exact ⟨by rw [HN.out]; rfl, by exact (by repeat (first | assumption | exact Pure.refl _ | refine Pure.drewN ?_ _ | refine Pure.drew ?_ | refine Pure.alloc ?_ _ | refine Pure.setCell ?_ (by simp <;> omega) _))⟩

end Go.Proofs.Ytokdfgodmhekmaa

namespace Go.Proofs.Ytokdfgodmhekmaa
open Go.RowKit

def FirstAt {α : Type} [Inhabited α] (p : α → Bool) (H : List α) (r : Int) : Prop :=
  (∃ k : Nat, r = k ∧ k < H.length ∧ p (H.getD k default) = true ∧ ∀ j, j < k → p (H.getD j default) = false) ∨ (r = -1 ∧ ∀ j, j < H.length → p (H.getD j default) = false)
theorem box_facts {w w' : World} {x y : Value} {t : TypeId} (hp : Pure (w.alloc (.cells #[x, y] t)) w') : w'.cell? ⟨w.heap.size, 0, none⟩ = some x ∧ w'.cell? ⟨w.heap.size, 1, none⟩ = some y := by
  have h := heap_alloc_new w (.cells #[x, y] t)
  exact ⟨keepPc hp ((cell_of_row _ _ 0 _ _ _ h).trans rfl), keepPc hp ((cell_of_row _ _ 1 _ _ _ h).trans rfl)⟩

set_option maxHeartbeats 2000000 in
set_option maxRecDepth 100000 in
theorem ispl1_any (w : World) (bx lp pm p mk n c : Nat) (A : Option Addr) (vl : Value) (cs : List Cd) (hbx : w.cell? ⟨bx, 0, none⟩ = some (.pointer (some ⟨lp, 0, none⟩))) (h0 : w.cell? ⟨lp, 0, none⟩ = some (.pointer (some ⟨pm, 0, none⟩)))
    (h1 : w.cell? ⟨lp, 1, none⟩ = some (.slice A n c)) (hm : w.cell? ⟨pm, 0, none⟩ = some vl) (hc : Codes w vl cs) (hp : p < cs.length) (hn1 : 1 ≤ n) (hn8 : n ≤ 8) (R : Nat → Nat → Int) :
    Calls Try.prog 85 #[.agg #[.int .i64 (p : Int), .int .i64 (mk : Int)], .pointer (some ⟨bx, 0, none⟩)] w fun e w' => e = .returned (.bool (splBad cs n (p, mk, R))) ∧ Pure w w' := by
  have H := Lib.hid hc
  obtain ⟨Al, cl, rfl, hnc, hcm⟩ := hc.form
  clear hc
  obtain ⟨b, o, rfl, hb, hat⟩ := H.out.at_ hp
  obtain ⟨cd, Hcd⟩ : ∃ cd, Hid (cs.getD p default = cd) := ⟨_, Lib.hid rfl⟩
  rw [Hcd.out] at hat
  have hbad : splBad cs n (p, mk, R) = (decide (cd.op = 10) && !decide (mk = 2 ^ n - 1)) := by unfold splBad; rw [Hcd.out]
  have q0 := hat.c0
  have lb := World.block_lt_of_cell? _ _ hbx
  have l0 := World.block_lt_of_cell? _ _ h0
  have l1 := World.block_lt_of_cell? _ _ h1
  have lm := World.block_lt_of_cell? _ _ hm
  clear hat
  obtain ⟨T, HT⟩ : ∃ T, Hid (2 ^ n - 1 = T) := ⟨_, Lib.hid rfl⟩
  have HMA : Hid (∀ u : World, Calls Try.prog 68 #[.int .i64 (n : Int)] u fun e w' => e = .returned (.int .i64 (T : Int)) ∧ w' = u) := Lib.hid fun u => by
    have := imaskall_any n u hn1 hn8
    rw [HT.out] at this; exact this.mono fun e w' h => ⟨h.1, h.2.symm⟩
  rw [HT.out] at hbad
  obtain ⟨z, Hz⟩ : ∃ z, Hid (cd.op = z) := ⟨_, Lib.hid rfl⟩
  rw [Hz.out] at q0 hbad
  have HP : Hid (Pure w (w.alloc (.cells #[.int .i64 (p : Int), .int .i64 (mk : Int)] 44))) := Lib.hid (Pure.alloc (Pure.refl _) _)
  obtain ⟨x0, x1⟩ := box_facts (Pure.refl (w.alloc (.cells #[.int .i64 (p : Int), .int .i64 (mk : Int)] 44)))
  have y0 := keepPc HP.out q0
  have y1 := keepPc HP.out hbx
  have y2 := keepPc HP.out h0
  have y3 := keepPc HP.out h1
  have y4 := keepPc HP.out hm
  by_cases hz : z = 10
  · subst hz
    by_cases hmk : mk = T
    · have hmb : ((mk : Int) != (T : Int)) = false := by simp [hmk]
      have HB : Hid (splBad cs n (p, mk, R) = false) := Lib.hid (by rw [hbad]; simp [hmk])
      clear hmk hbad
      go_enter Try.func85, Try.ntmps85
      go_wp2
      go_quiet ((go_at_call 68; refine Calls.quiet_of_same (HMA.out _)))
      go_wp2
      go_ret
      exact ⟨ret_bool HB.out.symm, by exact (by repeat (first | assumption | exact Pure.refl _ | refine Pure.drewN ?_ _ | refine Pure.drew ?_ | refine Pure.alloc ?_ _ | refine Pure.setCell ?_ (by simp <;> omega) _))⟩
    · have hmb : ((mk : Int) != (T : Int)) = true := by simp; omega
      have HB : Hid (splBad cs n (p, mk, R) = true) := Lib.hid (by rw [hbad]; simp [hmk])
      clear hmk hbad
      go_enter Try.func85, Try.ntmps85
      go_wp2
      go_quiet ((go_at_call 68; refine Calls.quiet_of_same (HMA.out _)))
      go_wp2
      go_ret
      exact ⟨ret_bool HB.out.symm, by exact (by repeat (first | assumption | exact Pure.refl _ | refine Pure.drewN ?_ _ | refine Pure.drew ?_ | refine Pure.alloc ?_ _ | refine Pure.setCell ?_ (by simp <;> omega) _))⟩
  · have hzb : (z == 10) = false := by simp [hz]
    have HB : Hid (splBad cs n (p, mk, R) = false) := Lib.hid (by rw [hbad]; simp [hz])
    clear hz hbad
    go_enter Try.func85, Try.ntmps85
    go_wp2
    go_quiet (fail)
    go_wp2
    go_ret
    exact ⟨ret_bool HB.out.symm, by exact (by repeat (first | assumption | exact Pure.refl _ | refine Pure.drewN ?_ _ | refine Pure.drew ?_ | refine Pure.alloc ?_ _ | refine Pure.setCell ?_ (by simp <;> omega) _))⟩

set_option maxHeartbeats 2000000 in
set_option maxRecDepth 100000 in
theorem ispix_any (w : World) (bx lp pm n c : Nat) (A : Option Addr) (vl vb : Value) (cs : List Cd) (L : List (Nat × Nat × (Nat → Nat → Int))) (hbx : w.cell? ⟨bx, 0, none⟩ = some (.pointer (some ⟨lp, 0, none⟩))) (h0 : w.cell? ⟨lp, 0, none⟩ = some (.pointer (some ⟨pm, 0, none⟩)))
    (h1 : w.cell? ⟨lp, 1, none⟩ = some (.slice A n c)) (hm : w.cell? ⟨pm, 0, none⟩ = some vl) (hc : Codes w vl cs) (hn1 : 1 ≤ n) (hn8 : n ≤ 8) (hf : Flat w vb L.length 2 (beatsL L)) (hin : ∀ x ∈ L, x.1 < cs.length) (hlen : L.length ≤ 1048576) :
    Calls Try.prog 84 #[vb, .func (.func 85) #[] #[.pointer (some ⟨bx, 0, none⟩)]] w fun e w' => ∃ r, e = .returned (.int .i64 r) ∧ FirstAt (splBad cs n) L r ∧ Pure w w' := by
  have H := Lib.hid hc
  have HF := Lib.hid hf
  have HIN := Lib.hid hin
  have HW := Lib.hid (And.intro hbx (And.intro h0 (And.intro h1 hm)))
  obtain ⟨Ab, cb, rfl, hnc, hcm⟩ := hf.form
  clear hc hf hin hbx h0 h1 hm
  go_enter Try.func84, Try.ntmps84
  go_wp2
  go_loopg [8] L.length (fun gk i wr => ∃ k : Nat, gk + k = L.length ∧ i = .int .i64 k ∧ Pure w wr ∧ ∀ j, j < k → splBad cs n (L.getD j default) = false)
  case atStart => exact ⟨0, rfl, rfl, Pure.refl _, fun j hj => absurd hj (by omega)⟩
  case round =>
    obtain ⟨k, hgk, rfl, hp, hall⟩ := hrel
    have Hgk := Lib.hid hgk
    have Hall := Lib.hid hall
    have hkn : k ≤ L.length := by omega
    clear hgk hall
    by_cases hlt : k < L.length
    · obtain ⟨b, o, rfl, hb, hcl⟩ := HF.out.at_ (by omega)
      have q0 := (hp.cell b _ hb).trans (hcl (k * 2) (by omega))
      have q1 := (hp.cell b _ hb).trans (hcl (k * 2 + 1) (by omega))
      rw [getD_of (beat_at L k hlt).1] at q0
      rw [getD_of (beat_at L k hlt).2, ← Nat.add_assoc] at q1
      clear hcl
      have hpl : (L.getD k default).1 < cs.length := HIN.out _ (getD_mem' hlt)
      have HCL := Lib.hid (fun u (hu : Pure w u) => ispl1_any u bx lp pm (L.getD k default).1 (L.getD k default).2.1 n c A vl cs (keepPc hu HW.out.1) (keepPc hu HW.out.2.1) (keepPc hu HW.out.2.2.1) (keepPc hu HW.out.2.2.2) (H.out.keep hu) hpl hn1 hn8 (L.getD k default).2.2)
      obtain ⟨B, HB⟩ : ∃ B, Hid (splBad cs n (L.getD k default) = B) := ⟨_, Lib.hid rfl⟩
      have HB2 : Hid (splBad cs n ((L.getD k default).1, (L.getD k default).2.1, (L.getD k default).2.2) = B) := HB
      have HCL2 : Hid (∀ u, Pure w u → Calls Try.prog 85 #[.agg #[.int .i64 ((L.getD k default).1 : Int), .int .i64 ((L.getD k default).2.1 : Int)], .pointer (some ⟨bx, 0, none⟩)] u fun e w' => e = .returned (.bool B) ∧ Pure u w') := Lib.hid fun u hu => by
        have := HCL.out u hu; rw [HB2.out] at this; exact this
      clear HCL HB2
      obtain ⟨pp, Hp⟩ : ∃ p, Hid ((L.getD k default).1 = p) := ⟨_, Lib.hid rfl⟩
      obtain ⟨mk, Hmk⟩ : ∃ mk, Hid ((L.getD k default).2.1 = mk) := ⟨_, Lib.hid rfl⟩
      rw [Hp.out, Hmk.out] at HCL2
      rw [Hp.out] at q0 hpl
      rw [Hmk.out] at q1
      go_wp2_with fail
      refine (HCL2.out _ hp).mono ?_
      rintro e w1 ⟨rfl, hp1⟩
      cases B
      · have Hnext : Hid (∀ j, j < k + 1 → splBad cs n (L.getD j default) = false) := Lib.hid fun j hj => by
          by_cases e : j = k
          · rw [e, HB.out]
          · exact Hall.out j (by omega)
        go_wp2
        go_roundg (L.length - (k + 1))
        case measure => have := Hgk.out; omega
        case rel => exact ⟨k + 1, by have := Hgk.out; omega, by go_num, hp.trans hp1, Hnext.out⟩
      · have Hhit : Hid (FirstAt (splBad cs n) L (k : Nat)) := Lib.hid (.inl ⟨k, rfl, hlt, HB.out, Hall.out⟩)
        go_wp2
        go_ret
        exact ⟨_, rfl, Hhit.out, hp.trans hp1⟩
    · have HN : Hid (FirstAt (splBad cs n) L (-1)) := Lib.hid (.inr ⟨rfl, fun j hj => Hall.out j (by omega)⟩)
      go_wp2
      go_ret
      exact ⟨_, rfl, HN.out, hp⟩

end Go.Proofs.Ytokdfgodmhekmaa

namespace Go.Proofs.Ytokdfgodmhekmaa
open Go.RowKit

set_option maxHeartbeats 2000000 in
set_option maxRecDepth 100000 in
theorem isplit_any (o : IObj) (w : World) (vb va : Value) (s : LS) (hr : ORun o w vb va s) (hin : ∀ x ∈ s.H, x.1 < o.cs.length) (hlen : s.H.length ≤ 1048576) :
    Calls Try.prog 61 #[.pointer (some ⟨o.p, 0, none⟩)] w fun e w' => e = .returned (spl2 (s.H.find? (splBad o.cs o.rm.n))) ∧ Pure w w' := by
  have HR := Lib.hid hr
  have HIN := Lib.hid hin
  obtain ⟨r, Hr⟩ : ∃ r, Hid (s.H.find? (splBad o.cs o.rm.n) = r) := ⟨_, Lib.hid rfl⟩
  rw [Hr.out]
  have hn1 := hr.n1
  have hn8 := hr.rm.n8
  obtain ⟨Ab, cb, rfl⟩ := hr.bt.form
  clear hin hr
  have hHB := HR.out.bt
  obtain ⟨L, HL⟩ : ∃ L, Hid (s.H = L) := ⟨_, Lib.hid rfl⟩
  have HBT : Hid (OwnO w o.w0.heap.size 44 2 (.slice Ab s.H.length cb) s.H.length (beatsL s.H)) := Lib.hid hHB
  have p3 : w.cell? ⟨o.p, 3, none⟩ = some (.slice Ab s.H.length cb) := HR.out.obj.cell 3
  have p0 : w.cell? ⟨o.p, 0, none⟩ = some (.pointer (some ⟨o.pm, 0, none⟩)) := HR.out.obj.cell 0
  have p1 : w.cell? ⟨o.p, 1, none⟩ = some o.rm.vr := HR.out.obj.cell 1
  have pm0 : w.cell? ⟨o.pm, 0, none⟩ = some o.vl := keepPc HR.out.pure HR.out.mach.1
  have HC : Hid (Codes w o.vl o.cs) := Lib.hid (HR.out.codes.keep HR.out.pure)
  have HIN2 : Hid (∀ x ∈ L, x.1 < o.cs.length) := Lib.hid (by rw [← HL.out]; exact HIN.out)
  have HR2 : Hid (L.find? (splBad o.cs o.rm.n) = r) := Lib.hid (by rw [← HL.out]; exact Hr.out)
  rw [HL.out] at HBT p3 hlen
  have HP3 := Lib.hid p3
  have HP0 := Lib.hid p0
  have HP1 := Lib.hid p1
  have HPM := Lib.hid pm0
  clear hHB HR Hr HIN p0 p1 pm0
  have hx := heap_alloc_new w (.cells #[.pointer (some ⟨o.p, 0, none⟩)] 64)
  have hxc := (cell_of_row _ _ 0 _ _ _ hx).trans rfl
  have HX : Hid ((w.alloc (.cells #[.pointer (some ⟨o.p, 0, none⟩)] 64)).cell? ⟨w.heap.size, 0, none⟩ = some (.pointer (some ⟨o.p, 0, none⟩))) := Lib.hid hxc
  have hz := heap_alloc_new (w.alloc (.cells #[.pointer (some ⟨o.p, 0, none⟩)] 64)) (.cells #[.int .i64 0, .int .i64 0] 44)
  rw [World.size_alloc] at hz
  have HZ := Lib.hid hz
  clear hx hxc hz
  have lp := World.block_lt_of_cell? _ _ p3
  go_enter Try.func61, Try.ntmps61
  go_wp2_with fail
  refine (ispix_any _ w.heap.size o.p o.pm o.rm.n o.rm.cr (some ⟨o.rm.gr, 0, none⟩) o.vl _ o.cs L (keepPc (by exact (by repeat (first | assumption | exact Pure.refl _ | refine Pure.drewN ?_ _ | refine Pure.drew ?_ | refine Pure.alloc ?_ _ | refine Pure.setCell ?_ (by simp <;> omega) _))) HX.out) (keepPc (by exact (by repeat (first | assumption | exact Pure.refl _ | refine Pure.drewN ?_ _ | refine Pure.drew ?_ | refine Pure.alloc ?_ _ | refine Pure.setCell ?_ (by simp <;> omega) _))) HP0.out) (keepPc (by exact (by repeat (first | assumption | exact Pure.refl _ | refine Pure.drewN ?_ _ | refine Pure.drew ?_ | refine Pure.alloc ?_ _ | refine Pure.setCell ?_ (by simp <;> omega) _))) HP1.out) (keepPc (by exact (by repeat (first | assumption | exact Pure.refl _ | refine Pure.drewN ?_ _ | refine Pure.drew ?_ | refine Pure.alloc ?_ _ | refine Pure.setCell ?_ (by simp <;> omega) _))) HPM.out) (HC.out.keep (by exact (by repeat (first | assumption | exact Pure.refl _ | refine Pure.drewN ?_ _ | refine Pure.drew ?_ | refine Pure.alloc ?_ _ | refine Pure.setCell ?_ (by simp <;> omega) _)))) hn1 hn8 (Flat.of_own (HBT.out.pure (by exact (by repeat (first | assumption | exact Pure.refl _ | refine Pure.drewN ?_ _ | refine Pure.drew ?_ | refine Pure.alloc ?_ _ | refine Pure.setCell ?_ (by simp <;> omega) _))))) HIN2.out hlen).mono ?_
  rintro e w1 ⟨i, rfl, hi, hp1⟩
  have hz1 : ∀ n, (w1.drewN n).heap[w.heap.size + 1]? = some (.cells #[.int .i64 0, .int .i64 0] 44 (0, 0)) := fun n => (Chg.of_pure (S := fun _ => False) hp1).heap HZ.out id
  have HZ1 := Lib.hid hz1
  have c0 : w1.cell? ⟨w.heap.size + 1, 0, none⟩ = some (.int .i64 0) := (cell_of_row w1 _ 0 _ _ _ (hz1 0)).trans rfl
  have c1 : w1.cell? ⟨w.heap.size + 1, 1, none⟩ = some (.int .i64 0) := (cell_of_row w1 _ 1 _ _ _ (hz1 0)).trans rfl
  have f0 := frozen_of_row w1 (w.heap.size + 1) 0 _ _ (hz1 0)
  have f1 := frozen_of_row w1 (w.heap.size + 1) 1 _ _ (hz1 0)
  have b1 : w1.cell? ⟨w.heap.size, 0, none⟩ = some (.pointer (some ⟨o.p, 0, none⟩)) := keepPc hp1 (keepPc (by exact (by repeat (first | assumption | exact Pure.refl _ | refine Pure.drewN ?_ _ | refine Pure.drew ?_ | refine Pure.alloc ?_ _ | refine Pure.setCell ?_ (by simp <;> omega) _))) HX.out)
  have b3 : w1.cell? ⟨o.p, 3, none⟩ = some (.slice Ab L.length cb) := keepPc hp1 (keepPc (by exact (by repeat (first | assumption | exact Pure.refl _ | refine Pure.drewN ?_ _ | refine Pure.drew ?_ | refine Pure.alloc ?_ _ | refine Pure.setCell ?_ (by simp <;> omega) _))) HP3.out)
  have HP : Hid (Pure w w1) := Lib.hid (Pure.trans (by exact (by repeat (first | assumption | exact Pure.refl _ | refine Pure.drewN ?_ _ | refine Pure.drew ?_ | refine Pure.alloc ?_ _ | refine Pure.setCell ?_ (by simp <;> omega) _))) hp1)
  have hpw := HP.out
  clear hz1 hp1
  rcases hi with ⟨k, rfl, hk, hbad, hall⟩ | ⟨rfl, hall⟩
  · have HR3 : Hid (spl2 r = .tuple #[.agg #[.int .i64 ((L.getD k default).1 : Nat), .int .i64 ((L.getD k default).2.1 : Nat)], .bool true]) := Lib.hid (by rw [← HR2.out, find_first hall hk hbad]; rfl)
    clear hbad hall
    obtain ⟨b, oo, hv, hb, hcl⟩ := (Flat.of_own (HBT.out.pure HP.out)).at_ (by omega)
    subst hv
    have q0 := hcl (k * 2) (by omega)
    have q1 := hcl (k * 2 + 1) (by omega)
    rw [getD_of (beat_at L k hk).1] at q0
    rw [getD_of (beat_at L k hk).2, ← Nat.add_assoc] at q1
    clear hcl
    obtain ⟨pp, Hp⟩ : ∃ p, Hid ((L.getD k default).1 = p) := ⟨_, Lib.hid rfl⟩
    obtain ⟨mk, Hmk⟩ : ∃ mk, Hid ((L.getD k default).2.1 = mk) := ⟨_, Lib.hid rfl⟩
    rw [Hp.out, Hmk.out] at HR3
    rw [Hp.out] at q0
    rw [Hmk.out] at q1
    go_wp2
    obtain ⟨y0, y1, y2⟩ := pair_set (HZ1.out 0) (.int .i64 pp) (.int .i64 mk)
    simp only [show w1.drewN 0 = w1 from rfl] at y0 y1 y2
    refine bodyPost_ret (v := .tuple #[.agg #[.int .i64 pp, .int .i64 mk], .bool true]) (by simp [results, Try.results61, go_sem, y0, y1, y2]) rfl ?_
    exact ⟨by rw [HR3.out], by exact (by repeat (first | assumption | exact Pure.refl _ | refine Pure.drewN ?_ _ | refine Pure.drew ?_ | refine Pure.alloc ?_ _ | refine Pure.setCell ?_ (by simp <;> omega) _))⟩
  · have HR3 : Hid (spl2 r = .tuple #[.agg #[.int .i64 0, .int .i64 0], .bool false]) := Lib.hid (by rw [← HR2.out, find_none hall]; rfl)
    clear hall
    go_wp2
    obtain ⟨y0, y1, y2⟩ := pair_set (HZ1.out 0) (.int .i64 0) (.int .i64 0)
    simp only [show w1.drewN 0 = w1 from rfl] at y0 y1 y2
    refine bodyPost_ret (v := .tuple #[.agg #[.int .i64 0, .int .i64 0], .bool false]) (by simp [results, Try.results61, go_sem, y0, y1, y2]) rfl ?_
    exact ⟨by rw [HR3.out], by exact (by repeat (first | assumption | exact Pure.refl _ | refine Pure.drewN ?_ _ | refine Pure.drew ?_ | refine Pure.alloc ?_ _ | refine Pure.setCell ?_ (by simp <;> omega) _))⟩

end Go.Proofs.Ytokdfgodmhekmaa
