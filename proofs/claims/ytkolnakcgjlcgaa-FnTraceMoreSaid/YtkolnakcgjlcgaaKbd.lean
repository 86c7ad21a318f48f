/- The whole run in lockstep, as the program makes it. The laws' helpers on steps and accesses: equal ones are found equal; marks are written and found. What a run gives for any arguments: its steps, and the first that splits a barrier. Bytes that are read. The reader that the drawn inputs come from: it yields numbers, and changes nothing but its own counter. A region that draws its order, walked by what holds of the operations that are through: each operation once, whatever the order. No condition. -/
import Derived.Laws.BitsAllLaws
import Derived.Test.YtkolnakcgjlcgaaKaa
import Derived.Test.YtkolnakcgjlcgaaKac
import Derived.Test.YtkolnakcgjlcgaaKae
import Derived.Test.YtkolnakcgjlcgaaKah
import Derived.Test.YtkolnakcgjlcgaaKaj
import Derived.Test.YtkolnakcgjlcgaaKba
import Derived.Test.YtkolnakcgjlcgaaKbc

namespace Go.Proofs.Ytkolnakcgjlcgaa
open Go.RowKit

set_option maxHeartbeats 400000 in
theorem imaskall_any (n : Nat) (w : World) (h1 : 1 ≤ n) (h8 : n ≤ 8) :
    Calls Try.prog 22 #[.int .i64 n] w fun e w' => e = .returned (.int .i64 ((2 ^ n - 1 : Nat) : Int)) ∧ w = w' := by
  have hs := shl8 (j := n) (by omega)
  have hp := pow8 h8
  have hp1 : 1 ≤ 2 ^ n := Nat.one_le_two_pow
  have HC : Hid (((2 ^ n - 1 : Nat) : Int) = ((2 ^ n : Nat) : Int) - 1) := Lib.hid (by omega)
  rw [HC.out]
  obtain ⟨q, Hq⟩ : ∃ q, Hid (2 ^ n = q) := ⟨2 ^ n, Lib.hid rfl⟩
  rw [Hq.out] at hs hp hp1 ⊢
  have HS := Lib.hid hs
  go_enter Try.func22, Try.ntmps22
  go_wp2_with fail
  refine (ilanesok_any _ _ true (by simp only [true_iff]; unfold LanesOk; omega)).mono ?_
  rintro e w' ⟨rfl, rfl⟩
  go_wp2
  go_ret
  exact ⟨rfl, rfl⟩

set_option maxHeartbeats 1000000 in
set_option maxRecDepth 100000 in
theorem clone_any (v : Value) (mem : List Int) (w : World) (h : Ints w v mem) (h1 : 1 ≤ mem.length) (hsmall : mem.length ≤ 1048576) :
    Calls Try.prog 67 #[v] w fun e w' => ∃ g c, e = .returned (.slice (some ⟨g, 0, none⟩) mem.length c) ∧ OwnO w' w.heap.size 3 1 (.slice (some ⟨g, 0, none⟩) mem.length c) mem.length ((List.range mem.length).map fun j => .int .i64 (mem.getD j 0)) ∧ Pure w w' := by
  have HM := Lib.hid h
  obtain ⟨A, c, rfl, hnc, hcm, hread⟩ := h
  obtain ⟨b, o, rfl, hb, hc⟩ := hread (by omega)
  clear hc hread
  have hnil : ∀ w : World, (binOp BinOp.eql 24 (.slice (some ⟨b, o, none⟩) mem.length c) (.slice none 0 0)).run Try.prog w = .ok (.bool false) w := fun _ => by kernel_rfl
  go_enter Try.func67, Try.ntmps67
  go_wp2_with (at_builtin; go_must (refine wl_copyR elInt rfl _ _ rfl w.heap.size rfl _ rfl _ mem.length HM.out (fun j _ => rfl) (by decide) (by omega) (by omega) ?_); intro vm' wq hown hp; go_must (obtain ⟨gm, cmm, hvm, hgm1, hgm2, hcm1, hcm2⟩ := own_form hown (by omega); subst hvm; have HOWN := Lib.hid hown; have HP := Lib.hid hp; clear hown hp))
  go_ret
  exact ⟨gm, cmm, rfl, OwnO.of_own HOWN.out, HP.out⟩

set_option maxHeartbeats 1000000 in
theorem nm_any (v : Value) (cs : List Cd) (w : World) (h : Codes w v cs) (hv : PValid cs) :
    Calls Try.prog 68 #[v] w fun e w' => ∃ p va vo, e = .returned (.pointer (some ⟨p, 0, none⟩)) ∧ Pure w w' ∧ w'.cell? ⟨p, 0, none⟩ = some v ∧ w'.cell? ⟨p, 1, none⟩ = some vo ∧ Tabs w' va vo cs := by
  have H := Lib.hid h
  have HV := Lib.hid hv
  obtain ⟨A, c, rfl, hnc, hcm⟩ := h.form
  clear h hv
  go_enter Try.func68, Try.ntmps68
  go_wp2_with fail
  refine (blocks_any _ cs _ H.out HV.out.2.1).mono ?_
  rintro e w1 ⟨hp, hm⟩
  rw [HV.out.2.2] at hm
  obtain ⟨va, vo, rfl, ht⟩ := hm
  have HT := Lib.hid (ht rfl)
  obtain ⟨_, ⟨Ao, co, rfl, _⟩, _⟩ := ht rfl
  clear ht
  go_wp2
  go_ret
  have hx := heap_alloc_new w1 (.cells #[.slice A cs.length c, .slice Ao cs.length co] 109)
  exact ⟨w1.heap.size, va, _, rfl, hp.trans (by exact (by repeat (first | assumption | exact Pure.refl _ | refine Pure.drewN ?_ _ | refine Pure.drew ?_ | refine Pure.alloc ?_ _ | refine Pure.setCell ?_ (by simp <;> omega) _))), (cell_of_row _ _ 0 _ _ _ hx).trans rfl, (cell_of_row _ _ 1 _ _ _ hx).trans rfl, HT.out.keep (by exact (by repeat (first | assumption | exact Pure.refl _ | refine Pure.drewN ?_ _ | refine Pure.drew ?_ | refine Pure.alloc ?_ _ | refine Pure.setCell ?_ (by simp <;> omega) _)))⟩

def LockP (cs : List Cd) (n : Nat) (mem : List Int) (vl : Value) (w : World) (e : Ending) (w' : World) : Prop :=
  ∃ (o : IObj) (vb va : Value), e = .returned (.tuple #[.pointer (some ⟨o.p, 0, none⟩), .bool true]) ∧ Pure w o.w0 ∧ o.cs = cs ∧ o.vl = vl ∧ o.look = .nilFunc ∧ o.rm.n = n ∧ o.rm.m = mem.length ∧ ORun o w' vb va (lockOf cs n mem)

set_option maxHeartbeats 1000000 in
set_option maxRecDepth 100000 in
theorem ino_any (vl vm : Value) (cs : List Cd) (a : Int) (mem : List Int) (w : World) (h : Codes w vl cs) (hm : Ints w vm mem) (hs1 : cs.length ≤ 1048576) (hs2 : mem.length ≤ 1048576) (hno : ¬ RunOk cs a mem) :
    Calls Try.prog 59 #[vl, .int .i64 a, vm, .nilFunc] w fun e w' => e = .returned (.tuple #[.pointer none, .bool false]) ∧ Pure w w' := by
  have H := Lib.hid h
  have HM := Lib.hid hm
  have HNO := Lib.hid hno
  obtain ⟨A, c, rfl, hnc, hcm⟩ := h.form
  obtain ⟨Am, cm, rfl⟩ := hm.form
  clear h hm hno
  go_enter Try.func59, Try.ntmps59
  go_wp2_with fail
  refine (icanrun_any _ _ cs a mem _ H.out HM.out hs1 hs2 false (by simp [HNO.out])).mono ?_
  rintro e w1 ⟨rfl, hp1⟩
  go_wp2
  refine bodyPost_ret (results_tmp2 rfl _ _ _) rfl ?_
  exact ⟨rfl, hp1⟩

set_option maxHeartbeats 4000000 in
set_option maxRecDepth 100000 in
theorem ilock_any (vl vm : Value) (cs : List Cd) (n : Nat) (mem : List Int) (w : World) (h : Codes w vl cs) (hm : Ints w vm mem) (hv : PValid cs) (hn1 : 1 ≤ n) (hn8 : n ≤ 8) (hmem : MemOk mem) :
    Calls Try.prog 59 #[vl, .int .i64 n, vm, .nilFunc] w (LockP cs n mem vl w) := by
  have H := Lib.hid h
  have HM := Lib.hid hm
  have HV := Lib.hid hv
  have HMEM := Lib.hid hmem
  have hc40 := hv.2.1
  obtain ⟨⟨hm1, hm32⟩, _⟩ := hmem
  obtain ⟨A, c, rfl, hnc, hcm⟩ := h.form
  obtain ⟨Am, cm, rfl, hmc, hmcm, _⟩ := hm
  clear h hv
  go_enter Try.func59, Try.ntmps59
  go_wp2_with fail
  refine (icanrun_any _ _ cs n mem _ H.out HM.out (by omega) (by omega) true (by simp only [true_iff]; exact ⟨HV.out, ⟨by omega, by omega⟩, HMEM.out⟩)).mono ?_
  rintro e wa ⟨rfl, hpa⟩
  go_wp2_with fail
  refine (nm_any _ cs _ (H.out.keep hpa) HV.out).mono ?_
  rintro e wb ⟨pm, va0, vo0, rfl, hpb, hpm0, hpm1, htab⟩
  have HPB := Lib.hid (hpa.trans hpb)
  have HPM := Lib.hid (And.intro hpm0 hpm1)
  have HTAB := Lib.hid htab
  clear hpa hpb hpm0 hpm1 htab
  go_wp2_with fail
  refine (clone_any _ mem _ (HM.out.keep HPB.out) hm1 (by omega)).mono ?_
  rintro e wq ⟨gm, cmm, rfl, hown, hp⟩
  obtain ⟨hgm1, hgm2⟩ := hown.lt gm rfl
  have HOWN := Lib.hid hown
  have HP := Lib.hid hp
  clear hown hp
  go_wp2
  have HPo : Hid ((wq.alloc (.cells #[.pointer (some ⟨pm, 0, none⟩), .slice none 0 0, .slice (some ⟨gm, 0, none⟩) mem.length cmm, .slice none 0 0, .slice none 0 0, .int .i64 0, .nilFunc] 78)).heap[wq.heap.size]? = some (.cells #[.pointer (some ⟨pm, 0, none⟩), .slice none 0 0, .slice (some ⟨gm, 0, none⟩) mem.length cmm, .slice none 0 0, .slice none 0 0, .int .i64 0, .nilFunc] 78 (0, 0))) := Lib.hid (heap_alloc_new _ _)
  go_loopg [24] n (fun gk i wr => ∃ (j : Nat) (vr : Value) (rows : Nat → Nat), gk + j = n ∧ i = .int .i64 j ∧ Pure wb wr ∧ RegsB wr wb.heap.size vr j rows ∧
    wr.heap[wq.heap.size]? = some (.cells #[.pointer (some ⟨pm, 0, none⟩), vr, .slice (some ⟨gm, 0, none⟩) mem.length cmm, .slice none 0 0, .slice none 0 0, .int .i64 0, .nilFunc] 78 (0, 0)) ∧
    OwnO wr wb.heap.size 3 1 (.slice (some ⟨gm, 0, none⟩) mem.length cmm) mem.length ((List.range mem.length).map fun j => .int .i64 (mem.getD j 0)) ∧
    OwnO wr wb.heap.size 33 2 (.slice none 0 0) 0 [] ∧ (∀ i, i < j → rows i ≠ gm))
  case atStart =>
    refine ⟨0, .slice none 0 0, fun _ => 0, rfl, rfl, HP.out.trans (by exact (by repeat (first | assumption | exact Pure.refl _ | refine Pure.drewN ?_ _ | refine Pure.drew ?_ | refine Pure.alloc ?_ _ | refine Pure.setCell ?_ (by simp <;> omega) _))), ⟨World.ownsRow_nil _ _ _ _, fun i hi => absurd hi (by omega), fun i hi => absurd hi (by omega), fun i k hi => absurd hi (by omega)⟩, HPo.out, HOWN.out.pure (by exact (by repeat (first | assumption | exact Pure.refl _ | refine Pure.drewN ?_ _ | refine Pure.drew ?_ | refine Pure.alloc ?_ _ | refine Pure.setCell ?_ (by simp <;> omega) _))), OwnO.of_own (World.ownsRow_nil _ _ _ _), fun i hi => absurd hi (by omega)⟩
  case round =>
    obtain ⟨j, vr, rows, hgk, rfl, hp, hregs, hobj, hmem, htr, hne⟩ := hrel
    have Hgk := Lib.hid hgk
    have HR := Lib.hid hregs
    have HO := Lib.hid hobj
    have HMe := Lib.hid hmem
    have HTr := Lib.hid htr
    have HNe := Lib.hid hne
    have hjn : j ≤ n := by omega
    clear hgk hregs hmem htr hne HPo
    have p2 := (cell_of_row wr wq.heap.size 1 _ _ _ hobj).trans rfl
    have hpfr := frozen_of_row wr wq.heap.size 1 _ _ hobj
    have hplt : wq.heap.size < wr.heap.size := (Array.getElem?_eq_some_iff.1 hobj).1
    clear hobj
    by_cases hlt : j < n
    · go_wp2
      refine region_heldF (fun w' => w'.cell? ⟨wq.heap.size, 1, none⟩ = some vr) (List.range 5) [5, 6, 7, 8, 9, 10] (fun l => List.take 5 l) (fun l => List.drop 5 l) (by kernel_rfl) (by kernel_rfl) (by kernel_rfl) (by kernel_rfl) (fun c a d v w h => by cases d <;> exact h) (by exact p2) ?_
      simp only [List.take_succ_cons, List.take_zero, List.drop_succ_cons, List.drop_zero]
      apply held_of
      · exact rfl
      · intro w' hS
        go_simp
        try exact rfl
      try go_simp
      apply held_of
      · exact rfl
      · intro w' hS
        go_simp
        try exact rfl
      try go_simp
      apply held_of
      · exact rfl
      · intro w' hS
        go_simp
        try exact rfl
      try go_simp
      apply held_of
      · exact rfl
      · intro w' hS
        go_simp
        try exact rfl
      try go_simp
      apply held_of
      · exact rfl
      · intro w' hS
        go_simp
        try exact rfl
      try go_simp
      refine held_nil ?_
      unfold Tail
      refine wl_make elInt rfl _ _ rfl wb.heap.size _ _ _ _ 4 rfl rfl rfl rfl (by decide) (by decide) hp.size ?_
      intro w4 hown4 hp4 hsz4
      have HZ4 := Lib.hid (own_zero4 hown4)
      have HP4 := Lib.hid ((show Pure wr wr.drew from Pure.drew (Pure.refl _)).trans hp4)
      have z2 := (HP4.out.cell _ _ hplt).trans p2
      have hplt4 := Nat.lt_of_lt_of_le hplt HP4.out.size
      clear hown4 hp4
      go_wp2
      refine And.intro z2 ?_
      unfold Tail
      go_wp2
      refine And.intro (keepPc (by exact (by repeat (first | assumption | exact Pure.refl _ | refine Pure.drewN ?_ _ | refine Pure.drew ?_ | refine Pure.alloc ?_ _ | refine Pure.setCell ?_ (by simp <;> omega) _))) z2) ?_
      unfold Tail
      have hgx := heap_alloc_new w4 (.cells #[.slice (some ⟨wr.heap.size, 0, none⟩) 4 4] 24)
      have hcx := cell_of_row _ _ 0 _ _ _ hgx
      refine wl_append elInts rfl _ _ rfl wb.heap.size vr j _ rfl (own_pure HR.out.own (HP4.out.trans (by exact (by repeat (first | assumption | exact Pure.refl _ | refine Pure.drewN ?_ _ | refine Pure.drew ?_ | refine Pure.alloc ?_ _ | refine Pure.setCell ?_ (by simp <;> omega) _))))) w4.heap.size 1 1 [.slice (some ⟨wr.heap.size, 0, none⟩) 4 4] rfl rfl (fun i u hu => ?_) (by intro u hu; simp at hu; subst hu; rfl) (by omega) (by omega) (Nat.le_trans hp.size (Nat.le_trans HP4.out.size (by simp))) ?_
      · have hi : i = 0 := by
          by_cases e : i = 0
          · exact e
          · rw [List.getElem?_eq_none (by simp; omega)] at hu; cases hu
        subst hi
        rw [← hu]; exact hcx
      intro v5 w5 hown5 hg5
      obtain ⟨g5, c5, hv5, _, _, _, _⟩ := own_form hown5 (by omega)
      subst hv5
      have hPw1 : Pure wr (w4.alloc (.cells #[.slice (some ⟨wr.heap.size, 0, none⟩) 4 4] 24)) := HP4.out.trans (by exact (by repeat (first | assumption | exact Pure.refl _ | refine Pure.drewN ?_ _ | refine Pure.drew ?_ | refine Pure.alloc ?_ _ | refine Pure.setCell ?_ (by simp <;> omega) _)))
      have hc5 : Chg (fun k => vr.ownBlock = some k) (w4.alloc (.cells #[.slice (some ⟨wr.heap.size, 0, none⟩) 4 4] 24)) w5 := Chg.of_grown hg5 (fun k hk => hk)
      have hvrp : ∀ k, vr.ownBlock = some k → k ≠ wq.heap.size := own_ne_heap HR.out.own HO.out (by decide)
      have hO5 : w5.heap[wq.heap.size]? = some (.cells #[.pointer (some ⟨pm, 0, none⟩), vr, .slice (some ⟨gm, 0, none⟩) mem.length cmm, .slice none 0 0, .slice none 0 0, .int .i64 0, .nilFunc] 78 (0, 0)) :=
        hc5.heap ((Chg.of_pure (S := fun _ => False) hPw1).heap HO.out id) (fun e => hvrp _ e rfl)
      have hz1 := (Chg.of_pure (S := fun _ => False) (show Pure w4 (w4.alloc (.cells #[.slice (some ⟨wr.heap.size, 0, none⟩) 4 4] 24)) from (by repeat (first | assumption | exact Pure.refl _ | refine Pure.drewN ?_ _ | refine Pure.drew ?_ | refine Pure.alloc ?_ _ | refine Pure.setCell ?_ (by simp <;> omega) _)))).heap HZ4.out id
      have hR5 := HR.out.push hPw1 (Nat.le_refl _) hp.size hz1 hown5 hg5
      have hM5 := (HMe.out.pure hPw1).chg hc5 (fun g hg e => (OwnO.of_own (own_pure HR.out.own hPw1)).ne (HMe.out.pure hPw1) (by decide) g e hg.symm)
      have hT5 := (HTr.out.pure hPw1).chg hc5 (fun g hg e => (OwnO.of_own (own_pure HR.out.own hPw1)).ne (HTr.out.pure hPw1) (by decide) g e hg.symm)
      have hP5 : Pure wb w5 := Chg.pure (hp.trans hPw1) hc5 (fun k hk => (own_lt HR.out.own k hk).1)
      have hc6 : Chg (fun k => k = wq.heap.size) w5 (w5.setCell ⟨wq.heap.size, 1, none⟩ (.slice (some ⟨g5, 0, none⟩) (j + 1) c5)) := Chg.of_set w5 _ _ _ rfl
      have HO6 : Hid ((w5.setCell ⟨wq.heap.size, 1, none⟩ (.slice (some ⟨g5, 0, none⟩) (j + 1) c5)).heap[wq.heap.size]? = some (.cells #[.pointer (some ⟨pm, 0, none⟩), .slice (some ⟨g5, 0, none⟩) (j + 1) c5, .slice (some ⟨gm, 0, none⟩) mem.length cmm, .slice none 0 0, .slice none 0 0, .int .i64 0, .nilFunc] 78 (0, 0))) := Lib.hid (by
        rw [heap_setCell_same w5 wq.heap.size 1 _ _ _ hO5]; rfl)
      have HR6 := Lib.hid (hR5.chg hc6 (fun g hg e => own_ne_heap hR5.own hO5 (by decide) g hg e) (fun i hi e => ne_of_heap (hR5.row i hi) hO5 (by decide) e))
      have HM6 := Lib.hid (hM5.chg hc6 (fun g hg e => hM5.ne_heap hO5 (by decide) g hg e))
      have HT6 := Lib.hid (hT5.chg hc6 (fun g hg e => hT5.ne_heap hO5 (by decide) g hg e))
      have HP6 : Hid (Pure wb (w5.setCell ⟨wq.heap.size, 1, none⟩ (.slice (some ⟨g5, 0, none⟩) (j + 1) c5))) := Lib.hid (Chg.pure hP5 hc6 (fun k hk => by rw [hk]; have := HP.out.size; omega))
      have z5 := (cell_of_row w5 wq.heap.size 1 _ _ _ hO5).trans rfl
      have zf5 := frozen_of_row w5 wq.heap.size 1 _ _ hO5
      have hgmlt : gm < wr.heap.size := (HMe.out.lt gm rfl).2
      clear hown5 hg5 hPw1 hc5 hvrp hO5 hz1 hR5 hM5 hT5 hP5 hc6 hgx hcx z2
      go_wp2
      refine And.intro z5 ?_
      unfold Tail
      go_wp2
      refine And.intro z5 ?_
      unfold Tail
      go_wp2
      refine And.intro z5 ?_
      unfold Tail
      go_wp2
      go_roundg (n - (j + 1))
      case measure => have := Hgk.out; omega
      case rel =>
        refine ⟨j + 1, _, _, by have := Hgk.out; omega, by go_num, HP6.out, HR6.out, HO6.out, HM6.out, HT6.out, fun i hi => ?_⟩
        show (if i = j then wr.heap.size else rows i) ≠ gm
        split
        · omega
        · exact HNe.out i (by omega)
    · have hjl : j = n := by have := Hgk.out; omega
      subst hjl
      obtain ⟨gr, cr, hvr, hgr1, hgr2, hcr1, hcr2⟩ := own_form HR.out.own (by omega)
      subst hvr
      go_wp2_with fail
      refine (imaskall_any j _ hn1 hn8).mono ?_
      rintro e w' ⟨rfl, rfl⟩
      obtain ⟨h1, h2, h3⟩ := treeOf_spec HV.out
      have hlen : (treeOf cs).len = cs.length := (congrArg List.length h1).symm
      have hrun : ORun ⟨⟨wb.heap.size, j, mem.length, gr, cr, gm, cmm, rows⟩, wb, cs, .slice A cs.length c, va0, vo0, pm, wq.heap.size, .nilFunc⟩ wr (.slice none 0 0) (.slice none 0 0) (startLS mem) :=
        ⟨hp, H.out.keep HPB.out, HPM.out, HTAB.out, rfl, HR.out.rm hn1 hn8 hm1 hm32 HMe.out HNe.out, hn1, HO.out, HP.out.size, HTr.out, OwnO.of_own (World.ownsRow_nil _ _ _ _), startLS_good HMEM.out⟩
      have HRUN := Lib.hid hrun
      have hcost : msz (startLS mem) + 10 * (treeOf cs).cost ≤ 1099511627000 := by
        have := HV.out.cost h1 h2 h3
        have e : msz (startLS mem) = 0 := rfl
        omega
      have hpow : 2 ^ j - 1 < 2 ^ j := Nat.sub_lt (Nat.two_pow_pos j) (by decide)
      have HTREE := Lib.hid (And.intro h2 (And.intro hlen (And.intro hcost hpow)))
      have HSEG : Hid (Seg cs 0 (treeOf cs)) := Lib.hid (Seg.whole h1)
      clear h1 h2 h3 hlen hrun hcost hpow
      go_wp2_with fail
      refine (iblock_any ⟨⟨wb.heap.size, j, mem.length, gr, cr, gm, cmm, rows⟩, wb, cs, .slice A cs.length c, va0, vo0, pm, wq.heap.size, .nilFunc⟩ HV.out rfl _ (treeOf cs) 0 (2 ^ j - 1) (startLS mem) _ _ wr _ _ (Nat.le_refl _) HTREE.out.1 HSEG.out (by have := HTREE.out.2.1; show 0 + (treeOf cs).len ≤ cs.length; omega) HTREE.out.2.2.2 HTREE.out.2.2.1 HRUN.out (by simp) (by rw [HTREE.out.2.1]; simp)).mono ?_
      rintro e w7 ⟨rfl, vb7, va7, hr7, _⟩
      have H7 := Lib.hid hr7
      clear hr7
      go_wp2_with fail
      refine bodyPost_ret (results_tmp2 rfl _ _ _) rfl ?_
      exact ⟨_, vb7, va7, rfl, HPB.out, rfl, rfl, rfl, rfl, rfl, H7.out⟩

end Go.Proofs.Ytkolnakcgjlcgaa

namespace Go.Proofs.Ytkolnakcgjlcgaa
open Go.RowKit

/-- A slice whose cells read as a list. -/
def Flat (w : World) (v : Value) (n s : Nat) (xs : List Value) : Prop := Cells w v n s fun j => xs.getD j undef
theorem Flat.keep {w w' : World} {v : Value} {n s : Nat} {xs : List Value} (h : Flat w v n s xs) (hp : Pure w w') : Flat w' v n s xs := Cells.keep h hp
theorem Flat.of_own {w : World} {B e s n : Nat} {v : Value} {xs : List Value} (h : OwnO w B e s v n xs) : Flat w v n s xs :=
  Cells.of_ownO h fun j hj => by
    have : j < xs.length := by rw [h.1]; exact hj
    simp [List.getD_eq_getElem?_getD, this]
theorem Flat.form {w : World} {v : Value} {n s : Nat} {xs : List Value} (h : Flat w v n s xs) : ∃ A c, v = .slice A n c ∧ n ≤ c ∧ c ≤ 9223372036854775807 := by
  obtain ⟨A, c, h1, h2, h3, _⟩ := h
  exact ⟨A, c, h1, h2, h3⟩
theorem Flat.at_ {w : World} {A : Option Addr} {n s c : Nat} {xs : List Value} (h : Flat w (.slice A n c) n s xs) (hn : 0 < n) : ∃ b o, A = some ⟨b, o, none⟩ ∧ b < w.heap.size ∧ ∀ j, j < n * s → w.cell? ⟨b, o + j, none⟩ = some (xs.getD j undef) := by
  obtain ⟨A', c', hv, _, _, h4⟩ := h
  injection hv with e1 e2 e3
  subst e1
  exact h4 hn
theorem getD_of {xs : List Value} {j : Nat} {v : Value} (h : xs[j]? = some v) : xs.getD j undef = v := by simp [List.getD_eq_getElem?_getD, h]
theorem beatsI_eq (H : List (Nat × Nat × (Nat → Nat → Int))) : beatsI H = beatsL H := rfl
theorem beat_at : ∀ (H : List (Nat × Nat × (Nat → Nat → Int))) (k : Nat), k < H.length → (beatsL H)[k * 2]? = some (.int .i64 ((H.getD k default).1 : Nat)) ∧ (beatsL H)[k * 2 + 1]? = some (.int .i64 ((H.getD k default).2.1 : Nat))
  | [], _, h => absurd h (by simp)
  | x :: r, 0, _ => ⟨rfl, rfl⟩
  | x :: r, k + 1, h => by
    have := beat_at r k (by simpa using h)
    have e : beatsL (x :: r) = .int .i64 (x.1 : Nat) :: .int .i64 (x.2.1 : Nat) :: beatsL r := rfl
    have e2 : (k + 1) * 2 = k * 2 + 1 + 1 := by omega
    rw [e, e2]
    simpa using this
theorem acc_at : ∀ (H : List Ac) (k : Nat), k < H.length → (accsL H)[k * 4]? = some (.int .i64 ((H.getD k default).who : Nat)) ∧ (accsL H)[k * 4 + 1]? = some (.int .i64 ((H.getD k default).cell : Nat)) ∧ (accsL H)[k * 4 + 2]? = some (.bool (H.getD k default).wr) ∧ (accsL H)[k * 4 + 3]? = some (.int .i64 ((H.getD k default).ph : Nat))
  | [], _, h => absurd h (by simp)
  | x :: r, 0, _ => ⟨rfl, rfl, rfl, rfl⟩
  | x :: r, k + 1, h => by
    have := acc_at r k (by simpa using h)
    have e : accsL (x :: r) = .int .i64 (x.who : Nat) :: .int .i64 (x.cell : Nat) :: .bool x.wr :: .int .i64 (x.ph : Nat) :: accsL r := rfl
    have e2 : (k + 1) * 4 = k * 4 + 1 + 1 + 1 + 1 := by omega
    rw [e, e2]
    simpa using this

theorem marked_at (k : Int) {n j : Nat} (h : j < n) : ((marked k n).map (Value.int .i64)).getD j undef = .int .i64 (k + j) := by
  simp [marked, List.getD_eq_getElem?_getD, h]

end Go.Proofs.Ytkolnakcgjlcgaa

namespace Go.Proofs.Ytkolnakcgjlcgaa
open Go.RowKit

def noLS : LS := ⟨fun _ _ => 0, fun _ => 0, [], [], 0⟩
open Classical in
noncomputable def lockA (cs : List Cd) (a : Int) (mem : List Int) : LS := if RunOk cs a mem then lockOf cs a.toNat mem else noLS
theorem lockA_ok {cs : List Cd} {n : Nat} {mem : List Int} (h : RunOk cs n mem) : lockA cs n mem = lockOf cs n mem := by
  unfold lockA; rw [if_pos h]; rfl
theorem lockA_no {cs : List Cd} {a : Int} {mem : List Int} (h : ¬ RunOk cs a mem) : lockA cs a mem = noLS := by
  unfold lockA; rw [if_neg h]
theorem lockA_in {cs : List Cd} {a : Int} {mem : List Int} : ∀ x ∈ (lockA cs a mem).H, StepIn a.toNat 0 cs.length x ∧ RunOk cs a mem := by
  intro x hx
  by_cases h : RunOk cs a mem
  · unfold lockA at hx; rw [if_pos h] at hx
    exact ⟨lockOf_in h.1 x hx, h⟩
  · rw [lockA_no h] at hx; cases hx
theorem lockA_len {cs : List Cd} {a : Int} {mem : List Int} : (lockA cs a mem).H.length ≤ 2560 := by
  by_cases h : RunOk cs a mem
  · unfold lockA; rw [if_pos h]; exact lockOf_len h.1
  · rw [lockA_no h]; exact Nat.zero_le _

/-- A step by which a barrier is split. -/
def splBad (cs : List Cd) (n : Nat) (x : Nat × Nat × (Nat → Nat → Int)) : Bool := decide ((cs.getD x.1 default).op = 10) && !decide (x.2.1 = 2 ^ n - 1)
theorem find_first {α : Type} [Inhabited α] {p : α → Bool} : ∀ {H : List α} {k : Nat}, (∀ j, j < k → p (H.getD j default) = false) → k < H.length → p (H.getD k default) = true → H.find? p = some (H.getD k default)
  | [], _, _, h, _ => absurd h (by simp)
  | x :: r, 0, _, _, h => by simp at h; simp [h]
  | x :: r, k + 1, h1, h2, h3 => by
    have h0 := h1 0 (by omega)
    simp at h0
    have := find_first (H := r) (k := k) (fun j hj => by have := h1 (j + 1) (by omega); simpa using this) (by simpa using h2) (by simpa using h3)
    simp [h0]; simpa using this
theorem find_none {α : Type} [Inhabited α] {p : α → Bool} {H : List α} (h : ∀ j, j < H.length → p (H.getD j default) = false) : H.find? p = none := by
  rw [List.find?_eq_none]
  intro x hx
  obtain ⟨j, hj, rfl⟩ := List.getElem_of_mem hx
  have := h j hj
  simpa [List.getD_eq_getElem?_getD, hj] using this
def spl2 (x : Option (Nat × Nat × (Nat → Nat → Int))) : Value := match x with
  | some y => .tuple #[.agg #[.int .i64 (y.1 : Nat), .int .i64 (y.2.1 : Nat)], .bool true]
  | none => .tuple #[.agg #[.int .i64 0, .int .i64 0], .bool false]
noncomputable def splA (cs : List Cd) (a : Int) (mem : List Int) : Option (Nat × Nat × (Nat → Nat → Int)) := (lockA cs a mem).H.find? (splBad cs a.toNat)

set_option maxHeartbeats 1000000 in
set_option maxRecDepth 100000 in
theorem stra_any (vl vm : Value) (cs : List Cd) (a : Int) (mem : List Int) (w : World) (h : Codes w vl cs) (hm : Ints w vm mem) (hs1 : cs.length ≤ 1048576) (hs2 : mem.length ≤ 1048576) :
    Calls Try.prog 18 #[vl, .int .i64 a, vm] w fun e w' => ∃ v, e = .returned v ∧ OwnO w' w.heap.size 33 2 v (lockA cs a mem).H.length (beatsL (lockA cs a mem).H) ∧ Pure w w' := by
  by_cases hok : RunOk cs a mem
  · obtain ⟨n, rfl, hn1, hn8⟩ := lanes_nat hok.2.1
    rw [lockA_ok hok]
    exact strace_any vl vm cs n mem w h hm hok
  · rw [lockA_no hok]
    have H := Lib.hid h
    have HM := Lib.hid hm
    have HOK := Lib.hid hok
    obtain ⟨A, c, rfl, hnc, hcm⟩ := h.form
    obtain ⟨Am, cm, rfl⟩ := hm.form
    clear h hm hok
    go_enter Try.func18, Try.ntmps18
    go_wp2_with fail
    refine (sok_any _ _ cs a mem _ H.out HM.out hs1 hs2 false (by simp [HOK.out])).mono ?_
    rintro e w1 ⟨rfl, hp1⟩
    go_wp2
    go_ret
    exact ⟨_, rfl, OwnO.empty_lit hp1.size, hp1.trans (by exact (by repeat (first | assumption | exact Pure.refl _ | refine Pure.drewN ?_ _ | refine Pure.drew ?_ | refine Pure.alloc ?_ _ | refine Pure.setCell ?_ (by simp <;> omega) _)))⟩

set_option maxHeartbeats 1000000 in
set_option maxRecDepth 100000 in
theorem itra_any (vl vm : Value) (cs : List Cd) (a : Int) (mem : List Int) (w : World) (h : Codes w vl cs) (hm : Ints w vm mem) (hs1 : cs.length ≤ 1048576) (hs2 : mem.length ≤ 1048576) :
    Calls Try.prog 16 #[vl, .int .i64 a, vm] w fun e w' => ∃ v, e = .returned v ∧ OwnO w' w.heap.size 33 2 v (lockA cs a mem).H.length (beatsL (lockA cs a mem).H) ∧ Pure w w' := by
  have H := Lib.hid h
  have HM := Lib.hid hm
  obtain ⟨A, c, rfl, hnc, hcm⟩ := h.form
  obtain ⟨Am, cm, rfl⟩ := hm.form
  clear h hm
  by_cases hok : RunOk cs a mem
  · have HOK := Lib.hid hok
    obtain ⟨n, rfl, hn1, hn8⟩ := lanes_nat hok.2.1
    rw [lockA_ok hok]
    clear hok
    go_enter Try.func16, Try.ntmps16
    go_wp2_with fail
    refine (ilock_any _ _ cs n mem _ H.out HM.out HOK.out.1 hn1 hn8 HOK.out.2.2).mono ?_
    rintro e w1 ⟨o, vb, va, rfl, hp0, hcs, hvl, hlk, hn, hmm, hrun⟩
    have p3 : w1.cell? ⟨o.p, 3, none⟩ = some vb := hrun.obj.cell 3
    have HB := Lib.hid hrun.bt
    have HP := Lib.hid (hp0.trans hrun.pure)
    have HP0 := Lib.hid hp0
    clear hrun hcs hvl hn hmm hlk hp0
    go_wp2
    go_ret
    exact ⟨_, rfl, HB.out.base' HP0.out.size, HP.out⟩
  · have HOK := Lib.hid hok
    rw [lockA_no hok]
    clear hok
    go_enter Try.func16, Try.ntmps16
    go_wp2_with fail
    refine (ino_any _ _ cs a mem _ H.out HM.out hs1 hs2 HOK.out).mono ?_
    rintro e w1 ⟨rfl, hp1⟩
    go_wp2
    go_ret
    exact ⟨_, rfl, OwnO.of_own (World.ownsRow_nil _ _ _ _), hp1⟩

/-- A pair of cells, written and read again. -/
theorem pair_set {w : World} {g e : Nat} {x y : Value} (h : w.heap[g]? = some (.cells #[x, y] e (0, 0))) (u v : Value) :
    (w.setCell ⟨g, 0, none⟩ u).cell? ⟨g, 0, none⟩ = some u ∧ ((w.setCell ⟨g, 0, none⟩ u).setCell ⟨g, 1, none⟩ v).cell? ⟨g, 0, none⟩ = some u ∧ ((w.setCell ⟨g, 0, none⟩ u).setCell ⟨g, 1, none⟩ v).cell? ⟨g, 1, none⟩ = some v := by
  have h1 := heap_setCell_same w g 0 _ _ u h
  have h2 := heap_setCell_same _ g 1 _ _ v h1
  exact ⟨(cell_of_row _ g 0 _ _ _ h1).trans rfl, (cell_of_row _ g 0 _ _ _ h2).trans rfl, (cell_of_row _ g 1 _ _ _ h2).trans rfl⟩

set_option maxHeartbeats 2000000 in
set_option maxRecDepth 100000 in
theorem sspl_any (vl vm : Value) (cs : List Cd) (a : Int) (mem : List Int) (w : World) (h : Codes w vl cs) (hm : Ints w vm mem) (hs1 : cs.length ≤ 1048576) (hs2 : mem.length ≤ 1048576) :
    Calls Try.prog 32 #[vl, .int .i64 a, vm] w fun e w' => e = .returned (spl2 (splA cs a mem)) ∧ Pure w w' := by
  have H := Lib.hid h
  have HM := Lib.hid hm
  obtain ⟨A, c, rfl, hnc, hcm⟩ := h.form
  obtain ⟨Am, cm, rfl⟩ := hm.form
  clear h hm
  obtain ⟨r, Hr⟩ : ∃ r, Hid (splA cs a mem = r) := ⟨_, Lib.hid rfl⟩
  rw [Hr.out]
  go_enter Try.func32, Try.ntmps32
  go_wp2_with fail
  refine (stra_any _ _ cs a mem _ (H.out.keep (by exact (by repeat (first | assumption | exact Pure.refl _ | refine Pure.drewN ?_ _ | refine Pure.drew ?_ | refine Pure.alloc ?_ _ | refine Pure.setCell ?_ (by simp <;> omega) _)))) (HM.out.keep (by exact (by repeat (first | assumption | exact Pure.refl _ | refine Pure.drewN ?_ _ | refine Pure.drew ?_ | refine Pure.alloc ?_ _ | refine Pure.setCell ?_ (by simp <;> omega) _)))) hs1 hs2).mono ?_
  rintro e w1 ⟨v, rfl, hown, hp1⟩
  have HIN := Lib.hid (lockA_in (cs := cs) (a := a) (mem := mem))
  have hlen := lockA_len (cs := cs) (a := a) (mem := mem)
  obtain ⟨L, HL⟩ : ∃ L, Hid ((lockA cs a mem).H = L) := ⟨_, Lib.hid rfl⟩
  have HF : Hid (L.find? (splBad cs a.toNat) = r) := Lib.hid (by rw [← HL.out]; exact Hr.out)
  rw [HL.out] at hown hlen HIN
  have HO := Lib.hid hown
  obtain ⟨Av, cv, rfl⟩ := hown.form
  have HP1 : Hid (Pure w w1) := Lib.hid (Pure.trans (by exact (by repeat (first | assumption | exact Pure.refl _ | refine Pure.drewN ?_ _ | refine Pure.drew ?_ | refine Pure.alloc ?_ _ | refine Pure.setCell ?_ (by simp <;> omega) _))) hp1)
  have HC : Hid (w1.heap[w.heap.size]? = some (.cells #[.int .i64 0, .int .i64 0] 33 (0, 0))) := Lib.hid ((Chg.of_pure (S := fun _ => False) hp1).heap (heap_alloc_new _ _) id)
  clear hown hp1
  go_wp2
  go_loopg [9] L.length (fun gk i wr => ∃ k : Nat, gk + k = L.length ∧ i = .int .i64 k ∧ Pure w1 wr ∧ ∀ j, j < k → splBad cs a.toNat (L.getD j default) = false)
  case atStart => exact ⟨0, rfl, rfl, Pure.refl _, fun j hj => absurd hj (by omega)⟩
  case round =>
    obtain ⟨k, hgk, rfl, hp, hall⟩ := hrel
    have Hgk := Lib.hid hgk
    have Hall := Lib.hid hall
    have hkn : k ≤ L.length := by omega
    have hC := (Chg.of_pure (S := fun _ => False) hp).heap HC.out id
    have c0 : wr.cell? ⟨w.heap.size, 0, none⟩ = some (.int .i64 0) := (cell_of_row wr w.heap.size 0 _ _ _ hC).trans rfl
    have c1 : wr.cell? ⟨w.heap.size, 1, none⟩ = some (.int .i64 0) := (cell_of_row wr w.heap.size 1 _ _ _ hC).trans rfl
    have f0 := frozen_of_row wr w.heap.size 0 _ _ hC
    have f1 := frozen_of_row wr w.heap.size 1 _ _ hC
    have HCr : Hid (∀ n, (wr.drewN n).heap[w.heap.size]? = some (.cells #[.int .i64 0, .int .i64 0] 33 (0, 0))) := Lib.hid fun n => hC
    have hpr := HP1.out.trans hp
    clear hgk hall hC
    by_cases hlt : k < L.length
    · obtain ⟨hin, hok⟩ := HIN.out _ (getD_mem' hlt)
      have HOK := Lib.hid hok
      obtain ⟨n, han, hn1, hn8⟩ := lanes_nat hok.2.1
      subst han
      have hnn : (n : Int).toNat = n := by omega
      have hpl : (L.getD k default).1 < cs.length := hin.2.1
      have Hnext : Hid (∀ j, j < k + 1 → splBad cs n (L.getD k default) = false → splBad cs n (L.getD j default) = false) := Lib.hid fun j hj he => by
        by_cases e : j = k
        · rw [e]; exact he
        · have := Hall.out j (by omega); rwa [hnn] at this
      have Hhit : Hid (splBad cs n (L.getD k default) = true → r = some (L.getD k default)) := Lib.hid fun he => by
        rw [← HF.out]; exact find_first Hall.out hlt (by rw [hnn]; exact he)
      clear hin hok
      obtain ⟨b, o, rfl, hb, hc⟩ := H.out.at_ hpl
      obtain ⟨b', o', hv', hb', hc'⟩ := (Flat.of_own (HO.out.pure hp)).at_ (by omega)
      subst hv'
      have q0 := hc' (k * 2) (by omega)
      have q1 := hc' (k * 2 + 1) (by omega)
      rw [getD_of (beat_at L k hlt).1] at q0
      rw [getD_of (beat_at L k hlt).2, ← Nat.add_assoc] at q1
      obtain ⟨cd, Hcd⟩ : ∃ cd, Hid (cs.getD (L.getD k default).1 default = cd) := ⟨_, Lib.hid rfl⟩
      have hat := hc.keep (HP1.out.trans hp) hb
      rw [Hcd.out] at hat
      obtain ⟨r0, r1, r2, r3⟩ := hat
      clear hc hc' r1 r2 r3
      have hbad : splBad cs n (L.getD k default) = (decide (cd.op = 10) && !decide ((L.getD k default).2.1 = 2 ^ n - 1)) := by unfold splBad; rw [Hcd.out]
      obtain ⟨p, Hp⟩ : ∃ p, Hid ((L.getD k default).1 = p) := ⟨_, Lib.hid rfl⟩
      obtain ⟨mk, Hmk⟩ : ∃ mk, Hid ((L.getD k default).2.1 = mk) := ⟨_, Lib.hid rfl⟩
      rw [Hp.out] at q0 hpl r0
      rw [Hmk.out] at q1 hbad
      obtain ⟨z, Hz⟩ : ∃ z, Hid (cd.op = z) := ⟨_, Lib.hid rfl⟩
      rw [Hz.out] at r0 hbad
      by_cases hz : z = 10
      · subst hz
        have hM := Lib.hid hbad
        clear hbad
        obtain ⟨T, HT⟩ : ∃ T, Hid (2 ^ n - 1 = T) := ⟨_, Lib.hid rfl⟩
        have HMA : Hid (∀ u : World, Calls Try.prog 72 #[.int .i64 (n : Int)] u fun e w' => e = .returned (.int .i64 (T : Int)) ∧ w' = u) := Lib.hid fun u => by
          have := smaskall_any n u hn1 hn8
          rw [HT.out] at this; exact this.mono fun e w' h => ⟨h.1, h.2.symm⟩
        rw [HT.out] at hM
        by_cases hmk : mk = T
        · have hmb : ((mk : Int) != (T : Int)) = false := by simp [hmk]
          have hB : Hid (splBad cs n (L.getD k default) = false) := Lib.hid (by rw [hM.out]; simp [hmk])
          clear hmk
          go_wp2
          go_quiet ((go_at_call 72; refine Calls.quiet_of_same (HMA.out _)))
          go_wp2
          go_roundg (L.length - (k + 1))
          case measure => have := Hgk.out; omega
          case rel => exact ⟨k + 1, by have := Hgk.out; omega, by go_num, by exact (by repeat (first | assumption | exact Pure.refl _ | refine Pure.drewN ?_ _ | refine Pure.drew ?_ | refine Pure.alloc ?_ _ | refine Pure.setCell ?_ (by simp <;> omega) _)), fun j hj => by rw [hnn]; exact Hnext.out j hj hB.out⟩
        · have hmb : ((mk : Int) != (T : Int)) = true := by simp; omega
          have hB : Hid (splBad cs n (L.getD k default) = true) := Lib.hid (by rw [hM.out]; simp [hmk])
          have HR : Hid (spl2 r = .tuple #[.agg #[.int .i64 p, .int .i64 mk], .bool true]) := Lib.hid (by rw [Hhit.out hB.out, ← Hp.out, ← Hmk.out]; rfl)
          clear hmk
          go_wp2
          go_quiet ((go_at_call 72; refine Calls.quiet_of_same (HMA.out _)))
          go_wp2
          obtain ⟨y0, y1, y2⟩ := pair_set (HCr.out nq) (.int .i64 p) (.int .i64 mk)
          refine bodyPost_ret (v := .tuple #[.agg #[.int .i64 p, .int .i64 mk], .bool true]) (by simp [results, Try.results32, go_sem, y1, y2]) rfl ?_
          exact ⟨by rw [HR.out], by exact (by repeat (first | assumption | exact Pure.refl _ | refine Pure.drewN ?_ _ | refine Pure.drew ?_ | refine Pure.alloc ?_ _ | refine Pure.setCell ?_ (by simp <;> omega) _))⟩
      · have hzb : (z == 10) = false := by simp [hz]
        have hB : Hid (splBad cs n (L.getD k default) = false) := Lib.hid (by rw [hbad]; simp [hz])
        clear hbad hz
        go_wp2
        go_quiet (fail)
        go_wp2
        go_roundg (L.length - (k + 1))
        case measure => have := Hgk.out; omega
        case rel => exact ⟨k + 1, by have := Hgk.out; omega, by go_num, by exact (by repeat (first | assumption | exact Pure.refl _ | refine Pure.drewN ?_ _ | refine Pure.drew ?_ | refine Pure.alloc ?_ _ | refine Pure.setCell ?_ (by simp <;> omega) _)), fun j hj => by rw [hnn]; exact Hnext.out j hj hB.out⟩
    · have hkl : k = L.length := by omega
      have HN : Hid (r = none) := Lib.hid (by rw [← HF.out]; exact find_none fun j hj => Hall.out j (by omega))
      go_wp2
      obtain ⟨y0, y1, y2⟩ := pair_set (HCr.out 0) (.int .i64 0) (.int .i64 0)
      simp only [show wr.drewN 0 = wr from rfl] at y0 y1 y2
      refine bodyPost_ret (v := .tuple #[.agg #[.int .i64 0, .int .i64 0], .bool false]) (by simp [results, Try.results32, go_sem, y1, y2]) rfl ?_
      exact ⟨by rw [HN.out]; rfl, by exact (by repeat (first | assumption | exact Pure.refl _ | refine Pure.drewN ?_ _ | refine Pure.drew ?_ | refine Pure.alloc ?_ _ | refine Pure.setCell ?_ (by simp <;> omega) _))⟩

end Go.Proofs.Ytkolnakcgjlcgaa

namespace Go.Proofs.Ytkolnakcgjlcgaa
open Go.RowKit

def Bytes (w : World) (v : Value) (bs : List Int) : Prop := (Cells w v bs.length 1 fun j => .int .u8 (bs.getD j 0)) ∧ ∀ x ∈ bs, 0 ≤ x ∧ x ≤ 255
theorem Bytes.keep {w w' : World} {v : Value} {bs : List Int} (h : Bytes w v bs) (hp : Pure w w') : Bytes w' v bs := ⟨Cells.keep h.1 hp, h.2⟩
theorem Bytes.form {w : World} {v : Value} {bs : List Int} (h : Bytes w v bs) : ∃ A c, v = .slice A bs.length c ∧ bs.length ≤ c ∧ c ≤ 9223372036854775807 := by
  obtain ⟨⟨A, c, h1, h2, h3, _⟩, _⟩ := h
  exact ⟨A, c, h1, h2, h3⟩
theorem Bytes.at_ {w : World} {A : Option Addr} {n c : Nat} {bs : List Int} (h : Bytes w (.slice A n c) bs) {k : Nat} (hk : k < bs.length) : ∃ b o, A = some ⟨b, o, none⟩ ∧ b < w.heap.size ∧ ∀ j, j < bs.length → w.cell? ⟨b, o + j, none⟩ = some (.int .u8 (bs.getD j 0)) := by
  obtain ⟨⟨A', c', hv, _, _, h4⟩, _⟩ := h
  injection hv with e1 e2 e3
  subst e1
  obtain ⟨b, o, he, hb, hc⟩ := h4 (by omega)
  exact ⟨b, o, he, hb, fun j hj => hc j (by omega)⟩
theorem Bytes.range {w : World} {v : Value} {bs : List Int} (h : Bytes w v bs) {k : Nat} (hk : k < bs.length) : 0 ≤ bs.getD k 0 ∧ bs.getD k 0 ≤ 255 := by
  have : bs.getD k 0 ∈ bs := by simp [List.getD_eq_getElem?_getD, hk]
  exact h.2 _ this
/-- The first bytes. -/
theorem Bytes.take {w : World} {A : Option Addr} {n c : Nat} {bs : List Int} (h : Bytes w (.slice A n c) bs) {k : Nat} (hk : k ≤ bs.length) : Bytes w (.slice A k c) (bs.take k) := by
  obtain ⟨⟨A', c', hv, h2, h3, h4⟩, hr⟩ := h
  injection hv with e1 e2 e3
  subst e1 e3
  have hl : (bs.take k).length = k := by simp; omega
  refine ⟨⟨A, c, by rw [hl], by rw [hl]; omega, h3, fun hn => ?_⟩, fun x hx => hr x (List.mem_of_mem_take hx)⟩
  rw [hl] at hn
  obtain ⟨b, o, he, hb, hc⟩ := h4 (by omega)
  refine ⟨b, o, he, hb, fun j hj => ?_⟩
  rw [hl] at hj
  rw [hc j (by omega)]
  have : j < k := by omega
  simp [List.getD_eq_getElem?_getD, this]

end Go.Proofs.Ytkolnakcgjlcgaa

namespace Go.Proofs.Ytkolnakcgjlcgaa
open Go.RowKit

/-- The reader's block, in a world that has grown out of w0. -/
structure Rdr (w0 w : World) (p : Nat) (vb : Value) (bs : List Int) (c : Nat) : Prop where
  pure : Pure w0 w
  lo : w0.heap.size ≤ p
  bytes : Bytes w0 vb bs
  len : bs.length ≤ 2000
  cell : w.heap[p]? = some (.cells #[vb, .int .i64 (c : Nat)] 105 (0, 0))
section
variable {w0 w w' : World} {p c : Nat} {vb : Value} {bs : List Int}
theorem Rdr.keep (h : Rdr w0 w p vb bs c) (hp : Pure w w') : Rdr w0 w' p vb bs c :=
  ⟨h.pure.trans hp, h.lo, h.bytes, h.len, (Chg.of_pure (S := fun _ => False) hp).heap h.cell id⟩
theorem Rdr.chg {S : Nat → Prop} (h : Rdr w0 w p vb bs c) (hc : Chg S w w') (hS : ∀ k, S k → w0.heap.size ≤ k) (hp : ¬ S p) : Rdr w0 w' p vb bs c :=
  ⟨Chg.pure h.pure hc hS, h.lo, h.bytes, h.len, hc.heap h.cell hp⟩
theorem Rdr.lt (h : Rdr w0 w p vb bs c) : p < w.heap.size := (Array.getElem?_eq_some_iff.1 h.cell).1
theorem Rdr.set (h : Rdr w0 w p vb bs c) : Rdr w0 (w.setCell ⟨p, 1, none⟩ (.int .i64 ((c + 1 : Nat) : Int))) p vb bs (c + 1) := by
  refine ⟨Pure.setCell h.pure h.lo _, h.lo, h.bytes, h.len, ?_⟩
  rw [heap_setCell_same w p 1 _ _ _ h.cell]; rfl
end

/-- The reader, drawn from at most C times. -/
def Rb (w0 w : World) (p : Nat) (vb : Value) (bs : List Int) (C : Nat) : Prop := ∃ c, c ≤ C ∧ Rdr w0 w p vb bs c
theorem Rb.keep {w0 w w' : World} {p C : Nat} {vb : Value} {bs : List Int} (h : Rb w0 w p vb bs C) (hp : Pure w w') : Rb w0 w' p vb bs C := by
  obtain ⟨c, h1, h2⟩ := h; exact ⟨c, h1, h2.keep hp⟩
theorem Rb.more {w0 w : World} {p C D : Nat} {vb : Value} {bs : List Int} (h : Rb w0 w p vb bs C) (hD : C ≤ D) : Rb w0 w p vb bs D := by
  obtain ⟨c, h1, h2⟩ := h; exact ⟨c, by omega, h2⟩
theorem Rb.chg {S : Nat → Prop} {w0 w w' : World} {p C : Nat} {vb : Value} {bs : List Int} (h : Rb w0 w p vb bs C) (hc : Chg S w w') (hS : ∀ k, S k → w0.heap.size ≤ k) (hp : ¬ S p) : Rb w0 w' p vb bs C := by
  obtain ⟨c, h1, h2⟩ := h; exact ⟨c, h1, h2.chg hc hS hp⟩
theorem Rb.lt {w0 w : World} {p C : Nat} {vb : Value} {bs : List Int} (h : Rb w0 w p vb bs C) : p < w.heap.size := by obtain ⟨c, _, h2⟩ := h; exact h2.lt
theorem Rb.pure {w0 w : World} {p C : Nat} {vb : Value} {bs : List Int} (h : Rb w0 w p vb bs C) : Pure w0 w := by obtain ⟨c, _, h2⟩ := h; exact h2.pure
theorem Rb.lo {w0 w : World} {p C : Nat} {vb : Value} {bs : List Int} (h : Rb w0 w p vb bs C) : w0.heap.size ≤ p := by obtain ⟨c, _, h2⟩ := h; exact h2.lo
theorem Rb.cell {w0 w : World} {p C : Nat} {vb : Value} {bs : List Int} (h : Rb w0 w p vb bs C) : ∃ cur, w.heap[p]? = some (.cells cur 105 (0, 0)) := by obtain ⟨c, _, h2⟩ := h; exact ⟨_, h2.cell⟩
abbrev OnlyAt (p : Nat) (w w' : World) : Prop := Chg (fun k => k = p) w w'

theorem xor_nonneg {a : Nat} (h : a < 4611686018427387904) : ∃ r : Nat, bits .xor .i64 (a : Int) ((a : Int) / 64) = (r : Int) := by
  have : ((a : Int) / 64) = ((a / 64 : Nat) : Int) := by norm_cast
  rw [this]
  exact ⟨a ^^^ (a / 64), by
    have h2 : a / 64 < 4611686018427387904 := by omega
    exact bits_xor (by omega) (by omega)⟩

set_option maxHeartbeats 2000000 in
set_option maxRecDepth 100000 in
theorem pick_any (w0 w : World) (p c : Nat) (vb : Value) (bs : List Int) (n : Nat) (h : Rdr w0 w p vb bs c) (hc : c ≤ 1099511627776) (hn : n ≤ 1048576) :
    Calls Try.prog 78 #[.pointer (some ⟨p, 0, none⟩), .int .i64 n] w fun e w' => ∃ x : Nat, e = .returned (.int .i64 x) ∧ (x < n ∨ x = 0) ∧ Rdr w0 w' p vb bs (c + 1) ∧ Chg (fun k => k = p) w w' := by
  have H := Lib.hid h
  obtain ⟨A, cp, rfl, hnc, hcm⟩ := h.bytes.form
  have hlen := h.len
  have q0 : w.cell? ⟨p, 0, none⟩ = some (.slice A bs.length cp) := (cell_of_row w p 0 _ _ _ h.cell).trans rfl
  have q1 : w.cell? ⟨p, 1, none⟩ = some (.int .i64 (c : Nat)) := (cell_of_row w p 1 _ _ _ h.cell).trans rfl
  have f1 := frozen_of_row w p 1 _ _ h.cell
  have ec : ((c + 1 : Nat) : Int) = (c : Int) + 1 := by push_cast; rfl
  have hs := h.set
  have hcg : Chg (fun k => k = p) w (w.setCell ⟨p, 1, none⟩ (.int .i64 ((c + 1 : Nat) : Int))) := Chg.of_set w p 1 _ rfl
  have z0 : (w.setCell ⟨p, 1, none⟩ (.int .i64 ((c + 1 : Nat) : Int))).cell? ⟨p, 0, none⟩ = some (.slice A bs.length cp) := (cell_of_row _ p 0 _ _ _ hs.cell).trans rfl
  have z1 : (w.setCell ⟨p, 1, none⟩ (.int .i64 ((c + 1 : Nat) : Int))).cell? ⟨p, 1, none⟩ = some (.int .i64 ((c + 1 : Nat) : Int)) := (cell_of_row _ p 1 _ _ _ hs.cell).trans rfl
  rw [ec] at hcg z0 z1
  have hs' : Rdr w0 (w.setCell ⟨p, 1, none⟩ (.int .i64 ((c : Int) + 1))) p (.slice A bs.length cp) bs (c + 1) := by rw [← ec]; exact hs
  obtain ⟨wx, Hwx⟩ : ∃ wx, Hid (w.setCell ⟨p, 1, none⟩ (.int .i64 ((c : Int) + 1)) = wx) := ⟨_, Lib.hid rfl⟩
  have HR : Hid (Rdr w0 (w.setCell ⟨p, 1, none⟩ (.int .i64 ((c : Int) + 1))) p (.slice A bs.length cp) bs (c + 1)) := Lib.hid hs'
  have HCg := Lib.hid hcg
  clear h hs hs' hcg ec
  by_cases hn0 : (n : Int) < 1
  · go_enter Try.func78, Try.ntmps78
    go_wp2
    go_ret
    exact ⟨0, rfl, .inr rfl, HR.out, HCg.out⟩
  · by_cases hb0 : bs.length = 0
    · have hbz : ((bs.length : Int) == 0) = true := by simp [hb0]
      clear hb0
      go_enter Try.func78, Try.ntmps78
      go_wp2
      go_ret
      exact ⟨0, rfl, .inr rfl, HR.out, HCg.out⟩
    · have hbz : ((bs.length : Int) == 0) = false := by simpa using hb0
      by_cases hlt : c < bs.length
      · obtain ⟨b, o, rfl, hb, hcell⟩ := HR.out.bytes.at_ hlt
        have r0 := (HR.out.pure.cell b _ hb).trans (hcell c hlt)
        have hrg := HR.out.bytes.range hlt
        obtain ⟨y, hy⟩ : ∃ y : Nat, bs.getD c 0 = y := ⟨(bs.getD c 0).toNat, by omega⟩
        rw [hy] at r0 hrg
        clear hcell hy hb0
        have htm : (y : Int).tmod (n : Int) = ((y % n : Nat) : Int) := by rw [Int.tmod_eq_emod_of_nonneg (by omega)]; norm_cast
        have hml : y % n < n := Nat.mod_lt _ (by omega)
        obtain ⟨j, Hj⟩ : ∃ j, Hid (y % n = j) := ⟨_, Lib.hid rfl⟩
        rw [Hj.out] at htm hml
        go_enter Try.func78, Try.ntmps78
        go_wp2
        go_ret
        exact ⟨j, rfl, .inl hml, HR.out, HCg.out⟩
      · have hL : 0 < bs.length := by omega
        have t1 : c % bs.length < bs.length := Nat.mod_lt _ hL
        have t2 : (c * 7 + 3) % bs.length < bs.length := Nat.mod_lt _ hL
        obtain ⟨b, o, rfl, hb, hcell⟩ := HR.out.bytes.at_ t1
        have r1 := (HR.out.pure.cell b _ hb).trans (hcell _ t1)
        have r2 := (HR.out.pure.cell b _ hb).trans (hcell _ t2)
        have g1 := HR.out.bytes.range t1
        have g2 := HR.out.bytes.range t2
        obtain ⟨y1, hy1⟩ : ∃ y : Nat, bs.getD (c % bs.length) 0 = y := ⟨(bs.getD (c % bs.length) 0).toNat, by omega⟩
        obtain ⟨y2, hy2⟩ : ∃ y : Nat, bs.getD ((c * 7 + 3) % bs.length) 0 = y := ⟨(bs.getD ((c * 7 + 3) % bs.length) 0).toNat, by omega⟩
        rw [hy1] at r1 g1
        rw [hy2] at r2 g2
        have m1 : (c : Int).tmod (bs.length : Int) = ((c % bs.length : Nat) : Int) := by rw [Int.tmod_eq_emod_of_nonneg (by omega)]; norm_cast
        have m2 : ((c : Int) * 7 + 3).tmod (bs.length : Int) = (((c * 7 + 3) % bs.length : Nat) : Int) := by rw [Int.tmod_eq_emod_of_nonneg (by omega)]; norm_cast
        have m3 : (c : Int).tdiv (bs.length : Int) = ((c / bs.length : Nat) : Int) := by rw [Int.tdiv_eq_ediv_of_nonneg (by omega)]; norm_cast
        have d3 : c / bs.length ≤ c := Nat.div_le_self _ _
        obtain ⟨j1, Hj1⟩ : ∃ j, Hid (c % bs.length = j) := ⟨_, Lib.hid rfl⟩
        obtain ⟨j2, Hj2⟩ : ∃ j, Hid ((c * 7 + 3) % bs.length = j) := ⟨_, Lib.hid rfl⟩
        obtain ⟨j3, Hj3⟩ : ∃ j, Hid (c / bs.length = j) := ⟨_, Lib.hid rfl⟩
        rw [Hj1.out] at t1 r1 m1
        rw [Hj2.out] at t2 r2 m2
        rw [Hj3.out] at m3 d3
        clear hcell hy1 hy2 hb0
        obtain ⟨u, hu⟩ : ∃ u : Nat, (y1 : Int) * 131 + (y2 : Int) * 1117 + (c : Int) * 29 + (j3 : Int) * 53 = u := ⟨y1 * 131 + y2 * 1117 + c * 29 + j3 * 53, by push_cast; rfl⟩
        have hu2 : u < 4611686018427387904 := by omega
        obtain ⟨x, hx⟩ := xor_nonneg hu2
        have htm : (x : Int).tmod (n : Int) = ((x % n : Nat) : Int) := by rw [Int.tmod_eq_emod_of_nonneg (by omega)]; norm_cast
        have hml : x % n < n := Nat.mod_lt _ (by omega)
        obtain ⟨j, Hj⟩ : ∃ j, Hid (x % n = j) := ⟨_, Lib.hid rfl⟩
        rw [Hj.out] at htm hml
        go_enter Try.func78, Try.ntmps78
        go_wp2
        go_quiet (fail)
        go_wp2
        go_ret
        exact ⟨j, rfl, .inl hml, HR.out.keep (by exact (by repeat (first | assumption | exact Pure.refl _ | refine Pure.drewN ?_ _ | refine Pure.drew ?_ | refine Pure.alloc ?_ _ | refine Pure.setCell ?_ (by simp <;> omega) _))), HCg.out.trans (Chg.of_pure (by exact (by repeat (first | assumption | exact Pure.refl _ | refine Pure.drewN ?_ _ | refine Pure.drew ?_ | refine Pure.alloc ?_ _ | refine Pure.setCell ?_ (by simp <;> omega) _))))⟩

theorem pick_t (w0 w : World) (p C : Nat) (vb : Value) (bs : List Int) (n : Nat) (N : Int) (hN : N = n) (h : Rb w0 w p vb bs C) (hc : C ≤ 1099511627776) (hn : n ≤ 1048576) (hn1 : 1 ≤ n) :
    Calls Try.prog 78 #[.pointer (some ⟨p, 0, none⟩), .int .i64 N] w fun e w' => ∃ x : Nat, e = .returned (.int .i64 x) ∧ x < n ∧ Rb w0 w' p vb bs (C + 1) ∧ OnlyAt p w w' := by
  subst hN
  obtain ⟨c, h1, h2⟩ := h
  refine (pick_any w0 w p c vb bs n h2 (by omega) hn).mono ?_
  rintro e w' ⟨x, he, hx, hr, hg⟩
  exact ⟨x, he, by omega, ⟨c + 1, by omega, hr⟩, hg⟩
theorem pick_0 (w0 w : World) (p C : Nat) (vb : Value) (bs : List Int) (n : Nat) (N : Int) (hN : N = n) (h : Rb w0 w p vb bs C) (hc : C ≤ 1099511627776) (hn : n ≤ 1048576) :
    Calls Try.prog 78 #[.pointer (some ⟨p, 0, none⟩), .int .i64 N] w fun e w' => ∃ x : Nat, e = .returned (.int .i64 x) ∧ (x < n ∨ x = 0) ∧ Rb w0 w' p vb bs (C + 1) ∧ OnlyAt p w w' := by
  subst hN
  obtain ⟨c, h1, h2⟩ := h
  refine (pick_any w0 w p c vb bs n h2 (by omega) hn).mono ?_
  rintro e w' ⟨x, he, hx, hr, hg⟩
  exact ⟨x, he, hx, ⟨c + 1, by omega, hr⟩, hg⟩

set_option maxHeartbeats 1000000 in
theorem odd_any (w0 w : World) (p C : Nat) (vb : Value) (bs : List Int) (n : Nat) (N : Int) (hN : N = n) (h : Rb w0 w p vb bs C) (hc : C ≤ 1099511627776) (hn : n ≤ 1048576) :
    Calls Try.prog 83 #[.pointer (some ⟨p, 0, none⟩), .int .i64 N] w fun e w' => ∃ B : Bool, e = .returned (.bool B) ∧ Rb w0 w' p vb bs (C + 1) ∧ OnlyAt p w w' := by
  subst hN
  have H := Lib.hid h
  clear h
  by_cases h0 : (n : Int) > 0
  · go_enter Try.func83, Try.ntmps83
    go_wp2_with fail
    refine (pick_t w0 _ p C vb bs n _ rfl H.out hc hn (by omega)).mono ?_
    rintro e w1 ⟨x, rfl, hx, hr, hg⟩
    have HR := Lib.hid hr
    have HG := Lib.hid hg
    clear hr hg
    by_cases hB : (x : Int) = (n : Int) - 1
    · have hb : ((x : Int) == (n : Int) - 1) = true := by simp [hB]
      clear hB
      go_wp2
      go_ret
      exact ⟨_, rfl, HR.out, HG.out⟩
    · have hb : ((x : Int) == (n : Int) - 1) = false := by simp [hB]
      clear hB
      go_wp2
      go_ret
      exact ⟨_, rfl, HR.out, HG.out⟩
  · obtain rfl : n = 0 := by omega
    clear h0
    go_enter Try.func83, Try.ntmps83
    go_wp2
    go_ret
    exact ⟨_, rfl, H.out.more (by omega), Chg.refl _ _⟩

def OpenedP (w : World) (e : Ending) (w' : World) : Prop := ∃ p vb bs', e = .returned (.pointer (some ⟨p, 0, none⟩)) ∧ Rb w w' p vb bs' 0 ∧ Pure w w'

set_option maxHeartbeats 1000000 in
theorem draw_open (v : Value) (bs : List Int) (w : World) (h : Bytes w v bs) (hs : bs.length ≤ 1048576) : Calls Try.prog 58 #[v] w (OpenedP w) := by
  have H := Lib.hid h
  obtain ⟨A, c, rfl, hnc, hcm⟩ := h.form
  clear h
  by_cases hl : (bs.length : Int) > 2000
  · go_enter Try.func58, Try.ntmps58
    go_wp2
    go_ret
    exact ⟨w.heap.size, _, bs.take 2000, rfl, ⟨0, Nat.le_refl _, ⟨by exact (by repeat (first | assumption | exact Pure.refl _ | refine Pure.drewN ?_ _ | refine Pure.drew ?_ | refine Pure.alloc ?_ _ | refine Pure.setCell ?_ (by simp <;> omega) _)), Nat.le_refl _, H.out.take (by omega), by simp; omega, heap_alloc_new _ _⟩⟩, by exact (by repeat (first | assumption | exact Pure.refl _ | refine Pure.drewN ?_ _ | refine Pure.drew ?_ | refine Pure.alloc ?_ _ | refine Pure.setCell ?_ (by simp <;> omega) _))⟩
  · go_enter Try.func58, Try.ntmps58
    go_wp2
    go_ret
    exact ⟨w.heap.size, _, bs, rfl, ⟨0, Nat.le_refl _, ⟨by exact (by repeat (first | assumption | exact Pure.refl _ | refine Pure.drewN ?_ _ | refine Pure.drew ?_ | refine Pure.alloc ?_ _ | refine Pure.setCell ?_ (by simp <;> omega) _)), Nat.le_refl _, H.out, by omega, heap_alloc_new _ _⟩⟩, by exact (by repeat (first | assumption | exact Pure.refl _ | refine Pure.drewN ?_ _ | refine Pure.drew ?_ | refine Pure.alloc ?_ _ | refine Pure.setCell ?_ (by simp <;> omega) _))⟩

end Go.Proofs.Ytkolnakcgjlcgaa

namespace Go.Proofs.Ytkolnakcgjlcgaa
open Go.RowKit

section
variable {P : Program} {ops : Array Oper} {Q : Exit → Act → World → Prop} {md : Region.Mode}
def unl (l : Array Bool) : Nat := l.toList.countP (fun b => !b)
theorem countP_set_lt : ∀ (l : List Bool) (i : Nat), l[i]? = some false → (l.set i true).countP (fun b => !b) + 1 = l.countP (fun b => !b)
  | [], _, h => by simp at h
  | b :: r, 0, h => by simp at h; subst h; simp
  | b :: r, i + 1, h => by
    have := countP_set_lt r i (by simpa using h)
    simp only [List.set_cons_succ, List.countP_cons]
    omega
theorem unl_set {l : Array Bool} {i : Nat} (h : l.getD i true = false) : unl (l.setIfInBounds i true) + 1 = unl l := by
  have hs : l.toList[i]? = some false := by
    rw [Array.getD_eq_getD_getElem?] at h
    cases he : l[i]? with
    | none => rw [he] at h; simp at h
    | some b => rw [he] at h; simp at h; subst h; simpa using he
  unfold unl
  rw [Array.toList_setIfInBounds]
  exact countP_set_lt _ _ hs
theorem unl_pos {l : Array Bool} {i : Nat} (h : l.getD i true = false) : 0 < unl l := by have := unl_set h; omega

/-- Inv holds at the region's head; each operation that may come next keeps it: so it holds behind all of them. -/
theorem any_inv (Inv : Array Bool → Act → World → Prop) (hend : ∀ l a w, Inv l a w → Region.ready md ops l = [] → Q .normal a w)
    (hstep : ∀ l a w i o, Inv l a w → ops[i]? = some o → l.getD i true = false → (∀ e ∈ o.after, Region.binds md e = true → l.getD e.on false = true) → wpList P ops (thenK Q fun b u => Inv (l.setIfInBounds i true) b u) [o] a w) :
    ∀ (f : Nat) (l : Array Bool) (a : Act) (w : World), Inv l a w → unl l ≤ f → wpAny P md ops Q f l a w
  | 0, l, a, w, h, hf => by
    have hr : Region.ready md ops l = [] := by
      rw [List.eq_nil_iff_forall_not_mem]
      intro i hi
      have := unl_pos (mem_ready.1 hi).1
      omega
    exact ⟨hr, hend l a w h hr⟩
  | f + 1, l, a, w, h, hf => by
    refine ⟨fun hr => hend l a w h hr, fun i hi => ?_⟩
    obtain ⟨h1, o, ho, h2⟩ := mem_ready.1 hi
    refine wpOp_mono (fun b u hb => any_inv Inv hend hstep f _ b u hb (by have := unl_set h1; omega)) (wpOp_of_one ho (hstep l a w i o h ho h1 h2))
theorem unl_start (n : Nat) : unl (Array.replicate n false) = n := by simp [unl, List.countP_replicate]
def backB (ops : Array Oper) : Bool := (List.range ops.size).all fun i => ((ops[i]?).map fun o => o.after.all fun e => decide (e.on < i)).getD true
/-- When nothing may come next, all are through. -/
theorem ready_nil {l : Array Bool} (hb : backB ops = true) (hl : l.size = ops.size) (h : Region.ready md ops l = []) : ∀ i, i < ops.size → l.getD i false = true := by
  intro i
  induction i using Nat.strongRecOn with
  | ind i ih =>
    intro hi
    cases hv : l.getD i false with
    | true => rfl
    | false =>
      have hn : l.getD i true = false := by
        rw [Array.getD_eq_getD_getElem?] at hv ⊢
        have : i < l.size := by omega
        simp [this] at hv ⊢; exact hv
      have ho : ops[i]? = some ops[i] := Array.getElem?_eq_getElem hi
      have hmem : i ∈ Region.ready md ops l := mem_ready.2 ⟨hn, _, ho, fun e he _ => by
        have hbi := (List.all_eq_true.1 hb) i (List.mem_range.2 hi)
        rw [ho] at hbi
        simp only [Option.map_some, Option.getD_some] at hbi
        have := (Array.all_eq_true_iff_forall_mem.1 hbi) e he
        simp at this
        exact ih e.on this (by omega)⟩
      rw [h] at hmem; cases hmem
theorem region_inv {id : Nat} {a : Act} {w : World} {l : List Oper} (hm : P.follows .mixedOrders = true) (Inv : Array Bool → Act → World → Prop) (h0 : Inv (Array.replicate l.length false) a w.drew)
    (hend : ∀ l' a w, Inv l' a w → Region.ready .any l.toArray l' = [] → Q .normal a w)
    (hstep : ∀ l' a w i o, Inv l' a w → l.toArray[i]? = some o → l'.getD i true = false → (∀ e ∈ o.after, Region.binds .any e = true → l'.getD e.on false = true) → wpList P l.toArray (thenK Q fun b u => Inv (l'.setIfInBounds i true) b u) [o] a w) :
    (Code.region id l.toArray true).wp P Q a w :=
  wp_region_any hm (any_inv Inv hend hstep _ _ _ _ h0 (by rw [unl_start]; simp))
theorem getD_setB (l : Array Bool) (i j : Nat) (h : (l.setIfInBounds i true).getD j false = true) : l.getD j false = true ∨ i = j := by
  rw [Array.getD_eq_getD_getElem?, Array.getElem?_setIfInBounds] at h
  split at h
  · right; assumption
  · left; rw [Array.getD_eq_getD_getElem?]; exact h
end

end Go.Proofs.Ytkolnakcgjlcgaa
