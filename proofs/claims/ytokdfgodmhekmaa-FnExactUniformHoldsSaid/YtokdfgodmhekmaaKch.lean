/- The reference's UniformHolds: it holds. No condition. -/
import Derived.Test.YtokdfgodmhekmaaKaj
import Derived.Test.YtokdfgodmhekmaaKcc
import Derived.Test.YtokdfgodmhekmaaKcd
import Derived.Test.YtokdfgodmhekmaaKce
import Derived.Test.YtokdfgodmhekmaaKcg

namespace Go.Proofs.Ytokdfgodmhekmaa
open Go.RowKit

theorem unev_has {set mask : Nat} {R : Nat → Nat → Int} : ∀ j k, (unevTo set mask R j).1 = some k → mask.testBit k = true
  | 0, k, h => by simp [unevTo] at h
  | j + 1, k, h => by
    have ih := unev_has (set := set) (mask := mask) (R := R) j
    by_cases hb : mask.testBit j = true
    · rw [unev_on hb] at h
      simp only [Option.some.injEq] at h
      cases hf : (unevTo set mask R j).1 with
      | none => rw [hf] at h; simp at h; rw [← h]; exact hb
      | some q => rw [hf] at h; simp at h; rw [← h]; exact ih q hf
    · rw [unev_off (by simpa using hb)] at h
      exact ih k h
theorem rowDiff_no {set : Nat} {R : Nat → Nat → Int} {j f : Nat} (h : ∀ r, set.testBit r = true → R j r = R f r) : ∀ r, rowDiff set R j f r = false
  | 0 => rfl
  | r + 1 => by
    unfold rowDiff
    rw [rowDiff_no h r]
    by_cases hb : set.testBit r = true
    · rw [h r hb]; simp
    · simp [hb]
/-- Where the lanes of a mask agree, nothing is found uneven. -/
theorem unev_no {set mask n : Nat} {R : Nat → Nat → Int} (h : Eqv R mask set) : unev n set mask R = false := by
  show (unevTo set mask R n).2 = false
  induction n with
  | zero => rfl
  | succ j ih =>
    by_cases hb : mask.testBit j = true
    · rw [unev_on hb]
      show ((unevTo set mask R j).2 || _) = false
      rw [ih, Bool.false_or]
      refine rowDiff_no (fun r hr => ?_) 4
      cases hf : (unevTo set mask R j).1 with
      | none => rfl
      | some q => exact h r hr j q hb (unev_has j q hf)
    · rw [unev_off (by simpa using hb)]; exact ih
theorem un_no {o : SO} {H : List (Nat × Nat × (Nat → Nat → Int))} (h : ∀ x ∈ H, Eqv x.2.2 x.2.1 (o.sets x.1)) : o.un H = false := by
  unfold SO.un
  rw [Bool.and_eq_false_iff]
  right
  rw [List.any_eq_false]
  intro x hx
  rw [unev_no (h x hx)]; simp
theorem us_tree {cs : List Cd} {xs : List Int} (h : UsP cs xs) (hv : PValid cs) : xs = usOf cs (treeOf cs) := by
  rw [h.1 hv]
  have ht := hv.tree
  unfold treeOf
  rw [dif_pos ht]

set_option maxHeartbeats 4000000 in
set_option maxRecDepth 100000 in
theorem sunih_any (vl vm : Value) (cs : List Cd) (a : Int) (mem : List Int) (w : World) (h : Codes w vl cs) (hm : Ints w vm mem) (hs1 : cs.length ≤ 1048576) (hs2 : mem.length ≤ 1048576) (B : Bool) (hB : B = true ↔ RunOk cs a mem) :
    Calls Try.prog 55 #[vl, .int .i64 a, vm] w fun e w' => e = .returned (.bool B) ∧ Pure w w' := by
  have H := Lib.hid h
  have HM := Lib.hid hm
  have HB := Lib.hid hB
  obtain ⟨A, c, rfl, hnc, hcm⟩ := h.form
  obtain ⟨Am, cm, rfl, hmc, hmcm, _⟩ := hm
  clear h hB
  cases B
  case false =>
    go_enter Try.func55, Try.ntmps55
    go_wp2_with fail
    refine (sok_any _ _ cs a mem _ H.out HM.out hs1 hs2 false HB.out).mono ?_
    rintro e w1 ⟨rfl, hp1⟩
    go_wp2
    go_ret
    exact ⟨rfl, hp1⟩
  case true =>
    have hok : RunOk cs a mem := HB.out.1 rfl
    have HOK := Lib.hid hok
    obtain ⟨n, rfl, hn1, hn8⟩ : ∃ n : Nat, a = n ∧ 1 ≤ n ∧ n ≤ 8 := ⟨a.toNat, by have := hok.2.1.1; have := hok.2.1.2; omega, by have := hok.2.1.1; omega, by have := hok.2.1.2; omega⟩
    obtain ⟨hv, _, ⟨hm1, hm32⟩, hmw⟩ := hok
    have HV := Lib.hid hv
    have HMEM : Hid (MemOk mem) := Lib.hid ⟨⟨hm1, hm32⟩, hmw⟩
    clear hv hmw
    go_enter Try.func55, Try.ntmps55
    go_wp2_with fail
    refine (sok_any _ _ cs n mem _ H.out HM.out hs1 hs2 true (by simp only [true_iff]; exact HOK.out)).mono ?_
    rintro e w1 ⟨rfl, hp1⟩
    have HP1 := Lib.hid hp1
    have HM1 := Lib.hid (Cells.keep HM.out hp1)
    clear hp1 hs2
    go_wp2_with (at_builtin; go_must (refine wl_copyR elInt rfl _ _ rfl w1.heap.size rfl _ rfl _ mem.length HM1.out (fun j _ => rfl) (by decide) (by omega) (by omega) ?_); intro vm' wq hown hp; go_must (obtain ⟨gm, cmm, hvm, hgm1, hgm2, hcm1, hcm2⟩ := own_form hown (by omega); subst hvm; have HOWN := Lib.hid hown; have HP := Lib.hid hp; clear hown hp))
    refine (sus_any _ cs _ (H.out.keep (HP1.out.trans HP.out)) hs1).mono ?_
    rintro e wu ⟨vs, xs, rfl, hxs, _, hos, hpu⟩
    obtain rfl := us_tree hxs HV.out
    have hxl : (usOf cs (treeOf cs)).length = cs.length := by simp [usOf]
    rw [hxl] at hos
    have HOS := Lib.hid hos
    have HUS := Lib.hid hpu
    have HPU := Lib.hid (HP.out.trans hpu)
    have hqu : wq.heap.size ≤ wu.heap.size := hpu.size
    obtain ⟨As, cs_, rfl⟩ := hos.form
    have HPo : Hid ((wu.alloc (.cells #[.slice A cs.length c, .int .i64 (n : Nat), .slice none 0 0, .slice (some ⟨gm, 0, none⟩) mem.length cmm, .slice none 0 0, .bool false, .slice As cs.length cs_, .bool false] 59)).heap[wu.heap.size]? = some (.cells #[.slice A cs.length c, .int .i64 (n : Nat), .slice none 0 0, .slice (some ⟨gm, 0, none⟩) mem.length cmm, .slice none 0 0, .bool false, .slice As cs.length cs_, .bool false] 59 (0, 0))) := Lib.hid (heap_alloc_new wu _)
    clear hxs hos hpu hxl
    go_wp2_with fail
    go_loopg [8] n (fun gk i wr => ∃ (j : Nat) (vr : Value) (rows : Nat → Nat), gk + j = n ∧ i = .int .i64 j ∧ Pure w1 wr ∧ RegsB wr w1.heap.size vr j rows ∧
      wr.heap[wu.heap.size]? = some (.cells #[.slice A cs.length c, .int .i64 (n : Nat), vr, .slice (some ⟨gm, 0, none⟩) mem.length cmm, .slice none 0 0, .bool false, .slice As cs.length cs_, .bool false] 59 (0, 0)) ∧
      OwnO wr w1.heap.size 3 1 (.slice (some ⟨gm, 0, none⟩) mem.length cmm) mem.length ((List.range mem.length).map fun j => .int .i64 (mem.getD j 0)) ∧ OwnO wr wq.heap.size 3 1 (.slice As cs.length cs_) cs.length ((usOf cs (treeOf cs)).map (.int .i64)) ∧
      (∀ i, i < j → wu.heap.size ≤ rows i))
    case atStart =>
      refine ⟨0, .slice none 0 0, fun _ => 0, rfl, rfl, HPU.out.trans (by exact (by repeat (first | assumption | exact Pure.refl _ | refine Pure.drewN ?_ _ | refine Pure.drew ?_ | refine Pure.alloc ?_ _ | refine Pure.setCell ?_ (by simp <;> omega) _))), ⟨World.ownsRow_nil _ _ _ _, fun i hi => absurd hi (by omega), fun i hi => absurd hi (by omega), fun i k hi => absurd hi (by omega)⟩, HPo.out, (OwnO.of_own HOWN.out).pure (HUS.out.trans (by exact (by repeat (first | assumption | exact Pure.refl _ | refine Pure.drewN ?_ _ | refine Pure.drew ?_ | refine Pure.alloc ?_ _ | refine Pure.setCell ?_ (by simp <;> omega) _)))), HOS.out.pure (by exact (by repeat (first | assumption | exact Pure.refl _ | refine Pure.drewN ?_ _ | refine Pure.drew ?_ | refine Pure.alloc ?_ _ | refine Pure.setCell ?_ (by simp <;> omega) _))), fun i hi => absurd hi (by omega)⟩
    case round =>
      obtain ⟨j, vr, rows, hgk, rfl, hp, hregs, hobj, hmem, hvs, hne⟩ := hrel
      have HVs := Lib.hid hvs
      have Hgk := Lib.hid hgk
      have HR := Lib.hid hregs
      have HO := Lib.hid hobj
      have HMe := Lib.hid hmem
      have HNe := Lib.hid hne
      have hjn : j ≤ n := by omega
      have hwr : w1.heap.size ≤ wr.heap.size := hp.size
      clear hgk hregs hmem hvs hne HPo
      have p1 := (cell_of_row wr (wu.heap.size) 1 _ _ _ hobj).trans rfl
      have p2 := (cell_of_row wr (wu.heap.size) 2 _ _ _ hobj).trans rfl
      have hpfr := frozen_of_row wr (wu.heap.size) 2 _ _ hobj
      have hplt : wu.heap.size < wr.heap.size := (Array.getElem?_eq_some_iff.1 hobj).1
      clear hobj
      by_cases hlt : j < n
      · go_wp2
        refine region_heldF (fun w' => w'.cell? ⟨wu.heap.size, 2, none⟩ = some vr) (List.range 5) [5, 6, 7, 8, 9, 10] (fun l => List.take 5 l) (fun l => List.drop 5 l) (by kernel_rfl) (by kernel_rfl) (by kernel_rfl) (by kernel_rfl) (fun c a d v w h => by cases d <;> exact h) (by exact p2) ?_
        simp only [List.take_succ_cons, List.take_zero, List.drop_succ_cons, List.drop_zero]
        apply held_of
        · exact rfl
        · intro w' hS
          go_simp
          try exact rfl
        try go_simp
        apply held_of
        · exact rfl
        · intro w' hS
          go_simp
          try exact rfl
        try go_simp
        apply held_of
        · exact rfl
        · intro w' hS
          go_simp
          try exact rfl
        try go_simp
        apply held_of
        · exact rfl
        · intro w' hS
          go_simp
          try exact rfl
        try go_simp
        apply held_of
        · exact rfl
        · intro w' hS
          go_simp
          try exact rfl
        try go_simp
        refine held_nil ?_
        unfold Tail
        refine wl_make elInt rfl _ _ rfl w1.heap.size _ _ _ _ 4 rfl rfl rfl rfl (by decide) (by decide) hp.size ?_
        intro w4 hown4 hp4 hsz4
        have HZ4 := Lib.hid (own_zero4 hown4)
        have HP4 := Lib.hid ((show Pure wr wr.drew from Pure.drew (Pure.refl _)).trans hp4)
        have z2 := (HP4.out.cell _ _ hplt).trans p2
        have hplt4 := Nat.lt_of_lt_of_le hplt HP4.out.size
        clear hown4 hp4
        go_wp2
        refine And.intro z2 ?_
        unfold Tail
        go_wp2
        refine And.intro (keepPc (by exact (by repeat (first | assumption | exact Pure.refl _ | refine Pure.drewN ?_ _ | refine Pure.drew ?_ | refine Pure.alloc ?_ _ | refine Pure.setCell ?_ (by simp <;> omega) _))) z2) ?_
        unfold Tail
        have hgx := heap_alloc_new w4 (.cells #[.slice (some ⟨wr.heap.size, 0, none⟩) 4 4] 23)
        have hcx := cell_of_row _ _ 0 _ _ _ hgx
        refine wl_append elInts rfl _ _ rfl w1.heap.size vr j _ rfl (own_pure HR.out.own (HP4.out.trans (by exact (by repeat (first | assumption | exact Pure.refl _ | refine Pure.drewN ?_ _ | refine Pure.drew ?_ | refine Pure.alloc ?_ _ | refine Pure.setCell ?_ (by simp <;> omega) _))))) w4.heap.size 1 1 [.slice (some ⟨wr.heap.size, 0, none⟩) 4 4] rfl rfl (fun i u hu => ?_) (by intro u hu; simp at hu; subst hu; rfl) (by omega) (by omega) (Nat.le_trans hp.size (Nat.le_trans HP4.out.size (by simp))) ?_
        · have hi : i = 0 := by
            by_cases e : i = 0
            · exact e
            · rw [List.getElem?_eq_none (by simp; omega)] at hu; cases hu
          subst hi
          rw [← hu]; exact hcx
        intro v5 w5 hown5 hg5
        obtain ⟨g5, c5, hv5, _, _, _, _⟩ := own_form hown5 (by omega)
        subst hv5
        have hPw1 : Pure wr (w4.alloc (.cells #[.slice (some ⟨wr.heap.size, 0, none⟩) 4 4] 23)) := HP4.out.trans (by exact (by repeat (first | assumption | exact Pure.refl _ | refine Pure.drewN ?_ _ | refine Pure.drew ?_ | refine Pure.alloc ?_ _ | refine Pure.setCell ?_ (by simp <;> omega) _)))
        have hc5 : Chg (fun k => vr.ownBlock = some k) (w4.alloc (.cells #[.slice (some ⟨wr.heap.size, 0, none⟩) 4 4] 23)) w5 := Chg.of_grown hg5 (fun k hk => hk)
        have hvrp : ∀ k, vr.ownBlock = some k → k ≠ wu.heap.size := own_ne_heap HR.out.own HO.out (by decide)
        have hO5 : w5.heap[wu.heap.size]? = some (.cells #[.slice A cs.length c, .int .i64 (n : Nat), vr, .slice (some ⟨gm, 0, none⟩) mem.length cmm, .slice none 0 0, .bool false, .slice As cs.length cs_, .bool false] 59 (0, 0)) :=
          hc5.heap ((Chg.of_pure (S := fun _ => False) hPw1).heap HO.out id) (fun e => hvrp _ e rfl)
        have hz1 := (Chg.of_pure (S := fun _ => False) (show Pure w4 (w4.alloc (.cells #[.slice (some ⟨wr.heap.size, 0, none⟩) 4 4] 23)) from (by repeat (first | assumption | exact Pure.refl _ | refine Pure.drewN ?_ _ | refine Pure.drew ?_ | refine Pure.alloc ?_ _ | refine Pure.setCell ?_ (by simp <;> omega) _)))).heap HZ4.out id
        have hR5 := HR.out.push hPw1 (Nat.le_refl _) hp.size hz1 hown5 hg5
        have hM5 := (HMe.out.pure hPw1).chg hc5 (fun g hg e => (OwnO.of_own (own_pure HR.out.own hPw1)).ne (HMe.out.pure hPw1) (by decide) g e hg.symm)
        have hV5 := (HVs.out.pure hPw1).chg hc5 (fun g hg e => (OwnO.of_own (own_pure HR.out.own hPw1)).ne (HVs.out.pure hPw1) (by decide) g e hg.symm)
        have hP5 : Pure w1 w5 := Chg.pure (hp.trans hPw1) hc5 (fun k hk => (own_lt HR.out.own k hk).1)
        have hc6 : Chg (fun k => k = wu.heap.size) w5 (w5.setCell ⟨wu.heap.size, 2, none⟩ (.slice (some ⟨g5, 0, none⟩) (j + 1) c5)) := Chg.of_set w5 _ _ _ rfl
        have HO6 : Hid ((w5.setCell ⟨wu.heap.size, 2, none⟩ (.slice (some ⟨g5, 0, none⟩) (j + 1) c5)).heap[wu.heap.size]? = some (.cells #[.slice A cs.length c, .int .i64 (n : Nat), .slice (some ⟨g5, 0, none⟩) (j + 1) c5, .slice (some ⟨gm, 0, none⟩) mem.length cmm, .slice none 0 0, .bool false, .slice As cs.length cs_, .bool false] 59 (0, 0))) := Lib.hid (by
          rw [heap_setCell_same w5 (wu.heap.size) 2 _ _ _ hO5]; rfl)
        have HR6 := Lib.hid (hR5.chg hc6 (fun g hg e => own_ne_heap hR5.own hO5 (by decide) g hg e) (fun i hi e => ne_of_heap (hR5.row i hi) hO5 (by decide) e))
        have HM6 := Lib.hid (hM5.chg hc6 (fun g hg e => hM5.ne_heap hO5 (by decide) g hg e))
        have HV6 := Lib.hid (hV5.chg hc6 (fun g hg e => hV5.ne_heap hO5 (by decide) g hg e))
        have HP6 : Hid (Pure w1 (w5.setCell ⟨wu.heap.size, 2, none⟩ (.slice (some ⟨g5, 0, none⟩) (j + 1) c5))) := Lib.hid (Chg.pure hP5 hc6 (fun k hk => by rw [hk]; exact HPU.out.size))
        have z5 := (cell_of_row w5 (wu.heap.size) 2 _ _ _ hO5).trans rfl
        have zf5 := frozen_of_row w5 (wu.heap.size) 2 _ _ hO5
        have hgmlt : gm < wr.heap.size := (HMe.out.lt gm rfl).2
        clear hown5 hg5 hPw1 hc5 hvrp hO5 hz1 hR5 hM5 hV5 hP5 hc6 hgx hcx z2
        go_wp2
        refine And.intro z5 ?_
        unfold Tail
        go_wp2
        refine And.intro z5 ?_
        unfold Tail
        go_wp2
        refine And.intro z5 ?_
        unfold Tail
        go_wp2
        go_roundg (n - (j + 1))
        case measure => have := Hgk.out; omega
        case rel =>
          refine ⟨j + 1, _, _, by have := Hgk.out; omega, by go_num, HP6.out, HR6.out, HO6.out, HM6.out, HV6.out, fun i hi => ?_⟩
          show wu.heap.size ≤ if i = j then wr.heap.size else rows i
          split
          · omega
          · exact HNe.out i (by omega)
      · have hjl : j = n := by have := Hgk.out; omega
        subst hjl
        obtain ⟨gr, cr, hvr, hgr1, hgr2, hcr1, hcr2⟩ := own_form HR.out.own (by omega)
        subst hvr
        go_wp2_with fail
        refine (smaskall_any j _ hn1 hn8).mono ?_
        rintro e w' ⟨rfl, rfl⟩
        obtain ⟨h1, h2, h3⟩ := treeOf_spec HV.out
        have hlen : (treeOf cs).len = cs.length := (congrArg List.length h1).symm
        have hrlo : ∀ i, i < j → rows i ≠ gm := fun i hi e => by have := HNe.out i hi; omega
        have hosr := HVs.out
        have hvn : ∀ g, (Value.slice As cs.length cs_).ownBlock = some g → wq.heap.size ≤ g ∧ g < wu.heap.size := fun g hg => HOS.out.lt g hg
        have hvn2 : ∀ g, (Value.slice As cs.length cs_).ownBlock = some g → ¬ SO.own ⟨⟨w1.heap.size, j, mem.length, gr, cr, gm, cmm, rows⟩, w1, cs, .slice A cs.length c, wu.heap.size, .slice As cs.length cs_, true, usL cs (treeOf cs)⟩ (.slice none 0 0) g ∧ g < wr.heap.size := fun g hg => by
          obtain ⟨k1, k2⟩ := hvn g hg
          refine ⟨?_, by omega⟩
          rintro (e | (⟨k, hk, e⟩ | e) | e)
          · have e : g = wu.heap.size := e
            omega
          · have := HNe.out k hk
            have e : g = rows k := e
            omega
          · have e : g = gm := e
            omega
          · cases e
        have hrun : UC.SRun ⟨⟨w1.heap.size, j, mem.length, gr, cr, gm, cmm, rows⟩, w1, cs, .slice A cs.length c, wu.heap.size, .slice As cs.length cs_, true, usL cs (treeOf cs)⟩ wr (.slice none 0 0) (startLS mem) :=
          ⟨hp, H.out.keep HP1.out, rfl, HR.out.rm hn1 hn8 hm1 hm32 HMe.out hrlo, hn1, HO.out, HPU.out.size, OwnO.of_own (World.ownsRow_nil _ _ _ _), startLS_good HMEM.out, fun h => (by cases h),
            fun _ => ⟨fun k => usL_lt h2 k, us_sets rfl hosr, hvn2⟩⟩
        have HRUN := Lib.hid hrun
        have hcost : (startLS mem).H.length + (treeOf cs).cost ≤ 1099511627775 := by
          have := HV.out.cost h1 h2 h3
          show 0 + _ ≤ _
          omega
        have hpow : 2 ^ j - 1 < 2 ^ j := Nat.sub_lt (Nat.two_pow_pos j) (by decide)
        have HTREE := Lib.hid (And.intro h2 (And.intro hlen (And.intro hcost hpow)))
        have HSEG : Hid (Seg cs 0 (treeOf cs)) := Lib.hid (Seg.whole h1)
        have HUN : Hid (SO.un ⟨⟨w1.heap.size, j, mem.length, gr, cr, gm, cmm, rows⟩, w1, cs, .slice A cs.length c, wu.heap.size, .slice As cs.length cs_, true, usL cs (treeOf cs)⟩ (lockOf cs j mem).H = false) := Lib.hid (un_no (fun x hx => lock_holds HV.out x hx))
        clear h1 h2 h3 hlen hrun hcost hpow hosr hvn hrlo
        go_wp2_with fail
        refine (UC.sblockU_any ⟨⟨w1.heap.size, j, mem.length, gr, cr, gm, cmm, rows⟩, w1, cs, .slice A cs.length c, wu.heap.size, .slice As cs.length cs_, true, usL cs (treeOf cs)⟩ HV.out rfl _ (treeOf cs) 0 (2 ^ j - 1) (startLS mem) _ wr _ _ (Nat.le_refl _) HTREE.out.1 HSEG.out (by have := HTREE.out.2.1; show 0 + (treeOf cs).len ≤ cs.length; omega) HTREE.out.2.2.2 HTREE.out.2.2.1 HRUN.out (by simp) (by rw [HTREE.out.2.1]; simp)).mono ?_
        rintro e w7 ⟨rfl, vt7, hr7, _⟩
        have hob := hr7.obj
        rw [show run j mem.length (treeOf cs) 0 (2 ^ j - 1) (startLS mem) = lockOf cs j mem from rfl, HUN.out] at hob
        have p7 := hob.facts.2.2.2.2.2.2.2
        simp only at p7
        have HP7 : Hid (Pure w1 w7) := Lib.hid hr7.pure
        clear hr7 hob
        go_wp2_with fail
        go_ret
        exact ⟨rfl, HP1.out.trans HP7.out⟩

end Go.Proofs.Ytokdfgodmhekmaa
