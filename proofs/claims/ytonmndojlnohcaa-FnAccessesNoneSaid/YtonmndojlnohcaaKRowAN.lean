/- The law FnAccessesNone, whole: Programs without loads and stores have no accesses. No condition. -/
import Derived.Test.YtonmndojlnohcaaKca
import Derived.Test.YtonmndojlnohcaaKcc
import Derived.Test.YtonmndojlnohcaaKcd

namespace Go.Proofs.Ytonmndojlnohcaa
open Go.RowKit

def calmB (c : Cd) : Bool := (c.op != 8) && (c.op != 9)
def Tr.calm : Tr → Tr
  | .nil => .nil
  | .op c k => if calmB c then .op c k.calm else k.calm
  | .ite a t k => .ite a t.calm k.calm
  | .itee a t e k => .itee a t.calm e.calm k.calm
  | .loop a b t k => .loop a b t.calm k.calm
theorem calm_flat : ∀ t : Tr, t.calm.flat = t.flat.filter calmB
  | .nil => rfl
  | .op c k => by
    have ih := calm_flat k
    unfold Tr.calm
    show _ = (c :: k.flat).filter calmB
    by_cases h : calmB c = true
    · rw [if_pos h, List.filter_cons_of_pos h]; show c :: k.calm.flat = _; rw [ih]
    · rw [if_neg h, List.filter_cons_of_neg h]; exact ih
  | .ite a t k => by
    have h1 := calm_flat t; have h2 := calm_flat k
    show cIf a :: (t.calm.flat ++ cEnd :: k.calm.flat) = (cIf a :: (t.flat ++ cEnd :: k.flat)).filter calmB
    rw [List.filter_cons_of_pos rfl, List.filter_append, List.filter_cons_of_pos rfl, h1, h2]
  | .itee a t e k => by
    have h1 := calm_flat t; have h2 := calm_flat e; have h3 := calm_flat k
    show cIf a :: (t.calm.flat ++ cElse :: (e.calm.flat ++ cEnd :: k.calm.flat)) = (cIf a :: (t.flat ++ cElse :: (e.flat ++ cEnd :: k.flat))).filter calmB
    rw [List.filter_cons_of_pos rfl, List.filter_append, List.filter_cons_of_pos rfl, List.filter_append, List.filter_cons_of_pos rfl, h1, h2, h3]
  | .loop a b t k => by
    have h1 := calm_flat t; have h2 := calm_flat k
    show cLoop a b :: (t.calm.flat ++ cEnd :: k.calm.flat) = (cLoop a b :: (t.flat ++ cEnd :: k.flat)).filter calmB
    rw [List.filter_cons_of_pos rfl, List.filter_append, List.filter_cons_of_pos rfl, h1, h2]
theorem calm_ok : ∀ {t : Tr}, t.Ok → t.calm.Ok
  | .nil, _ => trivial
  | .op c k, h => by
    unfold Tr.calm
    split
    · exact ⟨h.1, calm_ok h.2⟩
    · exact calm_ok h.2
  | .ite _ _ _, h => ⟨h.1, calm_ok h.2.1, calm_ok h.2.2⟩
  | .itee _ _ _ _, h => ⟨h.1, calm_ok h.2.1, calm_ok h.2.2.1, calm_ok h.2.2.2⟩
  | .loop _ _ _ _, h => ⟨h.1, h.2.1, calm_ok h.2.2.1, calm_ok h.2.2.2⟩
theorem calm_depth : ∀ t : Tr, t.calm.depth ≤ t.depth
  | .nil => Nat.le_refl _
  | .op c k => by
    have := calm_depth k
    unfold Tr.calm
    split
    · exact this
    · exact this
  | .ite a t k => by have := calm_depth t; have := calm_depth k; simp only [Tr.calm, Tr.depth]; omega
  | .itee a t e k => by have := calm_depth t; have := calm_depth e; have := calm_depth k; simp only [Tr.calm, Tr.depth]; omega
  | .loop a b t k => by have := calm_depth t; have := calm_depth k; simp only [Tr.calm, Tr.depth]; omega
theorem calm_run {cs : List Cd} {n : Nat} {mem : List Int} (hok : RunOk cs n mem) : RunOk (cs.filter calmB) n mem ∧ (lockOf (cs.filter calmB) n mem).A = [] ∧ (lockOf (cs.filter calmB) n mem).M = (startLS mem).M := by
  obtain ⟨h1, h2, h3⟩ := treeOf_spec hok.1
  have hf : (treeOf cs).calm.flat = cs.filter calmB := by rw [calm_flat, ← h1]
  have ho := calm_ok h2
  have h40 := hok.1.2.1
  have hle := List.length_filter_le calmB cs
  have hp := valid_of_tree ho (Nat.le_trans (calm_depth _) h3) (by unfold Tr.len; rw [hf]; omega)
  have ht := treeOf_eq hp rfl ho
  rw [hf] at hp ht
  refine ⟨⟨hp, hok.2⟩, ?_⟩
  unfold lockOf
  rw [ht]
  refine run_keep (cs := cs.filter calmB) n mem.length (fun s => s.A = [] ∧ s.M = (startLS mem).M) (fun s i mask _ _ _ _ h => h) (fun s i mask hpl hi _ _ h => ?_) _ 0 _ _ ho (Seg.whole hf.symm) (full_lt n) ⟨rfl, rfl⟩
  have hm : (cs.filter calmB).getD i default ∈ cs.filter calmB := by simp [List.getD_eq_getElem?_getD, hi]
  have key : ∀ c : Cd, calmB c = true → c.op ≠ 8 ∧ c.op ≠ 9 := by
    intro c h
    unfold calmB at h
    simp only [Bool.and_eq_true, bne_iff_ne] at h
    exact h
  have hc := key _ (List.mem_filter.1 hm).2
  refine ⟨?_, ?_⟩
  · rw [exec_A, if_neg (by rintro (e | e); exact hc.1 e; exact hc.2 e)]; exact h.1
  · rw [exec_M hc.2]; exact h.2
theorem range_mem' (mem : List Int) : (List.range mem.length).map (startLS mem).M = mem := by
  apply List.ext_getElem?
  intro j
  by_cases h : j < mem.length
  · simp [h, startLS, List.getD_eq_getElem?_getD]
  · rw [List.getElem?_eq_none (by simp; omega), List.getElem?_eq_none (by omega)]
theorem calm_take {cs : List Cd} {k : Nat} (hk : k < cs.length) : (cs.take (k + 1)).filter calmB = if calmB (cs.getD k default) then (cs.take k).filter calmB ++ [cs.getD k default] else (cs.take k).filter calmB := by
  have h : cs.take (k + 1) = cs.take k ++ [cs.getD k default] := by
    rw [List.take_succ_eq_append_getElem hk]
    simp [List.getD_eq_getElem?_getD, hk]
  rw [h, List.filter_append]
  by_cases hc : calmB (cs.getD k default) = true
  · rw [if_pos hc, List.filter_cons_of_pos hc]; rfl
  · rw [if_neg hc, List.filter_cons_of_neg hc]; simp

set_option maxHeartbeats 4000000 in
set_option maxRecDepth 100000 in
theorem law_FnAccessesNone (v : Value) (bs : List Int) (w : World) (h : Bytes w v bs) :
    Calls Try.prog 4 #[v] w fun e w' => e = .returned (.bool true) ∧ Pure w w' := by
  have H := Lib.hid h
  obtain ⟨A, c, rfl, hnc, hcm⟩ := h.form
  clear h
  by_cases hbig : (bs.length : Int) > 1048576
  · go_enter Try.func4, Try.ntmps4
    go_wp2
    go_ret
    exact ⟨rfl, Pure.refl _⟩
  go_enter Try.func4, Try.ntmps4
  go_wp2_with fail
  refine (draw_DrawLockAccesses _ bs _ H.out (by omega)).mono ?_
  rintro e w1 ⟨vl, cs, a, vm, mem, rfl, ha0, ha9, hl, hm, hcl, hml, hp1⟩
  have HC := Lib.hid hl
  have HM := Lib.hid hm
  have HP1 := Lib.hid hp1
  obtain ⟨Ac, cc, rfl, hcc1, hcc2⟩ := hl.form
  obtain ⟨Am, cm, rfl⟩ := hm.form
  clear hl hm hp1
  have HE := Lib.hid (OwnO.empty_lit (w := w1) (B := w1.heap.size) (e := 31) (s := 4) (Nat.le_refl _))
  go_wp2_with fail
  go_loopg [6, 7] cs.length (fun gk q i wr => ∃ (k : Nat), gk + k = cs.length ∧ i = .int .i64 k ∧ Pure w1 wr ∧ OwnO wr w1.heap.size 31 4 q ((cs.take k).filter calmB).length (((cs.take k).filter calmB).flatMap cdCells))
  case atStart => exact ⟨0, rfl, rfl, by exact (by repeat (first | assumption | exact Pure.refl _ | refine Pure.drewN ?_ _ | refine Pure.drew ?_ | refine Pure.alloc ?_ _ | refine Pure.setCell ?_ (by simp <;> omega) _)), HE.out⟩
  case round =>
    obtain ⟨k, hgk, rfl, hp, hown⟩ := hrel
    have Hgk := Lib.hid hgk
    have HP := Lib.hid hp
    have HO := Lib.hid hown
    have hkn : k ≤ cs.length := by omega
    obtain ⟨Aq, cq, rfl⟩ := hown.form
    clear hgk hp hown
    by_cases hlt : k < cs.length
    · obtain ⟨b, o, rfl, hb, hc⟩ := (HC.out.keep HP.out).at_ hlt
      obtain ⟨cd, Hcd⟩ : ∃ cd, Hid (cs.getD k default = cd) := ⟨_, Lib.hid rfl⟩
      have HT := Lib.hid (calm_take hlt)
      rw [Hcd.out] at hc HT
      obtain ⟨r0, r1, r2, r3⟩ := hc
      obtain ⟨op, ca, cb, c3⟩ := cd
      simp only at r0 r1 r2 r3
      have hk0 : (0 : Int) ≤ (k : Int) := by omega
      have hk1 : (k : Int) < (cs.length : Int) := by omega
      obtain ⟨N, HN⟩ : ∃ N, Hid (((cs.take k).filter calmB).length = N) := ⟨_, Lib.hid rfl⟩
      have hNb : N ≤ 300000 := by rw [← HN.out]; have h1 := List.length_filter_le calmB (cs.take k); have h2 : (cs.take k).length ≤ cs.length := by simp; omega
                                  omega
      have HO2 : Hid (OwnO wr w1.heap.size 31 4 (.slice Aq N cq) N (((cs.take k).filter calmB).flatMap cdCells)) := Lib.hid (by have := HO.out; rw [HN.out] at this; exact this)
      rw [HN.out]
      have hblt := World.block_lt_of_cell? _ _ r0
      by_cases h8 : op = 8
      · have d8 : (op != 8) = false := by simp [h8]
        have hq : calmB ⟨op, ca, cb, c3⟩ = false := by unfold calmB; simp [h8]
        have HT2 : Hid ((cs.take (k + 1)).filter calmB = (cs.take k).filter calmB) := Lib.hid (by rw [HT.out, hq]; simp)
        clear hq
        go_wp2
        go_roundg (cs.length - (k + 1))
        case measure => have := Hgk.out; omega
        case rel => exact ⟨k + 1, by have := Hgk.out; omega, by go_num, HP.out, by rw [HT2.out, HN.out]; exact HO2.out⟩
      · have d8 : (op != 8) = true := by simp [h8]
        by_cases h9 : op = 9
        · have d9 : (op != 9) = false := by simp [h9]
          have hq : calmB ⟨op, ca, cb, c3⟩ = false := by unfold calmB; simp [h9]
          have HT2 : Hid ((cs.take (k + 1)).filter calmB = (cs.take k).filter calmB) := Lib.hid (by rw [HT.out, hq]; simp)
          clear hq
          go_wp2
          go_roundg (cs.length - (k + 1))
          case measure => have := Hgk.out; omega
          case rel => exact ⟨k + 1, by have := Hgk.out; omega, by go_num, HP.out, by rw [HT2.out, HN.out]; exact HO2.out⟩
        · have d9 : (op != 9) = true := by simp [h9]
          have hq : calmB ⟨op, ca, cb, c3⟩ = true := by unfold calmB; simp [h8, h9]
          have HT2 : Hid ((cs.take (k + 1)).filter calmB = (cs.take k).filter calmB ++ [⟨op, ca, cb, c3⟩]) := Lib.hid (by rw [HT.out, hq]; simp)
          clear hq
          go_wp2_with (at_builtin; go_must (refine wl_append1F elCode rfl _ _ rfl w1.heap.size _ N _ rfl HO2.out wr.heap.size 1 [.int .i64 op, .int .i64 ca, .int .i64 cb, .int .i64 c3] rfl rfl rfl rfl (by decide) (by omega) HP.out.size ?_); intro v6 w6 r1 r2 r4; go_must (have HP6 := Lib.hid (HP.out.grown r2 (fun k hk => (HO2.out.lt k hk).1))); go_must (have HO6 := Lib.hid r1); clear r1 r2 r4)
          go_roundg (cs.length - (k + 1))
          case measure => have := Hgk.out; omega
          case rel => exact ⟨k + 1, by have := Hgk.out; omega, by go_num, HP6.out, by rw [HT2.out, List.length_append, HN.out, List.flatMap_append]; exact HO6.out⟩
    · have hkl : k = cs.length := by omega
      subst hkl
      obtain ⟨ds, Hds⟩ : ∃ ds, Hid (cs.filter calmB = ds) := ⟨_, Lib.hid rfl⟩
      have HD : Hid (Codes wr (.slice Aq ds.length cq) ds) := Lib.hid (by
        have h1 := HO.out
        rw [List.take_length, Hds.out] at h1
        exact Codes.of_ownO h1 rfl (flat_cdf _))
      have hdl : ds.length ≤ 300000 := by rw [← Hds.out]; have := List.length_filter_le calmB cs; omega
      rw [List.take_length, Hds.out]
      obtain ⟨LA, HLA⟩ : ∃ LA, Hid ((lockA cs a mem).A = LA) := ⟨_, Lib.hid rfl⟩
      have hll : LA.length ≤ 25600 := by rw [← HLA.out]; exact lockA_lenA
      go_wp2_with fail
      refine (iacc_any _ _ cs a mem _ (HC.out.keep HP.out) (HM.out.keep HP.out) (by omega) (by omega)).mono ?_
      rintro e w2 ⟨v2, rfl, ho2, hp2⟩
      rw [HLA.out] at ho2
      have HO2 := Lib.hid (Flat.of_own ho2)
      have HP2 := Lib.hid (HP.out.trans hp2)
      have HD2 := Lib.hid (HD.out.keep hp2)
      obtain ⟨A2, c2, rfl, hn2, hm2⟩ := HO2.out.form
      clear ho2 hp2
      go_wp2_with fail
      refine (sacc_any _ _ cs a mem _ (HC.out.keep HP2.out) (HM.out.keep HP2.out) (by omega) (by omega)).mono ?_
      rintro e w3 ⟨v3, rfl, ho3, hp3⟩
      rw [HLA.out] at ho3
      have HO3 := Lib.hid (Flat.of_own ho3)
      have HP3 := Lib.hid (HP2.out.trans hp3)
      have HO23 := Lib.hid (HO2.out.keep hp3)
      have HD3 := Lib.hid (HD2.out.keep hp3)
      obtain ⟨A3, c3, rfl, hn3, hm3⟩ := HO3.out.form
      clear ho3 hp3
      go_wp2_with fail
      refine (sameAccesses_same _ _ LA _ HO23.out HO3.out).mono ?_
      rintro e w4 ⟨rfl, hp4⟩
      have HP4 := Lib.hid (HP3.out.trans hp4)
      have HD4 := Lib.hid (HD3.out.keep hp4)
      clear hp4
      by_cases hok : RunOk cs a mem
      · have HOK := Lib.hid hok
        obtain ⟨n, rfl, hn1, hn8⟩ := lanes_nat hok.2.1
        have hcr := calm_run hok
        rw [Hds.out] at hcr
        have HCM : Hid (memA ds n mem = mem) := Lib.hid (by rw [memA_ok hcr.1, hcr.2.2, range_mem'])
        have HCA : Hid ((lockA ds n mem).A = []) := Lib.hid (by rw [lockA_ok hcr.1, hcr.2.1])
        clear hok hcr
        go_wp2_with fail
        refine (runs_any _ _ cs n mem _ (HC.out.keep HP4.out) (HM.out.keep HP4.out) (by omega) (by omega) true (by simp only [true_iff]; exact HOK.out)).mono ?_
        rintro e w5 ⟨rfl, hp5⟩
        have HP5 := Lib.hid (HP4.out.trans hp5)
        have HD5 := Lib.hid (HD4.out.keep hp5)
        clear hp5
        go_wp2_with fail
        refine (irl_any _ _ ds n mem _ HD5.out (HM.out.keep HP5.out) (by omega) (by omega)).mono ?_
        rintro e w6 ⟨v6, rfl, ho6, hp6⟩
        have hi6 : Ints w6 v6 mem := HCM.out ▸ ints_own ho6
        have HI6 := Lib.hid hi6
        have HP6 := Lib.hid (HP5.out.trans hp6)
        have HD6 := Lib.hid (HD5.out.keep hp6)
        obtain ⟨A6, c6, rfl⟩ := hi6.form
        clear ho6 hi6 hp6
        go_wp2_with fail
        refine (iacc_any _ _ ds n mem _ HD6.out (HM.out.keep HP6.out) (by omega) (by omega)).mono ?_
        rintro e w7 ⟨v7, rfl, ho7, hp7⟩
        rw [HCA.out] at ho7
        have HP7 := Lib.hid (HP6.out.trans hp7)
        have HI7 := Lib.hid (Cells.keep HI6.out hp7)
        obtain ⟨A7, c7, rfl⟩ := ho7.form
        clear ho7 hp7
        go_wp2_with fail
        refine (sameInts_same _ _ mem _ HI7.out (HM.out.keep HP7.out) (by omega)).mono ?_
        rintro e w8 ⟨rfl, hp8⟩
        go_wp2
        go_ret
        exact ⟨rfl, (HP1.out.trans HP7.out).trans hp8⟩
      · have HOK := Lib.hid hok
        clear hok
        go_wp2_with fail
        refine (runs_any _ _ cs a mem _ (HC.out.keep HP4.out) (HM.out.keep HP4.out) (by omega) (by omega) false (by simp [HOK.out])).mono ?_
        rintro e w7 ⟨rfl, hp7⟩
        go_wp2_with fail
        refine (alive_any _).mono ?_
        rintro e w9 ⟨rfl, hp9⟩
        go_wp2
        go_ret
        exact ⟨rfl, ((HP1.out.trans HP4.out).trans hp7).trans hp9⟩

end Go.Proofs.Ytonmndojlnohcaa

namespace Go.Proofs.Ytonmndojlnohcaa.rowFnAccessesNone
open Go.ChangeShapes Go.WideShapes Go.ChangeAt Go.RowKit Go.Deep

set_option maxRecDepth 100000 in
theorem lifted (os : Os) (started : os.Started) (H : Type) (enc : TypeId × Value → H) :
    ReturnsInHanded {} Try.checked os 4 .any (Rows.fnAccessesNoneSpec.pre6 enc Try.prog Try.f4 Rows.fnAccessesNoneRow.domain false) (Rows.fnAccessesNoneSpec.post enc Try.prog Try.f4 false true false false) := by
  refine returnsInHanded_of_change (C := Try.checked) own_knob started (by kernel_rfl) Try.func4
    (ChangeSpec.witness6 (enc := enc) (C := Try.checked) false ⟨#[], #[.slice none 0 0], []⟩ 8 (by kernel_rfl) (by kernel_rfl) (by kernel_rfl) (by kernel_rfl)) ?_
  intro W base args ds gs before hval0 hW hcnd _
  have hval : ∀ (j : Nat) t v, Try.f4.params[j]? = some t → args[j]? = some v → Value.okWide Try.prog W .any base t v := hval0
  have hW' := hW
  obtain ⟨p, q, hA0, hV, rfl, hfz, hnd⟩ := hW
  have hA : DataW.TrodAll enc Try.prog W 0 (fun _ => true) true Try.f4.params.toList args.toList ds p := hA0
  rw [Try.params4] at hA hval
  obtain ⟨v0, vs0, d0, ds0, p0, q0, hargs, rfl, rfl, h0, r0⟩ := trodAll_cons hA
  obtain ⟨rfl, rfl, rfl⟩ := trodAll_nil r0
  obtain rfl : args = #[v0] := by cases args; simp_all
  obtain ⟨rfl, rfl⟩ := trodVars_none hV
  have k0 := h0
  have lt0 : ∀ x ∈ p0, x.block < W.heap.size := by obtain ⟨m, hm⟩ := k0; exact DataW.trod_lt m _ _ _ hm
  obtain ⟨A0, len0, cap0, rfl⟩ := okWide_slice Try.underlying22 (hval 0 22 v0 rfl rfl)
  obtain ⟨x0, w0⟩ : ∃ xs, Bytes W (.slice A0 len0 cap0) xs := by
    obtain ⟨fuel, hf⟩ := h0
    obtain ⟨v, xs, hcs, hx⟩ := bytes_open hf
    simp [Value.cells] at hcs
    subst hcs
    exact ⟨xs, hx⟩
  clear hA0 hval0
  refine (law_FnAccessesNone _ x0 W w0).mono fun e W' ⟨he, bel⟩ => ?_
  subst he
  have bel' : Below W.heap.size W W' := bel
  exact ⟨_, rfl, _, _, _, [], _, [], hW', trodAll_mk1 (shut_bool Try.underlying4 _), (trodAll_cons_mk (Below.trod laid_out (by kernel_rfl) (of_decide_eq_true (by kernel_rfl)) k0 bel' lt0) trodAll_mk0), rfl, bel'.frame _, fun h => by cases h⟩

theorem proved : Rows.FnAccessesNoneSaid :=
  OpenClaim.holds_of_wide 4 Try.f4 rfl rfl rfl rfl rfl rfl rfl ⟨rfl, rfl, rfl, rfl, rfl⟩ rfl rfl rfl rfl rfl (by kernel_rfl) Try.func4 (by kernel_rfl)
    (of_decide_eq_true (by kernel_rfl)) (by unfold Func.isWrapper; rw [if_neg (of_decide_eq_false (by kernel_rfl))]; exact ⟨rfl, rfl⟩)
    (fun os started H enc _ => lifted os started H enc)

end Go.Proofs.Ytonmndojlnohcaa.rowFnAccessesNone
