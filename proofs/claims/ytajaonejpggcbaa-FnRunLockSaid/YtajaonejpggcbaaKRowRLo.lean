/- The law FnRunLock, whole: Lockstep runs each lane No condition. -/
import Derived.Test.YtajaonejpggcbaaKbj
import Derived.Test.YtajaonejpggcbaaKca
import Derived.Test.YtajaonejpggcbaaKcj
import Derived.Test.YtajaonejpggcbaaKde

namespace Go.Proofs.Ytajaonejpggcbaa
open Go.RowKit

def upO (n : Nat) : List Int := (List.range n).map fun k : Nat => (k : Int)
def dnO (n k : Nat) : List Int := (List.range k).flatMap fun j : Nat => [(n : Int) - 1 - j, (n : Int) - 1 - j, 0]
theorem dnO_len (n : Nat) : ∀ k, (dnO n k).length = k * 3
  | 0 => rfl
  | k + 1 => by
    have := dnO_len n k
    unfold dnO at this ⊢
    rw [List.range_succ, List.flatMap_append, List.length_append, this]
    simp; omega
theorem dnO_succ (n k : Nat) : dnO n (k + 1) = dnO n k ++ [(n : Int) - 1 - k, (n : Int) - 1 - k, 0] := by
  unfold dnO; rw [List.range_succ, List.flatMap_append]; simp
theorem upO_succ (k : Nat) : upO (k + 1) = upO k ++ [(k : Int)] := by
  unfold upO; rw [List.range_succ, List.map_append]; rfl
theorem upO_len (n : Nat) : (upO n).length = n := by simp [upO]
theorem dnO_mem {n k : Nat} {x : Int} (h : x ∈ dnO n k) (hk : k ≤ n) : 0 ≤ x ∧ x < n := by
  unfold dnO at h
  obtain ⟨j, hj, hx⟩ := List.mem_flatMap.1 h
  have := List.mem_range.1 hj
  simp at hx
  omega
theorem mem_getD0 {xs : List Int} {j : Nat} (h : j < xs.length) : xs.getD j 0 ∈ xs := by simp [List.getD_eq_getElem?_getD, h]
theorem up_ok {n : Nat} (h1 : 1 ≤ n) (h8 : n ≤ 8) : OrdOk (upO n) n := by
  refine ⟨h1, h8, by rw [upO_len]; omega, fun j hj => ?_, fun l hl => ⟨l, by rw [upO_len]; exact hl, ?_⟩⟩
  · have := mem_getD0 hj
    unfold upO at this
    obtain ⟨k, hk, e⟩ := List.mem_map.1 this
    have := List.mem_range.1 hk
    unfold upO
    rw [← e]; omega
  · unfold upO; simp [List.getD_eq_getElem?_getD, hl]
theorem dn_ok {n : Nat} (h1 : 1 ≤ n) (h8 : n ≤ 8) : OrdOk (dnO n n) n := by
  refine ⟨h1, h8, by rw [dnO_len]; omega, fun j hj => dnO_mem (mem_getD0 hj) (Nat.le_refl _), fun l hl => ?_⟩
  have hm : ((l : Nat) : Int) ∈ dnO n n := by
    unfold dnO
    refine List.mem_flatMap.2 ⟨n - 1 - l, List.mem_range.2 (by omega), ?_⟩
    have : (n : Int) - 1 - ((n - 1 - l : Nat) : Int) = l := by omega
    rw [this]; simp
  obtain ⟨j, hj, e⟩ := List.getElem_of_mem hm
  exact ⟨j, hj, by simp [List.getD_eq_getElem?_getD, hj, e]⟩
theorem ints_mapJ (xs ys : List Int) : (xs ++ ys).map (Value.int .i64) = xs.map (.int .i64) ++ ys.map (.int .i64) := List.map_append

set_option maxHeartbeats 8000000 in
set_option maxRecDepth 100000 in
theorem law_FnRunLock (v : Value) (bs : List Int) (w : World) (h : Bytes w v bs) :
    Calls Try.prog 10 #[v] w fun e w' => e = .returned (.bool true) ∧ Pure w w' := by
  have H := Lib.hid h
  obtain ⟨A, c, rfl, hnc, hcm⟩ := h.form
  clear h
  by_cases hbig : (bs.length : Int) > 1048576
  · go_enter Try.func10, Try.ntmps10
    go_wp2
    go_ret
    exact ⟨rfl, Pure.refl _⟩
  go_enter Try.func10, Try.ntmps10
  go_wp2_with fail
  refine (draw_DrawRunLock _ bs _ H.out (by omega)).mono ?_
  rintro e w1 ⟨vl, cs, a, vm, mem, rfl, ha0, ha9, hl, hm, hcl, hml, hp1⟩
  have HC := Lib.hid hl
  have HM := Lib.hid hm
  have HP1 := Lib.hid hp1
  obtain ⟨Ac, cc, rfl, hcc1, hcc2⟩ := hl.form
  obtain ⟨Am, cm, rfl⟩ := hm.form
  clear hl hm hp1
  go_wp2_with fail
  refine (irl_any _ _ cs a mem _ HC.out HM.out (by omega) (by omega)).mono ?_
  obtain ⟨wh, Hwh⟩ : ∃ wh, Hid (wholeA cs a mem = wh) := ⟨_, Lib.hid rfl⟩
  obtain ⟨mx, Hmx⟩ : ∃ mx, Hid (memA cs a mem = mx) := ⟨_, Lib.hid rfl⟩
  have hmx := memA_smallJ (cs := cs) (a := a) hml
  rw [Hmx.out] at hmx
  rintro e w2 ⟨v2, rfl, ho2, hp2⟩
  have hi2 : Ints w2 v2 mx := Hmx.out ▸ ints_ownJ ho2
  have HO2 := Lib.hid hi2
  have HP2 := Lib.hid hp2
  obtain ⟨A2, c2, rfl⟩ := hi2.form
  rw [Hwh.out]
  clear ho2 hp2 hi2
  go_wp2_with fail
  refine (srl_any _ _ cs a mem _ (HC.out.keep HP2.out) (HM.out.keep HP2.out) (by omega) (by omega)).mono ?_
  rintro e w3 ⟨v3, rfl, ho3, hp3⟩
  have hi3 : Ints w3 v3 mx := Hmx.out ▸ ints_ownJ ho3
  have HO3 := Lib.hid hi3
  obtain ⟨A3, c3, rfl⟩ := hi3.form
  rw [Hwh.out]
  have HO23 := Lib.hid (Cells.keep HO2.out hp3)
  have HP3 := Lib.hid (HP2.out.trans hp3)
  clear ho3 hp3 hi3
  have hww : (wh != wh) = false := by simp
  go_wp2_with fail
  refine (sameInts_same _ _ mx _ HO23.out HO3.out hmx).mono ?_
  rintro e w4 ⟨rfl, hp4⟩
  have HP4 := Lib.hid (HP3.out.trans hp4)
  have HO24 := Lib.hid (Cells.keep HO23.out hp4)
  clear hp4
  by_cases hok : RunOk cs a mem
  · have HOK := Lib.hid hok
    obtain ⟨n, rfl, hn1, hn8⟩ := lanes_nat hok.2.1
    have HMXL : Hid (mx.length = mem.length) := Lib.hid (by rw [← Hmx.out, memA_ok hok]; simp)
    have HMX : Hid ((List.range mem.length).map (lockOf cs n mem).M = mx) := Lib.hid (by rw [← Hmx.out]; exact (memA_ok hok).symm)
    clear hok
    go_wp2_with fail
    refine (runs_any _ _ cs n mem _ (HC.out.keep HP4.out) (HM.out.keep HP4.out) (by omega) (by omega) true (by simp only [true_iff]; exact HOK.out)).mono ?_
    rintro e w5 ⟨rfl, hp5⟩
    have HP5 := Lib.hid (HP4.out.trans hp5)
    have HO25 := Lib.hid (Cells.keep HO24.out hp5)
    clear hp5
    have HU0 := Lib.hid (OwnO.empty_lit (w := w5) (B := w5.heap.size) (e := 3) (s := 1) (Nat.le_refl _))
    have HD0 : Hid (OwnO ((w5.alloc (.cells #[] 3)).alloc (.cells #[] 3)) w5.heap.size 3 1 (.slice (some ⟨w5.heap.size + 1, 0, none⟩) 0 0) 0 []) := Lib.hid (by
      have h := OwnO.empty_lit (w := w5.alloc (.cells #[] 3)) (B := w5.heap.size) (e := 3) (s := 1) (by simp)
      rw [show (w5.alloc (.cells #[] 3)).heap.size = w5.heap.size + 1 from by simp] at h
      exact h)
    go_wp2_with fail
    go_loopg [12, 10, 11] n (fun gk i vu vd wr => ∃ k : Nat, gk + k = n ∧ i = .int .i64 k ∧ OwnO wr w5.heap.size 3 1 vu k ((upO k).map (.int .i64)) ∧ OwnO wr w5.heap.size 3 1 vd (k * 3) ((dnO n k).map (.int .i64)) ∧ (∀ g, vu.ownBlock = some g → vd.ownBlock ≠ some g) ∧ Pure w5 wr)
    case atStart => exact ⟨0, rfl, rfl, HU0.out.alloc _, HD0.out, fun g h1 h2 => by simp [Value.ownBlock] at h1 h2; omega, by exact (by repeat (first | assumption | exact Pure.refl _ | refine Pure.drewN ?_ _ | refine Pure.drew ?_ | refine Pure.alloc ?_ _ | refine Pure.setCell ?_ (by simp <;> omega) _))⟩
    case round =>
      obtain ⟨k, hgk, rfl, hu, hd, hne, hp⟩ := hrel
      have Hgk := Lib.hid hgk
      have HU := Lib.hid hu
      have HD := Lib.hid hd
      have HNE := Lib.hid hne
      have HP := Lib.hid hp
      have hkn : k ≤ n := by omega
      obtain ⟨Au, cu, rfl⟩ := hu.form
      obtain ⟨Ad, cd, rfl⟩ := hd.form
      clear hgk hu hd hne hp
      by_cases hlt : k < n
      · have hw5 := HP.out.size
        go_wp2_with (first
          | (at_builtin; refine wl_appendLF elInt rfl _ _ rfl w5.heap.size _ (k * 3) _ rfl HDa.out _ 3 _ [.int .i64 ((n : Int) - 1 - k), .int .i64 ((n : Int) - 1 - k), .int .i64 0] rfl rfl rfl rfl (by decide) (by omega) HPa.out.size ?_; intro vd2 wd2 r1 r2 r3)
          | (at_builtin; go_must (refine wl_appendLF elInt rfl _ _ rfl w5.heap.size _ k _ rfl HU.out _ 1 _ [.int .i64 (k : Int)] rfl rfl rfl rfl (by decide) (by omega) hw5 ?_); intro vu2 wu2 r1 r2 r3; have HUa := Lib.hid r1; have HDa := Lib.hid (HD.out.chg (Chg.of_grown r2 (fun k hk => hk)) (fun g hg e => HNE.out g e hg)); have HPa := Lib.hid (HP.out.grown r2 (fun k hk => (HU.out.lt k hk).1)); have HNa : Hid (∀ g, vu2.ownBlock = some g → (Value.slice Ad (k * 3) cd).ownBlock ≠ some g) := Lib.hid (fun g hg e => by
              rcases r3 g hg with h | h
              · exact HNE.out g h e
              · have := (HD.out.lt g e).2; omega); clear r1 r2 r3))
        go_roundg (n - (k + 1))
        case measure => have := Hgk.out; omega
        case rel => exact ⟨k + 1, by have := Hgk.out; omega, by go_num, by rw [upO_succ, List.map_append]; exact HUa.out.chg (Chg.of_grown r2 (fun k hk => hk)) (fun g hg e => HNa.out g hg e), by rw [dnO_succ, List.map_append, Nat.succ_mul]; exact r1, fun g hg e => by
              rcases r3 g e with h | h
              · exact HNa.out g hg h
              · have := (HUa.out.lt g hg).2; omega, HPa.out.grown r2 (fun k hk => (HDa.out.lt k hk).1)⟩
      · have hkl : k = n := by omega
        subst hkl
        have hul : (upO k).length = k := upO_len k
        have hdl : (dnO k k).length = k * 3 := dnO_len k k
        have HUI0 : Hid (Ints wr (.slice Au k cu) (upO k)) := Lib.hid (ints_ownJ (by rw [hul]; exact HU.out))
        have HDI0 : Hid (Ints wr (.slice Ad (k * 3) cd) (dnO k k)) := Lib.hid (ints_ownJ (by rw [hdl]; exact HD.out))
        obtain ⟨od, Hod⟩ : ∃ od, Hid (dnO k k = od) := ⟨_, Lib.hid rfl⟩
        obtain ⟨ou, Hou⟩ : ∃ ou, Hid (upO k = ou) := ⟨_, Lib.hid rfl⟩
        have HDI : Hid (Ints wr (.slice Ad (k * 3) cd) od) := Lib.hid (Hod.out ▸ HDI0.out)
        have HUI : Hid (Ints wr (.slice Au k cu) ou) := Lib.hid (Hou.out ▸ HUI0.out)
        have HOU : Hid (OrdOk ou k) := Lib.hid (Hou.out ▸ up_ok hn1 hn8)
        have HOD : Hid (OrdOk od k) := Lib.hid (Hod.out ▸ dn_ok hn1 hn8)
        clear HDI0 HUI0
        obtain ⟨sf, Hsf⟩ : ∃ sf, Hid (safeA cs k mem = sf) := ⟨_, Lib.hid rfl⟩
        have HP6 := Lib.hid (HP5.out.trans HP.out)
        have HO26 := Lib.hid (Cells.keep HO25.out HP.out)
        have HIS := isafe_any _ _ cs k mem wr (HC.out.keep HP6.out) (HM.out.keep HP6.out) (by omega) (by omega)
        rw [Hsf.out] at HIS
        have HISh := Lib.hid HIS
        clear HIS hul hdl hlt HU HD
        cases sf
        · have hlq : ((mx.length : Int) == (mem.length : Int)) = true := by have := HMXL.out; rw [beq_iff_eq]; omega
          go_wp2_with fail
          refine HISh.out.mono ?_
          rintro e w7 ⟨rfl, hp7⟩
          go_wp2
          go_ret
          exact ⟨rfl, (HP1.out.trans HP6.out).trans hp7⟩
        · have hsf : wholeA cs k mem = true ∧ freeA cs k mem = true := by have := Hsf.out; unfold safeA at this; simpa using this
          have hwh : wh = true := by rw [← Hwh.out]; exact hsf.1
          subst hwh
          have HNS := Lib.hid (nosp_whole HOK.out hsf.1)
          have HFR := Lib.hid (free_safe HOK.out hsf.2)
          clear hsf
          go_wp2_with fail
          refine HISh.out.mono ?_
          rintro e w7 ⟨rfl, hp7⟩
          have HP7 := Lib.hid (HP6.out.trans hp7)
          have HUI7 := Lib.hid (HUI.out.keep hp7)
          have HDI7 := Lib.hid (HDI.out.keep hp7)
          have HO27 := Lib.hid (Cells.keep HO26.out hp7)
          clear hp7
          go_wp2_with fail
          refine (irunord_any _ _ _ cs k mem ou _ (HC.out.keep HP7.out) (HM.out.keep HP7.out) HUI7.out HOK.out HOU.out (lockOf cs k mem).M (fun N hd => order_same HOK.out HNS.out HFR.out (turn_lt HOU.out) hd)).mono ?_
          rintro e w8 ⟨v8, rfl, hi8, hp8⟩
          rw [HMX.out] at hi8
          have HI8 := Lib.hid hi8
          have HP8 := Lib.hid (HP7.out.trans hp8)
          have HDI8 := Lib.hid (HDI7.out.keep hp8)
          have HO28 := Lib.hid (Cells.keep HO27.out hp8)
          clear hi8 hp8
          go_wp2_with fail
          refine (sameInts_same _ _ mx _ HI8.out HO28.out hmx).mono ?_
          rintro e w9 ⟨rfl, hp9⟩
          have HP9 := Lib.hid (HP8.out.trans hp9)
          have HDI9 := Lib.hid (HDI8.out.keep hp9)
          have HO29 := Lib.hid (Cells.keep HO28.out hp9)
          clear hp9
          go_wp2_with fail
          refine (irunord_any _ _ _ cs k mem od _ (HC.out.keep HP9.out) (HM.out.keep HP9.out) HDI9.out HOK.out HOD.out (lockOf cs k mem).M (fun N hd => order_same HOK.out HNS.out HFR.out (turn_lt HOD.out) hd)).mono ?_
          rintro e w10 ⟨v10, rfl, hi10, hp10⟩
          rw [HMX.out] at hi10
          have HI10 := Lib.hid hi10
          have HO210 := Lib.hid (Cells.keep HO29.out hp10)
          have HP10 := Lib.hid (HP9.out.trans hp10)
          clear hi10 hp10
          go_wp2_with fail
          refine (sameInts_same _ _ mx _ HI10.out HO210.out hmx).mono ?_
          rintro e w11 ⟨rfl, hp11⟩
          go_wp2
          go_ret
          exact ⟨rfl, (HP1.out.trans HP10.out).trans hp11⟩
  · have HOK := Lib.hid hok
    have hmx0 : mx = [] := by rw [← Hmx.out]; exact memA_no hok
    have hwh0 : wh = false := by rw [← Hwh.out]; exact wholeA_no hok
    subst hmx0 hwh0
    clear hok
    go_wp2_with fail
    refine (runs_any _ _ cs a mem _ (HC.out.keep HP4.out) (HM.out.keep HP4.out) (by omega) (by omega) false (by simp only [Bool.false_eq_true, false_iff]; exact HOK.out)).mono ?_
    rintro e w5 ⟨rfl, hp5⟩
    go_wp2_with fail
    refine (alive_any _).mono ?_
    rintro e w8 ⟨rfl, hp8⟩
    go_wp2
    go_ret
    exact ⟨rfl, ((HP1.out.trans HP4.out).trans hp5).trans hp8⟩

end Go.Proofs.Ytajaonejpggcbaa

namespace Go.Proofs.Ytajaonejpggcbaa.rowFnRunLock
open Go.ChangeShapes Go.WideShapes Go.ChangeAt Go.RowKit Go.Deep

set_option maxRecDepth 100000 in
theorem lifted (os : Os) (started : os.Started) (H : Type) (enc : TypeId × Value → H) :
    ReturnsInHanded {} Try.checked os 10 .any (Rows.fnRunLockSpec.pre6 enc Try.prog Try.f10 Rows.fnRunLockRow.domain false) (Rows.fnRunLockSpec.post enc Try.prog Try.f10 false true false false) := by
  refine returnsInHanded_of_change (C := Try.checked) own_knob started (by kernel_rfl) Try.func10
    (ChangeSpec.witness6 (enc := enc) (C := Try.checked) false ⟨#[], #[.slice none 0 0], []⟩ 8 (by kernel_rfl) (by kernel_rfl) (by kernel_rfl) (by kernel_rfl)) ?_
  intro W base args ds gs before hval0 hW hcnd _
  have hval : ∀ (j : Nat) t v, Try.f10.params[j]? = some t → args[j]? = some v → Value.okWide Try.prog W .any base t v := hval0
  have hW' := hW
  obtain ⟨p, q, hA0, hV, rfl, hfz, hnd⟩ := hW
  have hA : DataW.TrodAll enc Try.prog W 0 (fun _ => true) true Try.f10.params.toList args.toList ds p := hA0
  rw [Try.params10] at hA hval
  obtain ⟨v0, vs0, d0, ds0, p0, q0, hargs, rfl, rfl, h0, r0⟩ := trodAll_cons hA
  obtain ⟨rfl, rfl, rfl⟩ := trodAll_nil r0
  obtain rfl : args = #[v0] := by cases args; simp_all
  obtain ⟨rfl, rfl⟩ := trodVars_none hV
  have k0 := h0
  have lt0 : ∀ x ∈ p0, x.block < W.heap.size := by obtain ⟨m, hm⟩ := k0; exact DataW.trod_lt m _ _ _ hm
  obtain ⟨A0, len0, cap0, rfl⟩ := okWide_slice Try.underlying50 (hval 0 50 v0 rfl rfl)
  obtain ⟨x0, w0⟩ : ∃ xs, Bytes W (.slice A0 len0 cap0) xs := by
    obtain ⟨fuel, hf⟩ := h0
    obtain ⟨v, xs, hcs, hx⟩ := bytes_open hf
    simp [Value.cells] at hcs
    subst hcs
    exact ⟨xs, hx⟩
  clear hA0 hval0
  refine (law_FnRunLock _ x0 W w0).mono fun e W' ⟨he, bel⟩ => ?_
  subst he
  have bel' : Below W.heap.size W W' := bel
  exact ⟨_, rfl, _, _, _, [], _, [], hW', trodAll_mk1 (shut_bool Try.underlying4 _), (trodAll_cons_mk (Below.trod laid_out (by kernel_rfl) (of_decide_eq_true (by kernel_rfl)) k0 bel' lt0) trodAll_mk0), rfl, bel'.frame _, fun h => by cases h⟩

theorem proved : Rows.FnRunLockSaid :=
  OpenClaim.holds_of_wide 10 Try.f10 rfl rfl rfl rfl rfl rfl rfl ⟨rfl, rfl, rfl, rfl, rfl⟩ rfl rfl rfl rfl rfl (by kernel_rfl) Try.func10 (by kernel_rfl)
    (of_decide_eq_true (by kernel_rfl)) (by unfold Func.isWrapper; rw [if_neg (of_decide_eq_false (by kernel_rfl))]; exact ⟨rfl, rfl⟩)
    (fun os started H enc _ => lifted os started H enc)

end Go.Proofs.Ytajaonejpggcbaa.rowFnRunLock
