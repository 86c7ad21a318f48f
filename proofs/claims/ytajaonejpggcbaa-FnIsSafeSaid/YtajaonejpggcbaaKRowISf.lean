/- The law FnIsSafe, whole: Safe programs do not depend on the order No condition. -/
import Derived.Test.YtajaonejpggcbaaKbj
import Derived.Test.YtajaonejpggcbaaKca
import Derived.Test.YtajaonejpggcbaaKde
import Derived.Test.YtajaonejpggcbaaKdg

namespace Go.Proofs.Ytajaonejpggcbaa
open Go.RowKit

theorem mem_getD1 {xs : List Int} {j : Nat} (h : j < xs.length) : xs.getD j 0 ∈ xs := by simp [List.getD_eq_getElem?_getD, h]
theorem turn_all {xs : List Int} {n d : Nat} (h1 : 1 ≤ n) (h8 : n ≤ 8) (hl : xs.length ≤ 40) (hr : ∀ x ∈ xs, 0 ≤ x ∧ x < n) (ho : ∀ i, i < n → (((i + d) % n : Nat) : Int) ∈ xs) : OrdOk xs n := by
  refine ⟨h1, h8, hl, fun j hj => hr _ (mem_getD1 hj), fun l hlt => ?_⟩
  have hm : ((l + n - d % n) % n + d) % n = l := by
    have h2 := Nat.mod_lt d (show 0 < n by omega)
    have h3 := Nat.div_add_mod d n
    rw [Nat.add_mod, Nat.mod_mod, ← Nat.add_mod]
    have : l + n - d % n + d = l + n * (d / n + 1) := by rw [Nat.mul_add]; omega
    rw [this, Nat.add_mul_mod_self_left]
    exact Nat.mod_eq_of_lt hlt
  have := ho ((l + n - d % n) % n) (Nat.mod_lt _ (by omega))
  rw [hm] at this
  obtain ⟨j, hj, e⟩ := List.getElem_of_mem this
  exact ⟨j, hj, by simp [List.getD_eq_getElem?_getD, hj, e]⟩
theorem snoc_len (xs : List Int) (x : Int) : (xs ++ [x]).length = xs.length + 1 := by simp
theorem snoc_in {xs : List Int} {y : Int} {n : Nat} (h : ∀ x ∈ xs, 0 ≤ x ∧ x < n) (hy : 0 ≤ y ∧ y < n) : ∀ x ∈ xs ++ [y], 0 ≤ x ∧ x < n := fun x hx => by
  rcases List.mem_append.1 hx with hx | hx
  · exact h x hx
  · simp at hx; rw [hx]; exact hy

def Has (ys : List Int) (n d j : Nat) : Prop := ∀ i, i < j → (((i + d) % n : Nat) : Int) ∈ ys
theorem Has.snoc {ys : List Int} {n d j : Nat} (h : Has ys n d j) : Has (ys ++ [(((j + d) % n : Nat) : Int)]) n d (j + 1) := fun i hi => by
  rcases Nat.lt_or_ge i j with h1 | h1
  · exact List.mem_append_left _ (h i h1)
  · have : i = j := by omega
    subst this
    simp
theorem has_ok {xs ys : List Int} {n d k : Nat} (h1 : 1 ≤ n) (h8 : n ≤ 8) (hxl : xs.length = k) (hk : k ≤ 20) (hyl : ys.length = n) (hx : ∀ x ∈ xs, 0 ≤ x ∧ x < n) (hy : ∀ x ∈ ys, 0 ≤ x ∧ x < n) (hh : Has ys n d n) : OrdOk (xs ++ ys) n :=
  turn_all (d := d) h1 h8 (by rw [List.length_append]; omega) (fun x h => (List.mem_append.1 h).elim (hx x) (hy x)) (fun i hi => List.mem_append_right _ (hh i hi))

set_option maxHeartbeats 8000000 in
set_option maxRecDepth 100000 in
theorem law_FnIsSafe (v : Value) (bs : List Int) (v' : Value) (bs2 : List Int) (w : World) (h : Bytes w v bs) (h2 : Bytes w v' bs2) :
    Calls Try.prog 11 #[v, v'] w fun e w' => e = .returned (.bool true) ∧ Pure w w' := by
  have H := Lib.hid h
  have H2 := Lib.hid h2
  obtain ⟨A, c, rfl, hnc, hcm⟩ := h.form
  obtain ⟨A', c', rfl, hnc', hcm'⟩ := h2.form
  clear h h2
  by_cases hbig : (bs.length : Int) > 1048576
  · go_enter Try.func11, Try.ntmps11
    go_wp2
    go_ret
    exact ⟨rfl, Pure.refl _⟩
  by_cases hbig2 : (bs2.length : Int) > 1048576
  · go_enter Try.func11, Try.ntmps11
    go_wp2
    go_ret
    exact ⟨rfl, Pure.refl _⟩
  go_enter Try.func11, Try.ntmps11
  go_wp2_with fail
  refine (draw_DrawIsSafe _ bs _ H.out (by omega)).mono ?_
  rintro e w1 ⟨vl, cs, a, vm, mem, rfl, ha0, ha9, hl, hm, hcl, hml, hp1⟩
  have HC := Lib.hid hl
  have HM := Lib.hid hm
  have HP1 := Lib.hid hp1
  have H21 := Lib.hid (H2.out.keep hp1)
  obtain ⟨Ac, cc, rfl, hcc1, hcc2⟩ := hl.form
  obtain ⟨Am, cm, rfl⟩ := hm.form
  clear hl hm hp1
  go_wp2_with fail
  refine (isafe_any _ _ cs a mem _ HC.out HM.out (by omega) (by omega)).mono ?_
  obtain ⟨sf, Hsf⟩ : ∃ sf, Hid (safeA cs a mem = sf) := ⟨_, Lib.hid rfl⟩
  rintro e w2 ⟨rfl, hp2⟩
  rw [Hsf.out]
  have HP2 := Lib.hid hp2
  clear hp2
  go_wp2_with fail
  refine (ssafe_any _ _ cs a mem _ (HC.out.keep HP2.out) (HM.out.keep HP2.out) (by omega) (by omega)).mono ?_
  rintro e w3 ⟨rfl, hp3⟩
  rw [Hsf.out]
  have HP3 := Lib.hid (HP2.out.trans hp3)
  have hww : (sf != sf) = false := by simp
  clear hp3
  cases sf
  · go_wp2_with fail
    refine (alive_any _).mono ?_
    rintro e w9 ⟨rfl, hp9⟩
    go_wp2
    go_ret
    exact ⟨rfl, (HP1.out.trans HP3.out).trans hp9⟩
  have hsf : wholeA cs a mem = true ∧ freeA cs a mem = true := by have := Hsf.out; unfold safeA at this; simpa using this
  have hok : RunOk cs a mem := Classical.byContradiction fun hn => by rw [wholeA_no hn] at hsf; cases hsf.1
  have HOK := Lib.hid hok
  obtain ⟨n, rfl, hn1, hn8⟩ := lanes_nat hok.2.1
  have HNS := Lib.hid (nosp_whole hok hsf.1)
  have HFR := Lib.hid (free_safe hok hsf.2)
  have HWH := Lib.hid hsf.1
  obtain ⟨mx, Hmx⟩ : ∃ mx, Hid (memA cs n mem = mx) := ⟨_, Lib.hid rfl⟩
  have hmx := memA_smallJ (cs := cs) (a := n) hml
  rw [Hmx.out] at hmx
  have HMX : Hid ((List.range mem.length).map (lockOf cs n mem).M = mx) := Lib.hid (by rw [← Hmx.out]; exact (memA_ok hok).symm)
  have HLM : Hid (leastMem cs n mem = mx) := Lib.hid (by rw [← Hmx.out]; exact leastMem_lock hok HNS.out)
  have hnn : ¬ ((n : Int) = 0) := by omega
  clear hok hsf
  have HU0 := Lib.hid (OwnO.empty_lit (w := w3) (B := w3.heap.size) (e := 3) (s := 1) (Nat.le_refl _))
  have H23 := Lib.hid (H21.out.keep HP3.out)
  go_wp2_with fail
  go_loopg [10, 9] bs2.length (fun gk i vo wr => ∃ (k : Nat) (xs : List Int), gk + k = bs2.length ∧ i = .int .i64 k ∧ OwnO wr w3.heap.size 3 1 vo k (xs.map (.int .i64)) ∧ xs.length = k ∧ k ≤ 20 ∧ (∀ x ∈ xs, 0 ≤ x ∧ x < n) ∧ Pure w3 wr)
  case atStart => exact ⟨0, [], rfl, rfl, HU0.out, rfl, by omega, by simp, by exact (by repeat (first | assumption | exact Pure.refl _ | refine Pure.drewN ?_ _ | refine Pure.drew ?_ | refine Pure.alloc ?_ _ | refine Pure.setCell ?_ (by simp <;> omega) _))⟩
  case round =>
    obtain ⟨k, xs, hgk, rfl, ho, hxl, hk20, hin, hp⟩ := hrel
    have Hgk := Lib.hid hgk
    have HO := Lib.hid ho
    have HXL := Lib.hid hxl
    have HIN := Lib.hid hin
    have HP := Lib.hid hp
    have hkn : k ≤ bs2.length := by omega
    obtain ⟨Ao, co, rfl⟩ := ho.form
    clear hgk ho hxl hin hp
    by_cases hlt : k < bs2.length ∧ k < 20
    · obtain ⟨hlt1, hlt2⟩ := hlt
      obtain ⟨b, o, rfl, hb, hc⟩ := H23.out.at_ hlt1
      have hx := keepPc HP.out (hc k hlt1)
      obtain ⟨hx0, hx255⟩ := H23.out.range hlt1
      obtain ⟨x, Hx⟩ : ∃ x, Hid (bs2.getD k 0 = x) := ⟨_, Lib.hid rfl⟩
      rw [Hx.out] at hx hx0 hx255
      have hrem : Int.tmod x (n : Int) = x % (n : Int) := Int.tmod_eq_emod_of_nonneg hx0
      obtain ⟨y, Hy⟩ : ∃ y, Hid (x % (n : Int) = y) := ⟨_, Lib.hid rfl⟩
      have hy0 : 0 ≤ y := by rw [← Hy.out]; exact Int.emod_nonneg _ hnn
      have hy1 : y < n := by rw [← Hy.out]; exact Int.emod_lt_of_pos _ (by omega)
      rw [Hy.out] at hrem
      have hw3 := HP.out.size
      have hwr8 : wrap64 x = x := by unfold wrap64; omega
      have hkl1 : (k : Int) < (bs2.length : Int) := by omega
      have hkl2 : (k : Int) < 20 := by omega
      have hk0 : (0 : Int) ≤ (k : Int) := by omega
      clear hc
      go_wp2_with (at_builtin; go_must (refine wl_append1F elInt rfl _ _ rfl w3.heap.size _ k (xs.map (.int .i64)) rfl HO.out wr.heap.size 1 [.int .i64 y] rfl rfl rfl rfl (by decide) (by omega) hw3 ?_); intro v9 w9 r1 r2 r3; go_must (obtain ⟨A9, c9, rfl⟩ := r1.form; have HO9 := Lib.hid r1; have HP9 := Lib.hid (HP.out.grown r2 (fun k hk => (HO.out.lt k hk).1)); clear r1 r2 r3))
      go_roundg (bs2.length - (k + 1))
      case measure => have := Hgk.out; omega
      case rel => exact ⟨k + 1, xs ++ [y], by have := Hgk.out; omega, by go_num, by rw [List.map_append]; exact HO9.out, by rw [snoc_len, HXL.out], by omega, snoc_in HIN.out ⟨hy0, hy1⟩, HP9.out⟩
    · have hor : ¬ k < bs2.length ∨ (k < bs2.length ∧ ¬ k < 20) := by omega
      have hk0 : (0 : Int) ≤ (k : Int) := by omega
      have hl0 : (bs2.length : Int) ≤ 1048576 := by omega
      have hw3 := HP.out.size
      rcases hor with hge | ⟨hlt1, hge⟩
      all_goals
        clear HU0
        obtain ⟨wq, rfl⟩ : ∃ wq, wq = wr := ⟨_, rfl⟩
        go_wp2_with fail
        go_loopg [11, 9] n (fun gk i vo wr' => ∃ (j : Nat) (ys : List Int), gk + j = n ∧ i = .int .i64 j ∧ OwnO wr' w3.heap.size 3 1 vo (k + j) ((xs ++ ys).map (.int .i64)) ∧ ys.length = j ∧ (∀ y ∈ ys, 0 ≤ y ∧ y < n) ∧ Has ys n bs2.length j ∧ Pure w3 wr')
        case atStart => exact ⟨0, [], rfl, rfl, by rw [List.append_nil]; exact HO.out, rfl, by simp, fun i hi => absurd hi (Nat.not_lt_zero _), HP.out⟩
        case round =>
          obtain ⟨j, ys, hgj, rfl, ho, hyl, hin, hhas, hp⟩ := hrel
          have Hgj := Lib.hid hgj
          have HO2 := Lib.hid ho
          have HYL := Lib.hid hyl
          have HIY := Lib.hid hin
          have HHY := Lib.hid hhas
          have HPj := Lib.hid hp
          have hjn : j ≤ n := by omega
          obtain ⟨Ao2, co2, rfl⟩ := ho.form
          clear hgj ho hyl hin hhas hp
          by_cases hlt : j < n
          · have hwj := HPj.out.size
            obtain ⟨y, Hy⟩ : ∃ y : Nat, Hid ((j + bs2.length) % n = y) := ⟨_, Lib.hid rfl⟩
            have hrem : Int.tmod ((j : Int) + (bs2.length : Int)) (n : Int) = (y : Int) := by
              rw [Int.tmod_eq_emod_of_nonneg (by omega), ← Hy.out]; simp
            have hy1 : y < n := by rw [← Hy.out]; exact Nat.mod_lt _ (by omega)
            go_wp2_with (at_builtin; go_must (refine wl_append1F elInt rfl _ _ rfl w3.heap.size _ (k + j) ((xs ++ ys).map (.int .i64)) rfl HO2.out wr.heap.size 1 [.int .i64 y] rfl rfl rfl rfl (by decide) (by omega) hwj ?_); intro v9 w9 r1 r2 r3; go_must (obtain ⟨A9, c9, rfl⟩ := r1.form; have HO9 := Lib.hid r1; have HP9 := Lib.hid (HPj.out.grown r2 (fun k hk => (HO2.out.lt k hk).1)); clear r1 r2 r3))
            go_roundg (n - (j + 1))
            case measure => have := Hgj.out; omega
            case rel => exact ⟨j + 1, ys ++ [(y : Int)], by have := Hgj.out; omega, by go_num, by rw [← List.append_assoc, List.map_append]; exact HO9.out, by rw [snoc_len, HYL.out], snoc_in HIY.out (by omega), by rw [← Hy.out]; exact HHY.out.snoc, HP9.out⟩
          · have hjl : j = n := by omega
            clear hlt
            subst hjl
            have HOO := Lib.hid (has_ok hn1 hn8 HXL.out hk20 HYL.out HIN.out HIY.out HHY.out)
            have hxyl : (xs ++ ys).length = k + j := by rw [List.length_append, HXL.out, HYL.out]
            have HOI : Hid (Ints wr (.slice Ao2 (k + j) co2) (xs ++ ys)) := Lib.hid (ints_ownJ (by rw [hxyl]; exact HO2.out))
            have HP4 := Lib.hid (HP3.out.trans HPj.out)
            go_wp2_with fail
            refine (irl_any _ _ cs j mem _ (HC.out.keep HP4.out) (HM.out.keep HP4.out) (by omega) (by omega)).mono ?_
            rintro e w5 ⟨v5, rfl, ho5, hp5⟩
            rw [HWH.out]
            rw [Hmx.out] at ho5
            have hi5 := ints_ownJ ho5
            have HI5 := Lib.hid hi5
            have HP5 := Lib.hid (HP4.out.trans hp5)
            have HOI5 := Lib.hid (HOI.out.keep hp5)
            obtain ⟨A5, c5, rfl⟩ := hi5.form
            clear ho5 hp5 hi5
            go_wp2_with fail
            refine (irleast_any _ _ cs j mem _ (HC.out.keep HP5.out) (HM.out.keep HP5.out) (by omega) (by omega)).mono ?_
            rw [HLM.out]
            rintro e w6 ⟨v6, rfl, ho6, hp6⟩
            have hi6 := ints_ownJ ho6
            have HI6 := Lib.hid hi6
            have HI56 := Lib.hid (Cells.keep HI5.out hp6)
            have HP6 := Lib.hid (HP5.out.trans hp6)
            have HOI6 := Lib.hid (HOI5.out.keep hp6)
            clear ho6 hp6 hi6
            go_wp2_with fail
            refine (sameInts_same _ _ mx _ HI6.out HI56.out hmx).mono ?_
            rintro e w7 ⟨rfl, hp7⟩
            have HI57 := Lib.hid (Cells.keep HI56.out hp7)
            have HP7 := Lib.hid (HP6.out.trans hp7)
            have HOI7 := Lib.hid (HOI6.out.keep hp7)
            clear hp7
            go_wp2_with fail
            refine (irunord_any _ _ _ cs j mem (xs ++ ys) _ (HC.out.keep HP7.out) (HM.out.keep HP7.out) HOI7.out HOK.out HOO.out (lockOf cs j mem).M (fun N hd => order_same HOK.out HNS.out HFR.out (turn_lt HOO.out) hd)).mono ?_
            rw [HMX.out]
            rintro e w8 ⟨v8, rfl, hi8, hp8⟩
            have HI8 := Lib.hid hi8
            have HI58 := Lib.hid (Cells.keep HI57.out hp8)
            have HP8 := Lib.hid (HP7.out.trans hp8)
            clear hi8 hp8
            go_wp2_with fail
            refine (sameInts_same _ _ mx _ HI8.out HI58.out hmx).mono ?_
            rintro e w9 ⟨rfl, hp9⟩
            go_wp2
            go_ret
            exact ⟨rfl, (HP1.out.trans HP8.out).trans hp9⟩

end Go.Proofs.Ytajaonejpggcbaa

namespace Go.Proofs.Ytajaonejpggcbaa.rowFnIsSafe
open Go.ChangeShapes Go.WideShapes Go.ChangeAt Go.RowKit Go.Deep

set_option maxRecDepth 100000 in
theorem lifted (os : Os) (started : os.Started) (H : Type) (enc : TypeId × Value → H) :
    ReturnsInHanded {} Try.checked os 11 .any (Rows.fnIsSafeSpec.pre6 enc Try.prog Try.f11 Rows.fnIsSafeRow.domain false) (Rows.fnIsSafeSpec.post enc Try.prog Try.f11 false true false false) := by
  refine returnsInHanded_of_change (C := Try.checked) own_knob started (by kernel_rfl) Try.func11
    (ChangeSpec.witness6 (enc := enc) (C := Try.checked) false ⟨#[], #[.slice none 0 0, .slice none 0 0], []⟩ 8 (by kernel_rfl) (by kernel_rfl) (by kernel_rfl) (by kernel_rfl)) ?_
  intro W base args ds gs before hval0 hW hcnd _
  have hval : ∀ (j : Nat) t v, Try.f11.params[j]? = some t → args[j]? = some v → Value.okWide Try.prog W .any base t v := hval0
  have hW' := hW
  obtain ⟨p, q, hA0, hV, rfl, hfz, hnd⟩ := hW
  have hA : DataW.TrodAll enc Try.prog W 0 (fun _ => true) true Try.f11.params.toList args.toList ds p := hA0
  rw [Try.params11] at hA hval
  obtain ⟨v0, vs0, d0, ds0, p0, q0, hargs, rfl, rfl, h0, r0⟩ := trodAll_cons hA
  obtain ⟨v1, vs1, d1, ds1, p1, q1, rfl, rfl, rfl, h1, r1⟩ := trodAll_cons r0
  obtain ⟨rfl, rfl, rfl⟩ := trodAll_nil r1
  obtain rfl : args = #[v0, v1] := by cases args; simp_all
  obtain ⟨rfl, rfl⟩ := trodVars_none hV
  have k0 := h0
  have lt0 : ∀ x ∈ p0, x.block < W.heap.size := by obtain ⟨m, hm⟩ := k0; exact DataW.trod_lt m _ _ _ hm
  obtain ⟨A0, len0, cap0, rfl⟩ := okWide_slice Try.underlying50 (hval 0 50 v0 rfl rfl)
  obtain ⟨x0, w0⟩ : ∃ xs, Bytes W (.slice A0 len0 cap0) xs := by
    obtain ⟨fuel, hf⟩ := h0
    obtain ⟨v, xs, hcs, hx⟩ := bytes_open hf
    simp [Value.cells] at hcs
    subst hcs
    exact ⟨xs, hx⟩
  have k1 := h1
  have lt1 : ∀ x ∈ p1, x.block < W.heap.size := by obtain ⟨m, hm⟩ := k1; exact DataW.trod_lt m _ _ _ hm
  obtain ⟨A1, len1, cap1, rfl⟩ := okWide_slice Try.underlying50 (hval 1 50 v1 rfl rfl)
  obtain ⟨x1, w1⟩ : ∃ xs, Bytes W (.slice A1 len1 cap1) xs := by
    obtain ⟨fuel, hf⟩ := h1
    obtain ⟨v, xs, hcs, hx⟩ := bytes_open hf
    simp [Value.cells] at hcs
    subst hcs
    exact ⟨xs, hx⟩
  clear hA0 hval0
  refine (law_FnIsSafe _ x0 _ x1 W w0 w1).mono fun e W' ⟨he, bel⟩ => ?_
  subst he
  have bel' : Below W.heap.size W W' := bel
  exact ⟨_, rfl, _, _, _, [], _, [], hW', trodAll_mk1 (shut_bool Try.underlying4 _), (trodAll_cons_mk (Below.trod laid_out (by kernel_rfl) (of_decide_eq_true (by kernel_rfl)) k0 bel' lt0) (trodAll_cons_mk (Below.trod laid_out (by kernel_rfl) (of_decide_eq_true (by kernel_rfl)) k1 bel' lt1) trodAll_mk0)), rfl, bel'.frame _, fun h => by cases h⟩

theorem proved : Rows.FnIsSafeSaid :=
  OpenClaim.holds_of_wide 11 Try.f11 rfl rfl rfl rfl rfl rfl rfl ⟨rfl, rfl, rfl, rfl, rfl⟩ rfl rfl rfl rfl rfl (by kernel_rfl) Try.func11 (by kernel_rfl)
    (of_decide_eq_true (by kernel_rfl)) (by unfold Func.isWrapper; rw [if_neg (of_decide_eq_false (by kernel_rfl))]; exact ⟨rfl, rfl⟩)
    (fun os started H enc _ => lifted os started H enc)

end Go.Proofs.Ytajaonejpggcbaa.rowFnIsSafe
