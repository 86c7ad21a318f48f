/- The law FnProgramJoin, whole: Two valid programs together are valid. No condition. -/
import Derived.Test.YtkolnakcgjlcgaaKbh
import Derived.Test.YtkolnakcgjlcgaaKcc
import Derived.Test.YtkolnakcgjlcgaaKcd

namespace Go.Proofs.Ytkolnakcgjlcgaa
open Go.RowKit

theorem join_ok {a b : List Cd} (ha : PValid a) (hb : PValid b) (hl : a.length + b.length ≤ 40) : PValid (a ++ b) ∧ ∀ n mem, ∃ X, (lockOf (a ++ b) n mem).H = (lockOf a n mem).H ++ X := by
  obtain ⟨h1, h2, h3⟩ := treeOf_spec ha
  obtain ⟨k1, k2, k3⟩ := treeOf_spec hb
  have hf : ((treeOf a).app (treeOf b)).flat = a ++ b := by rw [app_flat, ← h1, ← k1]
  have hok : ((treeOf a).app (treeOf b)).Ok := app_ok h2 k2
  have hp := valid_of_tree hok (app_depth h3 k3) (by unfold Tr.len; rw [hf]; simpa using hl)
  have ht := treeOf_eq hp rfl hok
  rw [hf] at hp ht
  refine ⟨hp, fun n mem => ?_⟩
  obtain ⟨X, hX⟩ := run_ext n mem.length (treeOf b) (treeOf a).len (2 ^ n - 1) (run n mem.length (treeOf a) 0 (2 ^ n - 1) (startLS mem))
  exact ⟨X, by rw [lockOf_app ht, hX]; rfl⟩
theorem Flat.take2 {w : World} {A : Option Addr} {n c s : Nat} {xs ys : List Value} (h : Flat w (.slice A n c) n s (xs ++ ys)) {k : Nat} (hk : k ≤ n) (hx : xs.length = k * s) : Flat w (.slice A k c) k s xs := by
  obtain ⟨A', c', hv, h1, h2, h3⟩ := h
  injection hv with e1 e2 e3
  subst e1 e3
  refine ⟨A, c, rfl, by omega, h2, fun hk0 => ?_⟩
  obtain ⟨b, o, rfl, hb, hc⟩ := h3 (by omega)
  refine ⟨b, o, rfl, hb, fun j hj => ?_⟩
  have hj2 : j < n * s := Nat.lt_of_lt_of_le hj (Nat.mul_le_mul_right s hk)
  rw [hc j hj2]
  have : j < xs.length := by omega
  simp [List.getD_eq_getElem?_getD, List.getElem?_append_left this]
theorem beats_len (H : List (Nat × Nat × (Nat → Nat → Int))) : (beatsL H).length = H.length * 2 := by
  induction H with
  | nil => rfl
  | cons x r ih =>
    have e : beatsL (x :: r) = .int .i64 (x.1 : Nat) :: .int .i64 (x.2.1 : Nat) :: beatsL r := rfl
    rw [e, List.length_cons, List.length_cons, List.length_cons, ih]; omega
theorem beats_app (H X : List (Nat × Nat × (Nat → Nat → Int))) : beatsL (H ++ X) = beatsL H ++ beatsL X := by simp [beatsL]

set_option maxHeartbeats 1000000 in
theorem joined_any (v v' : Value) (cs ds : List Cd) (w : World) (h : Codes w v cs) (h' : Codes w v' ds) (hs1 : cs.length ≤ 1048576) (hs2 : ds.length ≤ 1048576) (B : Bool) (hB : B = true ↔ (PValid cs ∧ PValid ds ∧ cs.length + ds.length ≤ 40)) :
    Calls Try.prog 53 #[v, v'] w fun e w' => e = .returned (.bool B) ∧ Pure w w' := by
  have H := Lib.hid h
  have H' := Lib.hid h'
  have HB := Lib.hid hB
  obtain ⟨A, c, rfl, hnc, hcm⟩ := h.form
  obtain ⟨A', c', rfl, hnc', hcm'⟩ := h'.form
  clear h h' hB
  go_enter Try.func53, Try.ntmps53
  by_cases hp : PValid cs
  · have HP := Lib.hid hp
    clear hp
    go_wp2_with fail
    refine (spv_any _ cs _ H.out (by omega) true (by simp only [true_iff]; exact HP.out)).mono ?_
    rintro e w1 ⟨rfl, hp1⟩
    have HP1 := Lib.hid hp1
    clear hp1
    by_cases hq : PValid ds
    · have HQ := Lib.hid hq
      clear hq
      go_wp2_with fail
      refine (spv_any _ ds _ (H'.out.keep HP1.out) (by omega) true (by simp only [true_iff]; exact HQ.out)).mono ?_
      rintro e w2 ⟨rfl, hp2⟩
      by_cases hl : cs.length + ds.length ≤ 40
      · have hl2 : (cs.length : Int) + ds.length ≤ 40 := by omega
        have hb : B = true := HB.out.2 ⟨HP.out, HQ.out, hl⟩
        subst hb
        go_wp2
        go_ret
        exact ⟨rfl, HP1.out.trans hp2⟩
      · have hl2 : ¬ (cs.length : Int) + ds.length ≤ 40 := by omega
        have hb : B = false := by cases hB : B with | false => rfl | true => exact absurd (HB.out.1 hB).2.2 hl
        subst hb
        go_wp2
        go_ret
        refine ⟨?_, HP1.out.trans hp2⟩
        show Ending.returned (.bool (decide ((cs.length : Int) + (ds.length : Int) ≤ 40))) = _
        rw [decide_eq_false (by omega)]
    · have HQ := Lib.hid hq
      clear hq
      have hb : B = false := by cases hB : B with | false => rfl | true => exact absurd (HB.out.1 hB).2.1 HQ.out
      subst hb
      go_wp2_with fail
      refine (spv_any _ ds _ (H'.out.keep HP1.out) (by omega) false (by simp [HQ.out])).mono ?_
      rintro e w2 ⟨rfl, hp2⟩
      go_wp2
      go_ret
      exact ⟨rfl, HP1.out.trans hp2⟩
  · have HP := Lib.hid hp
    clear hp
    have hb : B = false := by cases hB : B with | false => rfl | true => exact absurd (HB.out.1 hB).1 HP.out
    subst hb
    go_wp2_with fail
    refine (spv_any _ cs _ H.out (by omega) false (by simp [HP.out])).mono ?_
    rintro e w1 ⟨rfl, hp1⟩
    go_wp2
    go_ret
    exact ⟨rfl, hp1⟩

theorem mem3_ok : MemOk [4, 5, 6] := by simp [MemOk, Word]
theorem lan3_ok : LanesOk 3 := by simp [LanesOk]
theorem ints_lit {w : World} {b n : Nat} {xs : List Int} {t : TypeId} (h : w.heap[b]? = some (.cells (xs.map (.int .i64)).toArray t (0, 0))) (hn : n = xs.length) (hl : n ≤ 1048576) : Ints w (.slice (some ⟨b, 0, none⟩) n n) xs := by
  subst hn
  refine ⟨_, _, rfl, Nat.le_refl _, by omega, fun hn0 => ⟨b, 0, rfl, ?_, fun j hj => ?_⟩⟩
  · exact (Array.getElem?_eq_some_iff.1 h).1
  · have hj' : j < xs.length := by omega
    refine (cell_of_row _ _ _ _ _ _ h).trans ?_
    simp [List.getD_eq_getElem?_getD, hj']
theorem join_cells (cs ds : List Cd) : (List.range (cs.length * 4)).map (cdf cs) ++ (List.range (ds.length * 4)).map (cdf ds) = (cs ++ ds).flatMap cdCells := by
  rw [range_cdf, range_cdf]; simp
theorem join_open {w : World} {B T : Nat} {v : Value} {n : Nat} {cs ds : List Cd} (hT : T = 36) (ho : OwnO w B T 4 v n ((List.range (cs.length * 4)).map (cdf cs) ++ (List.range (ds.length * 4)).map (cdf ds))) (hn : n = (cs ++ ds).length) : Codes w v (cs ++ ds) := by
  subst hT
  rw [join_cells] at ho
  exact Codes.of_ownO ho hn (flat_cdf _)

set_option maxHeartbeats 4000000 in
set_option maxRecDepth 100000 in
theorem law_FnProgramJoin (v : Value) (bs : List Int) (v' : Value) (bs2 : List Int) (w : World) (h : Bytes w v bs) (h2 : Bytes w v' bs2) :
    Calls Try.prog 12 #[v, v'] w fun e w' => e = .returned (.bool true) ∧ Pure w w' := by
  have H := Lib.hid h
  have H2 := Lib.hid h2
  obtain ⟨A, c, rfl, hnc, hcm⟩ := h.form
  obtain ⟨A', c', rfl, hnc', hcm'⟩ := h2.form
  clear h h2
  by_cases hbig : (bs.length : Int) > 1048576
  · go_enter Try.func12, Try.ntmps12
    go_wp2
    go_ret
    exact ⟨rfl, Pure.refl _⟩
  by_cases hbig2 : (bs2.length : Int) > 1048576
  · go_enter Try.func12, Try.ntmps12
    go_wp2
    go_ret
    exact ⟨rfl, Pure.refl _⟩
  go_enter Try.func12, Try.ntmps12
  go_wp2_with fail
  refine (draw_DrawProgramValid _ bs _ H.out (by omega)).mono ?_
  rintro e w1 ⟨vl, cs, rfl, hl, hcl, hp1⟩
  have HC := Lib.hid hl
  have HP1 := Lib.hid hp1
  obtain ⟨Ac, cc, rfl, hcc1, hcc2⟩ := hl.form
  clear hl hp1
  go_wp2_with fail
  refine (draw_DrawProgramValid _ bs2 _ (H2.out.keep HP1.out) (by omega)).mono ?_
  rintro e w2 ⟨vl2, ds, rfl, hl2, hdl, hp2⟩
  have HD := Lib.hid hl2
  have HC2 := Lib.hid (HC.out.keep hp2)
  have HP2 := Lib.hid (HP1.out.trans hp2)
  obtain ⟨Ad, cd, rfl, hcd1, hcd2⟩ := hl2.form
  clear hl2 hp2
  obtain ⟨B, hB⟩ : ∃ B : Bool, B = true ↔ PValid cs := runB cs
  have HB := Lib.hid hB
  clear hB
  go_wp2_with fail
  refine (ipv_any _ cs _ HC2.out (by omega) B HB.out).mono ?_
  rintro e w3 ⟨rfl, hp3⟩
  have HP3 := Lib.hid hp3
  clear hp3
  go_wp2_with fail
  refine (spv_any _ cs _ (HC2.out.keep HP3.out) (by omega) B HB.out).mono ?_
  rintro e w4 ⟨rfl, hp4⟩
  have HP4 := Lib.hid (HP3.out.trans hp4)
  clear hp4
  have hBB : (B != B) = false := by simp
  by_cases hj : PValid cs ∧ PValid ds ∧ cs.length + ds.length ≤ 40
  · have HJ := Lib.hid hj
    have hlen := hj.2.2
    have hjo := join_ok hj.1 hj.2.1 hlen
    obtain ⟨X, hX⟩ := hjo.2 3 [4, 5, 6]
    have h1 : RunOk cs ((3 : Nat) : Int) [4, 5, 6] := ⟨hj.1, lan3_ok, mem3_ok⟩
    have h2 : RunOk (cs ++ ds) ((3 : Nat) : Int) [4, 5, 6] := ⟨hjo.1, lan3_ok, mem3_ok⟩
    obtain ⟨L, hL⟩ : ∃ L, (lockOf cs 3 [4, 5, 6]).H = L := ⟨_, rfl⟩
    rw [hL] at hX
    have HL1 : Hid ((lockA cs 3 [4, 5, 6]).H = L) := Lib.hid (by show (lockA cs ((3 : Nat) : Int) [4, 5, 6]).H = L; rw [lockA_ok h1, hL])
    have HL2 : Hid ((lockA (cs ++ ds) 3 [4, 5, 6]).H = L ++ X) := Lib.hid (by show (lockA (cs ++ ds) ((3 : Nat) : Int) [4, 5, 6]).H = _; rw [lockA_ok h2, hX])
    have HJV := Lib.hid hjo.1
    have hLb : L.length ≤ 2560 := by rw [← hL]; exact lockOf_len hj.1
    clear hj hjo h1 h2 hL hX
    go_wp2_with fail
    refine (joined_any _ _ cs ds _ (HC2.out.keep HP4.out) (HD.out.keep HP4.out) (by omega) (by omega) true (by simp only [true_iff]; exact HJ.out)).mono ?_
    rintro e w5 ⟨rfl, hp5⟩
    have HP5 := Lib.hid (HP4.out.trans hp5)
    have HC5 := Lib.hid (HC2.out.keep (HP4.out.trans hp5))
    have HD5 := Lib.hid (HD.out.keep (HP4.out.trans hp5))
    clear hp5
    go_wp2_with (first
      | (at_builtin; refine wl_appendG elCode rfl _ _ rfl w5.heap.size _ cs.length _ rfl HO6.out _ rfl (cdf ds) ds.length (Cells.keep HD6.out (Pure.refl _)) (cdf_one ds) (by decide) (by omega) HP6.out.size ?_; intro v7 w7 r1 r2)
      | (at_builtin; go_must (refine wl_copyF elCode rfl _ _ rfl w5.heap.size rfl rfl _ rfl (cdf cs) cs.length (Cells.keep HC5.out (Pure.refl _)) (cdf_one cs) (by decide) (by omega) rfl ?_); intro v6 w6 r1 r2; go_must (have HO6 := Lib.hid r1); go_must (have HP6 := Lib.hid r2); go_must (have HD6 := Lib.hid (HD5.out.keep r2)); clear r1 r2))
    have HP7 := Lib.hid (HP6.out.grown r2 (fun k hk => (HO6.out.lt k hk).1))
    have HC7 := Lib.hid (join_open rfl r1 (by simp))
    clear r1 r2
    obtain ⟨es, Hes⟩ : ∃ es, Hid (cs ++ ds = es) := ⟨_, Lib.hid rfl⟩
    have hes : es.length ≤ 1048576 := by rw [← Hes.out]; simp; omega
    rw [Hes.out] at HC7 HL2 HJV
    obtain ⟨A7, c7, rfl, hc71, hc72⟩ := HC7.out.form
    have HCQ := Lib.hid (HC5.out.keep HP7.out)
    have HM7 := Lib.hid (ints_lit (xs := [4, 5, 6]) (n := 3) (heap_alloc_new w7 (.cells #[.int .i64 4, .int .i64 5, .int .i64 6] 3)) rfl (by decide))
    have HPA := Lib.hid (show Pure w7 (w7.alloc (.cells #[.int .i64 4, .int .i64 5, .int .i64 6] 3)) from (by repeat (first | assumption | exact Pure.refl _ | refine Pure.drewN ?_ _ | refine Pure.drew ?_ | refine Pure.alloc ?_ _ | refine Pure.setCell ?_ (by simp <;> omega) _)))
    refine (itra_any _ _ cs 3 [4, 5, 6] _ (HCQ.out.keep HPA.out) HM7.out (by omega) (by decide)).mono ?_
    rintro e w8 ⟨v8, rfl, ho8, hp8⟩
    rw [HL1.out] at ho8
    have HF8 := Lib.hid (Flat.of_own ho8)
    have HP8 := Lib.hid (HPA.out.trans hp8)
    obtain ⟨A8, c8, rfl, hn8, hm8⟩ := HF8.out.form
    clear ho8 hp8
    have HM8 := Lib.hid (ints_lit (xs := [4, 5, 6]) (n := 3) (heap_alloc_new w8 (.cells #[.int .i64 4, .int .i64 5, .int .i64 6] 3)) rfl (by decide))
    have HPB := Lib.hid (show Pure w8 (w8.alloc (.cells #[.int .i64 4, .int .i64 5, .int .i64 6] 3)) from (by repeat (first | assumption | exact Pure.refl _ | refine Pure.drewN ?_ _ | refine Pure.drew ?_ | refine Pure.alloc ?_ _ | refine Pure.setCell ?_ (by simp <;> omega) _)))
    go_wp2_with fail
    refine (itra_any _ _ es 3 [4, 5, 6] _ (HC7.out.keep (HP8.out.trans HPB.out)) HM8.out hes (by decide)).mono ?_
    rintro e w9 ⟨v9, rfl, ho9, hp9⟩
    rw [HL2.out] at ho9
    have HF9 := Lib.hid (Flat.of_own ho9)
    have HP9 := Lib.hid ((HP8.out.trans HPB.out).trans hp9)
    have HF89 := Lib.hid (HF8.out.keep (HPB.out.trans hp9))
    obtain ⟨A9, c9, rfl, hn9, hm9⟩ := HF9.out.form
    clear ho9 hp9
    go_wp2_with fail
    refine (ipv_any _ es _ (HC7.out.keep HP9.out) hes true (by simp only [true_iff]; exact HJV.out)).mono ?_
    rintro e w10 ⟨rfl, hp10⟩
    have HP10 := Lib.hid (HP9.out.trans hp10)
    have HS1 := Lib.hid (HF89.out.keep hp10)
    have hle : L.length ≤ (L ++ X).length := by simp
    have hle2 : (L.length : Int) ≤ (L.length : Int) + (X.length : Int) := by omega
    have HS2 : Hid (Flat w10 (.slice A9 L.length c9) L.length 2 (beatsL L)) := Lib.hid (by
      have := HF9.out.keep hp10
      rw [beats_app] at this
      exact this.take2 hle (beats_len L))
    rw [List.length_append] at hn9
    have hnl : (L.length : Int) ≤ (c9 : Int) := by omega
    have hnl0 : (0 : Int) ≤ (L.length : Int) := by omega
    clear hp10
    go_wp2_with fail
    refine (sameBeats_same _ _ L _ HS2.out HS1.out).mono ?_
    rintro e w11 ⟨rfl, hp11⟩
    go_wp2
    go_ret
    exact ⟨rfl, ((((HP2.out.trans HP5.out).trans HP7.out).trans HP10.out)).trans hp11⟩
  · have HJ := Lib.hid hj
    clear hj
    go_wp2_with fail
    refine (joined_any _ _ cs ds _ (HC2.out.keep HP4.out) (HD.out.keep HP4.out) (by omega) (by omega) false (by simp only [Bool.false_eq_true, false_iff]; exact HJ.out)).mono ?_
    rintro e w5 ⟨rfl, hp5⟩
    go_wp2_with fail
    refine (alive_any _).mono ?_
    rintro e w6 ⟨rfl, hp6⟩
    go_wp2
    go_ret
    exact ⟨rfl, ((HP2.out.trans HP4.out).trans hp5).trans hp6⟩

end Go.Proofs.Ytkolnakcgjlcgaa

namespace Go.Proofs.Ytkolnakcgjlcgaa.rowFnProgramJoin
open Go.ChangeShapes Go.WideShapes Go.ChangeAt Go.RowKit Go.Deep

set_option maxRecDepth 100000 in
theorem lifted (os : Os) (started : os.Started) (H : Type) (enc : TypeId × Value → H) :
    ReturnsInHanded {} Try.checked os 12 .any (Rows.fnProgramJoinSpec.pre6 enc Try.prog Try.f12 Rows.fnProgramJoinRow.domain false) (Rows.fnProgramJoinSpec.post enc Try.prog Try.f12 false true false false) := by
  refine returnsInHanded_of_change (C := Try.checked) own_knob started (by kernel_rfl) Try.func12
    (ChangeSpec.witness6 (enc := enc) (C := Try.checked) false ⟨#[], #[.slice none 0 0, .slice none 0 0], []⟩ 8 (by kernel_rfl) (by kernel_rfl) (by kernel_rfl) (by kernel_rfl)) ?_
  intro W base args ds gs before hval0 hW hcnd _
  have hval : ∀ (j : Nat) t v, Try.f12.params[j]? = some t → args[j]? = some v → Value.okWide Try.prog W .any base t v := hval0
  have hW' := hW
  obtain ⟨p, q, hA0, hV, rfl, hfz, hnd⟩ := hW
  have hA : DataW.TrodAll enc Try.prog W 0 (fun _ => true) true Try.f12.params.toList args.toList ds p := hA0
  rw [Try.params12] at hA hval
  obtain ⟨v0, vs0, d0, ds0, p0, q0, hargs, rfl, rfl, h0, r0⟩ := trodAll_cons hA
  obtain ⟨v1, vs1, d1, ds1, p1, q1, rfl, rfl, rfl, h1, r1⟩ := trodAll_cons r0
  obtain ⟨rfl, rfl, rfl⟩ := trodAll_nil r1
  obtain rfl : args = #[v0, v1] := by cases args; simp_all
  obtain ⟨rfl, rfl⟩ := trodVars_none hV
  have k0 := h0
  have lt0 : ∀ x ∈ p0, x.block < W.heap.size := by obtain ⟨m, hm⟩ := k0; exact DataW.trod_lt m _ _ _ hm
  obtain ⟨A0, len0, cap0, rfl⟩ := okWide_slice Try.underlying22 (hval 0 22 v0 rfl rfl)
  obtain ⟨x0, w0⟩ : ∃ xs, Bytes W (.slice A0 len0 cap0) xs := by
    obtain ⟨fuel, hf⟩ := h0
    obtain ⟨v, xs, hcs, hx⟩ := bytes_open hf
    simp [Value.cells] at hcs
    subst hcs
    exact ⟨xs, hx⟩
  have k1 := h1
  have lt1 : ∀ x ∈ p1, x.block < W.heap.size := by obtain ⟨m, hm⟩ := k1; exact DataW.trod_lt m _ _ _ hm
  obtain ⟨A1, len1, cap1, rfl⟩ := okWide_slice Try.underlying22 (hval 1 22 v1 rfl rfl)
  obtain ⟨x1, w1⟩ : ∃ xs, Bytes W (.slice A1 len1 cap1) xs := by
    obtain ⟨fuel, hf⟩ := h1
    obtain ⟨v, xs, hcs, hx⟩ := bytes_open hf
    simp [Value.cells] at hcs
    subst hcs
    exact ⟨xs, hx⟩
  clear hA0 hval0
  refine (law_FnProgramJoin _ x0 _ x1 W w0 w1).mono fun e W' ⟨he, bel⟩ => ?_
  subst he
  have bel' : Below W.heap.size W W' := bel
  exact ⟨_, rfl, _, _, _, [], _, [], hW', trodAll_mk1 (shut_bool Try.underlying4 _), (trodAll_cons_mk (Below.trod laid_out (by kernel_rfl) (of_decide_eq_true (by kernel_rfl)) k0 bel' lt0) (trodAll_cons_mk (Below.trod laid_out (by kernel_rfl) (of_decide_eq_true (by kernel_rfl)) k1 bel' lt1) trodAll_mk0)), rfl, bel'.frame _, fun h => by cases h⟩

theorem proved : Rows.FnProgramJoinSaid :=
  OpenClaim.holds_of_wide 12 Try.f12 rfl rfl rfl rfl rfl rfl rfl ⟨rfl, rfl, rfl, rfl, rfl⟩ rfl rfl rfl rfl rfl (by kernel_rfl) Try.func12 (by kernel_rfl)
    (of_decide_eq_true (by kernel_rfl)) (by unfold Func.isWrapper; rw [if_neg (of_decide_eq_false (by kernel_rfl))]; exact ⟨rfl, rfl⟩)
    (fun os started H enc _ => lifted os started H enc)

end Go.Proofs.Ytkolnakcgjlcgaa.rowFnProgramJoin
