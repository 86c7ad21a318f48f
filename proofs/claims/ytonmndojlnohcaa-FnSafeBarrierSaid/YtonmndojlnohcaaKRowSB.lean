/- The law FnSafeBarrier, whole: Further barriers keep programs safe. No condition. -/
import Derived.Test.YtonmndojlnohcaaKca
import Derived.Test.YtonmndojlnohcaaKcb
import Derived.Test.YtonmndojlnohcaaKcc
import Derived.Test.YtonmndojlnohcaaKcd
import Derived.Test.YtonmndojlnohcaaKce
import Derived.Test.YtonmndojlnohcaaKcf

namespace Go.Proofs.Ytonmndojlnohcaa
open Go.RowKit

theorem codes_one {w : World} {b : Nat} {c : Cd} {t : TypeId} (h : w.heap[b]? = some (.cells #[.int .i64 c.op, .int .i64 c.a, .int .i64 c.b, .int .i64 c.c] t (0, 0))) : Codes w (.slice (some ⟨b, 0, none⟩) 1 1) [c] := by
  refine ⟨_, _, rfl, Nat.le_refl _, by decide, fun _ => ⟨b, 0, rfl, ?_, fun j hj => ?_⟩⟩
  · exact (Array.getElem?_eq_some_iff.1 h).1
  · have hc := flat_cdf [c] j hj
    have e : [c].flatMap cdCells = [.int .i64 c.op, .int .i64 c.a, .int .i64 c.b, .int .i64 c.c] := rfl
    rw [e] at hc
    exact (cell_of_row _ _ _ _ _ _ h).trans (by rw [Nat.zero_add]; simpa using hc)
theorem Codes.take {w : World} {A : Option Addr} {n c : Nat} {cs : List Cd} (h : Codes w (.slice A n c) cs) {k : Nat} (hk : k ≤ cs.length) : Codes w (.slice A k c) (cs.take k) := by
  obtain ⟨A', c', hv, h1, h2, h3⟩ := h
  injection hv with e1 e2 e3
  subst e1 e2 e3
  have hl : (cs.take k).length = k := by simp; omega
  refine ⟨A, c, by rw [hl], by omega, h2, fun hk0 => ?_⟩
  rw [hl] at hk0
  obtain ⟨b, o, rfl, hb, hc⟩ := h3 (by omega)
  refine ⟨b, o, rfl, hb, fun j hj => ?_⟩
  rw [hl] at hj
  rw [hc j (by omega)]
  unfold cdf
  have hjk : j / 4 < k := by omega
  simp [List.getD_eq_getElem?_getD, List.getElem?_take, hjk]
theorem Codes.drop' {w : World} {b o n c : Nat} {cs : List Cd} (h : Codes w (.slice (some ⟨b, o, none⟩) n c) cs) {k : Nat} (hk : k ≤ cs.length) : Cells w (.slice (some ⟨b, o + k * 4, none⟩) (cs.length - k) (c - k)) (cs.length - k) 4 (cdf (cs.drop k)) := by
  obtain ⟨A', c', hv, h1, h2, h3⟩ := h
  injection hv with e1 e2 e3
  subst e1 e2 e3
  refine ⟨_, _, rfl, by omega, by omega, fun hk0 => ?_⟩
  obtain ⟨b', o', he, hb, hc⟩ := h3 (by omega)
  injection he with he
  injection he with e1 e2 e3
  subst e1 e2
  refine ⟨b, o + k * 4, rfl, hb, fun j hj => ?_⟩
  rw [Nat.add_assoc, hc (k * 4 + j) (by omega)]
  unfold cdf
  have hj1 : (k * 4 + j) / 4 = k + j / 4 := by omega
  have hj2 : (k * 4 + j) % 4 = j % 4 := by omega
  rw [hj1, hj2]
  simp [List.getD_eq_getElem?_getD]
theorem aroundA_in {cs : List Cd} {k : Nat} (hv : PValid cs) (hk : k < cs.length) : aroundA cs (k : Int) = aroundAt cs k := by
  unfold aroundA; rw [if_pos ⟨hv, by omega, by omega⟩]; rfl
theorem around_neg {cs : List Cd} {k : Nat} {ar : Int} (hv : PValid cs) (hk : k < cs.length) (h : aroundAt cs k = ar) (hn : ¬ ar ≥ 0) : aroundAt cs k = -1 := by
  rcases stk_top hv hk with h1 | h1
  · exact h1.2
  · have := h1.2.1; omega
theorem range_part (cs : List Cd) (k : Nat) (h : k = cs.length) : (List.range (k * 4)).map (cdf cs) = cs.flatMap cdCells := by subst h; exact range_cdf cs
theorem ins_open {w : World} {B : Nat} {v : Value} {k : Nat} {cs : List Cd} (hk : k ≤ cs.length) (ho : OwnO w B 31 4 v (k + 1 + (cs.length - k)) ((List.range (k * 4)).map (cdf (cs.take k)) ++ (List.range (1 * 4)).map (cdf [cBar]) ++ (List.range ((cs.length - k) * 4)).map (cdf (cs.drop k)))) : Codes w v (insC cs k) := by
  rw [range_part (cs.take k) k (by simp; omega), range_part [cBar] 1 rfl, range_part (cs.drop k) (cs.length - k) (by simp)] at ho
  have e : (cs.take k).flatMap cdCells ++ [cBar].flatMap cdCells ++ (cs.drop k).flatMap cdCells = (insC cs k).flatMap cdCells := by
    unfold insC; rw [← List.flatMap_append, ← List.flatMap_append, List.append_assoc]; rfl
  rw [e] at ho
  exact Codes.of_ownO ho (by simp [insC]; omega) (flat_cdf _)

set_option maxHeartbeats 16000000 in
set_option maxRecDepth 100000 in
theorem law_FnSafeBarrier (v : Value) (bs : List Int) (v' : Value) (bs2 : List Int) (w : World) (h : Bytes w v bs) (h2 : Bytes w v' bs2) :
    Calls Try.prog 13 #[v, v'] w fun e w' => e = .returned (.bool true) ∧ Pure w w' := by
  have H := Lib.hid h
  have H2 := Lib.hid h2
  obtain ⟨A, c, rfl, hnc, hcm⟩ := h.form
  obtain ⟨A', c', rfl, hnc', hcm'⟩ := h2.form
  clear h h2
  by_cases hbig : (bs.length : Int) > 1048576
  · go_enter Try.func13, Try.ntmps13
    go_wp2
    go_ret
    exact ⟨rfl, Pure.refl _⟩
  by_cases hbig2 : (bs2.length : Int) > 1048576
  · go_enter Try.func13, Try.ntmps13
    go_wp2
    go_ret
    exact ⟨rfl, Pure.refl _⟩
  go_enter Try.func13, Try.ntmps13
  go_wp2_with fail
  refine (draw_DrawIsSafe _ bs _ H.out (by omega)).mono ?_
  rintro e w1 ⟨vl, cs, a, vm, mem, rfl, ha0, ha9, hl, hm, hcl, hml, hp1⟩
  have HC := Lib.hid hl
  have HM := Lib.hid hm
  have HP1 := Lib.hid hp1
  obtain ⟨Ac, cc, rfl, hcc1, hcc2⟩ := hl.form
  obtain ⟨Am, cm, rfl⟩ := hm.form
  clear hl hm hp1
  obtain ⟨s, Hs⟩ : ∃ s, Hid (safeA cs a mem = s) := ⟨_, Lib.hid rfl⟩
  have hss : (s != s) = false := by simp
  go_wp2_with fail
  refine (isafe_any _ _ cs a mem _ HC.out HM.out (by omega) (by omega)).mono ?_
  rintro e w2 ⟨rfl, hp2⟩
  rw [Hs.out]
  have HP2 := Lib.hid hp2
  clear hp2
  go_wp2_with fail
  refine (ssafe_any _ _ cs a mem _ (HC.out.keep HP2.out) (HM.out.keep HP2.out) (by omega) (by omega)).mono ?_
  rintro e w3 ⟨rfl, hp3⟩
  rw [Hs.out]
  have HP3 := Lib.hid (HP2.out.trans hp3)
  clear hp3
  cases s
  · clear hss
    go_wp2_with fail
    refine (alive_any _).mono ?_
    rintro e w4 ⟨rfl, hp4⟩
    go_wp2
    go_ret
    exact ⟨rfl, (HP1.out.trans HP3.out).trans hp4⟩
  clear hss
  have hrun : RunOk cs a mem := by
    by_cases hr : RunOk cs a mem
    · exact hr
    · have := Hs.out
      unfold safeA at this
      rw [freeA_no hr, Bool.and_false] at this
      cases this
  obtain ⟨n, rfl, hn1, hn8⟩ := lanes_nat hrun.2.1
  have h40 := hrun.1.2.1
  have HOK := Lib.hid hrun
  have HSF := Hs
  clear hrun Hs
  rcases Nat.eq_zero_or_pos cs.length with h0 | h0
  · have hb0 : ((cs.length : Int) == 0) = true := by rw [beq_iff_eq]; omega
    go_wp2_with fail
    refine (alive_any _).mono ?_
    rintro e w4 ⟨rfl, hp4⟩
    go_wp2
    go_ret
    exact ⟨rfl, (HP1.out.trans HP3.out).trans hp4⟩
  have hb0 : ((cs.length : Int) == 0) = false := by rw [beq_eq_false_iff_ne]; omega
  by_cases hl40 : cs.length = 40
  · have hb1 : ((cs.length : Int) == 40) = true := by rw [beq_iff_eq]; omega
    go_wp2_with fail
    refine (alive_any _).mono ?_
    rintro e w4 ⟨rfl, hp4⟩
    go_wp2
    go_ret
    exact ⟨rfl, (HP1.out.trans HP3.out).trans hp4⟩
  have hb1 : ((cs.length : Int) == 40) = false := by rw [beq_eq_false_iff_ne]; omega
  obtain ⟨b, o, rfl, _, _⟩ := HC.out.at_ h0
  obtain ⟨k0, Hk0⟩ : ∃ k0, Hid (bs2.length % cs.length = k0) := ⟨_, Lib.hid rfl⟩
  have hk0 : k0 < cs.length := by rw [← Hk0.out]; exact Nat.mod_lt _ h0
  have hz : ¬ ((cs.length : Int) = 0) := by omega
  have htm : (bs2.length : Int).tmod (cs.length : Int) = (k0 : Int) := by rw [Int.tmod_eq_emod_of_nonneg (by omega)]; rw [← Hk0.out]; norm_cast
  have hem : (bs2.length : Int) % (cs.length : Int) = (k0 : Int) := by rw [← Hk0.out]; norm_cast
  obtain ⟨mx, Hmx⟩ : ∃ mx, Hid (memA cs n mem = mx) := ⟨_, Lib.hid rfl⟩
  have hmx : mx.length ≤ 1048576 := by rw [← Hmx.out]; exact memA_small hml
  have hin : aroundA cs (k0 : Int) = aroundAt cs k0 := aroundA_in HOK.out.1 hk0
  obtain ⟨ar, Har⟩ : ∃ ar, Hid (aroundAt cs k0 = ar) := ⟨_, Lib.hid rfl⟩
  rw [Har.out] at hin
  have HIN := Lib.hid hin
  clear hin
  go_wp2_with fail
  refine (iba_any _ cs (k0 : Int) _ (HC.out.keep HP3.out) (by omega)).mono ?_
  rintro e wS ⟨rfl, hpS⟩
  rw [HIN.out]
  have HPS := Lib.hid (HP3.out.trans hpS)
  have HCS := Lib.hid (HC.out.keep HPS.out)
  have HMS := Lib.hid (Cells.keep HM.out HPS.out)
  clear hpS htm hem
  by_cases hge : ar ≥ 0
  · obtain ⟨k, Hk⟩ : ∃ k : Nat, Hid (k = 0) := ⟨0, Lib.hid rfl⟩
    have hkz : (0 : Int) = (k : Int) := by rw [Hk.out]; rfl
    have hk1 : k ≤ cs.length := by rw [Hk.out]; omega
    have hki0 : (0 : Int) ≤ (k : Int) := by omega
    have hki1 : (k : Int) ≤ (cs.length : Int) := by omega
    have hki2 : (k : Int) ≤ (cc : Int) := by omega
    have hkn1 : ((cs.length : Int) - (k : Int)).toNat = cs.length - k := by omega
    have hkn2 : ((cc : Int) - (k : Int)).toNat = cc - k := by omega
    have hcs2 : k < cc := by rw [Hk.out]; omega
    have hcs3 : ¬ cc = k := by omega
    have hcs4 : ¬ k = cc := by omega
    have hcs5 : ¬ cc - k = 0 := by omega
    have hcs6 : ¬ ((cc : Int) - (k : Int) = 0) := by omega
    have hcs7 : ¬ ((k : Int) = (cc : Int)) := by omega
    have hcs8 : ¬ ((cc : Int) = (k : Int)) := by omega
    have HK0 := Lib.hid hk1
    have HCt := Lib.hid (HCS.out.take hk1)
    have HCt : Hid (Cells wS (.slice (some ⟨b, o, none⟩) k cc) k 4 (cdf (cs.take k))) := Lib.hid (by have h := HCt.out; unfold Codes at h; rwa [show (cs.take k).length = k by simp; omega] at h)
    have HCd : Hid (Cells wS (.slice (some ⟨b, o + k * 4, none⟩) (cs.length - k) (cc - k)) (cs.length - k) 4 (cdf (cs.drop k))) := Lib.hid (HCS.out.drop' hk1)
    have HK1 : Hid (∀ j, j < k * 4 → (cdf (cs.take k) j).oneCell' = true) := Lib.hid (fun j hj => cdf_one (cs.take k) j (by simp; omega))
    have HK2 : Hid (∀ j, j < (cs.length - k) * 4 → (cdf (cs.drop k) j).oneCell' = true) := Lib.hid (fun j hj => cdf_one (cs.drop k) j (by simp; omega))
    have his := ins_safe (at_ := k) HOK.out (by omega) (.inl Hk.out)
    obtain ⟨es, HES⟩ : ∃ es, Hid (insC cs k = es) := ⟨_, Lib.hid rfl⟩
    rw [HES.out] at his
    have HEL : Hid (es.length ≤ 1048576) := Lib.hid (by rw [← HES.out]; simp [insC]; omega)
    have HME : Hid (memA es n mem = mx) := Lib.hid (by rw [his.2.1, Hmx.out])
    have HSE : Hid (safeA es n mem = true) := Lib.hid (by
      have h := HSF.out
      unfold safeA at h ⊢
      rw [Bool.and_eq_true] at h ⊢
      exact ⟨by rw [his.2.2.1]; exact h.1, his.2.2.2 h.2⟩)
    clear his
    go_wp2_with fail
    rw [hkz]
    clear hkz
    refine region_way (fun w' => wS.heap.size ≤ w'.heap.size) [1, 2, 3, 5, 8, 9, 10] 6 12 (fun l => (l.drop 1).take 3 ++ ((l.drop 5).take 1 ++ (l.drop 8).take 3)) (by kernel_rfl) (by kernel_rfl) (by kernel_rfl) (fun c a d v w h => by cases d <;> exact h) (show wS.heap.size ≤ wS.drew.heap.size from Nat.le_refl _) ?_
    simp only [List.take_succ_cons, List.take_zero, List.drop_succ_cons, List.drop_zero, List.cons_append, List.nil_append]
    apply held_of
    · exact rfl
    · intro w' hS
      go_simp
      try exact rfl
    try go_simp
    apply held_of
    · exact rfl
    · intro w' hS
      go_simp
      try exact rfl
    try go_simp
    apply held_of
    · exact rfl
    · intro w' hS
      go_simp
      try exact rfl
    try go_simp
    apply held_of
    · exact rfl
    · intro w' hS
      go_simp
      try exact rfl
    try go_simp
    apply held_of
    · exact rfl
    · intro w' hS
      go_simp
      try exact rfl
    try go_simp
    apply held_of
    · exact rfl
    · intro w' hS
      go_simp
      try exact rfl
    try go_simp
    apply held_of
    · exact rfl
    · intro w' hS
      go_simp
      try exact rfl
    try go_simp
    refine held_nil ?_
    refine anyK_two (i := 0) (j := 6) (by kernel_rfl) rfl rfl ?_ ?_
    · go_wp2
      first | refine And.intro (fun _ => (show Pure wS _ from (by repeat (first | assumption | exact Pure.refl _ | refine Pure.drewN ?_ _ | refine Pure.drew ?_ | refine Pure.alloc ?_ _ | refine Pure.setCell ?_ (by simp <;> omega) _))).size) ?_ | refine And.intro (show Pure wS _ from (by repeat (first | assumption | exact Pure.refl _ | refine Pure.drewN ?_ _ | refine Pure.drew ?_ | refine Pure.alloc ?_ _ | refine Pure.setCell ?_ (by simp <;> omega) _))).size ?_
      have HE := Lib.hid (OwnO.empty_lit (w := wS.drew) (B := wS.heap.size) (e := 31) (s := 4) (show Pure wS wS.drew from (by repeat (first | assumption | exact Pure.refl _ | refine Pure.drewN ?_ _ | refine Pure.drew ?_ | refine Pure.alloc ?_ _ | refine Pure.setCell ?_ (by simp <;> omega) _))).size)
      refine anyK_two (i := 4) (j := 6) (by kernel_rfl) rfl rfl ?_ ?_
      · try rw [alloc_drew]
        refine wl_appendG elCode rfl _ _ rfl wS.heap.size _ 0 _ rfl (HE.out.pure (w' := (wS.drew.alloc (.cells #[] 31))) (by repeat (first | assumption | exact Pure.refl _ | refine Pure.drewN ?_ _ | refine Pure.drew ?_ | refine Pure.alloc ?_ _ | refine Pure.setCell ?_ (by simp <;> omega) _))) _ rfl (cdf (cs.take k)) k (Cells.keep HCt.out (show Pure wS (wS.drew.alloc (.cells #[] 31)) from (by repeat (first | assumption | exact Pure.refl _ | refine Pure.drewN ?_ _ | refine Pure.drew ?_ | refine Pure.alloc ?_ _ | refine Pure.setCell ?_ (by simp <;> omega) _)))) HK1.out (by decide) (by omega) (show Pure wS (wS.drew.alloc (.cells #[] 31)) from (by repeat (first | assumption | exact Pure.refl _ | refine Pure.drewN ?_ _ | refine Pure.drew ?_ | refine Pure.alloc ?_ _ | refine Pure.setCell ?_ (by simp <;> omega) _))).size ?_
        intro v6 w6 r1 r2
        rw [Nat.zero_add, List.nil_append] at r1
        have HO6 := Lib.hid r1
        have HP6 := Lib.hid ((show Pure wS (wS.drew.alloc (.cells #[] 31)) from (by repeat (first | assumption | exact Pure.refl _ | refine Pure.drewN ?_ _ | refine Pure.drew ?_ | refine Pure.alloc ?_ _ | refine Pure.setCell ?_ (by simp <;> omega) _))).grown r2 (fun k hk => (HE.out.lt k hk).1))

        clear r1 r2
        go_wp2
        first | refine And.intro (fun _ => (HP6.out).size) ?_ | refine And.intro (HP6.out).size ?_
        refine anyK_one (i := 6) (by kernel_rfl) rfl ?_
        go_wp2
        first | refine And.intro (fun _ => (show Pure wS _ from HP6.out.trans (by exact (by repeat (first | assumption | exact Pure.refl _ | refine Pure.drewN ?_ _ | refine Pure.drew ?_ | refine Pure.alloc ?_ _ | refine Pure.setCell ?_ (by simp <;> omega) _)))).size) ?_ | refine And.intro (show Pure wS _ from HP6.out.trans (by exact (by repeat (first | assumption | exact Pure.refl _ | refine Pure.drewN ?_ _ | refine Pure.drew ?_ | refine Pure.alloc ?_ _ | refine Pure.setCell ?_ (by simp <;> omega) _)))).size ?_
        have HLc := Lib.hid (codes_one (c := cBar) (heap_alloc_new w6 (.cells #[.int .i64 10, .int .i64 0, .int .i64 0, .int .i64 0] 31)))
        refine anyK_one (i := 7) (by kernel_rfl) rfl ?_
        refine wl_appendG elCode rfl _ _ rfl wS.heap.size _ k _ rfl (HO6.out.pure (w' := (w6.alloc (.cells #[.int .i64 10, .int .i64 0, .int .i64 0, .int .i64 0] 31))) (by repeat (first | assumption | exact Pure.refl _ | refine Pure.drewN ?_ _ | refine Pure.drew ?_ | refine Pure.alloc ?_ _ | refine Pure.setCell ?_ (by simp <;> omega) _))) _ rfl (cdf [cBar]) 1 (Cells.keep HLc.out (Pure.refl _)) (cdf_one [cBar]) (by decide) (by omega) (show Pure wS (w6.alloc (.cells #[.int .i64 10, .int .i64 0, .int .i64 0, .int .i64 0] 31)) from HP6.out.trans (by repeat (first | assumption | exact Pure.refl _ | refine Pure.drewN ?_ _ | refine Pure.drew ?_ | refine Pure.alloc ?_ _ | refine Pure.setCell ?_ (by simp <;> omega) _))).size ?_
        intro v7 w7 r1 r2
        have HO7 := Lib.hid r1
        have HP7 := Lib.hid ((show Pure wS (w6.alloc (.cells #[.int .i64 10, .int .i64 0, .int .i64 0, .int .i64 0] 31)) from HP6.out.trans (by repeat (first | assumption | exact Pure.refl _ | refine Pure.drewN ?_ _ | refine Pure.drew ?_ | refine Pure.alloc ?_ _ | refine Pure.setCell ?_ (by simp <;> omega) _))).grown r2 (fun k hk => (HO6.out.lt k hk).1))
        clear r1 r2
        go_wp2
        first | refine And.intro (fun _ => (HP7.out).size) ?_ | refine And.intro (HP7.out).size ?_
        refine anyK_one (i := 11) (by kernel_rfl) rfl ?_
        refine wl_appendG elCode rfl _ _ rfl wS.heap.size _ (k + 1) _ rfl HO7.out _ rfl (cdf (cs.drop k)) (cs.length - k) (Cells.keep HCd.out HP7.out) HK2.out (by decide) (by omega) HP7.out.size ?_
        intro v8 w8 r1 r2
        have HP8 := Lib.hid (HP7.out.grown r2 (fun k hk => (HO7.out.lt k hk).1))
        have HC8 : Hid (Codes w8 v8 es) := Lib.hid (HES.out ▸ ins_open HK0.out r1)
        clear r1 r2
        go_wp2
        first | refine And.intro (fun _ => (HP8.out).size) ?_ | refine And.intro (HP8.out).size ?_
        refine anyK_one (i := 12) (by kernel_rfl) rfl ?_
        go_wp2
        first | refine And.intro (fun h => absurd rfl h) ?_ | skip
        refine anyK_end (by kernel_rfl) ?_
        obtain ⟨A8, c8, rfl, _, _⟩ := HC8.out.form
        go_wp2_with fail
        refine (irl_any _ _ cs n mem _ (HCS.out.keep HP8.out) (HMS.out.keep HP8.out) (by omega) (by omega)).mono ?_
        rintro e w9 ⟨v9, rfl, ho9, hp9⟩
        have hi9 : Ints w9 v9 mx := Hmx.out ▸ ints_own ho9
        have HI9 := Lib.hid hi9
        have HP9 := Lib.hid (HP8.out.trans hp9)
        have HC9 := Lib.hid (HC8.out.keep hp9)
        obtain ⟨A9, c9, rfl⟩ := hi9.form
        clear ho9 hi9 hp9
        go_wp2_with fail
        refine (irl_any _ _ es n mem _ HC9.out (HMS.out.keep HP9.out) HEL.out (by omega)).mono ?_
        rintro e w10 ⟨v10, rfl, ho10, hp10⟩
        have hi10 : Ints w10 v10 mx := HME.out ▸ ints_own ho10
        have HI10 := Lib.hid hi10
        have HI910 := Lib.hid (Cells.keep HI9.out hp10)
        have HP10 := Lib.hid (HP9.out.trans hp10)
        have HC10 := Lib.hid (HC9.out.keep hp10)
        obtain ⟨A10, c10, rfl⟩ := hi10.form
        clear ho10 hi10 hp10
        go_wp2_with fail
        refine (isafe_any _ _ es n mem _ HC10.out (HMS.out.keep HP10.out) HEL.out (by omega)).mono ?_
        rintro e w11 ⟨rfl, hp11⟩
        rw [HSE.out]
        have HP11 := Lib.hid (HP10.out.trans hp11)
        have HJ1 := Lib.hid (Cells.keep HI910.out hp11)
        have HJ2 := Lib.hid (Cells.keep HI10.out hp11)
        clear hp11
        go_wp2_with fail
        refine (sameInts_same _ _ mx _ HJ1.out HJ2.out hmx).mono ?_
        rintro e w12 ⟨rfl, hp12⟩
        go_wp2
        go_ret
        exact ⟨rfl, ((HP1.out.trans HPS.out).trans HP11.out).trans hp12⟩
      · go_wp2
        first | refine And.intro (fun _ => (show Pure wS _ from (by repeat (first | assumption | exact Pure.refl _ | refine Pure.drewN ?_ _ | refine Pure.drew ?_ | refine Pure.alloc ?_ _ | refine Pure.setCell ?_ (by simp <;> omega) _))).size) ?_ | refine And.intro (show Pure wS _ from (by repeat (first | assumption | exact Pure.refl _ | refine Pure.drewN ?_ _ | refine Pure.drew ?_ | refine Pure.alloc ?_ _ | refine Pure.setCell ?_ (by simp <;> omega) _))).size ?_
        have HLo := Lib.hid (OwnO.lit (e := 31) (s := 4) (B := (wS.drew.alloc (.cells #[] 31)).heap.size) (wS.drew.alloc (.cells #[] 31)) #[.int .i64 10, .int .i64 0, .int .i64 0, .int .i64 0] 1 (Nat.le_refl _) (by decide) rfl)
        refine anyK_one (i := 4) (by kernel_rfl) rfl ?_
        try rw [alloc_drew]
        refine wl_appendG elCode rfl _ _ rfl wS.heap.size _ 0 _ rfl (HE.out.pure (w' := ((wS.drew.alloc (.cells #[] 31)).alloc (.cells #[.int .i64 10, .int .i64 0, .int .i64 0, .int .i64 0] 31))) (by repeat (first | assumption | exact Pure.refl _ | refine Pure.drewN ?_ _ | refine Pure.drew ?_ | refine Pure.alloc ?_ _ | refine Pure.setCell ?_ (by simp <;> omega) _))) _ rfl (cdf (cs.take k)) k (Cells.keep HCt.out (show Pure wS ((wS.drew.alloc (.cells #[] 31)).alloc (.cells #[.int .i64 10, .int .i64 0, .int .i64 0, .int .i64 0] 31)) from (by repeat (first | assumption | exact Pure.refl _ | refine Pure.drewN ?_ _ | refine Pure.drew ?_ | refine Pure.alloc ?_ _ | refine Pure.setCell ?_ (by simp <;> omega) _)))) HK1.out (by decide) (by omega) (show Pure wS ((wS.drew.alloc (.cells #[] 31)).alloc (.cells #[.int .i64 10, .int .i64 0, .int .i64 0, .int .i64 0] 31)) from (by repeat (first | assumption | exact Pure.refl _ | refine Pure.drewN ?_ _ | refine Pure.drew ?_ | refine Pure.alloc ?_ _ | refine Pure.setCell ?_ (by simp <;> omega) _))).size ?_
        intro v6 w6 r1 r2
        rw [Nat.zero_add, List.nil_append] at r1
        have HO6 := Lib.hid r1
        have HP6 := Lib.hid ((show Pure wS ((wS.drew.alloc (.cells #[] 31)).alloc (.cells #[.int .i64 10, .int .i64 0, .int .i64 0, .int .i64 0] 31)) from (by repeat (first | assumption | exact Pure.refl _ | refine Pure.drewN ?_ _ | refine Pure.drew ?_ | refine Pure.alloc ?_ _ | refine Pure.setCell ?_ (by simp <;> omega) _))).grown r2 (fun k hk => (HE.out.lt k hk).1))
        have hsz : (wS.drew.alloc (.cells #[] 31)).heap.size = wS.heap.size + 1 := by simp
        have HLd : Hid (Codes w6 (.slice (some ⟨wS.heap.size + 1, 0, none⟩) 1 1) [cBar]) := Lib.hid (by
          have h := HLo.out.kept r2 (own_apart' HE.out HLo.out (Nat.le_refl _))
          rw [hsz] at h
          exact Codes.of_ownO h rfl (flat_cdf [cBar]))
        clear r1 r2
        go_wp2
        first | refine And.intro (fun _ => (HP6.out).size) ?_ | refine And.intro (HP6.out).size ?_
        refine anyK_one (i := 7) (by kernel_rfl) rfl ?_
        refine wl_appendG elCode rfl _ _ rfl wS.heap.size _ k _ rfl (HO6.out.pure (w' := w6) (Pure.refl _)) _ rfl (cdf [cBar]) 1 (Cells.keep HLd.out (Pure.refl _)) (cdf_one [cBar]) (by decide) (by omega) (show Pure wS w6 from HP6.out).size ?_
        intro v7 w7 r1 r2
        have HO7 := Lib.hid r1
        have HP7 := Lib.hid ((show Pure wS w6 from HP6.out).grown r2 (fun k hk => (HO6.out.lt k hk).1))
        clear r1 r2
        go_wp2
        first | refine And.intro (fun _ => (HP7.out).size) ?_ | refine And.intro (HP7.out).size ?_
        refine anyK_one (i := 11) (by kernel_rfl) rfl ?_
        refine wl_appendG elCode rfl _ _ rfl wS.heap.size _ (k + 1) _ rfl HO7.out _ rfl (cdf (cs.drop k)) (cs.length - k) (Cells.keep HCd.out HP7.out) HK2.out (by decide) (by omega) HP7.out.size ?_
        intro v8 w8 r1 r2
        have HP8 := Lib.hid (HP7.out.grown r2 (fun k hk => (HO7.out.lt k hk).1))
        have HC8 : Hid (Codes w8 v8 es) := Lib.hid (HES.out ▸ ins_open HK0.out r1)
        clear r1 r2
        go_wp2
        first | refine And.intro (fun _ => (HP8.out).size) ?_ | refine And.intro (HP8.out).size ?_
        refine anyK_one (i := 12) (by kernel_rfl) rfl ?_
        go_wp2
        first | refine And.intro (fun h => absurd rfl h) ?_ | skip
        refine anyK_end (by kernel_rfl) ?_
        obtain ⟨A8, c8, rfl, _, _⟩ := HC8.out.form
        go_wp2_with fail
        refine (irl_any _ _ cs n mem _ (HCS.out.keep HP8.out) (HMS.out.keep HP8.out) (by omega) (by omega)).mono ?_
        rintro e w9 ⟨v9, rfl, ho9, hp9⟩
        have hi9 : Ints w9 v9 mx := Hmx.out ▸ ints_own ho9
        have HI9 := Lib.hid hi9
        have HP9 := Lib.hid (HP8.out.trans hp9)
        have HC9 := Lib.hid (HC8.out.keep hp9)
        obtain ⟨A9, c9, rfl⟩ := hi9.form
        clear ho9 hi9 hp9
        go_wp2_with fail
        refine (irl_any _ _ es n mem _ HC9.out (HMS.out.keep HP9.out) HEL.out (by omega)).mono ?_
        rintro e w10 ⟨v10, rfl, ho10, hp10⟩
        have hi10 : Ints w10 v10 mx := HME.out ▸ ints_own ho10
        have HI10 := Lib.hid hi10
        have HI910 := Lib.hid (Cells.keep HI9.out hp10)
        have HP10 := Lib.hid (HP9.out.trans hp10)
        have HC10 := Lib.hid (HC9.out.keep hp10)
        obtain ⟨A10, c10, rfl⟩ := hi10.form
        clear ho10 hi10 hp10
        go_wp2_with fail
        refine (isafe_any _ _ es n mem _ HC10.out (HMS.out.keep HP10.out) HEL.out (by omega)).mono ?_
        rintro e w11 ⟨rfl, hp11⟩
        rw [HSE.out]
        have HP11 := Lib.hid (HP10.out.trans hp11)
        have HJ1 := Lib.hid (Cells.keep HI910.out hp11)
        have HJ2 := Lib.hid (Cells.keep HI10.out hp11)
        clear hp11
        go_wp2_with fail
        refine (sameInts_same _ _ mx _ HJ1.out HJ2.out hmx).mono ?_
        rintro e w12 ⟨rfl, hp12⟩
        go_wp2
        go_ret
        exact ⟨rfl, ((HP1.out.trans HPS.out).trans HP11.out).trans hp12⟩
    · go_wp2
      first | refine And.intro (fun _ => (show Pure wS _ from (by repeat (first | assumption | exact Pure.refl _ | refine Pure.drewN ?_ _ | refine Pure.drew ?_ | refine Pure.alloc ?_ _ | refine Pure.setCell ?_ (by simp <;> omega) _))).size) ?_ | refine And.intro (show Pure wS _ from (by repeat (first | assumption | exact Pure.refl _ | refine Pure.drewN ?_ _ | refine Pure.drew ?_ | refine Pure.alloc ?_ _ | refine Pure.setCell ?_ (by simp <;> omega) _))).size ?_
      have HLo := Lib.hid (OwnO.lit (e := 31) (s := 4) (B := wS.heap.size) wS.drew #[.int .i64 10, .int .i64 0, .int .i64 0, .int .i64 0] 1 (Nat.le_refl _) (by decide) rfl)
      refine anyK_one (i := 0) (by kernel_rfl) rfl ?_
      go_wp2
      first | refine And.intro (fun _ => (show Pure wS _ from (by repeat (first | assumption | exact Pure.refl _ | refine Pure.drewN ?_ _ | refine Pure.drew ?_ | refine Pure.alloc ?_ _ | refine Pure.setCell ?_ (by simp <;> omega) _))).size) ?_ | refine And.intro (show Pure wS _ from (by repeat (first | assumption | exact Pure.refl _ | refine Pure.drewN ?_ _ | refine Pure.drew ?_ | refine Pure.alloc ?_ _ | refine Pure.setCell ?_ (by simp <;> omega) _))).size ?_
      have HE0 := Lib.hid (OwnO.empty_lit (w := (wS.drew.alloc (.cells #[.int .i64 10, .int .i64 0, .int .i64 0, .int .i64 0] 31))) (B := (wS.drew.alloc (.cells #[.int .i64 10, .int .i64 0, .int .i64 0, .int .i64 0] 31)).heap.size) (e := 31) (s := 4) (Nat.le_refl _))
      have hsz : (wS.drew.alloc (.cells #[.int .i64 10, .int .i64 0, .int .i64 0, .int .i64 0] 31)).heap.size = wS.heap.size + 1 := by simp
      have HE : Hid (OwnO ((wS.drew.alloc (.cells #[.int .i64 10, .int .i64 0, .int .i64 0, .int .i64 0] 31)).alloc (.cells #[] 31)) wS.heap.size 31 4 (.slice (some ⟨wS.heap.size + 1, 0, none⟩) 0 0) 0 []) := Lib.hid (by have h := HE0.out.base' (B' := wS.heap.size) (by omega); rw [hsz] at h; exact h)
      refine anyK_one (i := 4) (by kernel_rfl) rfl ?_
      try rw [alloc_drew]
      refine wl_appendG elCode rfl _ _ rfl wS.heap.size _ 0 _ rfl (HE.out.pure (w' := ((wS.drew.alloc (.cells #[.int .i64 10, .int .i64 0, .int .i64 0, .int .i64 0] 31)).alloc (.cells #[] 31))) (by repeat (first | assumption | exact Pure.refl _ | refine Pure.drewN ?_ _ | refine Pure.drew ?_ | refine Pure.alloc ?_ _ | refine Pure.setCell ?_ (by simp <;> omega) _))) _ rfl (cdf (cs.take k)) k (Cells.keep HCt.out (show Pure wS ((wS.drew.alloc (.cells #[.int .i64 10, .int .i64 0, .int .i64 0, .int .i64 0] 31)).alloc (.cells #[] 31)) from (by repeat (first | assumption | exact Pure.refl _ | refine Pure.drewN ?_ _ | refine Pure.drew ?_ | refine Pure.alloc ?_ _ | refine Pure.setCell ?_ (by simp <;> omega) _)))) HK1.out (by decide) (by omega) (show Pure wS ((wS.drew.alloc (.cells #[.int .i64 10, .int .i64 0, .int .i64 0, .int .i64 0] 31)).alloc (.cells #[] 31)) from (by repeat (first | assumption | exact Pure.refl _ | refine Pure.drewN ?_ _ | refine Pure.drew ?_ | refine Pure.alloc ?_ _ | refine Pure.setCell ?_ (by simp <;> omega) _))).size ?_
      intro v6 w6 r1 r2
      rw [Nat.zero_add, List.nil_append] at r1
      have HO6 := Lib.hid r1
      have HP6 := Lib.hid ((show Pure wS ((wS.drew.alloc (.cells #[.int .i64 10, .int .i64 0, .int .i64 0, .int .i64 0] 31)).alloc (.cells #[] 31)) from (by repeat (first | assumption | exact Pure.refl _ | refine Pure.drewN ?_ _ | refine Pure.drew ?_ | refine Pure.alloc ?_ _ | refine Pure.setCell ?_ (by simp <;> omega) _))).grown r2 (fun k hk => (HE.out.lt k hk).1))
      have HLd : Hid (Codes w6 (.slice (some ⟨wS.heap.size, 0, none⟩) 1 1) [cBar]) := Lib.hid (by
        have h := (HLo.out.pure (w' := ((wS.drew.alloc (.cells #[.int .i64 10, .int .i64 0, .int .i64 0, .int .i64 0] 31)).alloc (.cells #[] 31))) (by repeat (first | assumption | exact Pure.refl _ | refine Pure.drewN ?_ _ | refine Pure.drew ?_ | refine Pure.alloc ?_ _ | refine Pure.setCell ?_ (by simp <;> omega) _))).kept r2 (by have := own_apart HLo.out HE0.out (Nat.le_refl _); rw [hsz] at this; exact this)
        exact Codes.of_ownO h rfl (flat_cdf [cBar]))
      clear r1 r2
      go_wp2
      first | refine And.intro (fun _ => (HP6.out).size) ?_ | refine And.intro (HP6.out).size ?_
      refine anyK_one (i := 7) (by kernel_rfl) rfl ?_
      refine wl_appendG elCode rfl _ _ rfl wS.heap.size _ k _ rfl (HO6.out.pure (w' := w6) (Pure.refl _)) _ rfl (cdf [cBar]) 1 (Cells.keep HLd.out (Pure.refl _)) (cdf_one [cBar]) (by decide) (by omega) (show Pure wS w6 from HP6.out).size ?_
      intro v7 w7 r1 r2
      have HO7 := Lib.hid r1
      have HP7 := Lib.hid ((show Pure wS w6 from HP6.out).grown r2 (fun k hk => (HO6.out.lt k hk).1))
      clear r1 r2
      go_wp2
      first | refine And.intro (fun _ => (HP7.out).size) ?_ | refine And.intro (HP7.out).size ?_
      refine anyK_one (i := 11) (by kernel_rfl) rfl ?_
      refine wl_appendG elCode rfl _ _ rfl wS.heap.size _ (k + 1) _ rfl HO7.out _ rfl (cdf (cs.drop k)) (cs.length - k) (Cells.keep HCd.out HP7.out) HK2.out (by decide) (by omega) HP7.out.size ?_
      intro v8 w8 r1 r2
      have HP8 := Lib.hid (HP7.out.grown r2 (fun k hk => (HO7.out.lt k hk).1))
      have HC8 : Hid (Codes w8 v8 es) := Lib.hid (HES.out ▸ ins_open HK0.out r1)
      clear r1 r2
      go_wp2
      first | refine And.intro (fun _ => (HP8.out).size) ?_ | refine And.intro (HP8.out).size ?_
      refine anyK_one (i := 12) (by kernel_rfl) rfl ?_
      go_wp2
      first | refine And.intro (fun h => absurd rfl h) ?_ | skip
      refine anyK_end (by kernel_rfl) ?_
      obtain ⟨A8, c8, rfl, _, _⟩ := HC8.out.form
      go_wp2_with fail
      refine (irl_any _ _ cs n mem _ (HCS.out.keep HP8.out) (HMS.out.keep HP8.out) (by omega) (by omega)).mono ?_
      rintro e w9 ⟨v9, rfl, ho9, hp9⟩
      have hi9 : Ints w9 v9 mx := Hmx.out ▸ ints_own ho9
      have HI9 := Lib.hid hi9
      have HP9 := Lib.hid (HP8.out.trans hp9)
      have HC9 := Lib.hid (HC8.out.keep hp9)
      obtain ⟨A9, c9, rfl⟩ := hi9.form
      clear ho9 hi9 hp9
      go_wp2_with fail
      refine (irl_any _ _ es n mem _ HC9.out (HMS.out.keep HP9.out) HEL.out (by omega)).mono ?_
      rintro e w10 ⟨v10, rfl, ho10, hp10⟩
      have hi10 : Ints w10 v10 mx := HME.out ▸ ints_own ho10
      have HI10 := Lib.hid hi10
      have HI910 := Lib.hid (Cells.keep HI9.out hp10)
      have HP10 := Lib.hid (HP9.out.trans hp10)
      have HC10 := Lib.hid (HC9.out.keep hp10)
      obtain ⟨A10, c10, rfl⟩ := hi10.form
      clear ho10 hi10 hp10
      go_wp2_with fail
      refine (isafe_any _ _ es n mem _ HC10.out (HMS.out.keep HP10.out) HEL.out (by omega)).mono ?_
      rintro e w11 ⟨rfl, hp11⟩
      rw [HSE.out]
      have HP11 := Lib.hid (HP10.out.trans hp11)
      have HJ1 := Lib.hid (Cells.keep HI910.out hp11)
      have HJ2 := Lib.hid (Cells.keep HI10.out hp11)
      clear hp11
      go_wp2_with fail
      refine (sameInts_same _ _ mx _ HJ1.out HJ2.out hmx).mono ?_
      rintro e w12 ⟨rfl, hp12⟩
      go_wp2
      go_ret
      exact ⟨rfl, ((HP1.out.trans HPS.out).trans HP11.out).trans hp12⟩
  · obtain ⟨k, hkk⟩ : ∃ k : Nat, k = k0 := ⟨_, rfl⟩
    subst hkk
    have hk1 : k ≤ cs.length := by omega
    have hki0 : (0 : Int) ≤ (k : Int) := by omega
    have hki1 : (k : Int) ≤ (cs.length : Int) := by omega
    have hki2 : (k : Int) ≤ (cc : Int) := by omega
    have hkn1 : ((cs.length : Int) - (k : Int)).toNat = cs.length - k := by omega
    have hkn2 : ((cc : Int) - (k : Int)).toNat = cc - k := by omega
    have hcs2 : k < cc := by omega
    have hcs3 : ¬ cc = k := by omega
    have hcs4 : ¬ k = cc := by omega
    have hcs5 : ¬ cc - k = 0 := by omega
    have hcs6 : ¬ ((cc : Int) - (k : Int) = 0) := by omega
    have hcs7 : ¬ ((k : Int) = (cc : Int)) := by omega
    have hcs8 : ¬ ((cc : Int) = (k : Int)) := by omega
    have HK0 := Lib.hid hk1
    have HCt := Lib.hid (HCS.out.take hk1)
    have HCt : Hid (Cells wS (.slice (some ⟨b, o, none⟩) k cc) k 4 (cdf (cs.take k))) := Lib.hid (by have h := HCt.out; unfold Codes at h; rwa [show (cs.take k).length = k by simp; omega] at h)
    have HCd : Hid (Cells wS (.slice (some ⟨b, o + k * 4, none⟩) (cs.length - k) (cc - k)) (cs.length - k) 4 (cdf (cs.drop k))) := Lib.hid (HCS.out.drop' hk1)
    have HK1 : Hid (∀ j, j < k * 4 → (cdf (cs.take k) j).oneCell' = true) := Lib.hid (fun j hj => cdf_one (cs.take k) j (by simp; omega))
    have HK2 : Hid (∀ j, j < (cs.length - k) * 4 → (cdf (cs.drop k) j).oneCell' = true) := Lib.hid (fun j hj => cdf_one (cs.drop k) j (by simp; omega))
    have his := ins_safe (at_ := k) HOK.out (by omega) (.inr ⟨by omega, around_neg HOK.out.1 hk0 Har.out hge⟩)
    obtain ⟨es, HES⟩ : ∃ es, Hid (insC cs k = es) := ⟨_, Lib.hid rfl⟩
    rw [HES.out] at his
    have HEL : Hid (es.length ≤ 1048576) := Lib.hid (by rw [← HES.out]; simp [insC]; omega)
    have HME : Hid (memA es n mem = mx) := Lib.hid (by rw [his.2.1, Hmx.out])
    have HSE : Hid (safeA es n mem = true) := Lib.hid (by
      have h := HSF.out
      unfold safeA at h ⊢
      rw [Bool.and_eq_true] at h ⊢
      exact ⟨by rw [his.2.2.1]; exact h.1, his.2.2.2 h.2⟩)
    clear his
    go_wp2_with fail
    refine region_way (fun w' => wS.heap.size ≤ w'.heap.size) [1, 2, 3, 5, 8, 9, 10] 6 12 (fun l => (l.drop 1).take 3 ++ ((l.drop 5).take 1 ++ (l.drop 8).take 3)) (by kernel_rfl) (by kernel_rfl) (by kernel_rfl) (fun c a d v w h => by cases d <;> exact h) (show wS.heap.size ≤ wS.drew.heap.size from Nat.le_refl _) ?_
    simp only [List.take_succ_cons, List.take_zero, List.drop_succ_cons, List.drop_zero, List.cons_append, List.nil_append]
    apply held_of
    · exact rfl
    · intro w' hS
      go_simp
      try exact rfl
    try go_simp
    apply held_of
    · exact rfl
    · intro w' hS
      go_simp
      try exact rfl
    try go_simp
    apply held_of
    · exact rfl
    · intro w' hS
      go_simp
      try exact rfl
    try go_simp
    apply held_of
    · exact rfl
    · intro w' hS
      go_simp
      try exact rfl
    try go_simp
    apply held_of
    · exact rfl
    · intro w' hS
      go_simp
      try exact rfl
    try go_simp
    apply held_of
    · exact rfl
    · intro w' hS
      go_simp
      try exact rfl
    try go_simp
    apply held_of
    · exact rfl
    · intro w' hS
      go_simp
      try exact rfl
    try go_simp
    refine held_nil ?_
    refine anyK_two (i := 0) (j := 6) (by kernel_rfl) rfl rfl ?_ ?_
    · go_wp2
      first | refine And.intro (fun _ => (show Pure wS _ from (by repeat (first | assumption | exact Pure.refl _ | refine Pure.drewN ?_ _ | refine Pure.drew ?_ | refine Pure.alloc ?_ _ | refine Pure.setCell ?_ (by simp <;> omega) _))).size) ?_ | refine And.intro (show Pure wS _ from (by repeat (first | assumption | exact Pure.refl _ | refine Pure.drewN ?_ _ | refine Pure.drew ?_ | refine Pure.alloc ?_ _ | refine Pure.setCell ?_ (by simp <;> omega) _))).size ?_
      have HE := Lib.hid (OwnO.empty_lit (w := wS.drew) (B := wS.heap.size) (e := 31) (s := 4) (show Pure wS wS.drew from (by repeat (first | assumption | exact Pure.refl _ | refine Pure.drewN ?_ _ | refine Pure.drew ?_ | refine Pure.alloc ?_ _ | refine Pure.setCell ?_ (by simp <;> omega) _))).size)
      refine anyK_two (i := 4) (j := 6) (by kernel_rfl) rfl rfl ?_ ?_
      · try rw [alloc_drew]
        refine wl_appendG elCode rfl _ _ rfl wS.heap.size _ 0 _ rfl (HE.out.pure (w' := (wS.drew.alloc (.cells #[] 31))) (by repeat (first | assumption | exact Pure.refl _ | refine Pure.drewN ?_ _ | refine Pure.drew ?_ | refine Pure.alloc ?_ _ | refine Pure.setCell ?_ (by simp <;> omega) _))) _ rfl (cdf (cs.take k)) k (Cells.keep HCt.out (show Pure wS (wS.drew.alloc (.cells #[] 31)) from (by repeat (first | assumption | exact Pure.refl _ | refine Pure.drewN ?_ _ | refine Pure.drew ?_ | refine Pure.alloc ?_ _ | refine Pure.setCell ?_ (by simp <;> omega) _)))) HK1.out (by decide) (by omega) (show Pure wS (wS.drew.alloc (.cells #[] 31)) from (by repeat (first | assumption | exact Pure.refl _ | refine Pure.drewN ?_ _ | refine Pure.drew ?_ | refine Pure.alloc ?_ _ | refine Pure.setCell ?_ (by simp <;> omega) _))).size ?_
        intro v6 w6 r1 r2
        rw [Nat.zero_add, List.nil_append] at r1
        have HO6 := Lib.hid r1
        have HP6 := Lib.hid ((show Pure wS (wS.drew.alloc (.cells #[] 31)) from (by repeat (first | assumption | exact Pure.refl _ | refine Pure.drewN ?_ _ | refine Pure.drew ?_ | refine Pure.alloc ?_ _ | refine Pure.setCell ?_ (by simp <;> omega) _))).grown r2 (fun k hk => (HE.out.lt k hk).1))

        clear r1 r2
        go_wp2
        first | refine And.intro (fun _ => (HP6.out).size) ?_ | refine And.intro (HP6.out).size ?_
        refine anyK_one (i := 6) (by kernel_rfl) rfl ?_
        go_wp2
        first | refine And.intro (fun _ => (show Pure wS _ from HP6.out.trans (by exact (by repeat (first | assumption | exact Pure.refl _ | refine Pure.drewN ?_ _ | refine Pure.drew ?_ | refine Pure.alloc ?_ _ | refine Pure.setCell ?_ (by simp <;> omega) _)))).size) ?_ | refine And.intro (show Pure wS _ from HP6.out.trans (by exact (by repeat (first | assumption | exact Pure.refl _ | refine Pure.drewN ?_ _ | refine Pure.drew ?_ | refine Pure.alloc ?_ _ | refine Pure.setCell ?_ (by simp <;> omega) _)))).size ?_
        have HLc := Lib.hid (codes_one (c := cBar) (heap_alloc_new w6 (.cells #[.int .i64 10, .int .i64 0, .int .i64 0, .int .i64 0] 31)))
        refine anyK_one (i := 7) (by kernel_rfl) rfl ?_
        refine wl_appendG elCode rfl _ _ rfl wS.heap.size _ k _ rfl (HO6.out.pure (w' := (w6.alloc (.cells #[.int .i64 10, .int .i64 0, .int .i64 0, .int .i64 0] 31))) (by repeat (first | assumption | exact Pure.refl _ | refine Pure.drewN ?_ _ | refine Pure.drew ?_ | refine Pure.alloc ?_ _ | refine Pure.setCell ?_ (by simp <;> omega) _))) _ rfl (cdf [cBar]) 1 (Cells.keep HLc.out (Pure.refl _)) (cdf_one [cBar]) (by decide) (by omega) (show Pure wS (w6.alloc (.cells #[.int .i64 10, .int .i64 0, .int .i64 0, .int .i64 0] 31)) from HP6.out.trans (by repeat (first | assumption | exact Pure.refl _ | refine Pure.drewN ?_ _ | refine Pure.drew ?_ | refine Pure.alloc ?_ _ | refine Pure.setCell ?_ (by simp <;> omega) _))).size ?_
        intro v7 w7 r1 r2
        have HO7 := Lib.hid r1
        have HP7 := Lib.hid ((show Pure wS (w6.alloc (.cells #[.int .i64 10, .int .i64 0, .int .i64 0, .int .i64 0] 31)) from HP6.out.trans (by repeat (first | assumption | exact Pure.refl _ | refine Pure.drewN ?_ _ | refine Pure.drew ?_ | refine Pure.alloc ?_ _ | refine Pure.setCell ?_ (by simp <;> omega) _))).grown r2 (fun k hk => (HO6.out.lt k hk).1))
        clear r1 r2
        go_wp2
        first | refine And.intro (fun _ => (HP7.out).size) ?_ | refine And.intro (HP7.out).size ?_
        refine anyK_one (i := 11) (by kernel_rfl) rfl ?_
        refine wl_appendG elCode rfl _ _ rfl wS.heap.size _ (k + 1) _ rfl HO7.out _ rfl (cdf (cs.drop k)) (cs.length - k) (Cells.keep HCd.out HP7.out) HK2.out (by decide) (by omega) HP7.out.size ?_
        intro v8 w8 r1 r2
        have HP8 := Lib.hid (HP7.out.grown r2 (fun k hk => (HO7.out.lt k hk).1))
        have HC8 : Hid (Codes w8 v8 es) := Lib.hid (HES.out ▸ ins_open HK0.out r1)
        clear r1 r2
        go_wp2
        first | refine And.intro (fun _ => (HP8.out).size) ?_ | refine And.intro (HP8.out).size ?_
        refine anyK_one (i := 12) (by kernel_rfl) rfl ?_
        go_wp2
        first | refine And.intro (fun h => absurd rfl h) ?_ | skip
        refine anyK_end (by kernel_rfl) ?_
        obtain ⟨A8, c8, rfl, _, _⟩ := HC8.out.form
        go_wp2_with fail
        refine (irl_any _ _ cs n mem _ (HCS.out.keep HP8.out) (HMS.out.keep HP8.out) (by omega) (by omega)).mono ?_
        rintro e w9 ⟨v9, rfl, ho9, hp9⟩
        have hi9 : Ints w9 v9 mx := Hmx.out ▸ ints_own ho9
        have HI9 := Lib.hid hi9
        have HP9 := Lib.hid (HP8.out.trans hp9)
        have HC9 := Lib.hid (HC8.out.keep hp9)
        obtain ⟨A9, c9, rfl⟩ := hi9.form
        clear ho9 hi9 hp9
        go_wp2_with fail
        refine (irl_any _ _ es n mem _ HC9.out (HMS.out.keep HP9.out) HEL.out (by omega)).mono ?_
        rintro e w10 ⟨v10, rfl, ho10, hp10⟩
        have hi10 : Ints w10 v10 mx := HME.out ▸ ints_own ho10
        have HI10 := Lib.hid hi10
        have HI910 := Lib.hid (Cells.keep HI9.out hp10)
        have HP10 := Lib.hid (HP9.out.trans hp10)
        have HC10 := Lib.hid (HC9.out.keep hp10)
        obtain ⟨A10, c10, rfl⟩ := hi10.form
        clear ho10 hi10 hp10
        go_wp2_with fail
        refine (isafe_any _ _ es n mem _ HC10.out (HMS.out.keep HP10.out) HEL.out (by omega)).mono ?_
        rintro e w11 ⟨rfl, hp11⟩
        rw [HSE.out]
        have HP11 := Lib.hid (HP10.out.trans hp11)
        have HJ1 := Lib.hid (Cells.keep HI910.out hp11)
        have HJ2 := Lib.hid (Cells.keep HI10.out hp11)
        clear hp11
        go_wp2_with fail
        refine (sameInts_same _ _ mx _ HJ1.out HJ2.out hmx).mono ?_
        rintro e w12 ⟨rfl, hp12⟩
        go_wp2
        go_ret
        exact ⟨rfl, ((HP1.out.trans HPS.out).trans HP11.out).trans hp12⟩
      · go_wp2
        first | refine And.intro (fun _ => (show Pure wS _ from (by repeat (first | assumption | exact Pure.refl _ | refine Pure.drewN ?_ _ | refine Pure.drew ?_ | refine Pure.alloc ?_ _ | refine Pure.setCell ?_ (by simp <;> omega) _))).size) ?_ | refine And.intro (show Pure wS _ from (by repeat (first | assumption | exact Pure.refl _ | refine Pure.drewN ?_ _ | refine Pure.drew ?_ | refine Pure.alloc ?_ _ | refine Pure.setCell ?_ (by simp <;> omega) _))).size ?_
        have HLo := Lib.hid (OwnO.lit (e := 31) (s := 4) (B := (wS.drew.alloc (.cells #[] 31)).heap.size) (wS.drew.alloc (.cells #[] 31)) #[.int .i64 10, .int .i64 0, .int .i64 0, .int .i64 0] 1 (Nat.le_refl _) (by decide) rfl)
        refine anyK_one (i := 4) (by kernel_rfl) rfl ?_
        try rw [alloc_drew]
        refine wl_appendG elCode rfl _ _ rfl wS.heap.size _ 0 _ rfl (HE.out.pure (w' := ((wS.drew.alloc (.cells #[] 31)).alloc (.cells #[.int .i64 10, .int .i64 0, .int .i64 0, .int .i64 0] 31))) (by repeat (first | assumption | exact Pure.refl _ | refine Pure.drewN ?_ _ | refine Pure.drew ?_ | refine Pure.alloc ?_ _ | refine Pure.setCell ?_ (by simp <;> omega) _))) _ rfl (cdf (cs.take k)) k (Cells.keep HCt.out (show Pure wS ((wS.drew.alloc (.cells #[] 31)).alloc (.cells #[.int .i64 10, .int .i64 0, .int .i64 0, .int .i64 0] 31)) from (by repeat (first | assumption | exact Pure.refl _ | refine Pure.drewN ?_ _ | refine Pure.drew ?_ | refine Pure.alloc ?_ _ | refine Pure.setCell ?_ (by simp <;> omega) _)))) HK1.out (by decide) (by omega) (show Pure wS ((wS.drew.alloc (.cells #[] 31)).alloc (.cells #[.int .i64 10, .int .i64 0, .int .i64 0, .int .i64 0] 31)) from (by repeat (first | assumption | exact Pure.refl _ | refine Pure.drewN ?_ _ | refine Pure.drew ?_ | refine Pure.alloc ?_ _ | refine Pure.setCell ?_ (by simp <;> omega) _))).size ?_
        intro v6 w6 r1 r2
        rw [Nat.zero_add, List.nil_append] at r1
        have HO6 := Lib.hid r1
        have HP6 := Lib.hid ((show Pure wS ((wS.drew.alloc (.cells #[] 31)).alloc (.cells #[.int .i64 10, .int .i64 0, .int .i64 0, .int .i64 0] 31)) from (by repeat (first | assumption | exact Pure.refl _ | refine Pure.drewN ?_ _ | refine Pure.drew ?_ | refine Pure.alloc ?_ _ | refine Pure.setCell ?_ (by simp <;> omega) _))).grown r2 (fun k hk => (HE.out.lt k hk).1))
        have hsz : (wS.drew.alloc (.cells #[] 31)).heap.size = wS.heap.size + 1 := by simp
        have HLd : Hid (Codes w6 (.slice (some ⟨wS.heap.size + 1, 0, none⟩) 1 1) [cBar]) := Lib.hid (by
          have h := HLo.out.kept r2 (own_apart' HE.out HLo.out (Nat.le_refl _))
          rw [hsz] at h
          exact Codes.of_ownO h rfl (flat_cdf [cBar]))
        clear r1 r2
        go_wp2
        first | refine And.intro (fun _ => (HP6.out).size) ?_ | refine And.intro (HP6.out).size ?_
        refine anyK_one (i := 7) (by kernel_rfl) rfl ?_
        refine wl_appendG elCode rfl _ _ rfl wS.heap.size _ k _ rfl (HO6.out.pure (w' := w6) (Pure.refl _)) _ rfl (cdf [cBar]) 1 (Cells.keep HLd.out (Pure.refl _)) (cdf_one [cBar]) (by decide) (by omega) (show Pure wS w6 from HP6.out).size ?_
        intro v7 w7 r1 r2
        have HO7 := Lib.hid r1
        have HP7 := Lib.hid ((show Pure wS w6 from HP6.out).grown r2 (fun k hk => (HO6.out.lt k hk).1))
        clear r1 r2
        go_wp2
        first | refine And.intro (fun _ => (HP7.out).size) ?_ | refine And.intro (HP7.out).size ?_
        refine anyK_one (i := 11) (by kernel_rfl) rfl ?_
        refine wl_appendG elCode rfl _ _ rfl wS.heap.size _ (k + 1) _ rfl HO7.out _ rfl (cdf (cs.drop k)) (cs.length - k) (Cells.keep HCd.out HP7.out) HK2.out (by decide) (by omega) HP7.out.size ?_
        intro v8 w8 r1 r2
        have HP8 := Lib.hid (HP7.out.grown r2 (fun k hk => (HO7.out.lt k hk).1))
        have HC8 : Hid (Codes w8 v8 es) := Lib.hid (HES.out ▸ ins_open HK0.out r1)
        clear r1 r2
        go_wp2
        first | refine And.intro (fun _ => (HP8.out).size) ?_ | refine And.intro (HP8.out).size ?_
        refine anyK_one (i := 12) (by kernel_rfl) rfl ?_
        go_wp2
        first | refine And.intro (fun h => absurd rfl h) ?_ | skip
        refine anyK_end (by kernel_rfl) ?_
        obtain ⟨A8, c8, rfl, _, _⟩ := HC8.out.form
        go_wp2_with fail
        refine (irl_any _ _ cs n mem _ (HCS.out.keep HP8.out) (HMS.out.keep HP8.out) (by omega) (by omega)).mono ?_
        rintro e w9 ⟨v9, rfl, ho9, hp9⟩
        have hi9 : Ints w9 v9 mx := Hmx.out ▸ ints_own ho9
        have HI9 := Lib.hid hi9
        have HP9 := Lib.hid (HP8.out.trans hp9)
        have HC9 := Lib.hid (HC8.out.keep hp9)
        obtain ⟨A9, c9, rfl⟩ := hi9.form
        clear ho9 hi9 hp9
        go_wp2_with fail
        refine (irl_any _ _ es n mem _ HC9.out (HMS.out.keep HP9.out) HEL.out (by omega)).mono ?_
        rintro e w10 ⟨v10, rfl, ho10, hp10⟩
        have hi10 : Ints w10 v10 mx := HME.out ▸ ints_own ho10
        have HI10 := Lib.hid hi10
        have HI910 := Lib.hid (Cells.keep HI9.out hp10)
        have HP10 := Lib.hid (HP9.out.trans hp10)
        have HC10 := Lib.hid (HC9.out.keep hp10)
        obtain ⟨A10, c10, rfl⟩ := hi10.form
        clear ho10 hi10 hp10
        go_wp2_with fail
        refine (isafe_any _ _ es n mem _ HC10.out (HMS.out.keep HP10.out) HEL.out (by omega)).mono ?_
        rintro e w11 ⟨rfl, hp11⟩
        rw [HSE.out]
        have HP11 := Lib.hid (HP10.out.trans hp11)
        have HJ1 := Lib.hid (Cells.keep HI910.out hp11)
        have HJ2 := Lib.hid (Cells.keep HI10.out hp11)
        clear hp11
        go_wp2_with fail
        refine (sameInts_same _ _ mx _ HJ1.out HJ2.out hmx).mono ?_
        rintro e w12 ⟨rfl, hp12⟩
        go_wp2
        go_ret
        exact ⟨rfl, ((HP1.out.trans HPS.out).trans HP11.out).trans hp12⟩
    · go_wp2
      first | refine And.intro (fun _ => (show Pure wS _ from (by repeat (first | assumption | exact Pure.refl _ | refine Pure.drewN ?_ _ | refine Pure.drew ?_ | refine Pure.alloc ?_ _ | refine Pure.setCell ?_ (by simp <;> omega) _))).size) ?_ | refine And.intro (show Pure wS _ from (by repeat (first | assumption | exact Pure.refl _ | refine Pure.drewN ?_ _ | refine Pure.drew ?_ | refine Pure.alloc ?_ _ | refine Pure.setCell ?_ (by simp <;> omega) _))).size ?_
      have HLo := Lib.hid (OwnO.lit (e := 31) (s := 4) (B := wS.heap.size) wS.drew #[.int .i64 10, .int .i64 0, .int .i64 0, .int .i64 0] 1 (Nat.le_refl _) (by decide) rfl)
      refine anyK_one (i := 0) (by kernel_rfl) rfl ?_
      go_wp2
      first | refine And.intro (fun _ => (show Pure wS _ from (by repeat (first | assumption | exact Pure.refl _ | refine Pure.drewN ?_ _ | refine Pure.drew ?_ | refine Pure.alloc ?_ _ | refine Pure.setCell ?_ (by simp <;> omega) _))).size) ?_ | refine And.intro (show Pure wS _ from (by repeat (first | assumption | exact Pure.refl _ | refine Pure.drewN ?_ _ | refine Pure.drew ?_ | refine Pure.alloc ?_ _ | refine Pure.setCell ?_ (by simp <;> omega) _))).size ?_
      have HE0 := Lib.hid (OwnO.empty_lit (w := (wS.drew.alloc (.cells #[.int .i64 10, .int .i64 0, .int .i64 0, .int .i64 0] 31))) (B := (wS.drew.alloc (.cells #[.int .i64 10, .int .i64 0, .int .i64 0, .int .i64 0] 31)).heap.size) (e := 31) (s := 4) (Nat.le_refl _))
      have hsz : (wS.drew.alloc (.cells #[.int .i64 10, .int .i64 0, .int .i64 0, .int .i64 0] 31)).heap.size = wS.heap.size + 1 := by simp
      have HE : Hid (OwnO ((wS.drew.alloc (.cells #[.int .i64 10, .int .i64 0, .int .i64 0, .int .i64 0] 31)).alloc (.cells #[] 31)) wS.heap.size 31 4 (.slice (some ⟨wS.heap.size + 1, 0, none⟩) 0 0) 0 []) := Lib.hid (by have h := HE0.out.base' (B' := wS.heap.size) (by omega); rw [hsz] at h; exact h)
      refine anyK_one (i := 4) (by kernel_rfl) rfl ?_
      try rw [alloc_drew]
      refine wl_appendG elCode rfl _ _ rfl wS.heap.size _ 0 _ rfl (HE.out.pure (w' := ((wS.drew.alloc (.cells #[.int .i64 10, .int .i64 0, .int .i64 0, .int .i64 0] 31)).alloc (.cells #[] 31))) (by repeat (first | assumption | exact Pure.refl _ | refine Pure.drewN ?_ _ | refine Pure.drew ?_ | refine Pure.alloc ?_ _ | refine Pure.setCell ?_ (by simp <;> omega) _))) _ rfl (cdf (cs.take k)) k (Cells.keep HCt.out (show Pure wS ((wS.drew.alloc (.cells #[.int .i64 10, .int .i64 0, .int .i64 0, .int .i64 0] 31)).alloc (.cells #[] 31)) from (by repeat (first | assumption | exact Pure.refl _ | refine Pure.drewN ?_ _ | refine Pure.drew ?_ | refine Pure.alloc ?_ _ | refine Pure.setCell ?_ (by simp <;> omega) _)))) HK1.out (by decide) (by omega) (show Pure wS ((wS.drew.alloc (.cells #[.int .i64 10, .int .i64 0, .int .i64 0, .int .i64 0] 31)).alloc (.cells #[] 31)) from (by repeat (first | assumption | exact Pure.refl _ | refine Pure.drewN ?_ _ | refine Pure.drew ?_ | refine Pure.alloc ?_ _ | refine Pure.setCell ?_ (by simp <;> omega) _))).size ?_
      intro v6 w6 r1 r2
      rw [Nat.zero_add, List.nil_append] at r1
      have HO6 := Lib.hid r1
      have HP6 := Lib.hid ((show Pure wS ((wS.drew.alloc (.cells #[.int .i64 10, .int .i64 0, .int .i64 0, .int .i64 0] 31)).alloc (.cells #[] 31)) from (by repeat (first | assumption | exact Pure.refl _ | refine Pure.drewN ?_ _ | refine Pure.drew ?_ | refine Pure.alloc ?_ _ | refine Pure.setCell ?_ (by simp <;> omega) _))).grown r2 (fun k hk => (HE.out.lt k hk).1))
      have HLd : Hid (Codes w6 (.slice (some ⟨wS.heap.size, 0, none⟩) 1 1) [cBar]) := Lib.hid (by
        have h := (HLo.out.pure (w' := ((wS.drew.alloc (.cells #[.int .i64 10, .int .i64 0, .int .i64 0, .int .i64 0] 31)).alloc (.cells #[] 31))) (by repeat (first | assumption | exact Pure.refl _ | refine Pure.drewN ?_ _ | refine Pure.drew ?_ | refine Pure.alloc ?_ _ | refine Pure.setCell ?_ (by simp <;> omega) _))).kept r2 (by have := own_apart HLo.out HE0.out (Nat.le_refl _); rw [hsz] at this; exact this)
        exact Codes.of_ownO h rfl (flat_cdf [cBar]))
      clear r1 r2
      go_wp2
      first | refine And.intro (fun _ => (HP6.out).size) ?_ | refine And.intro (HP6.out).size ?_
      refine anyK_one (i := 7) (by kernel_rfl) rfl ?_
      refine wl_appendG elCode rfl _ _ rfl wS.heap.size _ k _ rfl (HO6.out.pure (w' := w6) (Pure.refl _)) _ rfl (cdf [cBar]) 1 (Cells.keep HLd.out (Pure.refl _)) (cdf_one [cBar]) (by decide) (by omega) (show Pure wS w6 from HP6.out).size ?_
      intro v7 w7 r1 r2
      have HO7 := Lib.hid r1
      have HP7 := Lib.hid ((show Pure wS w6 from HP6.out).grown r2 (fun k hk => (HO6.out.lt k hk).1))
      clear r1 r2
      go_wp2
      first | refine And.intro (fun _ => (HP7.out).size) ?_ | refine And.intro (HP7.out).size ?_
      refine anyK_one (i := 11) (by kernel_rfl) rfl ?_
      refine wl_appendG elCode rfl _ _ rfl wS.heap.size _ (k + 1) _ rfl HO7.out _ rfl (cdf (cs.drop k)) (cs.length - k) (Cells.keep HCd.out HP7.out) HK2.out (by decide) (by omega) HP7.out.size ?_
      intro v8 w8 r1 r2
      have HP8 := Lib.hid (HP7.out.grown r2 (fun k hk => (HO7.out.lt k hk).1))
      have HC8 : Hid (Codes w8 v8 es) := Lib.hid (HES.out ▸ ins_open HK0.out r1)
      clear r1 r2
      go_wp2
      first | refine And.intro (fun _ => (HP8.out).size) ?_ | refine And.intro (HP8.out).size ?_
      refine anyK_one (i := 12) (by kernel_rfl) rfl ?_
      go_wp2
      first | refine And.intro (fun h => absurd rfl h) ?_ | skip
      refine anyK_end (by kernel_rfl) ?_
      obtain ⟨A8, c8, rfl, _, _⟩ := HC8.out.form
      go_wp2_with fail
      refine (irl_any _ _ cs n mem _ (HCS.out.keep HP8.out) (HMS.out.keep HP8.out) (by omega) (by omega)).mono ?_
      rintro e w9 ⟨v9, rfl, ho9, hp9⟩
      have hi9 : Ints w9 v9 mx := Hmx.out ▸ ints_own ho9
      have HI9 := Lib.hid hi9
      have HP9 := Lib.hid (HP8.out.trans hp9)
      have HC9 := Lib.hid (HC8.out.keep hp9)
      obtain ⟨A9, c9, rfl⟩ := hi9.form
      clear ho9 hi9 hp9
      go_wp2_with fail
      refine (irl_any _ _ es n mem _ HC9.out (HMS.out.keep HP9.out) HEL.out (by omega)).mono ?_
      rintro e w10 ⟨v10, rfl, ho10, hp10⟩
      have hi10 : Ints w10 v10 mx := HME.out ▸ ints_own ho10
      have HI10 := Lib.hid hi10
      have HI910 := Lib.hid (Cells.keep HI9.out hp10)
      have HP10 := Lib.hid (HP9.out.trans hp10)
      have HC10 := Lib.hid (HC9.out.keep hp10)
      obtain ⟨A10, c10, rfl⟩ := hi10.form
      clear ho10 hi10 hp10
      go_wp2_with fail
      refine (isafe_any _ _ es n mem _ HC10.out (HMS.out.keep HP10.out) HEL.out (by omega)).mono ?_
      rintro e w11 ⟨rfl, hp11⟩
      rw [HSE.out]
      have HP11 := Lib.hid (HP10.out.trans hp11)
      have HJ1 := Lib.hid (Cells.keep HI910.out hp11)
      have HJ2 := Lib.hid (Cells.keep HI10.out hp11)
      clear hp11
      go_wp2_with fail
      refine (sameInts_same _ _ mx _ HJ1.out HJ2.out hmx).mono ?_
      rintro e w12 ⟨rfl, hp12⟩
      go_wp2
      go_ret
      exact ⟨rfl, ((HP1.out.trans HPS.out).trans HP11.out).trans hp12⟩

end Go.Proofs.Ytonmndojlnohcaa

namespace Go.Proofs.Ytonmndojlnohcaa.rowFnSafeBarrier
open Go.ChangeShapes Go.WideShapes Go.ChangeAt Go.RowKit Go.Deep

set_option maxRecDepth 100000 in
theorem lifted (os : Os) (started : os.Started) (H : Type) (enc : TypeId × Value → H) :
    ReturnsInHanded {} Try.checked os 13 .any (Rows.fnSafeBarrierSpec.pre6 enc Try.prog Try.f13 Rows.fnSafeBarrierRow.domain false) (Rows.fnSafeBarrierSpec.post enc Try.prog Try.f13 false true false false) := by
  refine returnsInHanded_of_change (C := Try.checked) own_knob started (by kernel_rfl) Try.func13
    (ChangeSpec.witness6 (enc := enc) (C := Try.checked) false ⟨#[], #[.slice none 0 0, .slice none 0 0], []⟩ 8 (by kernel_rfl) (by kernel_rfl) (by kernel_rfl) (by kernel_rfl)) ?_
  intro W base args ds gs before hval0 hW hcnd _
  have hval : ∀ (j : Nat) t v, Try.f13.params[j]? = some t → args[j]? = some v → Value.okWide Try.prog W .any base t v := hval0
  have hW' := hW
  obtain ⟨p, q, hA0, hV, rfl, hfz, hnd⟩ := hW
  have hA : DataW.TrodAll enc Try.prog W 0 (fun _ => true) true Try.f13.params.toList args.toList ds p := hA0
  rw [Try.params13] at hA hval
  obtain ⟨v0, vs0, d0, ds0, p0, q0, hargs, rfl, rfl, h0, r0⟩ := trodAll_cons hA
  obtain ⟨v1, vs1, d1, ds1, p1, q1, rfl, rfl, rfl, h1, r1⟩ := trodAll_cons r0
  obtain ⟨rfl, rfl, rfl⟩ := trodAll_nil r1
  obtain rfl : args = #[v0, v1] := by cases args; simp_all
  obtain ⟨rfl, rfl⟩ := trodVars_none hV
  have k0 := h0
  have lt0 : ∀ x ∈ p0, x.block < W.heap.size := by obtain ⟨m, hm⟩ := k0; exact DataW.trod_lt m _ _ _ hm
  obtain ⟨A0, len0, cap0, rfl⟩ := okWide_slice Try.underlying22 (hval 0 22 v0 rfl rfl)
  obtain ⟨x0, w0⟩ : ∃ xs, Bytes W (.slice A0 len0 cap0) xs := by
    obtain ⟨fuel, hf⟩ := h0
    obtain ⟨v, xs, hcs, hx⟩ := bytes_open hf
    simp [Value.cells] at hcs
    subst hcs
    exact ⟨xs, hx⟩
  have k1 := h1
  have lt1 : ∀ x ∈ p1, x.block < W.heap.size := by obtain ⟨m, hm⟩ := k1; exact DataW.trod_lt m _ _ _ hm
  obtain ⟨A1, len1, cap1, rfl⟩ := okWide_slice Try.underlying22 (hval 1 22 v1 rfl rfl)
  obtain ⟨x1, w1⟩ : ∃ xs, Bytes W (.slice A1 len1 cap1) xs := by
    obtain ⟨fuel, hf⟩ := h1
    obtain ⟨v, xs, hcs, hx⟩ := bytes_open hf
    simp [Value.cells] at hcs
    subst hcs
    exact ⟨xs, hx⟩
  clear hA0 hval0
  refine (law_FnSafeBarrier _ x0 _ x1 W w0 w1).mono fun e W' ⟨he, bel⟩ => ?_
  subst he
  have bel' : Below W.heap.size W W' := bel
  exact ⟨_, rfl, _, _, _, [], _, [], hW', trodAll_mk1 (shut_bool Try.underlying4 _), (trodAll_cons_mk (Below.trod laid_out (by kernel_rfl) (of_decide_eq_true (by kernel_rfl)) k0 bel' lt0) (trodAll_cons_mk (Below.trod laid_out (by kernel_rfl) (of_decide_eq_true (by kernel_rfl)) k1 bel' lt1) trodAll_mk0)), rfl, bel'.frame _, fun h => by cases h⟩

theorem proved : Rows.FnSafeBarrierSaid :=
  OpenClaim.holds_of_wide 13 Try.f13 rfl rfl rfl rfl rfl rfl rfl ⟨rfl, rfl, rfl, rfl, rfl⟩ rfl rfl rfl rfl rfl (by kernel_rfl) Try.func13 (by kernel_rfl)
    (of_decide_eq_true (by kernel_rfl)) (by unfold Func.isWrapper; rw [if_neg (of_decide_eq_false (by kernel_rfl))]; exact ⟨rfl, rfl⟩)
    (fun os started H enc _ => lifted os started H enc)

end Go.Proofs.Ytonmndojlnohcaa.rowFnSafeBarrier
