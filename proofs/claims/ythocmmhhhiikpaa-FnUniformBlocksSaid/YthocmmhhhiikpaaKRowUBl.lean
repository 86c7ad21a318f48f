/- The law FnUniformBlocks, whole: Uniform blocks do not divide lanes No condition. -/
import Derived.Test.YthocmmhhhiikpaaKbg
import Derived.Test.YthocmmhhhiikpaaKcb
import Derived.Test.YthocmmhhhiikpaaKcc
import Derived.Test.YthocmmhhhiikpaaKcd

namespace Go.Proofs.Ythocmmhhhiikpaa
open Go.RowKit

set_option maxHeartbeats 400000 in
theorem lawOpens_any (c : Cd) (w : World) (B : Bool) (hB : B = true ↔ Opens c) :
    Calls Try.prog 29 #[cdv c] w fun e w' => e = .returned (.bool B) ∧ Pure w w' := by
  unfold cdv
  obtain ⟨o, a, b, c⟩ := c
  unfold Opens at hB
  simp only at hB ⊢
  have HB := Lib.hid hB; clear hB
  by_cases h11 : o = 11
  · have d11 : (o == 11) = true := by simp [h11]
    have H11 := Lib.hid h11; clear h11
    go_enter Try.func29, Try.ntmps29
    go_wp2
    go_ret
    exact ⟨ret_bool (HB.out.2 (.inl H11.out)).symm, (by repeat (first | assumption | exact Pure.refl _ | refine Pure.drewN ?_ _ | refine Pure.drew ?_ | refine Pure.alloc ?_ _ | refine Pure.setCell ?_ (by simp <;> omega) _))⟩
  · have d11 : (o == 11) = false := by simp [h11]
    have H11 := Lib.hid h11; clear h11
    go_enter Try.func29, Try.ntmps29
    go_wp2
    go_ret
    refine ⟨ret_bool ?_, (by repeat (first | assumption | exact Pure.refl _ | refine Pure.drewN ?_ _ | refine Pure.drew ?_ | refine Pure.alloc ?_ _ | refine Pure.setCell ?_ (by simp <;> omega) _))⟩
    rw [Bool.eq_iff_iff, HB.out, beq_iff_eq]
    exact ⟨fun h => .inr h, fun h => h.resolve_left H11.out⟩

/-- Is the place one of the first of the list? -/
def anyTo (xs : List Int) (p : Int) : Nat → Bool
  | 0 => false
  | j + 1 => anyTo xs p j || (xs.getD j 0 == p)
theorem anyTo_mem {xs : List Int} {p : Int} : ∀ j, j ≤ xs.length → anyTo xs p j = true → p ∈ xs
  | 0, _, h => by cases h
  | j + 1, hj, h => by
    unfold anyTo at h
    rw [Bool.or_eq_true] at h
    rcases h with h | h
    · exact anyTo_mem j (by omega) h
    · rw [beq_iff_eq] at h
      subst h
      rw [List.getD_eq_getElem?_getD, List.getElem?_eq_getElem (by omega)]
      exact List.getElem_mem (by omega)
theorem ubs_mem {cs : List Cd} {t : Tr} {x : Int} : ∀ n, x ∈ ubs cs t n → ∃ k : Nat, k < n ∧ isUB cs t k = true ∧ x = k
  | 0, h => by cases h
  | n + 1, h => by
    have h : x ∈ (if isUB cs t n then ubs cs t n ++ [(n : Int)] else ubs cs t n) := h
    split at h
    · rename_i hb
      rcases List.mem_append.1 h with h | h
      · obtain ⟨k, h1, h2⟩ := ubs_mem n h
        exact ⟨k, by omega, h2⟩
      · simp at h; exact ⟨n, by omega, hb, h⟩
    · obtain ⟨k, h1, h2⟩ := ubs_mem n h
      exact ⟨k, by omega, h2⟩
/-- What is known of the places. -/
theorem ub_at {cs : List Cd} {xs : List Int} {x : Int} (h : UbP cs xs) (hx : x ∈ xs) : ∃ k : Nat, PValid cs ∧ k < cs.length ∧ x = k ∧ Opens (cs.getD k default) ∧ (usL cs (treeOf cs) k).testBit (cs.getD k default).a.toNat = true := by
  by_cases hv : PValid cs
  · rw [h.1 hv] at hx
    obtain ⟨k, h1, h2, h3⟩ := ubs_mem _ hx
    obtain ⟨q1, q2, _⟩ := hv.tree.choose_spec
    obtain ⟨p1, p2, _⟩ := treeOf_spec hv
    have e := flat_inj _ _ q2 p2 (q1.symm.trans p1)
    unfold isUB at h2
    rw [e, Bool.and_eq_true, decide_eq_true_eq] at h2
    exact ⟨k, hv, h1, h3, h2.1, h2.2⟩
  · rw [h.2 hv] at hx; cases hx
theorem ub_next {cs : List Cd} {mem : List Int} {xs : List Int} {k : Nat} (h : UbP cs xs) (hk : k + 1 < (lockA cs 3 mem).H.length) (hx : (((lockA cs 3 mem).H.getD k default).1 : Int) ∈ xs)
    (ha : aroundA cs (((lockA cs 3 mem).H.getD (k + 1) default).1 : Nat) = (((lockA cs 3 mem).H.getD k default).1 : Nat)) : ((lockA cs 3 mem).H.getD (k + 1) default).2.1 = ((lockA cs 3 mem).H.getD k default).2.1 := by
  have hmem : (lockA cs 3 mem).H.getD (k + 1) default ∈ (lockA cs 3 mem).H := getD_mem' hk
  obtain ⟨hin, hok⟩ := lockA_in _ hmem
  have hpl := hin.2.1
  rw [show aroundA cs (((lockA cs 3 mem).H.getD (k + 1) default).1 : Nat) = aroundAt cs ((lockA cs 3 mem).H.getD (k + 1) default).1 by
    unfold aroundA; rw [if_pos ⟨hok.1, by omega, by omega⟩]; rfl] at ha
  obtain ⟨q, _, hq, hqe, _, hb⟩ := ub_at h hx
  have e : ((lockA cs 3 mem).H.getD k default).1 = q := by omega
  have hl : lockA cs 3 mem = lockOf cs 3 mem := lockA_ok (n := 3) hok
  rw [← e] at hb
  rw [hl] at hk hb ha ⊢
  exact uniform_next hok.1 hk hb ha

set_option maxHeartbeats 8000000 in
set_option maxRecDepth 100000 in
theorem law_FnUniformBlocks (v : Value) (bs : List Int) (w : World) (h : Bytes w v bs) :
    Calls Try.prog 8 #[v] w fun e w' => e = .returned (.bool true) ∧ Pure w w' := by
  have H := Lib.hid h
  obtain ⟨A, c, rfl, hnc, hcm⟩ := h.form
  clear h
  by_cases hbig : (bs.length : Int) > 1048576
  · go_enter Try.func8, Try.ntmps8
    go_wp2
    go_ret
    exact ⟨rfl, Pure.refl _⟩
  go_enter Try.func8, Try.ntmps8
  go_wp2_with fail
  refine (draw_DrawUniformBlocks _ bs _ H.out (by omega)).mono ?_
  rintro e w1 ⟨vl, cs, rfl, hl, hcl, hp1⟩
  have HC := Lib.hid hl
  have HP1 := Lib.hid hp1
  obtain ⟨Ac, cc, rfl, hcc1, hcc2⟩ := hl.form
  clear hl hp1
  go_wp2_with fail
  refine (iub_any _ cs _ HC.out (by omega)).mono ?_
  rintro e w2 ⟨v2, xs, rfl, px, hxl, ho2, hp2⟩
  have HPX := Lib.hid px
  have HO2 := Lib.hid ho2
  have HP2 := Lib.hid hp2
  obtain ⟨A2, c2, rfl⟩ := ho2.form
  clear px ho2 hp2
  go_wp2_with fail
  refine (sub_any _ cs _ (HC.out.keep HP2.out) (by omega)).mono ?_
  rintro e w3 ⟨v3, ys, rfl, py, hyl, ho3, hp3⟩
  obtain rfl : xs = ys := UbP.unique HPX.out py
  have HO3 := Lib.hid ho3
  have HP3 := Lib.hid (HP2.out.trans hp3)
  have HO23 := Lib.hid (HO2.out.pure hp3)
  obtain ⟨A3, c3, rfl⟩ := ho3.form
  clear py ho3 hp3 hyl
  go_wp2_with fail
  refine (sameInts_same _ _ xs _ (Ints.of_ownO' HO23.out) (Ints.of_ownO' HO3.out) hxl).mono ?_
  rintro e w4 ⟨rfl, hp4⟩
  have HP4 := Lib.hid (HP3.out.trans hp4)
  have HO24 := Lib.hid (HO23.out.pure hp4)
  clear hp4
  have HPA := Lib.hid (show Pure w4 (w4.alloc (.cells #[.int .i64 1, .int .i64 2, .int .i64 3, .int .i64 4, .int .i64 5] 3)) from (by repeat (first | assumption | exact Pure.refl _ | refine Pure.drewN ?_ _ | refine Pure.drew ?_ | refine Pure.alloc ?_ _ | refine Pure.setCell ?_ (by simp <;> omega) _)))
  have HMEM : Hid (Ints (w4.alloc (.cells #[.int .i64 1, .int .i64 2, .int .i64 3, .int .i64 4, .int .i64 5] 3)) (.slice (some ⟨w4.heap.size, 0, none⟩) 5 5) [1, 2, 3, 4, 5]) :=
    Lib.hid (Ints.of_ownO' (ys := [1, 2, 3, 4, 5]) (OwnO.lit (e := 3) (s := 1) (B := w4.heap.size) w4 #[.int .i64 1, .int .i64 2, .int .i64 3, .int .i64 4, .int .i64 5] 5 (Nat.le_refl _) (by decide) rfl))
  obtain ⟨mem, Hmem⟩ : ∃ mem : List Int, Hid ([1, 2, 3, 4, 5] = mem) := ⟨_, Lib.hid rfl⟩
  have hml : mem.length ≤ 1048576 := by rw [← Hmem.out]; decide
  rw [Hmem.out] at HMEM
  go_wp2_with fail
  refine (itra_any _ _ cs 3 mem _ (HC.out.keep (HP4.out.trans HPA.out)) HMEM.out (by omega) hml).mono ?_
  rintro e w5 ⟨r5, rfl, ho5, hp5⟩
  have HO5 := Lib.hid ho5
  have HP5 := Lib.hid (HP4.out.trans (HPA.out.trans hp5))
  have HS5 := Lib.hid (HO24.out.pure (HPA.out.trans hp5))
  obtain ⟨A5, c5, rfl⟩ := ho5.form
  clear ho5 hp5
  have hlen := lockA_len (cs := cs) (a := 3) (mem := mem)
  have HNX : Hid (∀ k, k + 1 < (lockA cs 3 mem).H.length → (((lockA cs 3 mem).H.getD k default).1 : Int) ∈ xs → aroundA cs (((lockA cs 3 mem).H.getD (k + 1) default).1 : Nat) = (((lockA cs 3 mem).H.getD k default).1 : Nat) → ((lockA cs 3 mem).H.getD (k + 1) default).2.1 = ((lockA cs 3 mem).H.getD k default).2.1) :=
    Lib.hid fun k h1 h2 h3 => ub_next HPX.out h1 h2 h3
  obtain ⟨L, HL⟩ : ∃ L, Hid ((lockA cs 3 mem).H = L) := ⟨_, Lib.hid rfl⟩
  rw [HL.out] at HO5 hlen HNX
  have HLL : Hid ((lockA cs 3 mem).H.length = L.length) := Lib.hid (by rw [HL.out])
  simp only [HLL.out]
  obtain ⟨A2', c2', hv2, _, _, _⟩ : ∃ A' c', (.slice A2 xs.length c2 : Value) = .slice A' xs.length c' ∧ True ∧ True ∧ True := ⟨_, _, rfl, trivial, trivial, trivial⟩
  clear hv2 A2' c2'
  go_wp2_with fail
  go_loopg [6, 7, 8, 9] (2560 + 1) (fun gk i _ _ _ wr => ∃ k : Nat, gk + k = 2560 + 1 ∧ k ≤ L.length ∧ i = .int .i64 k ∧ Pure w5 wr)
  case atStart => exact ⟨0, rfl, by omega, rfl, Pure.refl _⟩
  case round =>
    obtain ⟨k, hgk, hkL, rfl, hp⟩ := hrel
    have Hgk := Lib.hid hgk
    have HP := Lib.hid hp
    clear hgk
    by_cases hlt : k + 1 < L.length
    · have hd0 : decide ((k : Int) + 1 < (L.length : Int)) = true := by rw [decide_eq_true_iff]; omega
      have hd1 : decide (k + 1 < L.length) = true := by rw [decide_eq_true_iff]; omega
      obtain ⟨b', o', hv', hb', hc'⟩ := (Flat.of_own (HO5.out.pure hp)).at_ (by omega)
      have hvv := hv'
      subst hv'
      have q0 := hc' (k * 2) (by omega)
      have q1 := hc' (k * 2 + 1) (by omega)
      have r0 := hc' ((k + 1) * 2) (by omega)
      have r1 := hc' ((k + 1) * 2 + 1) (by omega)
      rw [getD_of (beat_at L k (by omega)).1] at q0
      rw [getD_of (beat_at L k (by omega)).2, ← Nat.add_assoc] at q1
      rw [getD_of (beat_at L (k + 1) hlt).1] at r0
      rw [getD_of (beat_at L (k + 1) hlt).2, ← Nat.add_assoc] at r1
      have hnx := HNX.out k hlt
      obtain ⟨p, Hp⟩ : ∃ p, Hid ((L.getD k default).1 = p) := ⟨_, Lib.hid rfl⟩
      obtain ⟨mk, Hmk⟩ : ∃ mk, Hid ((L.getD k default).2.1 = mk) := ⟨_, Lib.hid rfl⟩
      obtain ⟨p', Hp'⟩ : ∃ p', Hid ((L.getD (k + 1) default).1 = p') := ⟨_, Lib.hid rfl⟩
      obtain ⟨mk', Hmk'⟩ : ∃ mk', Hid ((L.getD (k + 1) default).2.1 = mk') := ⟨_, Lib.hid rfl⟩
      rw [Hp.out] at q0 hnx
      rw [Hmk.out] at q1 hnx
      rw [Hp'.out] at r0 hnx
      rw [Hmk'.out] at r1 hnx
      have HNXT := Lib.hid hnx
      clear hc' hnx hvv
      have Q0 := Lib.hid q0
      have Q1 := Lib.hid q1
      have R0 := Lib.hid r0
      have R1 := Lib.hid r1
      go_wp2_with fail
      go_loopg [8, 9] xs.length (fun gj q i wrX => ∃ j : Nat, gj + j = xs.length ∧ i = .int .i64 j ∧ q = .bool (anyTo xs (p : Int) j) ∧ Pure wr wrX)
      case atStart => exact ⟨0, rfl, rfl, rfl, Pure.refl _⟩
      case round =>
        obtain ⟨j, hgj, rfl, rfl, hp2⟩ := hrel
        have Hgj := Lib.hid hgj
        have HP2 := Lib.hid hp2
        have hjn : j ≤ xs.length := by omega
        clear hgj
        by_cases hjl : j < xs.length
        · have hsc := Cells.keep (Ints.of_ownO' (HS5.out.pure (hp.trans hp2))) (Pure.refl _)
          obtain ⟨Bj, HBj⟩ : ∃ Bj, Hid (anyTo xs (p : Int) j = Bj) := ⟨_, Lib.hid rfl⟩
          have hnext : anyTo xs (p : Int) (j + 1) = (anyTo xs (p : Int) j || (xs.getD j 0 == (p : Int))) := rfl
          rw [HBj.out] at hnext ⊢
          obtain ⟨As, cs', hvs, _, _, h6⟩ := hsc
          injection hvs with e1 e2 e3
          subst e1 e3
          obtain ⟨bs', os, rfl, hbs, hcs⟩ := h6 (by omega)
          have s0 : wr.cell? ⟨bs', os + j, none⟩ = some (.int .i64 (xs.getD j 0)) := hcs j (by omega)
          obtain ⟨xj, Hxj⟩ : ∃ xj, Hid (xs.getD j 0 = xj) := ⟨_, Lib.hid rfl⟩
          rw [Hxj.out] at s0 hnext
          obtain ⟨D, HD⟩ : ∃ D, Hid ((xj == (p : Int)) = D) := ⟨_, Lib.hid rfl⟩
          have hdd := HD.out
          rw [hdd] at hnext
          have HN := Lib.hid hnext
          clear h6 hcs hnext
          cases Bj
          · go_wp2
            go_roundg (xs.length - (j + 1))
            case measure => have := Hgj.out; omega
            case rel => exact ⟨j + 1, by have := Hgj.out; omega, by go_num, by rw [HN.out]; rfl, HP2.out⟩
          · go_wp2
            go_roundg (xs.length - (j + 1))
            case measure => have := Hgj.out; omega
            case rel => exact ⟨j + 1, by have := Hgj.out; omega, by go_num, by rw [HN.out]; rfl, HP2.out⟩
        · have hjl' : j = xs.length := by omega
          subst hjl'
          have HMM : Hid (anyTo xs (p : Int) xs.length = true → (p : Int) ∈ xs) := Lib.hid fun h => anyTo_mem _ (Nat.le_refl _) h
          obtain ⟨Bj, HBj⟩ : ∃ Bj, Hid (anyTo xs (p : Int) xs.length = Bj) := ⟨_, Lib.hid rfl⟩
          rw [HBj.out]
          have q0 := keepPc hp2 Q0.out
          have q1 := keepPc hp2 Q1.out
          have r0 := keepPc hp2 R0.out
          have r1 := keepPc hp2 R1.out
          have hpw := hp.trans hp2
          obtain ⟨ar, Har⟩ : ∃ ar, Hid (aroundA cs (p' : Nat) = ar) := ⟨_, Lib.hid rfl⟩
          have HBA : Hid (∀ u : World, Pure wr u → Calls Try.prog 28 #[.slice Ac cs.length cc, .int .i64 (p' : Int)] u fun e w' => e = .returned (.int .i64 ar) ∧ Pure u w') := Lib.hid fun u hu => by
            have := iba_any _ cs (p' : Int) u (HC.out.keep ((HP5.out.trans hpw).trans hu)) (by omega)
            rw [Har.out] at this; exact this
          have hi1 : (k : Int) + 1 < (L.length : Int) := by omega
          have hi3 : (0 : Int) ≤ (k : Int) + 1 := by omega
          have hi4 : (k : Int) < (L.length : Int) := by omega
          cases Bj
          · go_wp2_with fail
            refine region_pure [.bool false, .bool false, undef, undef, undef, undef, undef, undef, undef, undef, undef, undef, .bool false, .bool false, undef, undef, undef, undef, undef, undef, undef, undef, undef, undef, undef, undef, .bool false] (Pure wr) (by kernel_rfl) (by kernel_rfl) rfl (by kernel_rfl) (Pure.drew (Pure.refl _)) ?_ ?_ (by kernel_rfl)
            · simp only [foldPut, Act.put, List.setIfInBounds_toArray, List.set_cons_succ, List.set_cons_zero]
              refine ⟨fun u hu => ?_, fun u hu => ?_, fun u hu => ?_, fun u hu => ?_, fun u hu => ?_, fun u hu => ?_, fun u hu => ?_, fun u hu => ?_, fun u hu => ?_, fun u hu => ?_, fun u hu => ?_, fun u hu => ?_, fun u hu => ?_, fun u hu => ?_, fun u hu => ?_, fun u hu => ?_, fun u hu => ?_, fun u hu => ?_, fun u hu => ?_, fun u hu => ?_, fun u hu => ?_, fun u hu => ?_, fun u hu => ?_, fun u hu => ?_, fun u hu => ?_, fun u hu => ?_, fun u hu => ?_, trivial⟩
              all_goals
                have q0u := keepPc hu q0
                have q1u := keepPc hu q1
                have r0u := keepPc hu r0
                have r1u := keepPc hu r1
                go_wp2_with (go_at_call 28; refine (HBA.out _ hu).mono ?_; rintro e w7 ⟨rfl, hp7⟩; have hu := hu.trans hp7)
                exact ⟨by assumption, rfl⟩
            · intro u hu
              simp only [foldPut, Act.put, List.setIfInBounds_toArray, List.set_cons_succ, List.set_cons_zero]
              go_wp2
              go_roundg (2560 + 1 - (k + 1))
              case measure => have := Hgk.out; omega
              case rel => exact ⟨k + 1, by have := Hgk.out; omega, by omega, by go_num, (HP.out.trans HP2.out).trans hu⟩
          · by_cases hae : ar = (p : Int)
            · have hmm : mk' = mk := HNXT.out (HMM.out HBj.out) (by rw [Har.out, hae])
              subst hmm
              have hab : (ar == (p : Int)) = true := by rw [beq_iff_eq]; exact hae
              have hmb : ((mk' : Int) != (mk' : Int)) = false := by simp
              clear hae
              go_wp2_with fail
              refine region_pure [.bool true, .bool true, .slice Ac cs.length cc, .slice (some ⟨b', o', none⟩) L.length c5, .int .i64 (k : Int), .int .i64 ((k : Int) + 1), .pointer (some ⟨b', o' + (k + 1) * 2, none⟩), .pointer (some ⟨b', o' + (k + 1) * 2, none⟩), .int .i64 (p' : Int), .int .i64 ar, .int .i64 (p : Int), .bool true, .bool true, .bool true, .slice (some ⟨b', o', none⟩) L.length c5, .int .i64 (k : Int), .int .i64 ((k : Int) + 1), .pointer (some ⟨b', o' + (k + 1) * 2, none⟩), .pointer (some ⟨b', o' + (k + 1) * 2 + 1, none⟩), .int .i64 (mk' : Int), .slice (some ⟨b', o', none⟩) L.length c5, .int .i64 (k : Int), .pointer (some ⟨b', o' + k * 2, none⟩), .pointer (some ⟨b', o' + k * 2 + 1, none⟩), .int .i64 (mk' : Int), .bool false, .bool false] (Pure wr) (by kernel_rfl) (by kernel_rfl) rfl (by kernel_rfl) (Pure.drew (Pure.refl _)) ?_ ?_ (by kernel_rfl)
              · simp only [foldPut, Act.put, List.setIfInBounds_toArray, List.set_cons_succ, List.set_cons_zero]
                refine ⟨fun u hu => ?_, fun u hu => ?_, fun u hu => ?_, fun u hu => ?_, fun u hu => ?_, fun u hu => ?_, fun u hu => ?_, fun u hu => ?_, fun u hu => ?_, fun u hu => ?_, fun u hu => ?_, fun u hu => ?_, fun u hu => ?_, fun u hu => ?_, fun u hu => ?_, fun u hu => ?_, fun u hu => ?_, fun u hu => ?_, fun u hu => ?_, fun u hu => ?_, fun u hu => ?_, fun u hu => ?_, fun u hu => ?_, fun u hu => ?_, fun u hu => ?_, fun u hu => ?_, fun u hu => ?_, trivial⟩
                all_goals
                  have q0u := keepPc hu q0
                  have q1u := keepPc hu q1
                  have r0u := keepPc hu r0
                  have r1u := keepPc hu r1
                  go_wp2_with (go_at_call 28; refine (HBA.out _ hu).mono ?_; rintro e w7 ⟨rfl, hp7⟩; have hu := hu.trans hp7)
                  exact ⟨by assumption, rfl⟩
              · intro u hu
                simp only [foldPut, Act.put, List.setIfInBounds_toArray, List.set_cons_succ, List.set_cons_zero]
                go_wp2
                go_roundg (2560 + 1 - (k + 1))
                case measure => have := Hgk.out; omega
                case rel => exact ⟨k + 1, by have := Hgk.out; omega, by omega, by go_num, (HP.out.trans HP2.out).trans hu⟩
            · have hab : (ar == (p : Int)) = false := by rw [beq_eq_false_iff_ne]; exact hae
              clear hae
              go_wp2_with fail
              refine region_pure [.bool true, .bool true, .slice Ac cs.length cc, .slice (some ⟨b', o', none⟩) L.length c5, .int .i64 (k : Int), .int .i64 ((k : Int) + 1), .pointer (some ⟨b', o' + (k + 1) * 2, none⟩), .pointer (some ⟨b', o' + (k + 1) * 2, none⟩), .int .i64 (p' : Int), .int .i64 ar, .int .i64 (p : Int), .bool false, .bool false, .bool false, undef, undef, undef, undef, undef, undef, undef, undef, undef, undef, undef, undef, .bool false] (Pure wr) (by kernel_rfl) (by kernel_rfl) rfl (by kernel_rfl) (Pure.drew (Pure.refl _)) ?_ ?_ (by kernel_rfl)
              · simp only [foldPut, Act.put, List.setIfInBounds_toArray, List.set_cons_succ, List.set_cons_zero]
                refine ⟨fun u hu => ?_, fun u hu => ?_, fun u hu => ?_, fun u hu => ?_, fun u hu => ?_, fun u hu => ?_, fun u hu => ?_, fun u hu => ?_, fun u hu => ?_, fun u hu => ?_, fun u hu => ?_, fun u hu => ?_, fun u hu => ?_, fun u hu => ?_, fun u hu => ?_, fun u hu => ?_, fun u hu => ?_, fun u hu => ?_, fun u hu => ?_, fun u hu => ?_, fun u hu => ?_, fun u hu => ?_, fun u hu => ?_, fun u hu => ?_, fun u hu => ?_, fun u hu => ?_, fun u hu => ?_, trivial⟩
                all_goals
                  have q0u := keepPc hu q0
                  have q1u := keepPc hu q1
                  have r0u := keepPc hu r0
                  have r1u := keepPc hu r1
                  go_wp2_with (go_at_call 28; refine (HBA.out _ hu).mono ?_; rintro e w7 ⟨rfl, hp7⟩; have hu := hu.trans hp7)
                  exact ⟨by assumption, rfl⟩
              · intro u hu
                simp only [foldPut, Act.put, List.setIfInBounds_toArray, List.set_cons_succ, List.set_cons_zero]
                go_wp2
                go_roundg (2560 + 1 - (k + 1))
                case measure => have := Hgk.out; omega
                case rel => exact ⟨k + 1, by have := Hgk.out; omega, by omega, by go_num, (HP.out.trans HP2.out).trans hu⟩
    · have hd0 : decide ((k : Int) + 1 < (L.length : Int)) = false := by rw [decide_eq_false_iff_not]; omega
      have hd1 : decide (k + 1 < L.length) = false := by rw [decide_eq_false_iff_not]; omega
      have hpf := HP.out
      have HPW := Lib.hid (HP5.out.trans hp)
      have HSW := Lib.hid (HS5.out.pure hp)
      have HUA : Hid (∀ j, j < xs.length → ∃ q : Nat, q < cs.length ∧ xs.getD j 0 = q ∧ Opens (cs.getD q default)) := Lib.hid fun j hj => by
        have hm : xs.getD j 0 ∈ xs := by
          rw [List.getD_eq_getElem?_getD, List.getElem?_eq_getElem hj]
          exact List.getElem_mem hj
        obtain ⟨q, _, h1, h2, h3, _⟩ := ub_at HPX.out hm
        exact ⟨q, h1, h2, h3⟩
      go_wp2_with fail
      go_loopg [10] xs.length (fun gj i wrX => ∃ j : Nat, gj + j = xs.length ∧ i = .int .i64 j ∧ Pure wr wrX)
      case atStart => exact ⟨0, rfl, rfl, Pure.refl _⟩
      case round =>
        obtain ⟨j, hgj, rfl, hp2⟩ := hrel
        have Hgj := Lib.hid hgj
        have HP2 := Lib.hid hp2
        have hjn : j ≤ xs.length := by omega
        clear hgj
        by_cases hjl : j < xs.length
        · have hsc := Cells.keep (Ints.of_ownO' (HSW.out.pure hp2)) (Pure.refl _)
          obtain ⟨As, cs', hvs, _, _, h6⟩ := hsc
          injection hvs with e1 e2 e3
          subst e1 e3
          obtain ⟨bs', os, rfl, hbs, hcs⟩ := h6 (by omega)
          have s0 : wr.cell? ⟨bs', os + j, none⟩ = some (.int .i64 (xs.getD j 0)) := hcs j (by omega)
          obtain ⟨q, hq, hqe, hqo⟩ := HUA.out j hjl
          rw [hqe] at s0
          obtain ⟨b, o, rfl, hb, hc⟩ := (HC.out.keep (HPW.out.trans hp2)).at_ hq
          obtain ⟨cd, Hcd⟩ : ∃ cd, Hid (cs.getD q default = cd) := ⟨_, Lib.hid rfl⟩
          rw [Hcd.out] at hc hqo
          have HOP : Hid (∀ u : World, Calls Try.prog 29 #[cdv cd] u fun e w' => e = .returned (.bool true) ∧ Pure u w') := Lib.hid fun u => lawOpens_any cd u true (by simp; exact hqo)
          obtain ⟨op, ca, cb, cd3⟩ := cd
          obtain ⟨t0, t1, t2, t3⟩ := hc
          simp only at t0 t1 t2 t3
          have hq1 : (q : Int) < (cs.length : Int) := by omega
          have hq0 : (0 : Int) ≤ (q : Int) := by omega
          have hdq : decide (cs.length ≤ q) = false := by rw [decide_eq_false_iff_not]; omega
          have hdq2 : decide ((q : Int) ≥ (cs.length : Int)) = false := by rw [decide_eq_false_iff_not]; omega
          have hbw := World.block_lt_of_cell? _ _ t0
          have hbw2 := World.block_lt_of_cell? _ _ s0
          clear h6 hcs hqo hqe
          go_wp2_with fail
          refine (HOP.out _).mono ?_
          rintro e w6 ⟨rfl, hp6⟩
          go_wp2
          go_roundg (xs.length - (j + 1))
          case measure => have := Hgj.out; omega
          case rel => exact ⟨j + 1, by have := Hgj.out; omega, by go_num, HP2.out.trans (by first | exact hp6 | exact Pure.trans (by exact (by repeat (first | assumption | exact Pure.refl _ | refine Pure.drewN ?_ _ | refine Pure.drew ?_ | refine Pure.alloc ?_ _ | refine Pure.setCell ?_ (by simp <;> omega) _))) hp6)⟩
        · have hjl' : j = xs.length := by omega
          subst hjl'
          have hpf2 := HP2.out
          go_wp2_with fail
          refine (alive_any _).mono ?_
          rintro e w9 ⟨rfl, hp9⟩
          go_wp2
          go_ret
          exact ⟨rfl, ((HP1.out.trans HPW.out).trans hpf2).trans hp9⟩

end Go.Proofs.Ythocmmhhhiikpaa

namespace Go.Proofs.Ythocmmhhhiikpaa.rowFnUniformBlocks
open Go.ChangeShapes Go.WideShapes Go.ChangeAt Go.RowKit Go.Deep

set_option maxRecDepth 100000 in
theorem lifted (os : Os) (started : os.Started) (H : Type) (enc : TypeId × Value → H) :
    ReturnsInHanded {} Try.checked os 8 .any (Rows.fnUniformBlocksSpec.pre6 enc Try.prog Try.f8 Rows.fnUniformBlocksRow.domain false) (Rows.fnUniformBlocksSpec.post enc Try.prog Try.f8 false true false false) := by
  refine returnsInHanded_of_change (C := Try.checked) own_knob started (by kernel_rfl) Try.func8
    (ChangeSpec.witness6 (enc := enc) (C := Try.checked) false ⟨#[], #[.slice none 0 0], []⟩ 8 (by kernel_rfl) (by kernel_rfl) (by kernel_rfl) (by kernel_rfl)) ?_
  intro W base args ds gs before hval0 hW hcnd _
  have hval : ∀ (j : Nat) t v, Try.f8.params[j]? = some t → args[j]? = some v → Value.okWide Try.prog W .any base t v := hval0
  have hW' := hW
  obtain ⟨p, q, hA0, hV, rfl, hfz, hnd⟩ := hW
  have hA : DataW.TrodAll enc Try.prog W 0 (fun _ => true) true Try.f8.params.toList args.toList ds p := hA0
  rw [Try.params8] at hA hval
  obtain ⟨v0, vs0, d0, ds0, p0, q0, hargs, rfl, rfl, h0, r0⟩ := trodAll_cons hA
  obtain ⟨rfl, rfl, rfl⟩ := trodAll_nil r0
  obtain rfl : args = #[v0] := by cases args; simp_all
  obtain ⟨rfl, rfl⟩ := trodVars_none hV
  have k0 := h0
  have lt0 : ∀ x ∈ p0, x.block < W.heap.size := by obtain ⟨m, hm⟩ := k0; exact DataW.trod_lt m _ _ _ hm
  obtain ⟨A0, len0, cap0, rfl⟩ := okWide_slice Try.underlying33 (hval 0 33 v0 rfl rfl)
  obtain ⟨x0, w0⟩ : ∃ xs, Bytes W (.slice A0 len0 cap0) xs := by
    obtain ⟨fuel, hf⟩ := h0
    obtain ⟨v, xs, hcs, hx⟩ := bytes_open hf
    simp [Value.cells] at hcs
    subst hcs
    exact ⟨xs, hx⟩
  clear hA0 hval0
  refine (law_FnUniformBlocks _ x0 W w0).mono fun e W' ⟨he, bel⟩ => ?_
  subst he
  have bel' : Below W.heap.size W W' := bel
  exact ⟨_, rfl, _, _, _, [], _, [], hW', trodAll_mk1 (shut_bool Try.underlying4 _), (trodAll_cons_mk (Below.trod laid_out (by kernel_rfl) (of_decide_eq_true (by kernel_rfl)) k0 bel' lt0) trodAll_mk0), rfl, bel'.frame _, fun h => by cases h⟩

theorem proved : Rows.FnUniformBlocksSaid :=
  OpenClaim.holds_of_wide 8 Try.f8 rfl rfl rfl rfl rfl rfl rfl ⟨rfl, rfl, rfl, rfl, rfl⟩ rfl rfl rfl rfl rfl (by kernel_rfl) Try.func8 (by kernel_rfl)
    (of_decide_eq_true (by kernel_rfl)) (by unfold Func.isWrapper; rw [if_neg (of_decide_eq_false (by kernel_rfl))]; exact ⟨rfl, rfl⟩)
    (fun os started H enc _ => lifted os started H enc)

end Go.Proofs.Ythocmmhhhiikpaa.rowFnUniformBlocks
