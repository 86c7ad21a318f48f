/- The run by the least places, for all arguments; without split barriers it is lockstep. No program in sight. The program's lanes at the least place, and their steps. The program's run by the least places. The program's RunLeast and LeastTrace, for all arguments. No condition. -/
import Derived.Test.YtajaonejpggcbaaKbf
import Derived.Test.YtajaonejpggcbaaKci
import Derived.Test.YtajaonejpggcbaaKcj
import Derived.Test.YtajaonejpggcbaaKda

namespace Go.Proofs.Ytajaonejpggcbaa

open Classical in
noncomputable def leastA (cs : List Cd) (a : Int) (mem : List Int) : CS := if RunOk cs a mem then lIter cs a.toNat mem.length 40000 (startCS mem) else ⟨fun _ => ln0, fun _ => 0, [], [], 0⟩
open Classical in
noncomputable def leastMem (cs : List Cd) (a : Int) (mem : List Int) : List Int := if RunOk cs a mem then (List.range mem.length).map (leastA cs a mem).M else []
theorem leastA_ok {cs : List Cd} {n : Nat} {mem : List Int} (h : RunOk cs n mem) : leastA cs n mem = lIter cs n mem.length 40000 (startCS mem) := by
  unfold leastA; rw [if_pos h, Int.toNat_natCast]
theorem leastA_no {cs : List Cd} {a : Int} {mem : List Int} (h : ¬ RunOk cs a mem) : (leastA cs a mem).H = [] := by
  unfold leastA; rw [if_neg h]
theorem leastMem_ok {cs : List Cd} {n : Nat} {mem : List Int} (h : RunOk cs n mem) : leastMem cs n mem = (List.range mem.length).map (lIter cs n mem.length 40000 (startCS mem)).M := by
  unfold leastMem; rw [if_pos h, leastA_ok h]
theorem leastMem_no {cs : List Cd} {a : Int} {mem : List Int} (h : ¬ RunOk cs a mem) : leastMem cs a mem = [] := by unfold leastMem; rw [if_neg h]
theorem leastMem_len {cs : List Cd} {a : Int} {mem : List Int} : (leastMem cs a mem).length ≤ mem.length := by
  unfold leastMem; split
  · simp
  · simp
theorem leastA_done {cs : List Cd} {n : Nat} {mem : List Int} (hok : RunOk cs n mem) : DoneL cs n (lIter cs n mem.length 40000 (startCS mem)).L := by
  obtain ⟨N, h1, h2⟩ := least_ends (cs := cs) (n := n) (m := mem.length) (n * 5000) (startCS mem) (start_norm cs n) (start_ways hok.1 n)
  have hN : N ≤ 40000 := by have := hok.2.1.2; omega
  obtain ⟨d, hd⟩ : ∃ d, 40000 = N + d := ⟨40000 - N, by omega⟩
  rw [hd, lIter_add, lIter_done h2]
  exact h2
/-- Without split barriers it is lockstep, step by step. -/
theorem least_lock {cs : List Cd} {n : Nat} {mem : List Int} (hok : RunOk cs n mem) (hn : NoSp cs n (lockOf cs n mem).H) : (leastA cs n mem).M = (lockOf cs n mem).M ∧ (leastA cs n mem).H = (lockOf cs n mem).H.map fun x => (x.1, x.2.1) := by
  obtain ⟨c, g1, g2, g3⟩ := lock_sync hok hn
  rw [leastA_ok hok, g1.done_unique g2 (leastA_done hok)]
  exact ⟨g3.mem, g3.hi⟩
theorem leastMem_lock {cs : List Cd} {n : Nat} {mem : List Int} (hok : RunOk cs n mem) (hn : NoSp cs n (lockOf cs n mem).H) : leastMem cs n mem = memA cs n mem := by
  have h := (least_lock hok hn).1
  rw [leastA_ok hok] at h
  rw [leastMem_ok hok, memA_ok hok, h]
theorem leastA_len {cs : List Cd} {a : Int} {mem : List Int} : (leastA cs a mem).H.length ≤ 40000 := by
  unfold leastA
  split
  · have : ∀ j, (lIter cs a.toNat mem.length j (startCS mem)).H.length ≤ j := by
      intro j
      induction j with
      | zero => exact Nat.le_refl 0
      | succ j ih =>
        show (leastStep cs a.toNat mem.length (lIter cs a.toNat mem.length j (startCS mem))).H.length ≤ _
        unfold leastStep
        split
        · omega
        · rw [pass_H, step_H]
          unfold noteC
          show (if _ then _ else _ : List (Nat × Nat)).length ≤ _
          split
          · omega
          · simp; omega
    exact this 40000
  · simp

end Go.Proofs.Ytajaonejpggcbaa

namespace Go.Proofs.Ytajaonejpggcbaa
open Go.RowKit

theorem lanes_full (n : Nat) (hn : n ≤ 8) : lanesL (2 ^ n - 1) 8 = List.range n := by
  have : n = 0 ∨ n = 1 ∨ n = 2 ∨ n = 3 ∨ n = 4 ∨ n = 5 ∨ n = 6 ∨ n = 7 ∨ n = 8 := by omega
  rcases this with rfl | rfl | rfl | rfl | rfl | rfl | rfl | rfl | rfl <;> decide
theorem least_bits (cs : List Cd) (L : Nat → Ln) : ∀ j, j ≤ 8 → (leastTo cs L j).1 < 256 := fun j hj => by
  have := (least_spec (cs := cs) (L := L) j).2.2.2.2
  exact Nat.lt_of_lt_of_le this (powI hj)
theorem least_succ (cs : List Cd) (L : Nat → Ln) (j : Nat) : leastTo cs L (j + 1) = if goesL cs.length (L j) = true then (if (L j).at_ < (leastTo cs L j).2 then (2 ^ j, (L j).at_) else if (L j).at_ = (leastTo cs L j).2 then ((leastTo cs L j).1 ||| 2 ^ j, (leastTo cs L j).2) else leastTo cs L j) else leastTo cs L j := rfl

set_option maxHeartbeats 4000000 in
set_option maxRecDepth 100000 in
theorem ileast_any (o : MO) (w : World) (vt : Nat → Value) (L : Nat → Ln) (M : Nat → Int) (h : MRun o w vt L M) (hle : ∀ k, k < o.n → (L k).at_ ≤ o.cs.length) (h40 : o.cs.length ≤ 40) :
    Calls Try.prog 56 #[.pointer (some ⟨o.pm, 0, none⟩), .pointer (some ⟨o.gc, 0, none⟩), .int .i64 ((2 ^ o.n - 1 : Nat) : Int)] w fun e w' => e = .returned (.tuple #[.int .i64 ((leastTo o.cs L o.n).1 : Nat), .int .i64 ((leastTo o.cs L o.n).2 : Nat)]) ∧ Pure w w' := by
  have H := Lib.hid h
  have HLE := Lib.hid hle
  obtain ⟨g0, _⟩ := h.crowdCells
  obtain ⟨A, cA, hvl, m0⟩ := h.machCell
  have hn8 := h.n8
  have hn1 := h.n1
  have hcl1 := h.cl1
  have hcl2 := h.cl2
  unfold MO.vL at g0
  obtain ⟨msk, Hmsk⟩ : ∃ msk, Hid (2 ^ o.n - 1 = msk) := ⟨2 ^ o.n - 1, Lib.hid rfl⟩
  have hmsk : msk < 256 := by rw [← Hmsk.out]; have := powI hn8; have := Nat.pow_pos (a := 2) (n := o.n) (by decide); omega
  have HLF : Hid (lanesL msk 8 = List.range o.n) := Lib.hid (by rw [← Hmsk.out]; exact lanes_full o.n hn8)
  rw [Hmsk.out]
  clear h hle hvl
  go_enter Try.func56, Try.ntmps56
  go_wp2_with fail
  go_quiet (fail)
  go_wp2_with fail
  refine (ilanes_any msk hmsk _).mono ?_
  rintro e w1 ⟨v1, rfl, ho1, hp1⟩
  rw [HLF.out] at ho1
  simp only [List.length_range] at ho1
  have HO1 := Lib.hid ho1
  have HP1 := Lib.hid ((show Pure w (w.drewN nq) from (by repeat (first | assumption | exact Pure.refl _ | refine Pure.drewN ?_ _ | refine Pure.drew ?_ | refine Pure.alloc ?_ _ | refine Pure.setCell ?_ (by simp <;> omega) _))).trans hp1)
  obtain ⟨A1, c1, rfl⟩ := ho1.form
  have hfs := ho1.formSome (by omega)
  obtain ⟨g1, o1, c1', hv1, hc11, hc12, _, hg1⟩ := hfs
  injection hv1 with hA _ hC
  subst hA hC
  clear ho1 hp1
  obtain ⟨n, Hn⟩ : ∃ n, Hid (o.n = n) := ⟨_, Lib.hid rfl⟩
  go_wp2_with fail
  go_loopg [21, 8, 9, 11, 12, 51, 58] o.n (fun gk i a8 a9 a11 a12 a51 a58 wr => ∃ j : Nat, gk + j = o.n ∧ i = .int .i64 j ∧ a8 = .int .i64 ((leastTo o.cs L j).1 : Nat) ∧ a9 = .int .i64 ((leastTo o.cs L j).2 : Nat) ∧ Pure w1 wr)
  case atStart => exact ⟨0, rfl, rfl, rfl, rfl, Pure.refl _⟩
  case round =>
    obtain ⟨j, hgk, rfl, rfl, rfl, hp⟩ := hrel
    have Hgk := Lib.hid hgk
    have HP := Lib.hid hp
    have hjn : j ≤ o.n := by omega
    have g0 := keepP (HP1.out.trans hp) g0
    have HL8 := least_bits o.cs L j (by omega)
    obtain ⟨hs2, _, _, _, _⟩ := least_spec (cs := o.cs) (L := L) j
    have HSU := Lib.hid (least_succ o.cs L j)
    obtain ⟨mk, Hmk⟩ : ∃ mk, Hid ((leastTo o.cs L j).1 = mk) := ⟨_, Lib.hid rfl⟩
    obtain ⟨pl, Hpl⟩ : ∃ pl, Hid ((leastTo o.cs L j).2 = pl) := ⟨_, Lib.hid rfl⟩
    have hpair : leastTo o.cs L j = (mk, pl) := by rw [← Hmk.out, ← Hpl.out]
    have HPR := Lib.hid hpair
    rw [Hmk.out] at HL8 ⊢
    rw [Hpl.out] at hs2 ⊢
    rw [hpair] at HSU
    clear hgk hp hpair
    by_cases hlt : j < o.n
    · have hj0 : (0 : Int) ≤ (j : Int) := by omega
      have hjI : (j : Int) < (o.n : Int) := by omega
      have hj8 : j < 8 := by omega
      have q1 := HO1.out.cell j (by omega)
      rw [List.getElem?_map, List.getElem?_range hlt] at q1
      have q1 := keepP HP.out q1
      simp only at q1
      have HG : Hid (∀ u : World, Pure wr u → Calls Try.prog 89 #[.pointer (some ⟨o.pm, 0, none⟩), .pointer (some ⟨o.gl, j * 4, none⟩)] u fun e w' => e = .returned (.bool (goesL o.cs.length (L j))) ∧ Pure u w') := Lib.hid fun u hu =>
        igoes_any o u vt L M (H.out.keep ((HP1.out.trans HP.out).trans hu)) j hlt (HLE.out j hlt)
      obtain ⟨gb, Hgb⟩ : ∃ gb, Hid (goesL o.cs.length (L j) = gb) := ⟨_, Lib.hid rfl⟩
      have hlc := ((H.out.keep (HP1.out.trans HP.out)).laneCells hlt).2.1
      obtain ⟨a, Ha⟩ : ∃ a, Hid ((L j).at_ = a) := ⟨_, Lib.hid rfl⟩
      rw [Ha.out] at hlc HSU
      rw [Hgb.out] at HG HSU
      have ha40 : a ≤ 40 := by have := HLE.out j hlt; rw [Ha.out] at this; omega
      have hs := shlI (j := j) (by omega)
      have hor : bits .or .i64 (mk : Int) ((2 ^ j : Nat) : Int) = ((mk ||| 2 ^ j : Nat) : Int) := bits_or (Nat.lt_trans HL8 (by decide)) (Nat.lt_of_le_of_lt (powI (show j ≤ 8 by omega)) (by decide))
      obtain ⟨s, Hs⟩ : ∃ s, Hid (2 ^ j = s) := ⟨2 ^ j, Lib.hid rfl⟩
      rw [Hs.out] at hs hor HSU
      have HSH := Lib.hid hs
      obtain ⟨mk', Hmk'⟩ : ∃ mk', Hid (mk ||| s = mk') := ⟨_, Lib.hid rfl⟩
      rw [Hmk'.out] at hor HSU
      go_wp2_with fail
      refine (HG.out _ (Pure.refl _)).mono ?_
      rintro e w2 ⟨rfl, hp2⟩
      have HP2 := Lib.hid (HP.out.trans hp2)
      have hlc := keepP hp2 hlc
      have g0 := keepP hp2 g0
      cases gb
      · have HN : Hid (leastTo o.cs L (j + 1) = (mk, pl)) := Lib.hid (by rw [HSU.out]; simp)
        go_wp2
        go_roundg (o.n - (j + 1))
        case measure => have := Hgk.out; omega
        case rel => exact ⟨j + 1, by have := Hgk.out; omega, by go_num, by rw [HN.out], by rw [HN.out], HP2.out⟩
      · by_cases hlt2 : a < pl
        · have HN : Hid (leastTo o.cs L (j + 1) = (s, a)) := Lib.hid (by rw [HSU.out, if_pos rfl, if_pos hlt2])
          have hd : decide ((a : Int) < (pl : Int)) = true := by rw [decide_eq_true_iff]; omega
          have hd2 : decide (a < pl) = true := by rw [decide_eq_true_iff]; exact hlt2
          go_wp2
          go_roundg (o.n - (j + 1))
          case measure => have := Hgk.out; omega
          case rel => exact ⟨j + 1, by have := Hgk.out; omega, by go_num, by rw [HN.out, HSH.out], by rw [HN.out], HP2.out⟩
        · by_cases heq : a = pl
          · have HN : Hid (leastTo o.cs L (j + 1) = (mk', pl)) := Lib.hid (by rw [HSU.out, if_pos rfl, if_neg hlt2, if_pos heq])
            have hd : decide ((a : Int) < (pl : Int)) = false := by rw [decide_eq_false_iff_not]; omega
            have hd2 : decide (a < pl) = false := by rw [decide_eq_false_iff_not]; exact hlt2
            have hq : ((a : Int) == (pl : Int)) = true := by rw [beq_iff_eq]; omega
            clear hlt2 heq
            go_wp2
            go_roundg (o.n - (j + 1))
            case measure => have := Hgk.out; omega
            case rel => exact ⟨j + 1, by have := Hgk.out; omega, by go_num, by rw [HN.out], by rw [HN.out], HP2.out⟩
          · have HN : Hid (leastTo o.cs L (j + 1) = (mk, pl)) := Lib.hid (by rw [HSU.out, if_pos rfl, if_neg hlt2, if_neg heq])
            have hd : decide ((a : Int) < (pl : Int)) = false := by rw [decide_eq_false_iff_not]; omega
            have hd2 : decide (a < pl) = false := by rw [decide_eq_false_iff_not]; exact hlt2
            have hq : ((a : Int) == (pl : Int)) = false := by rw [beq_eq_false_iff_ne]; omega
            clear hlt2 heq
            go_wp2
            go_roundg (o.n - (j + 1))
            case measure => have := Hgk.out; omega
            case rel => exact ⟨j + 1, by have := Hgk.out; omega, by go_num, by rw [HN.out], by rw [HN.out], HP2.out⟩
    · have hjl : j = o.n := by omega
      subst hjl
      have hpf := HP1.out.trans HP.out
      go_wp2
      refine bodyPost_ret (results_tmp2 rfl _ _ _) rfl ?_
      exact ⟨by rw [HPR.out]; rfl, hpf⟩

/-- The lanes of a list make a step, one behind the other. -/
def stepsF (o : MO) (ks : List Nat) (s : (Nat → Ln) × (Nat → Int)) : (Nat → Ln) × (Nat → Int) := ks.foldl (fun s k => (stepL o s.1 s.2 k, stepM o s.1 s.2 k)) s
theorem stepsF_snoc (o : MO) (ks : List Nat) (k : Nat) (s : (Nat → Ln) × (Nat → Int)) : stepsF o (ks ++ [k]) s = (stepL o (stepsF o ks s).1 (stepsF o ks s).2 k, stepM o (stepsF o ks s).1 (stepsF o ks s).2 k) := by
  unfold stepsF; rw [List.foldl_append]; rfl
theorem stepsF_eq (o : MO) (mask : Nat) (s : CS) : ∀ j, (∀ l, l < j → mask.testBit l = true → goesL o.cs.length (s.L l) = true) → stepsF o (lanesL mask j) (s.L, s.M) = ((stepTo o.cs o.m mask j s).L, (stepTo o.cs o.m mask j s).M)
  | 0, _ => rfl
  | j + 1, h => by
    have ih := stepsF_eq o mask s j (fun l hl => h l (by omega))
    unfold lanesL stepTo
    by_cases hb : mask.testBit j = true
    · rw [if_pos hb, if_pos hb, stepsF_snoc, ih]
      have hg : goesL o.cs.length ((stepTo o.cs o.m mask j s).L j) = true := by rw [step_at j j (.inl (Nat.le_refl _))]; exact h j (by omega) hb
      unfold stepL stepM
      simp only [hg, if_true]
      rfl
    · rw [if_neg hb, if_neg hb]; exact ih
theorem OnW.steps {o : MO} {s : (Nat → Ln) × (Nat → Int)} (h : OnW o s.1) : ∀ (ks : List Nat), (∀ k ∈ ks, k < o.n) → OnW o (stepsF o ks s).1 := by
  intro ks
  induction ks generalizing s with
  | nil => intro _; exact h
  | cons k ks ih =>
    intro hk
    show OnW o (stepsF o ks (stepL o s.1 s.2 k, stepM o s.1 s.2 k)).1
    exact ih (s := (stepL o s.1 s.2 k, stepM o s.1 s.2 k)) (h.step s.2 (hk k (by simp))) (fun x hx => hk x (by simp [hx]))

set_option maxHeartbeats 4000000 in
set_option maxRecDepth 100000 in
theorem istepall_any (o : MO) (hv : PValid o.cs) (w : World) (vt : Nat → Value) (L : Nat → Ln) (M : Nat → Int) (h : MRun o w vt L M) (hw : OnW o L) (mask : Nat) (hm : mask < 2 ^ o.n) :
    Calls Try.prog 97 #[.pointer (some ⟨o.pm, 0, none⟩), .pointer (some ⟨o.gc, 0, none⟩), .int .i64 (mask : Nat)] w (MPost o w vt (passL o (stepsF o (lanesL mask 8) (L, M)).1) (stepsF o (lanesL mask 8) (L, M)).2) := by
  have H := Lib.hid h
  have HV := Lib.hid hv
  have HW := Lib.hid hw
  have hn8 := h.n8
  have hcl1 := h.cl1
  have hcl2 := h.cl2
  have hm256 : mask < 256 := Nat.lt_of_lt_of_le hm (powI hn8)
  have HLT : Hid (∀ k ∈ lanesL mask 8, k < o.n) := Lib.hid (fun k hk => lanesL_lt hm hk)
  have hl8 := lanesL_len mask 8
  clear h hv hw
  go_enter Try.func97, Try.ntmps97
  go_wp2_with fail
  refine (ilanes_any mask hm256 _).mono ?_
  rintro e w1 ⟨v1, rfl, ho1, hp1⟩
  obtain ⟨ks, Hks⟩ : ∃ ks, Hid (lanesL mask 8 = ks) := ⟨_, Lib.hid rfl⟩
  rw [Hks.out] at ho1 HLT hl8
  have HO1 := Lib.hid ho1
  have HP1 := Lib.hid hp1
  obtain ⟨A1, c1, rfl⟩ := ho1.form
  -- the list of lanes lies in a block of its own
  have HLN : Hid (∀ g, (Value.slice A1 ks.length c1).ownBlock = some g → ¬ MOwn o vt g) := Lib.hid fun g hg e => by
    have h1 := (ho1.lt g hg).1
    have h2 := H.out.own_hi g e
    omega
  clear ho1 hp1
  go_wp2_with fail
  go_loopg [11, 7] ks.length (fun gk i a7 wr => ∃ (j : Nat) (vt' : Nat → Value), gk + j = ks.length ∧ i = .int .i64 j ∧ MRun o wr vt' (stepsF o (ks.take j) (L, M)).1 (stepsF o (ks.take j) (L, M)).2 ∧ MStep o w1 vt wr vt')
  case atStart => exact ⟨0, vt, rfl, rfl, H.out.keep HP1.out, MStep.refl _ _ _⟩
  case round =>
    obtain ⟨j, vt', hgk, rfl, hr, hst⟩ := hrel
    have Hgk := Lib.hid hgk
    have HR := Lib.hid hr
    have HST := Lib.hid hst
    have hjn : j ≤ ks.length := by omega
    obtain ⟨g0, g1⟩ := hr.crowdCells
    unfold MO.vL at g0
    have HONW : Hid (OnW o (stepsF o (ks.take j) (L, M)).1) := Lib.hid (OnW.steps (s := (L, M)) HW.out _ (fun k hk => HLT.out k (List.mem_of_mem_take hk)))
    obtain ⟨s, Hs⟩ : ∃ s, Hid (stepsF o (ks.take j) (L, M) = s) := ⟨_, Lib.hid rfl⟩
    rw [Hs.out] at HR HONW
    clear hgk hr hst
    by_cases hlt : j < ks.length
    · obtain ⟨gb, off, c', hv, h1, h2, h3, h4⟩ := HO1.out.formSome (by omega)
      injection hv with e1 e2 e3
      subst e1 e3
      obtain ⟨k, hk⟩ : ∃ k, ks[j]? = some k := ⟨ks[j], List.getElem?_eq_getElem hlt⟩
      have hkn : k < o.n := HLT.out k (List.mem_of_getElem? hk)
      have HN : Hid (stepsF o (ks.take (j + 1)) (L, M) = (stepL o s.1 s.2 k, stepM o s.1 s.2 k)) := Lib.hid (by rw [take_snoc' hk, stepsF_snoc, Hs.out])
      have q0 := (HO1.out.chg HST.out.1 (fun g hg => HLN.out g hg)).cell j (by omega)
      rw [List.getElem?_map, hk] at q0
      simp only [Option.map_some] at q0
      have hj0 : (0 : Int) ≤ (j : Int) := by omega
      have hjI : (j : Int) < (ks.length : Int) := by omega
      have hk0 : (0 : Int) ≤ (k : Int) := by omega
      have hkI : (k : Int) < (o.n : Int) := by omega
      clear hk
      go_wp2_with fail
      refine region_tail 12 (by kernel_rfl) (by kernel_rfl) ?_
      simp only [List.take_succ_cons, List.take_zero, List.drop_succ_cons, List.drop_zero]
      repeat still_step
      refine wpStill_nil ?_
      go_wp2_with fail
      obtain ⟨W, hW⟩ := HONW.out k hkn
      refine (istep_any o HV.out _ vt' s.1 s.2 (HR.out.keep (by repeat (first | assumption | exact Pure.refl _ | refine Pure.drewN ?_ _ | refine Pure.drew ?_ | refine Pure.alloc ?_ _ | refine Pure.setCell ?_ (by simp <;> omega) _))) k hkn W hW).mono ?_
      rintro e w2 ⟨rfl, vt2, h2, s2⟩
      have H2 := Lib.hid h2
      have HS2 := Lib.hid (HST.out.trans ((MStep.of_pure (show Pure wr wr.drew from (by repeat (first | assumption | exact Pure.refl _ | refine Pure.drewN ?_ _ | refine Pure.drew ?_ | refine Pure.alloc ?_ _ | refine Pure.setCell ?_ (by simp <;> omega) _)))).trans s2))
      clear h2 s2 hW
      go_wp2
      go_roundg (ks.length - (j + 1))
      case measure => have := Hgk.out; omega
      case rel => exact ⟨j + 1, vt2, by have := Hgk.out; omega, by go_num, by rw [HN.out]; exact H2.out, HS2.out⟩
    · have hjl : j = ks.length := by omega
      subst hjl
      have HF : Hid (stepsF o (lanesL mask 8) (L, M) = s) := Lib.hid (by rw [Hks.out, ← Hs.out, List.take_length])
      go_wp2_with fail
      refine (ipass_any o _ vt' _ _ HR.out HONW.out.le).mono ?_
      rintro e w3 ⟨rfl, vt3, h3, s3⟩
      go_wp2
      go_end0
      rw [HF.out]
      exact ⟨rfl, vt3, h3, (MStep.of_pure HP1.out).trans (HST.out.trans s3)⟩

end Go.Proofs.Ytajaonejpggcbaa

namespace Go.Proofs.Ytajaonejpggcbaa
open Go.RowKit

def beatsC (H : List (Nat × Nat)) : List Value := H.flatMap fun x => [.int .i64 (x.1 : Nat), .int .i64 (x.2 : Nat)]
theorem beatsC_append (H : List (Nat × Nat)) (x : Nat × Nat) : beatsC (H ++ [x]) = beatsC H ++ [.int .i64 (x.1 : Nat), .int .i64 (x.2 : Nat)] := by simp [beatsC]
theorem beatsC_len (H : List (Nat × Nat)) : (beatsC H).length = H.length * 2 := by
  induction H with
  | nil => rfl
  | cons x H ih => simp [beatsC] at ih ⊢; omega
/-- A change to blocks that lie behind the machine and are none of a run's own. -/
theorem MRun.other {o : MO} {w w' : World} {vt : Nat → Value} {L : Nat → Ln} {M : Nat → Int} {S : Nat → Prop} (h : MRun o w vt L M) (hc : Chg S w w') (hS : ∀ b, S b → o.C ≤ b ∧ ¬ MOwn o vt b ∧ b ≠ o.gc) : MRun o w' vt L M := by
  obtain ⟨cur, b1, b2⟩ := h.lanes
  have hn : ∀ b, MOwn o vt b → ¬ S b := fun b hb hs => (hS b hs).2.1 hb
  refine ⟨Chg.pure h.pure hc (fun b hb => Nat.le_trans h.lo (Nat.le_trans h.bc (hS b hb).1)), h.codes, h.lo, h.bc, Nat.le_trans h.hC hc.size, h.mach.chg h.hC hc (fun b hb => .inr (hS b hb).1), h.n1, h.n8, h.m1, h.m32, h.cl1, h.cl2,
    hc.heap h.crowd (fun e => (hS _ e).2.2 rfl), h.gcB, ⟨cur, hc.heap b1 (hn _ (.inl rfl)), b2⟩, h.glB, fun k hk => (h.row k hk).chg hc fun g hg => ?_, h.rowB, h.inj, h.mem.chg hc fun g hg => ?_, h.gmB, h.ne, fun k hk => (h.trn k hk).chg hc fun g hg => hn _ (.inr (.inr (.inr ⟨k, hk, hg⟩))), h.tinj, h.good, h.mgood⟩
  · simp [MO.row, Value.ownBlock] at hg
    subst hg; exact hn _ (.inr (.inr (.inl ⟨k, hk, rfl⟩)))
  · simp [MO.vm, Value.ownBlock] at hg
    subst hg; exact hn _ (.inr (.inl rfl))
/-- A block of another kind is none of a run's own. -/
theorem MRun.not_own {o : MO} {w : World} {vt : Nat → Value} {L : Nat → Ln} {M : Nat → Int} (h : MRun o w vt L M) {g e : Nat} {cur : Array Value} (hg : w.heap[g]? = some (.cells cur e (0, 0))) (h1 : e ≠ 3) (h2 : e ≠ 55) : ¬ MOwn o vt g := by
  obtain ⟨c1, b1, _⟩ := h.lanes
  obtain ⟨c2, b2⟩ := h.gm_heap
  rintro (e1 | e1 | ⟨k, hk, e1⟩ | ⟨k, hk, hg2⟩)
  · exact ne_of_heap hg b1 h2 e1
  · exact ne_of_heap hg b2 h1 e1
  · obtain ⟨c3, b3⟩ := h.row_heap hk
    exact ne_of_heap hg b3 h1 e1
  · obtain ⟨c3, b3⟩ := h.trn_heap hk hg2
    exact ne_of_heap hg b3 h1 rfl

theorem least_end {cs : List Cd} {n : Nat} {mem : List Int} (hok : RunOk cs n mem) : ∃ N, N ≤ 40000 ∧ DoneL cs n (lIter cs n mem.length N (startCS mem)).L := by
  obtain ⟨N, h1, h2⟩ := least_ends (cs := cs) (n := n) (m := mem.length) (n * 5000) (startCS mem) (start_norm cs n) (start_ways hok.1 n)
  refine ⟨N, ?_, h2⟩
  have := hok.2.1.2
  omega
theorem leastStep_norm {cs : List Cd} {n m : Nat} {s : CS} (h : Norm cs n s.L) : Norm cs n (leastStep cs n m s).L := by
  unfold leastStep
  split
  · exact h
  · rw [pass_L]; exact norm_pass _
theorem lIter_norm {cs : List Cd} {n m : Nat} {s : CS} (h : Norm cs n s.L) : ∀ j, Norm cs n (lIter cs n m j s).L
  | 0 => h
  | j + 1 => leastStep_norm (lIter_norm h j)
theorem lIter_len {cs : List Cd} {n m : Nat} {s : CS} : ∀ j, (lIter cs n m j s).H.length ≤ s.H.length + j
  | 0 => Nat.le_refl _
  | j + 1 => by
    have ih := lIter_len (cs := cs) (n := n) (m := m) (s := s) j
    show (leastStep cs n m (lIter cs n m j s)).H.length ≤ _
    unfold leastStep
    split
    · omega
    · rw [pass_H, step_H]
      unfold noteC
      show (if _ then _ else _ : List (Nat × Nat)).length ≤ _
      split
      · omega
      · simp; omega
theorem stepTo_stop {cs : List Cd} {m mask n : Nat} (c : CS) (hm : mask < 2 ^ n) : ∀ j, n ≤ j → stepTo cs m mask j c = stepTo cs m mask n c
  | 0, hj => by have : n = 0 := by omega
                subst this; rfl
  | j + 1, hj => by
    by_cases e : n = j + 1
    · rw [e]
    · rw [← stepTo_stop c hm j (by omega)]
      show (if _ then _ else _) = _
      rw [testBit_hi hm (by omega)]; rfl
/-- What a round of the run by the least places does. -/
theorem least_round {cs : List Cd} {n : Nat} (o : MO) (e1 : o.cs = cs) (e2 : o.n = n) (hn8 : n ≤ 8) {s : CS} (hn : anyGo cs s.L n = true) :
    (leastStep cs n o.m s).L = passL o (stepsF o (lanesL (leastTo cs s.L n).1 8) (s.L, s.M)).1 ∧ (leastStep cs n o.m s).M = (stepsF o (lanesL (leastTo cs s.L n).1 8) (s.L, s.M)).2 ∧
    (leastStep cs n o.m s).H = (if quietOp (cs.getD (leastTo cs s.L n).2 default) = true then s.H else s.H ++ [((leastTo cs s.L n).2, (leastTo cs s.L n).1)]) ∧
    (leastTo cs s.L n).2 < cs.length ∧ (leastTo cs s.L n).1 < 2 ^ n := by
  subst e1 e2
  obtain ⟨h1, h2, h3, h4, h5⟩ := least_spec (cs := o.cs) (L := s.L) o.n
  obtain ⟨l0, hl0, hg0⟩ := anyGo_iff.1 hn
  have hp : (leastTo o.cs s.L o.n).2 < o.cs.length := Nat.lt_of_le_of_lt (h2 l0 hl0 hg0) (goes_iff.1 hg0).2
  have hgo : ∀ l, (leastTo o.cs s.L o.n).1.testBit l = true → goesL o.cs.length (s.L l) = true := fun l hb => by
    have := h3 l
    rw [hb] at this
    simp only [Bool.true_eq, Bool.and_eq_true, decide_eq_true_eq] at this
    exact this.2.1
  have hf := stepsF_eq o (leastTo o.cs s.L o.n).1 (noteC o.cs (leastTo o.cs s.L o.n).2 (leastTo o.cs s.L o.n).1 s) 8 (fun l _ hb => hgo l hb)
  rw [stepTo_stop _ h5 8 hn8] at hf
  have hf' : stepsF o (lanesL (leastTo o.cs s.L o.n).1 8) (s.L, s.M) = _ := hf
  have hnd := goes_not_done hn
  have hls : leastStep o.cs o.n o.m s = passS o.cs o.n (stepTo o.cs o.m (leastTo o.cs s.L o.n).1 o.n (noteC o.cs (leastTo o.cs s.L o.n).2 (leastTo o.cs s.L o.n).1 s)) := if_neg hnd
  rw [hls, hf', pass_L, pass_M, pass_H, step_H]
  exact ⟨rfl, rfl, rfl, hp, h5⟩

def RunLP (_cs : List Cd) (_n : Nat) (mem : List Int) (s : CS) (w : World) (e : Ending) (w' : World) : Prop :=
  ∃ v vb, e = .returned (.tuple #[v, vb]) ∧ OwnO w' w.heap.size 3 1 v mem.length (memL mem.length s.M) ∧ OwnO w' w.heap.size 84 2 vb s.H.length (beatsC s.H) ∧ Pure w w'

set_option maxHeartbeats 8000000 in
set_option maxRecDepth 100000 in
theorem irunleast_any (vl vm : Value) (cs : List Cd) (n : Nat) (mem : List Int) (w : World) (h : Codes w vl cs) (hm : Ints w vm mem) (hok : RunOk cs n mem) (N : Nat) (hN : N ≤ 40000) (hd : DoneL cs n (lIter cs n mem.length N (startCS mem)).L) :
    Calls Try.prog 63 #[vl, .int .i64 (n : Nat), vm] w (RunLP cs n mem (lIter cs n mem.length N (startCS mem)) w) := by
  have H := Lib.hid h
  have HM := Lib.hid hm
  have HOK := Lib.hid hok
  have HD := Lib.hid hd
  obtain ⟨hv, ⟨hn1, hn8⟩, ⟨hm1, hm32⟩, _⟩ := hok
  have HV := Lib.hid hv
  have h40 := hv.2.1
  obtain ⟨A, c, rfl, hnc, hcm⟩ := h.form
  obtain ⟨Am, cm0, rfl⟩ := hm.form
  clear h hm hv hd
  go_enter Try.func63, Try.ntmps63
  go_wp2_with fail
  refine (inewcrowd_any _ mem n _ HM.out hm1 hm32 (by omega) (by omega)).mono ?_
  rintro e w1 ⟨gl, cl, gm, cmm, rows, rfl, hcr, hcl, hcl2, hp1⟩
  have HCR := Lib.hid hcr
  have HP1 := Lib.hid hp1
  clear hcr hp1
  have hbox := heap_alloc_new w1 (.cells #[.slice (some ⟨gl, 0, none⟩) n cl, .slice (some ⟨gm, 0, none⟩) mem.length cmm] 33)
  have HPb := Lib.hid (show Pure w1 (w1.alloc (.cells #[.slice (some ⟨gl, 0, none⟩) n cl, .slice (some ⟨gm, 0, none⟩) mem.length cmm] 33)) from (by repeat (first | assumption | exact Pure.refl _ | refine Pure.drewN ?_ _ | refine Pure.drew ?_ | refine Pure.alloc ?_ _ | refine Pure.setCell ?_ (by simp <;> omega) _)))
  have HBX := Lib.hid hbox
  clear hbox
  go_wp2_with fail
  refine (nmB_any _ cs _ (H.out.keep (HP1.out.trans HPb.out)) HV.out).mono ?_
  rintro e w2 ⟨pm, rfl, hp2, hmach⟩
  have HR := Lib.hid (crowd_run HOK.out H.out (HP1.out.trans HPb.out) ⟨HCR.out.1.pure HPb.out, HCR.out.2.pure HPb.out⟩ hcl hcl2 HBX.out HP1.out.size hp2 hmach)
  clear hp2 hmach
  obtain ⟨o, Ho⟩ : ∃ o, Hid ((⟨w, (w1.alloc (.cells #[.slice (some ⟨gl, 0, none⟩) n cl, .slice (some ⟨gm, 0, none⟩) mem.length cmm] 33)).heap.size, w2.heap.size, cs, .slice A cs.length c, pm, n, mem.length, gl, cl, gm, cmm, w1.heap.size, rows⟩ : MO) = o) := ⟨_, Lib.hid rfl⟩
  rw [Ho.out] at HR
  have e1 : o.pm = pm := by rw [← Ho.out]
  have e2 : o.gc = w1.heap.size := by rw [← Ho.out]
  have e3 : o.n = n := by rw [← Ho.out]
  have e4 : o.cs = cs := by rw [← Ho.out]
  have e5 : o.m = mem.length := by rw [← Ho.out]
  have e6 : o.w0 = w := by rw [← Ho.out]
  have e7 : o.vm = .slice (some ⟨gm, 0, none⟩) mem.length cmm := by rw [← Ho.out]; rfl
  have e8 : o.C = w2.heap.size := by rw [← Ho.out]
  have hgcC : o.gc < o.C := by rw [e2, e8]; have := HR.out.hC; have := HR.out.bc; rw [e8] at this; have h3 : o.B = w1.heap.size + 1 := by rw [← Ho.out]; simp
                               omega
  have E := Lib.hid (And.intro e1 (And.intro e2 (And.intro e3 (And.intro e4 (And.intro e5 (And.intro e6 e7))))))
  obtain ⟨gc, Hgc⟩ : ∃ gc, Hid (w1.heap.size = gc) := ⟨_, Lib.hid rfl⟩
  rw [Hgc.out] at e2 ⊢
  subst e1 e2
  have hwC : w.heap.size ≤ o.C := by rw [← e6]; exact Nat.le_trans HR.out.lo HR.out.bc
  have HIS : Hid (∀ u : World, ∀ vt (s : CS) (B : Bool), (B = true ↔ ∀ l, l < n → (s.L l).at_ = cs.length) → MRun o u vt s.L s.M → Calls Try.prog 96 #[.pointer (some ⟨o.pm, 0, none⟩), .pointer (some ⟨o.gc, 0, none⟩)] u fun e w' => e = .returned (.bool B) ∧ Pure u w') := Lib.hid fun u vt s B hB hr => iover_any o u vt s.L s.M hr B (by rw [e3, e4]; exact hB)
  have HW0 : Hid (OnW o (startCS mem).L) := Lib.hid (by
    obtain ⟨h1, h2, h3⟩ := treeOf_spec HV.out
    intro l _
    rw [e4]
    exact ⟨_, OnWay.start h1 h2⟩)
  have HLE : Hid (∀ (s : CS), OnW o s.L → ∀ l, l < n → (s.L l).at_ ≤ cs.length) := Lib.hid fun s hw l hl => by
    have := hw.le l (by rw [e3]; exact hl)
    rwa [e4] at this
  have HLS : Hid (∀ (u : World) vt (s : CS), MRun o u vt s.L s.M → OnW o s.L → Calls Try.prog 56 #[.pointer (some ⟨o.pm, 0, none⟩), .pointer (some ⟨o.gc, 0, none⟩), .int .i64 ((2 ^ n - 1 : Nat) : Int)] u fun e w' => e = .returned (.tuple #[.int .i64 ((leastTo cs s.L n).1 : Nat), .int .i64 ((leastTo cs s.L n).2 : Nat)]) ∧ Pure u w') := Lib.hid fun u vt s hr hw => by
    have := ileast_any o u vt s.L s.M hr hw.le (by rw [e4]; exact h40)
    rwa [e3, e4] at this
  have HSA : Hid (∀ (u : World) vt (s : CS), anyGo cs s.L n = true → MRun o u vt s.L s.M → OnW o s.L → Calls Try.prog 97 #[.pointer (some ⟨o.pm, 0, none⟩), .pointer (some ⟨o.gc, 0, none⟩), .int .i64 ((leastTo cs s.L n).1 : Nat)] u (MPost o u vt (leastStep cs n mem.length s).L (leastStep cs n mem.length s).M)) := Lib.hid fun u vt s hg hr hw => by
    obtain ⟨q1, q2, _, _, q5⟩ := least_round o e4 e3 (by omega) hg
    rw [e5] at q1 q2
    rw [q1, q2]
    exact istepall_any o (by rw [e4]; exact HV.out) u vt s.L s.M hr hw _ (by rw [e3]; exact q5)
  have HWS : Hid (∀ (s : CS), anyGo cs s.L n = true → OnW o s.L → OnW o (leastStep cs n mem.length s).L) := Lib.hid fun s hg hw => by
    obtain ⟨q1, _, _, _, q5⟩ := least_round o e4 e3 (by omega) hg
    rw [e5] at q1
    rw [q1]
    exact (OnW.steps (s := (s.L, s.M)) hw _ (fun k hk => by rw [e3]; exact lanesL_lt q5 hk)).pass
  have HLH : Hid (∀ (s : CS), anyGo cs s.L n = true → (leastStep cs n mem.length s).H = (if quietOp (cs.getD (leastTo cs s.L n).2 default) = true then s.H else s.H ++ [((leastTo cs s.L n).2, (leastTo cs s.L n).1)]) ∧ (leastTo cs s.L n).2 < cs.length) := Lib.hid fun s hg => by
    obtain ⟨_, _, q3, q4, _⟩ := least_round o e4 e3 (by omega) hg
    rw [e5] at q3
    exact ⟨q3, q4⟩
  have hmall := imaskall_any n
  have HMA := Lib.hid hmall
  clear e3 e4 e5 e6 e7 e8 Hgc HCR hmall
  go_wp2_with fail
  go_loopg [10, 11, 12, 13] N (fun gk a10 a11 a12 a13 wr => ∃ (j : Nat) (vt : Nat → Value), gk + j = N ∧ MRun o wr vt (lIter cs n mem.length j (startCS mem)).L (lIter cs n mem.length j (startCS mem)).M ∧ OnW o (lIter cs n mem.length j (startCS mem)).L ∧ OwnO wr o.C 84 2 a10 (lIter cs n mem.length j (startCS mem)).H.length (beatsC (lIter cs n mem.length j (startCS mem)).H))
  case atStart => exact ⟨0, _, rfl, HR.out, HW0.out, OwnO.of_own (World.ownsRow_nil _ _ _ _)⟩
  case round =>
    obtain ⟨j, vt, hgk, hr, hw, hb⟩ := hrel
    have Hgk := Lib.hid hgk
    have HMR := Lib.hid hr
    have HWW := Lib.hid hw
    have hjN : j ≤ N := by omega
    have HNORM := Lib.hid (lIter_norm (cs := cs) (n := n) (m := mem.length) (s := startCS mem) (start_norm cs n) j)
    have HLN := lIter_len (cs := cs) (n := n) (m := mem.length) (s := startCS mem) j
    have HNX : Hid (lIter cs n mem.length (j + 1) (startCS mem) = leastStep cs n mem.length (lIter cs n mem.length j (startCS mem))) := Lib.hid rfl
    obtain ⟨s, Hs⟩ : ∃ s, Hid (lIter cs n mem.length j (startCS mem) = s) := ⟨_, Lib.hid rfl⟩
    rw [Hs.out] at HMR HWW HNORM HNX HLN hb
    have HBT := Lib.hid hb
    obtain ⟨Ab, cb, rfl⟩ := hb.form
    have hs0 : (startCS mem).H.length = 0 := rfl
    clear hgk hr hw HR hb
    by_cases hov : ∀ l, l < n → (s.L l).at_ = cs.length
    · have HDN : Hid (DoneL cs n s.L) := Lib.hid (by
        rcases HNORM.out with h | h
        · obtain ⟨l, hl, hg⟩ := anyGo_iff.1 h
          have := (goes_iff.1 hg).2
          have := hov l hl
          omega
        · exact h)
      have HEQ : Hid (lIter cs n mem.length N (startCS mem) = s) := Lib.hid (by
        obtain ⟨d, rfl⟩ : ∃ d, N = j + d := ⟨N - j, by omega⟩
        rw [lIter_add, Hs.out, lIter_done HDN.out])
      have HOV := Lib.hid hov
      clear hov
      go_wp2_with fail
      refine (HIS.out _ vt s true (by simp only [true_iff]; exact HOV.out) HMR.out).mono ?_
      rintro e w3 ⟨rfl, hp3⟩
      have hcc := (HMR.out.keep hp3).crowdCells.2
      rw [E.out.2.2.2.2.2.2] at hcc
      have hme := (HMR.out.keep hp3).mem
      have hpu := (HMR.out.keep hp3).pure
      rw [E.out.2.2.2.2.2.1] at hme hpu
      rw [E.out.2.2.2.2.2.2, E.out.2.2.2.2.1] at hme
      have HME := Lib.hid hme
      have HPU := Lib.hid hpu
      have HB3 := Lib.hid (HBT.out.pure hp3)
      clear hme hpu
      go_wp2
      refine bodyPost_ret (results_tmp2 rfl _ _ _) rfl ?_
      rw [HEQ.out]
      exact ⟨_, _, rfl, HME.out, HB3.out.base hwC, HPU.out⟩
    · have hjlt : j < N := by
        rcases Nat.lt_or_ge j N with h | h
        · exact h
        · have : j = N := by omega
          subst this
          rw [Hs.out] at HD
          exact absurd (fun l hl => Nat.le_antisymm (HLE.out s HWW.out l hl) (HD.out l hl).2) hov
      have HOV := Lib.hid hov
      have hgo : anyGo cs s.L n = true := by
        rcases HNORM.out with h | h
        · exact h
        · exact absurd (fun l hl => Nat.le_antisymm (HLE.out s HWW.out l hl) (h l hl).2) hov
      have HGO := Lib.hid hgo
      obtain ⟨hH, hpl⟩ := HLH.out s hgo
      have HHH := Lib.hid hH
      obtain ⟨mk, Hmk⟩ : ∃ mk, Hid ((leastTo cs s.L n).1 = mk) := ⟨_, Lib.hid rfl⟩
      obtain ⟨pl, Hpl⟩ : ∃ pl, Hid ((leastTo cs s.L n).2 = pl) := ⟨_, Lib.hid rfl⟩
      rw [Hpl.out] at hpl
      rw [Hpl.out, Hmk.out] at HHH
      have HLSs := Lib.hid (fun u hr => HLS.out u vt s hr HWW.out)
      have HSAs := Lib.hid (fun u vt' hr => HSA.out u vt' s HGO.out hr HWW.out)
      rw [Hmk.out, Hpl.out] at HLSs
      rw [Hmk.out] at HSAs
      clear hov hgo hH
      go_wp2_with fail
      refine (HIS.out _ vt s false (by simp only [Bool.false_eq_true, false_iff]; exact HOV.out) HMR.out).mono ?_
      rintro e w3 ⟨rfl, hp3⟩
      have HM3 := Lib.hid (HMR.out.keep hp3)
      have HB3 := Lib.hid (HBT.out.pure hp3)
      clear hp3
      go_wp2_with fail
      refine (HMA.out _ (by omega) (by omega)).mono ?_
      rintro e w4 ⟨rfl, rfl⟩
      go_wp2_with fail
      refine (HLSs.out _ HM3.out).mono ?_
      rintro e w5 ⟨rfl, hp5⟩
      have HM5 := Lib.hid (HM3.out.keep hp5)
      have HB5 := Lib.hid (HB3.out.pure hp5)
      clear hp5
      have hca := HM5.out.codeAt (a := pl) (by rw [E.out.2.2.2.1]; exact hpl)
      obtain ⟨b, ob, cv, hvl, hb, _, c0, _, _, _⟩ := hca
      have hvl2 : o.vl = .slice A cs.length c := by rw [← Ho.out]
      rw [hvl2] at hvl
      rw [E.out.2.2.2.1] at hvl c0
      injection hvl with hA _ hC
      subst hA hC
      obtain ⟨op, Hop⟩ : ∃ op, Hid ((cs.getD pl default).op = op) := ⟨_, Lib.hid rfl⟩
      rw [Hop.out] at c0
      have hpl0 : (0 : Int) ≤ (pl : Int) := by omega
      have hplI : (pl : Int) < (cs.length : Int) := by omega
      have hCw := HM5.out.hC
      by_cases hq : op = 12 ∨ op = 14
      · have HH2 : Hid ((leastStep cs n mem.length s).H = s.H) := Lib.hid (by rw [HHH.out]; exact if_pos (by unfold quietOp; rw [Hop.out]; exact decide_eq_true hq))
        have d12 : (op != 12) = false ∨ ((op != 12) = true ∧ (op != 14) = false) := by
          by_cases e : op = 12
          · exact .inl (by rw [bne_eq_false_iff_eq]; exact e)
          · exact .inr ⟨by rw [bne_iff_ne]; exact e, by rw [bne_eq_false_iff_eq]; omega⟩
        have HFIN : Hid (∀ (u : World) (vt' : Nat → Value), MRun o u vt' (leastStep cs n mem.length s).L (leastStep cs n mem.length s).M → MStep o w5 vt u vt' → OwnO u o.C 84 2 (.slice Ab s.H.length cb) (leastStep cs n mem.length s).H.length (beatsC (leastStep cs n mem.length s).H)) := Lib.hid (fun u vt' _ hst => by
          rw [HH2.out]
          exact HB5.out.chg hst.1 (fun g hg => HM5.out.not_own (HB5.out.heap hg).choose_spec (by decide) (by decide)))
        clear hq hvl2
        rcases d12 with d12 | ⟨d12, d14⟩
        · go_wp2_with fail
          refine (HSAs.out _ vt HM5.out).mono ?_
          rintro e w6 ⟨rfl, vt6, h6, s6⟩
          have H6 := Lib.hid h6
          have H6B := Lib.hid (HFIN.out w6 vt6 h6 s6)
          clear h6 s6
          go_wp2
          go_roundg (N - (j + 1))
          case measure => have := Hgk.out; omega
          case rel => exact ⟨j + 1, vt6, by have := Hgk.out; omega, by rw [HNX.out]; exact H6.out, by rw [HNX.out]; exact HWS.out s HGO.out HWW.out, by rw [HNX.out]; exact H6B.out⟩
        · go_wp2_with fail
          refine (HSAs.out _ vt HM5.out).mono ?_
          rintro e w6 ⟨rfl, vt6, h6, s6⟩
          have H6 := Lib.hid h6
          have H6B := Lib.hid (HFIN.out w6 vt6 h6 s6)
          clear h6 s6
          go_wp2
          go_roundg (N - (j + 1))
          case measure => have := Hgk.out; omega
          case rel => exact ⟨j + 1, vt6, by have := Hgk.out; omega, by rw [HNX.out]; exact H6.out, by rw [HNX.out]; exact HWS.out s HGO.out HWW.out, by rw [HNX.out]; exact H6B.out⟩
      · have HH2 : Hid ((leastStep cs n mem.length s).H = s.H ++ [(pl, mk)]) := Lib.hid (by rw [HHH.out]; exact if_neg (by unfold quietOp; rw [Hop.out]; simpa using hq))
        have d12 : (op != 12) = true := by rw [bne_iff_ne]; exact fun e => hq (.inl e)
        have d14 : (op != 14) = true := by rw [bne_iff_ne]; exact fun e => hq (.inr e)
        have hlen : s.H.length + 1 ≤ 1099511627776 := by omega
        clear hq hvl2
        go_wp2_with (at_builtin; go_must (refine wl_append1F elBeatI rfl _ _ rfl o.C _ s.H.length (beatsC s.H) rfl HB5.out w5.heap.size 1 [.int .i64 (pl : Int), .int .i64 (mk : Int)] rfl rfl rfl rfl (by decide) hlen hCw ?_); intro q' wq r1 r2 r3; go_must (obtain ⟨Aq, cq, hqe⟩ := r1.form; subst hqe; have HBq := Lib.hid r1; have HMq := Lib.hid (HM5.out.other (Chg.of_grown (S := fun b => (Value.slice Ab s.H.length cb).ownBlock = some b) r2 (fun k hk => hk)) (fun g hg => ⟨(HB5.out.lt g hg).1, HM5.out.not_own (HB5.out.heap hg).choose_spec (by decide) (by decide), fun e => by have := (HB5.out.lt g hg).1; omega⟩)); clear r1 r2 r3))
        refine (HSAs.out _ vt HMq.out).mono ?_
        rintro e w6 ⟨rfl, vt6, h6, s6⟩
        have H6 := Lib.hid h6
        have H6B : Hid (OwnO w6 o.C 84 2 (.slice Aq (s.H.length + 1) cq) (leastStep cs n mem.length s).H.length (beatsC (leastStep cs n mem.length s).H)) := Lib.hid (by
          rw [HH2.out, beatsC_append, List.length_append]
          exact HBq.out.chg s6.1 (fun g hg => HMq.out.not_own (HBq.out.heap hg).choose_spec (by decide) (by decide)))
        clear h6 s6
        go_wp2
        go_roundg (N - (j + 1))
        case measure => have := Hgk.out; omega
        case rel => exact ⟨j + 1, vt6, by have := Hgk.out; omega, by rw [HNX.out]; exact H6.out, by rw [HNX.out]; exact HWS.out s HGO.out HWW.out, by rw [HNX.out]; exact H6B.out⟩

end Go.Proofs.Ytajaonejpggcbaa

namespace Go.Proofs.Ytajaonejpggcbaa
open Go.RowKit

set_option maxHeartbeats 1000000 in
theorem irleast_any (vl vm : Value) (cs : List Cd) (a : Int) (mem : List Int) (w : World) (h : Codes w vl cs) (hm : Ints w vm mem) (hs1 : cs.length ≤ 1048576) (hs2 : mem.length ≤ 1048576) :
    Calls Try.prog 23 #[vl, .int .i64 a, vm] w fun e w' => ∃ v, e = .returned v ∧ OwnO w' w.heap.size 3 1 v (leastMem cs a mem).length ((leastMem cs a mem).map (.int .i64)) ∧ Pure w w' := by
  have H := Lib.hid h
  have HM := Lib.hid hm
  obtain ⟨A, c, rfl, hnc, hcm⟩ := h.form
  obtain ⟨Am, cm0, rfl⟩ := hm.form
  clear h hm
  by_cases hok : RunOk cs a mem
  · obtain ⟨n, rfl, _, _⟩ : ∃ n : Nat, a = n ∧ 1 ≤ n ∧ n ≤ 8 := ⟨a.toNat, by have := hok.2.1.1; have := hok.2.1.2; omega, by have := hok.2.1.1; omega, by have := hok.2.1.2; omega⟩
    have HOK := Lib.hid hok
    have HD := Lib.hid (leastA_done hok)
    have HL : Hid (leastMem cs n mem = (List.range mem.length).map (lIter cs n mem.length 40000 (startCS mem)).M) := Lib.hid (leastMem_ok hok)
    clear hok
    go_enter Try.func23, Try.ntmps23
    go_wp2_with fail
    refine (icanrun_any _ _ cs n mem _ H.out HM.out hs1 hs2 true (by simp only [true_iff]; exact HOK.out)).mono ?_
    rintro e w1 ⟨rfl, hp1⟩
    have HP1 := Lib.hid hp1
    clear hp1
    go_wp2_with fail
    refine (irunleast_any _ _ cs n mem _ (H.out.keep HP1.out) (HM.out.keep HP1.out) HOK.out 40000 (Nat.le_refl _) HD.out).mono ?_
    rintro e w2 ⟨v, vb, rfl, hv, _, hp2⟩
    have HV := Lib.hid hv
    clear hv
    go_wp2
    go_ret
    refine ⟨v, rfl, ?_, HP1.out.trans hp2⟩
    have h1 := HV.out
    rw [memL_map] at h1
    rw [HL.out]
    exact OwnO.base (by simpa using h1) HP1.out.size
  · have HOK := Lib.hid hok
    have HL : Hid (leastMem cs a mem = []) := Lib.hid (leastMem_no hok)
    clear hok
    go_enter Try.func23, Try.ntmps23
    go_wp2_with fail
    refine (icanrun_any _ _ cs a mem _ H.out HM.out hs1 hs2 false (by simp only [Bool.false_eq_true, false_iff]; exact HOK.out)).mono ?_
    rintro e w1 ⟨rfl, hp1⟩
    go_wp2
    go_ret
    refine ⟨_, rfl, ?_, hp1⟩
    rw [HL.out]
    exact OwnO.of_own (World.ownsRow_nil _ _ _ _)

set_option maxHeartbeats 1000000 in
theorem iltrace_any (vl vm : Value) (cs : List Cd) (a : Int) (mem : List Int) (w : World) (h : Codes w vl cs) (hm : Ints w vm mem) (hs1 : cs.length ≤ 1048576) (hs2 : mem.length ≤ 1048576) :
    Calls Try.prog 29 #[vl, .int .i64 a, vm] w fun e w' => ∃ v, e = .returned v ∧ OwnO w' w.heap.size 84 2 v (leastA cs a mem).H.length (beatsC (leastA cs a mem).H) ∧ Pure w w' := by
  have H := Lib.hid h
  have HM := Lib.hid hm
  obtain ⟨A, c, rfl, hnc, hcm⟩ := h.form
  obtain ⟨Am, cm0, rfl⟩ := hm.form
  clear h hm
  by_cases hok : RunOk cs a mem
  · obtain ⟨n, rfl, _, _⟩ : ∃ n : Nat, a = n ∧ 1 ≤ n ∧ n ≤ 8 := ⟨a.toNat, by have := hok.2.1.1; have := hok.2.1.2; omega, by have := hok.2.1.1; omega, by have := hok.2.1.2; omega⟩
    have HOK := Lib.hid hok
    have HD := Lib.hid (leastA_done hok)
    have HL : Hid (leastA cs n mem = lIter cs n mem.length 40000 (startCS mem)) := Lib.hid (leastA_ok hok)
    clear hok
    go_enter Try.func29, Try.ntmps29
    go_wp2_with fail
    refine (icanrun_any _ _ cs n mem _ H.out HM.out hs1 hs2 true (by simp only [true_iff]; exact HOK.out)).mono ?_
    rintro e w1 ⟨rfl, hp1⟩
    have HP1 := Lib.hid hp1
    clear hp1
    go_wp2_with fail
    refine (irunleast_any _ _ cs n mem _ (H.out.keep HP1.out) (HM.out.keep HP1.out) HOK.out 40000 (Nat.le_refl _) HD.out).mono ?_
    rintro e w2 ⟨v, vb, rfl, _, hb, hp2⟩
    have HB := Lib.hid hb
    clear hb
    go_wp2
    go_ret
    refine ⟨vb, rfl, ?_, HP1.out.trans hp2⟩
    rw [HL.out]
    exact HB.out.base HP1.out.size
  · have HOK := Lib.hid hok
    have HL : Hid ((leastA cs a mem).H = []) := Lib.hid (leastA_no hok)
    clear hok
    go_enter Try.func29, Try.ntmps29
    go_wp2_with fail
    refine (icanrun_any _ _ cs a mem _ H.out HM.out hs1 hs2 false (by simp only [Bool.false_eq_true, false_iff]; exact HOK.out)).mono ?_
    rintro e w1 ⟨rfl, hp1⟩
    go_wp2
    go_ret
    refine ⟨_, rfl, ?_, hp1⟩
    rw [HL.out]
    exact OwnO.of_own (World.ownsRow_nil _ _ _ _)

end Go.Proofs.Ytajaonejpggcbaa
