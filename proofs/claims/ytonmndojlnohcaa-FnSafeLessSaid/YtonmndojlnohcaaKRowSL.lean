/- The law FnSafeLess, whole: A safe program is safe without its last instruction, if that is not an OpEnd. No condition. -/
import Derived.Test.YtonmndojlnohcaaKca
import Derived.Test.YtonmndojlnohcaaKcc
import Derived.Test.YtonmndojlnohcaaKcd

namespace Go.Proofs.Ytonmndojlnohcaa
open Go.RowKit

theorem tail_of {hd k l : List Cd} {c : Cd} (h : (hd ++ [cEnd]) ++ k = l ++ [c]) (hc : cEnd ≠ c) : ∃ l', l = (hd ++ [cEnd]) ++ l' ∧ k = l' ++ [c] := by
  rcases List.eq_nil_or_concat k with rfl | ⟨k', y, rfl⟩
  · rw [List.append_nil] at h
    have := List.append_inj_right' h (by simp)
    simp at this
    exact absurd this hc
  · rw [List.concat_eq_append, ← List.append_assoc] at h
    rw [List.concat_eq_append]
    have h1 := List.append_inj_right' h (by simp)
    have h2 := List.append_inj_left' h (by simp)
    simp at h1
    exact ⟨k', h2.symm, by rw [h1]⟩

theorem last_part : ∀ (t : Tr) (l : List Cd) (c : Cd), t.Ok → t.flat = l ++ [c] → c.op ≠ 14 → ∃ u : Tr, u.Ok ∧ Plain c ∧ t = u.app (.op c .nil) ∧ u.flat = l
  | .nil, l, c, _, h, _ => absurd h (by simp [Tr.flat])
  | .op d k, l, c, ho, h0, hc => by
    have h : d :: k.flat = l ++ [c] := h0
    clear h0
    cases hk : k.flat with
    | nil =>
      have hk0 : k = .nil := Tr.len_zero (by unfold Tr.len; rw [hk]; rfl)
      rw [hk] at h
      cases l with
      | nil =>
        simp at h; subst h; subst hk0
        exact ⟨.nil, trivial, ho.1, rfl, rfl⟩
      | cons x l => simp at h
    | cons y ys =>
      cases l with
      | nil => rw [hk] at h; simp at h
      | cons x l =>
        simp only [List.cons_append, List.cons.injEq] at h
        obtain ⟨rfl, h⟩ := h
        obtain ⟨u, h1, h2, h3, h4⟩ := last_part k l c ho.2 h hc
        exact ⟨.op d u, ⟨ho.1, h1⟩, h2, by rw [h3]; rfl, by show d :: u.flat = _; rw [h4]⟩
  | .ite a t k, l, c, ho, h, hc => by
    have h : ((cIf a :: t.flat) ++ [cEnd]) ++ k.flat = l ++ [c] := by rw [← h]; simp [Tr.flat]
    obtain ⟨l', hl', hk'⟩ := tail_of h (fun e => hc (by rw [← e]; rfl))
    obtain ⟨u, h1, h2, h3, h4⟩ := last_part k l' c ho.2.2 hk' hc
    exact ⟨.ite a t u, ⟨ho.1, ho.2.1, h1⟩, h2, by rw [h3]; rfl, by rw [hl', ← h4]; simp [Tr.flat]⟩
  | .itee a t e k, l, c, ho, h, hc => by
    have h : ((cIf a :: (t.flat ++ cElse :: e.flat)) ++ [cEnd]) ++ k.flat = l ++ [c] := by rw [← h]; simp [Tr.flat]
    obtain ⟨l', hl', hk'⟩ := tail_of h (fun e => hc (by rw [← e]; rfl))
    obtain ⟨u, h1, h2, h3, h4⟩ := last_part k l' c ho.2.2.2 hk' hc
    exact ⟨.itee a t e u, ⟨ho.1, ho.2.1, ho.2.2.1, h1⟩, h2, by rw [h3]; rfl, by rw [hl', ← h4]; simp [Tr.flat]⟩
  | .loop a b t k, l, c, ho, h, hc => by
    have h : ((cLoop a b :: t.flat) ++ [cEnd]) ++ k.flat = l ++ [c] := by rw [← h]; simp [Tr.flat]
    obtain ⟨l', hl', hk'⟩ := tail_of h (fun e => hc (by rw [← e]; rfl))
    obtain ⟨u, h1, h2, h3, h4⟩ := last_part k l' c ho.2.2.2 hk' hc
    exact ⟨.loop a b t u, ⟨ho.1, ho.2.1, ho.2.2.1, h1⟩, h2, by rw [h3]; rfl, by rw [hl', ← h4]; simp [Tr.flat]⟩
theorem less_safe {l : List Cd} {c : Cd} {n : Nat} {mem : List Int} (hok : RunOk (l ++ [c]) n mem) (hc : c.op ≠ 14) (hs : safeA (l ++ [c]) n mem = true) : safeA l n mem = true := by
  have hn : 1 ≤ n := by have := hok.2.1.1; omega
  obtain ⟨h1, h2, h3⟩ := treeOf_spec hok.1
  obtain ⟨u, hu, hp, e, hf⟩ := last_part (treeOf (l ++ [c])) l c h2 h1.symm hc
  have h40 : (l ++ [c]).length ≤ 40 := hok.1.2.1
  rw [List.length_append] at h40
  have hd := app_depth_le u (.op c .nil)
  rw [← e] at hd
  have hv : PValid l := by
    rw [← hf]; exact valid_of_tree hu (by omega) (by unfold Tr.len; rw [hf]; omega)
  have hl := (snoc_lock (c := c) (mem := mem) hn hv hp (by simpa using h40)).2
  have hokl : RunOk l n mem := ⟨hv, hok.2⟩
  unfold safeA at hs ⊢
  rw [Bool.and_eq_true] at hs ⊢
  obtain ⟨hw, hf'⟩ := hs
  refine ⟨?_, ?_⟩
  · rw [wholeA_ok hok] at hw
    rw [wholeA_ok hokl]
    have hw2 : splitH (l ++ [c]) n (lockOf (l ++ [c]) n mem).H = false := by simpa using hw
    rw [hl, exec_H] at hw2
    unfold splitH at hw2 ⊢
    rw [List.any_append, Bool.or_eq_false_iff] at hw2
    rw [Bool.not_eq_true', List.any_eq_false]
    intro x hx
    have := List.any_eq_false.1 hw2.1 x hx
    rwa [getD_left (lockOf_in hv x hx).2.1] at this
  · rw [freeA_iff hok, lockA_ok hok] at hf'
    rw [freeA_iff hokl, lockA_ok hokl]
    refine fun hr => hf' (race_sub (fun x hx => ?_) hr)
    rw [hl, exec_A]
    split
    · exact List.mem_append_left _ hx
    · exact hx
theorem Codes.take {w : World} {A : Option Addr} {n c : Nat} {cs : List Cd} (h : Codes w (.slice A n c) cs) {k : Nat} (hk : k ≤ cs.length) : Codes w (.slice A k c) (cs.take k) := by
  obtain ⟨A', c', hv, h1, h2, h3⟩ := h
  injection hv with e1 e2 e3
  subst e1 e2 e3
  have hl : (cs.take k).length = k := by simp; omega
  refine ⟨A, c, by rw [hl], by omega, h2, fun hk0 => ?_⟩
  rw [hl] at hk0
  obtain ⟨b, o, rfl, hb, hc⟩ := h3 (by omega)
  refine ⟨b, o, rfl, hb, fun j hj => ?_⟩
  rw [hl] at hj
  rw [hc j (by omega)]
  unfold cdf
  have hjk : j / 4 < k := by omega
  simp [List.getD_eq_getElem?_getD, List.getElem?_take, hjk]

set_option maxHeartbeats 4000000 in
set_option maxRecDepth 100000 in
theorem law_FnSafeLess (v : Value) (bs : List Int) (w : World) (h : Bytes w v bs) :
    Calls Try.prog 12 #[v] w fun e w' => e = .returned (.bool true) ∧ Pure w w' := by
  have H := Lib.hid h
  obtain ⟨A, c, rfl, hnc, hcm⟩ := h.form
  clear h
  by_cases hbig : (bs.length : Int) > 1048576
  · go_enter Try.func12, Try.ntmps12
    go_wp2
    go_ret
    exact ⟨rfl, Pure.refl _⟩
  go_enter Try.func12, Try.ntmps12
  go_wp2_with fail
  refine (draw_DrawIsSafe _ bs _ H.out (by omega)).mono ?_
  rintro e w1 ⟨vl, cs, a, vm, mem, rfl, ha0, ha9, hl, hm, hcl, hml, hp1⟩
  have HC := Lib.hid hl
  have HM := Lib.hid hm
  have HP1 := Lib.hid hp1
  obtain ⟨Ac, cc, rfl, hcc1, hcc2⟩ := hl.form
  obtain ⟨Am, cm, rfl⟩ := hm.form
  clear hl hm hp1
  obtain ⟨s, Hs⟩ : ∃ s, Hid (safeA cs a mem = s) := ⟨_, Lib.hid rfl⟩
  have hss : (s != s) = false := by simp
  go_wp2_with fail
  refine (isafe_any _ _ cs a mem _ HC.out HM.out (by omega) (by omega)).mono ?_
  rintro e w2 ⟨rfl, hp2⟩
  rw [Hs.out]
  have HP2 := Lib.hid hp2
  clear hp2
  go_wp2_with fail
  refine (ssafe_any _ _ cs a mem _ (HC.out.keep HP2.out) (HM.out.keep HP2.out) (by omega) (by omega)).mono ?_
  rintro e w3 ⟨rfl, hp3⟩
  rw [Hs.out]
  have HP3 := Lib.hid (HP2.out.trans hp3)
  clear hp3
  cases s
  · clear hss
    go_wp2_with fail
    refine (alive_any _).mono ?_
    rintro e w4 ⟨rfl, hp4⟩
    go_wp2
    go_ret
    exact ⟨rfl, (HP1.out.trans HP3.out).trans hp4⟩
  clear hss
  rcases Nat.eq_zero_or_pos cs.length with h0 | h0
  · have hneg : (cs.length : Int) - 1 < 0 := by omega
    go_wp2_with fail
    refine (alive_any _).mono ?_
    rintro e w4 ⟨rfl, hp4⟩
    go_wp2
    go_ret
    exact ⟨rfl, (HP1.out.trans HP3.out).trans hp4⟩
  · obtain ⟨k, hk⟩ : ∃ k, cs.length = k + 1 := ⟨cs.length - 1, by omega⟩
    have hnneg : ¬ (cs.length : Int) - 1 < 0 := by omega
    obtain ⟨b, o, rfl, hb, hc⟩ := (HC.out.keep HP3.out).at_ (k := k) (by omega)
    obtain ⟨cd, Hcd⟩ : ∃ cd, Hid (cs.getD k default = cd) := ⟨_, Lib.hid rfl⟩
    rw [Hcd.out] at hc
    obtain ⟨r0, r1, r2, r3⟩ := hc
    have hcs : cs = cs.take k ++ [cd] := by
      rw [← Hcd.out]
      have hk' : k < cs.length := by omega
      have h2 : cs.drop (k + 1) = [] := List.drop_of_length_le (by omega)
      have h3 := drop_cons hk'
      rw [h2] at h3
      rw [← h3, List.take_append_drop]
    have hki : (cs.length : Int) - 1 = (k : Int) := by omega
    have hki2 : (k : Int) < (cs.length : Int) := by omega
    have hki3 : (0 : Int) ≤ (k : Int) := by omega
    have hkc : (k : Int) ≤ (cc : Int) := by omega
    have HCS := Lib.hid hcs
    clear hcs
    by_cases h14 : cd.op = 14
    · have hd : (cd.op == 14) = true := by simp [h14]
      go_wp2_with fail
      refine (alive_any _).mono ?_
      rintro e w4 ⟨rfl, hp4⟩
      go_wp2
      go_ret
      exact ⟨rfl, (HP1.out.trans HP3.out).trans hp4⟩
    · have hd : (cd.op == 14) = false := by simp [h14]
      have hrun : RunOk cs a mem := by
        by_cases hr : RunOk cs a mem
        · exact hr
        · have := Hs.out
          unfold safeA at this
          rw [freeA_no hr, Bool.and_false] at this
          cases this
      obtain ⟨n, rfl, hn1, hn8⟩ := lanes_nat hrun.2.1
      have hsl : safeA (cs.take k) n mem = true := less_safe (c := cd) (by rw [← HCS.out]; exact hrun) h14 (by rw [← HCS.out]; exact Hs.out)
      have HSL := Lib.hid hsl
      have HCT := Lib.hid ((HC.out.keep HP3.out).take (k := k) (by omega))
      have hlt : (cs.take k).length ≤ 1048576 := by simp; omega
      clear hrun hsl
      go_wp2_with fail
      refine (isafe_any _ _ (cs.take k) n mem _ HCT.out (HM.out.keep HP3.out) hlt (by omega)).mono ?_
      rintro e w4 ⟨rfl, hp4⟩
      rw [HSL.out]
      have HP4 := Lib.hid (HP3.out.trans hp4)
      clear hp4
      go_wp2_with fail
      refine (alive_any _).mono ?_
      rintro e w5 ⟨rfl, hp5⟩
      go_wp2
      go_ret
      exact ⟨rfl, (HP1.out.trans HP4.out).trans hp5⟩

end Go.Proofs.Ytonmndojlnohcaa

namespace Go.Proofs.Ytonmndojlnohcaa.rowFnSafeLess
open Go.ChangeShapes Go.WideShapes Go.ChangeAt Go.RowKit Go.Deep

set_option maxRecDepth 100000 in
theorem lifted (os : Os) (started : os.Started) (H : Type) (enc : TypeId × Value → H) :
    ReturnsInHanded {} Try.checked os 12 .any (Rows.fnSafeLessSpec.pre6 enc Try.prog Try.f12 Rows.fnSafeLessRow.domain false) (Rows.fnSafeLessSpec.post enc Try.prog Try.f12 false true false false) := by
  refine returnsInHanded_of_change (C := Try.checked) own_knob started (by kernel_rfl) Try.func12
    (ChangeSpec.witness6 (enc := enc) (C := Try.checked) false ⟨#[], #[.slice none 0 0], []⟩ 8 (by kernel_rfl) (by kernel_rfl) (by kernel_rfl) (by kernel_rfl)) ?_
  intro W base args ds gs before hval0 hW hcnd _
  have hval : ∀ (j : Nat) t v, Try.f12.params[j]? = some t → args[j]? = some v → Value.okWide Try.prog W .any base t v := hval0
  have hW' := hW
  obtain ⟨p, q, hA0, hV, rfl, hfz, hnd⟩ := hW
  have hA : DataW.TrodAll enc Try.prog W 0 (fun _ => true) true Try.f12.params.toList args.toList ds p := hA0
  rw [Try.params12] at hA hval
  obtain ⟨v0, vs0, d0, ds0, p0, q0, hargs, rfl, rfl, h0, r0⟩ := trodAll_cons hA
  obtain ⟨rfl, rfl, rfl⟩ := trodAll_nil r0
  obtain rfl : args = #[v0] := by cases args; simp_all
  obtain ⟨rfl, rfl⟩ := trodVars_none hV
  have k0 := h0
  have lt0 : ∀ x ∈ p0, x.block < W.heap.size := by obtain ⟨m, hm⟩ := k0; exact DataW.trod_lt m _ _ _ hm
  obtain ⟨A0, len0, cap0, rfl⟩ := okWide_slice Try.underlying22 (hval 0 22 v0 rfl rfl)
  obtain ⟨x0, w0⟩ : ∃ xs, Bytes W (.slice A0 len0 cap0) xs := by
    obtain ⟨fuel, hf⟩ := h0
    obtain ⟨v, xs, hcs, hx⟩ := bytes_open hf
    simp [Value.cells] at hcs
    subst hcs
    exact ⟨xs, hx⟩
  clear hA0 hval0
  refine (law_FnSafeLess _ x0 W w0).mono fun e W' ⟨he, bel⟩ => ?_
  subst he
  have bel' : Below W.heap.size W W' := bel
  exact ⟨_, rfl, _, _, _, [], _, [], hW', trodAll_mk1 (shut_bool Try.underlying4 _), (trodAll_cons_mk (Below.trod laid_out (by kernel_rfl) (of_decide_eq_true (by kernel_rfl)) k0 bel' lt0) trodAll_mk0), rfl, bel'.frame _, fun h => by cases h⟩

theorem proved : Rows.FnSafeLessSaid :=
  OpenClaim.holds_of_wide 12 Try.f12 rfl rfl rfl rfl rfl rfl rfl ⟨rfl, rfl, rfl, rfl, rfl⟩ rfl rfl rfl rfl rfl (by kernel_rfl) Try.func12 (by kernel_rfl)
    (of_decide_eq_true (by kernel_rfl)) (by unfold Func.isWrapper; rw [if_neg (of_decide_eq_false (by kernel_rfl))]; exact ⟨rfl, rfl⟩)
    (fun os started H enc _ => lifted os started H enc)

end Go.Proofs.Ytonmndojlnohcaa.rowFnSafeLess
