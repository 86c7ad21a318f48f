/- The law FnTraceMasks, whole: outside of blocks all lanes are active. No condition. -/
import Derived.Test.YtkolnakcgjlcgaaKbg
import Derived.Test.YtkolnakcgjlcgaaKbh

namespace Go.Proofs.Ytkolnakcgjlcgaa
open Go.RowKit

/-- A step at a place in no block has all lanes. -/
theorem lockA_out {cs : List Cd} {a : Int} {mem : List Int} {x : Nat × Nat × (Nat → Nat → Int)} (hx : x ∈ (lockA cs a mem).H) : aroundA cs (x.1 : Nat) ≠ -1 ∨ ∃ n : Nat, a = n ∧ 1 ≤ n ∧ n ≤ 8 ∧ x.2.1 = 2 ^ n - 1 := by
  obtain ⟨hin, hok⟩ := lockA_in x hx
  obtain ⟨n, rfl, hn1, hn8⟩ := lanes_nat hok.2.1
  rw [lockA_ok hok] at hx
  obtain ⟨h1, h2, h3⟩ := treeOf_spec hok.1
  have hpl := hin.2.1
  have ha : aroundA cs (x.1 : Nat) = aroundAt cs x.1 := by
    unfold aroundA; rw [if_pos ⟨hok.1, by omega, by omega⟩]; rfl
  rcases run_out n mem.length (treeOf cs) 0 (2 ^ n - 1) (startLS mem) x h2 (Seg.whole h1) hx with h | h | h
  · cases h
  · exact .inr ⟨n, rfl, hn1, hn8, h.1⟩
  · left; rw [ha]; intro he; rw [he] at h; simp at h

set_option maxHeartbeats 4000000 in
set_option maxRecDepth 100000 in
theorem law_FnTraceMasks (v : Value) (bs : List Int) (w : World) (h : Bytes w v bs) :
    Calls Try.prog 7 #[v] w fun e w' => e = .returned (.bool true) ∧ Pure w w' := by
  have H := Lib.hid h
  obtain ⟨A, c, rfl, hnc, hcm⟩ := h.form
  clear h
  by_cases hbig : (bs.length : Int) > 1048576
  · go_enter Try.func7, Try.ntmps7
    go_wp2
    go_ret
    exact ⟨rfl, Pure.refl _⟩
  go_enter Try.func7, Try.ntmps7
  go_wp2_with fail
  refine (draw_DrawLockTrace _ bs _ H.out (by omega)).mono ?_
  rintro e w1 ⟨vl, cs, a, vm, mem, rfl, ha0, ha9, hl, hm, hcl, hml, hp1⟩
  have HC := Lib.hid hl
  have HM := Lib.hid hm
  have HP1 := Lib.hid hp1
  obtain ⟨Ac, cc, rfl, hcc1, hcc2⟩ := hl.form
  obtain ⟨Am, cm, rfl⟩ := hm.form
  clear hl hm hp1
  go_wp2_with fail
  refine (itra_any _ _ cs a mem _ HC.out HM.out (by omega) (by omega)).mono ?_
  rintro e w2 ⟨r2, rfl, ho2, hp2⟩
  have HO2 := Lib.hid ho2
  have HP2 := Lib.hid hp2
  obtain ⟨A2, c2, rfl⟩ := ho2.form
  clear ho2 hp2
  go_wp2_with fail
  refine (stra_any _ _ cs a mem _ (HC.out.keep HP2.out) (HM.out.keep HP2.out) (by omega) (by omega)).mono ?_
  rintro e w3 ⟨r3, rfl, ho3, hp3⟩
  have HO3 := Lib.hid ho3
  have HP3 := Lib.hid hp3
  clear ho3 hp3
  go_wp2_with fail
  refine (sameBeats_same _ _ (lockA cs a mem).H _ (Flat.of_own (HO2.out.pure HP3.out)) (Flat.of_own HO3.out)).mono ?_
  rintro e w4 ⟨rfl, hp4⟩
  have HP24 := Lib.hid (HP3.out.trans hp4)
  have HP14 := Lib.hid (HP2.out.trans HP24.out)
  have hlen := lockA_len (cs := cs) (a := a) (mem := mem)
  have HIN := Lib.hid (fun x hx => lockA_out (cs := cs) (a := a) (mem := mem) (x := x) hx)
  obtain ⟨L, HL⟩ : ∃ L, Hid ((lockA cs a mem).H = L) := ⟨_, Lib.hid rfl⟩
  rw [HL.out] at HO2 hlen HIN
  clear hp4 HO3
  have HLL : Hid ((lockA cs a mem).H.length = L.length) := Lib.hid (by rw [HL.out])
  simp only [HLL.out]
  go_wp2_with fail
  go_loopg [7] L.length (fun gk i wr => ∃ k : Nat, gk + k = L.length ∧ i = .int .i64 k ∧ Pure w4 wr)
  case atStart => exact ⟨0, rfl, rfl, Pure.refl _⟩
  case round =>
    obtain ⟨k, hgk, rfl, hp⟩ := hrel
    have Hgk := Lib.hid hgk
    have hkn : k ≤ L.length := by omega
    clear hgk
    by_cases hlt : k < L.length
    · obtain ⟨b', o', hv', hb', hc'⟩ := (Flat.of_own (HO2.out.pure (HP24.out.trans hp))).at_ (by omega)
      subst hv'
      have q0 := hc' (k * 2) (by omega)
      have q1 := hc' (k * 2 + 1) (by omega)
      rw [getD_of (beat_at L k hlt).1] at q0
      rw [getD_of (beat_at L k hlt).2, ← Nat.add_assoc] at q1
      have hin := HIN.out _ (getD_mem' hlt)
      obtain ⟨p, Hp⟩ : ∃ p, Hid ((L.getD k default).1 = p) := ⟨_, Lib.hid rfl⟩
      obtain ⟨mk, Hmk⟩ : ∃ mk, Hid ((L.getD k default).2.1 = mk) := ⟨_, Lib.hid rfl⟩
      rw [Hp.out] at q0 hin
      rw [Hmk.out] at q1 hin
      clear hc'
      have HMA : Hid (∀ (n : Nat) (u : World), 1 ≤ n → n ≤ 8 → Calls Try.prog 22 #[.int .i64 (n : Int)] u fun e w' => e = .returned (.int .i64 ((2 ^ n - 1 : Nat) : Int)) ∧ u = w') := Lib.hid fun n u h1 h8 => imaskall_any n u h1 h8
      obtain ⟨ar, Har⟩ : ∃ ar, Hid (aroundA cs (p : Nat) = ar) := ⟨_, Lib.hid rfl⟩
      have HBA : Hid (∀ u : World, Pure w1 u → Calls Try.prog 39 #[.slice Ac cs.length cc, .int .i64 (p : Int)] u fun e w' => e = .returned (.int .i64 ar) ∧ Pure u w') := Lib.hid fun u hu => by
        have := iba_any _ cs (p : Int) u (HC.out.keep hu) (by omega)
        rw [Har.out] at this; exact this
      rw [Har.out] at hin
      by_cases hout : ar = -1
      · subst hout
        obtain ⟨n, rfl, hn1, hn8, hmk⟩ := hin.resolve_left (by simp)
        have hmb : ((mk : Int) != ((2 ^ n - 1 : Nat) : Int)) = false := by simp [hmk]
        obtain ⟨T, HT⟩ : ∃ T, Hid (2 ^ n - 1 = T) := ⟨_, Lib.hid rfl⟩
        have HMA2 : Hid (∀ u : World, Calls Try.prog 22 #[.int .i64 (n : Int)] u fun e w' => e = .returned (.int .i64 (T : Int)) ∧ u = w') := Lib.hid fun u => by
          have := HMA.out n u hn1 hn8; rw [HT.out] at this; exact this
        rw [HT.out] at hmb
        clear hin hmk
        go_wp2
        refine region_pure [.slice Ac cs.length cc, .slice (some ⟨b', o', none⟩) L.length c2, .int .i64 (k : Int), .pointer (some ⟨b', o' + k * 2, none⟩), .pointer (some ⟨b', o' + k * 2, none⟩), .int .i64 (p : Int), .int .i64 (-1), .bool true, .bool true, .slice (some ⟨b', o', none⟩) L.length c2, .int .i64 (k : Int), .pointer (some ⟨b', o' + k * 2, none⟩), .pointer (some ⟨b', o' + k * 2 + 1, none⟩), .int .i64 (mk : Int), .int .i64 (n : Int), .int .i64 (T : Int), .bool false, .bool false] (Pure wr) (by kernel_rfl) (by kernel_rfl) rfl (by kernel_rfl) (Pure.drew (Pure.refl _)) ?_ ?_ (by kernel_rfl)
        · simp only [foldPut, Act.put, List.setIfInBounds_toArray, List.set_cons_succ, List.set_cons_zero]
          refine ⟨fun u hu => ?_, fun u hu => ?_, fun u hu => ?_, fun u hu => ?_, fun u hu => ?_, fun u hu => ?_, fun u hu => ?_, fun u hu => ?_, fun u hu => ?_, fun u hu => ?_, fun u hu => ?_, fun u hu => ?_, fun u hu => ?_, fun u hu => ?_, fun u hu => ?_, fun u hu => ?_, fun u hu => ?_, fun u hu => ?_, trivial⟩
          all_goals
            have q0u := keepPc hu q0
            have q1u := keepPc hu q1
            go_wp2_with (first | (go_at_call 39; refine (HBA.out _ ((HP14.out.trans hp).trans hu)).mono ?_; rintro e w5 ⟨rfl, hp5⟩; have hu := hu.trans hp5) | (go_at_call 22; refine (HMA2.out _).mono ?_; rintro e w6 ⟨rfl, rfl⟩))
            exact ⟨by assumption, rfl⟩
        · intro u hu
          simp only [foldPut, Act.put, List.setIfInBounds_toArray, List.set_cons_succ, List.set_cons_zero]
          go_wp2
          go_roundg (L.length - (k + 1))
          case measure => have := Hgk.out; omega
          case rel => exact ⟨k + 1, by have := Hgk.out; omega, by go_num, hp.trans hu⟩
      · have hob : (ar == -1) = false := by simp [hout]
        clear hin hout
        go_wp2
        refine region_pure [.slice Ac cs.length cc, .slice (some ⟨b', o', none⟩) L.length c2, .int .i64 (k : Int), .pointer (some ⟨b', o' + k * 2, none⟩), .pointer (some ⟨b', o' + k * 2, none⟩), .int .i64 (p : Int), .int .i64 ar, .bool false, .bool false, undef, undef, undef, undef, undef, undef, undef, undef, .bool false] (Pure wr) (by kernel_rfl) (by kernel_rfl) rfl (by kernel_rfl) (Pure.drew (Pure.refl _)) ?_ ?_ (by kernel_rfl)
        · simp only [foldPut, Act.put, List.setIfInBounds_toArray, List.set_cons_succ, List.set_cons_zero]
          refine ⟨fun u hu => ?_, fun u hu => ?_, fun u hu => ?_, fun u hu => ?_, fun u hu => ?_, fun u hu => ?_, fun u hu => ?_, fun u hu => ?_, fun u hu => ?_, fun u hu => ?_, fun u hu => ?_, fun u hu => ?_, fun u hu => ?_, fun u hu => ?_, fun u hu => ?_, fun u hu => ?_, fun u hu => ?_, fun u hu => ?_, trivial⟩
          all_goals
            have q0u := keepPc hu q0
            have q1u := keepPc hu q1
            go_wp2_with (go_at_call 39; refine (HBA.out _ ((HP14.out.trans hp).trans hu)).mono ?_; rintro e w5 ⟨rfl, hp5⟩; have hu := hu.trans hp5)
            exact ⟨by assumption, rfl⟩
        · intro u hu
          simp only [foldPut, Act.put, List.setIfInBounds_toArray, List.set_cons_succ, List.set_cons_zero]
          go_wp2
          go_roundg (L.length - (k + 1))
          case measure => have := Hgk.out; omega
          case rel => exact ⟨k + 1, by have := Hgk.out; omega, by go_num, hp.trans hu⟩
    · have hkl : k = L.length := by omega
      subst hkl
      go_wp2_with fail
      refine (alive_any _).mono ?_
      rintro e w5 ⟨rfl, hp5⟩
      go_wp2
      go_ret
      exact ⟨rfl, ((HP1.out.trans HP14.out).trans hp).trans hp5⟩

end Go.Proofs.Ytkolnakcgjlcgaa

namespace Go.Proofs.Ytkolnakcgjlcgaa.rowFnTraceMasks
open Go.ChangeShapes Go.WideShapes Go.ChangeAt Go.RowKit Go.Deep

set_option maxRecDepth 100000 in
theorem lifted (os : Os) (started : os.Started) (H : Type) (enc : TypeId × Value → H) :
    ReturnsInHanded {} Try.checked os 7 .any (Rows.fnTraceMasksSpec.pre6 enc Try.prog Try.f7 Rows.fnTraceMasksRow.domain false) (Rows.fnTraceMasksSpec.post enc Try.prog Try.f7 false true false false) := by
  refine returnsInHanded_of_change (C := Try.checked) own_knob started (by kernel_rfl) Try.func7
    (ChangeSpec.witness6 (enc := enc) (C := Try.checked) false ⟨#[], #[.slice none 0 0], []⟩ 8 (by kernel_rfl) (by kernel_rfl) (by kernel_rfl) (by kernel_rfl)) ?_
  intro W base args ds gs before hval0 hW hcnd _
  have hval : ∀ (j : Nat) t v, Try.f7.params[j]? = some t → args[j]? = some v → Value.okWide Try.prog W .any base t v := hval0
  have hW' := hW
  obtain ⟨p, q, hA0, hV, rfl, hfz, hnd⟩ := hW
  have hA : DataW.TrodAll enc Try.prog W 0 (fun _ => true) true Try.f7.params.toList args.toList ds p := hA0
  rw [Try.params7] at hA hval
  obtain ⟨v0, vs0, d0, ds0, p0, q0, hargs, rfl, rfl, h0, r0⟩ := trodAll_cons hA
  obtain ⟨rfl, rfl, rfl⟩ := trodAll_nil r0
  obtain rfl : args = #[v0] := by cases args; simp_all
  obtain ⟨rfl, rfl⟩ := trodVars_none hV
  have k0 := h0
  have lt0 : ∀ x ∈ p0, x.block < W.heap.size := by obtain ⟨m, hm⟩ := k0; exact DataW.trod_lt m _ _ _ hm
  obtain ⟨A0, len0, cap0, rfl⟩ := okWide_slice Try.underlying22 (hval 0 22 v0 rfl rfl)
  obtain ⟨x0, w0⟩ : ∃ xs, Bytes W (.slice A0 len0 cap0) xs := by
    obtain ⟨fuel, hf⟩ := h0
    obtain ⟨v, xs, hcs, hx⟩ := bytes_open hf
    simp [Value.cells] at hcs
    subst hcs
    exact ⟨xs, hx⟩
  clear hA0 hval0
  refine (law_FnTraceMasks _ x0 W w0).mono fun e W' ⟨he, bel⟩ => ?_
  subst he
  have bel' : Below W.heap.size W W' := bel
  exact ⟨_, rfl, _, _, _, [], _, [], hW', trodAll_mk1 (shut_bool Try.underlying4 _), (trodAll_cons_mk (Below.trod laid_out (by kernel_rfl) (of_decide_eq_true (by kernel_rfl)) k0 bel' lt0) trodAll_mk0), rfl, bel'.frame _, fun h => by cases h⟩

theorem proved : Rows.FnTraceMasksSaid :=
  OpenClaim.holds_of_wide 7 Try.f7 rfl rfl rfl rfl rfl rfl rfl ⟨rfl, rfl, rfl, rfl, rfl⟩ rfl rfl rfl rfl rfl (by kernel_rfl) Try.func7 (by kernel_rfl)
    (of_decide_eq_true (by kernel_rfl)) (by unfold Func.isWrapper; rw [if_neg (of_decide_eq_false (by kernel_rfl))]; exact ⟨rfl, rfl⟩)
    (fun os started H enc _ => lifted os started H enc)

end Go.Proofs.Ytkolnakcgjlcgaa.rowFnTraceMasks
