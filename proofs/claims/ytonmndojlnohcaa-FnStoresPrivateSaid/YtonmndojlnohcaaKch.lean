/- hasLane and StoresPrivate, as the program finds them. The drawn input of FnStoresPrivate: any program, of bounded length. No condition. -/
import Derived.Test.YtonmndojlnohcaaKbj
import Derived.Test.YtonmndojlnohcaaKcg

namespace Go.Proofs.Ytonmndojlnohcaa
open Go.RowKit

/-- The table of the blocks around the places: how many there are. -/
def ArTab (w : World) (va : Value) (cs : List Cd) : Prop := ∃ R : Nat → Value, Cells w va cs.length 1 R ∧ ∀ j, j < cs.length → ∃ A c, R j = .slice A (stkPos cs j).length c
theorem ArTab.keep {w w' : World} {va : Value} {cs : List Cd} (h : ArTab w va cs) (hp : Pure w w') : ArTab w' va cs := by
  obtain ⟨R, h1, h2⟩ := h
  exact ⟨R, h1.keep hp, h2⟩
theorem ArTab.of_tabs {w : World} {va vo : Value} {cs : List Cd} (h : Tabs w va vo cs) : ArTab w va cs := by
  obtain ⟨pb, _, _, R, h3, h4⟩ := h
  exact ⟨R, h3, fun j hj => by obtain ⟨A, c, e, _⟩ := h4 j hj; exact ⟨A, c, e⟩⟩
theorem ArTab.at_ {w : World} {A : Option Addr} {n c : Nat} {cs : List Cd} (h : ArTab w (.slice A n c) cs) {k : Nat} (hk : k < cs.length) : n = cs.length ∧ ∃ b o Ar cr, A = some ⟨b, o, none⟩ ∧ b < w.heap.size ∧ w.cell? ⟨b, o + k, none⟩ = some (.slice Ar (stkPos cs k).length cr) := by
  obtain ⟨R, ⟨A', c', hv, _, _, h3⟩, h4⟩ := h
  injection hv with e1 e2 e3
  subst e1 e3
  obtain ⟨b, o, rfl, hb, hc⟩ := h3 (by omega)
  obtain ⟨Ar, cr, he⟩ := h4 k hk
  exact ⟨e2, b, o, Ar, cr, rfl, hb, by rw [hc k (by omega), he]⟩
theorem ArTab.form {w : World} {va : Value} {cs : List Cd} (h : ArTab w va cs) : ∃ A c, va = .slice A cs.length c ∧ cs.length ≤ c ∧ c ≤ 9223372036854775807 := by
  obtain ⟨R, ⟨A', c', hv, h1, h2, h3⟩, h4⟩ := h
  exact ⟨A', c', hv, h1, h2⟩
theorem stk_no {cs : List Cd} (h : PValid cs) {k : Nat} (hk : k < cs.length) : ((stkPos cs k).length = 0 ↔ aroundAt cs k < 0) := by
  rcases stk_top h hk with ⟨h1, h2⟩ | ⟨h1, h2, _⟩
  · exact ⟨fun _ => by omega, fun _ => h1⟩
  · exact ⟨fun e => by omega, fun e => by omega⟩
theorem has_next {cs : List Cd} {r : Int} {k : Nat} {c : Cd} (hc : cs.getD k default = c) : hasL cs r (k + 1) = if wrg c = r then decide (c.op = 2) && decide (aroundAt cs k < 0) else hasL cs r k := by subst hc; rfl

set_option maxHeartbeats 2000000 in
set_option maxRecDepth 100000 in
theorem ihas_any (v va : Value) (cs : List Cd) (at_ : Nat) (r : Int) (w : World) (h : Codes w v cs) (hva : ArTab w va cs) (hv : PValid cs) (hat : at_ ≤ cs.length) :
    Calls Try.prog 58 #[v, va, .int .i64 at_, .int .i64 r] w fun e w' => e = .returned (.bool (hasL cs r at_)) ∧ Pure w w' := by
  have H := Lib.hid h
  have HVA := Lib.hid hva
  have HV := Lib.hid hv
  have h40 := hv.2.1
  obtain ⟨A, c, rfl, hnc, hcm⟩ := h.form
  obtain ⟨Aa, ca, rfl, hna, hcma⟩ := hva.form
  clear h hva hv
  go_enter Try.func58, Try.ntmps58
  go_wp2_with fail
  go_loopg [9] at_ (fun gk i wr => ∃ k : Nat, gk = k ∧ k ≤ at_ ∧ i = .int .i64 ((k : Int) - 1) ∧ hasL cs r at_ = hasL cs r k ∧ Pure w wr)
  case atStart => exact ⟨at_, rfl, Nat.le_refl _, rfl, rfl, Pure.refl _⟩
  case round =>
    obtain ⟨k, hgk, hk, rfl, he, hp⟩ := hrel
    have HE := Lib.hid he
    have HP := Lib.hid hp
    clear he hp
    cases k with
    | zero =>
      have HZ : Hid (hasL cs r at_ = false) := Lib.hid HE.out
      go_wp2
      go_ret
      exact ⟨ret_bool HZ.out.symm, HP.out⟩
    | succ j =>
      have hj : j < cs.length := by omega
      obtain ⟨b, o, rfl, hb, hc⟩ := H.out.at_ hj
      obtain ⟨_, ba, oa, Ar, cr, rfl, hba, hq⟩ := HVA.out.at_ hj
      obtain ⟨cd, Hcd⟩ : ∃ cd, Hid (cs.getD j default = cd) := ⟨_, Lib.hid rfl⟩
      have hatc := hc.keep HP.out hb
      rw [Hcd.out] at hatc
      have hcok : CdOk cd := by rw [← Hcd.out]; exact HV.out.1 _ (cdOk_mem hj)
      have HCOK := Lib.hid hcok
      obtain ⟨op, a1, a2, a3⟩ := cd
      obtain ⟨c0, c1, c2, c3⟩ := hatc
      simp only at c0 c1 c2 c3
      have hq := keepPc HP.out hq
      have hbw := Nat.lt_of_lt_of_le hb HP.out.size
      have hbaw := Nat.lt_of_lt_of_le hba HP.out.size
      have HNX := Lib.hid (HE.out.trans (has_next (r := r) Hcd.out))
      have HST := Lib.hid (stk_no HV.out hj)
      obtain ⟨sl, Hsl⟩ : ∃ sl, Hid ((stkPos cs j).length = sl) := ⟨_, Lib.hid rfl⟩
      rw [Hsl.out] at hq HST
      have hx : (((j + 1 : Nat) : Int) - 1) = (j : Int) := by omega
      rw [hx]
      have hj0 : (0 : Int) ≤ (j : Int) := by omega
      have hjI : (j : Int) < (cs.length : Int) := by omega
      have hlo : (j : Int) ≥ 0 := by omega
      clear hc hb hba hcok hx
      go_wp2_with fail
      refine (iwrites_any ⟨op, a1, a2, a3⟩ _ HCOK.out).mono ?_
      rintro e w2 ⟨rfl, hp2⟩
      have c0 := keepPc hp2 c0
      have hq := keepPc hp2 hq
      have HP2 := Lib.hid (HP.out.trans hp2)
      clear hp2 c1 c2 c3
      obtain ⟨wg, Hwg⟩ : ∃ wg, Hid (wrg ⟨op, a1, a2, a3⟩ = wg) := ⟨_, Lib.hid rfl⟩
      rw [Hwg.out] at HNX ⊢
      by_cases hwr : wg = r
      · have hd : (wg == r) = true := by rw [beq_iff_eq]; exact hwr
        have HNY : Hid (hasL cs r at_ = (decide (op = 2) && decide (sl = 0))) := Lib.hid (by
          rw [HNX.out, if_pos hwr]
          congr 1
          exact decide_eq_decide.2 HST.out.symm)
        clear hwr
        by_cases h2 : op = 2
        · have d2 : (op == 2) = true := by rw [beq_iff_eq]; exact h2
          by_cases hs : sl = 0
          · have HR : Hid (hasL cs r at_ = true) := Lib.hid (by rw [HNY.out, decide_eq_true h2, decide_eq_true hs]; rfl)
            have ds : ((sl : Int) == 0) = true := by rw [beq_iff_eq]; omega
            clear h2 hs
            go_wp2
            go_ret
            exact ⟨ret_bool HR.out.symm, HP2.out⟩
          · have HR : Hid (hasL cs r at_ = false) := Lib.hid (by rw [HNY.out, decide_eq_false hs, Bool.and_false])
            have ds : ((sl : Int) == 0) = false := by rw [beq_eq_false_iff_ne]; omega
            clear h2 hs
            go_wp2
            go_ret
            exact ⟨ret_bool HR.out.symm, HP2.out⟩
        · have d2 : (op == 2) = false := by rw [beq_eq_false_iff_ne]; exact h2
          have HR : Hid (hasL cs r at_ = false) := Lib.hid (by rw [HNY.out, decide_eq_false h2, Bool.false_and])
          clear h2
          go_wp2
          go_ret
          exact ⟨ret_bool HR.out.symm, HP2.out⟩
      · have hd : (wg == r) = false := by rw [beq_eq_false_iff_ne]; exact hwr
        have HNY : Hid (hasL cs r at_ = hasL cs r j) := Lib.hid (by rw [HNX.out, if_neg hwr])
        clear hwr
        go_wp2
        go_roundg j
        case measure => omega
        case rel => exact ⟨j, rfl, by omega, by go_num, HNY.out, HP2.out⟩

set_option maxHeartbeats 4000000 in
set_option maxRecDepth 100000 in
theorem iprv_any (v : Value) (cs : List Cd) (w : World) (h : Codes w v cs) (hsmall : cs.length ≤ 1048576) (B : Bool) (hB : B = true ↔ SPriv cs) :
    Calls Try.prog 30 #[v] w fun e w' => e = .returned (.bool B) ∧ Pure w w' := by
  have H := Lib.hid h
  have HB := Lib.hid hB
  obtain ⟨A, c, rfl, hnc, hcm⟩ := h.form
  clear h hB
  by_cases hv : PValid cs
  case neg =>
    have hBf : B = false := by
      cases B
      · rfl
      · exact absurd (HB.out.1 rfl).1 hv
    subst hBf
    have HV := Lib.hid hv
    clear hv
    go_enter Try.func30, Try.ntmps30
    go_wp2_with fail
    refine (ipv_any _ cs _ H.out hsmall false (by simp only [Bool.false_eq_true, false_iff]; exact HV.out)).mono ?_
    rintro e w1 ⟨rfl, hp1⟩
    go_wp2
    go_ret
    exact ⟨rfl, hp1⟩
  case pos =>
    have HV := Lib.hid hv
    have h40 := hv.2.1
    have HBAD : Hid (∀ k, k < cs.length → ¬ prAt cs k → B = false) := Lib.hid fun k hk hn => by
      cases hb : B
      · rfl
      · exact absurd ((HB.out.1 hb).2 k hk) hn
    clear hv
    go_enter Try.func30, Try.ntmps30
    go_wp2_with fail
    refine (ipv_any _ cs _ H.out hsmall true (by simp only [true_iff]; exact HV.out)).mono ?_
    rintro e w1 ⟨rfl, hp1⟩
    go_wp2_with fail
    refine (blocks_any _ cs _ (H.out.keep hp1) h40).mono ?_
    rintro e w2 ⟨hp2, hm⟩
    rw [HV.out.2.2] at hm
    obtain ⟨va, vo, rfl, ht⟩ := hm
    have hart := ArTab.of_tabs (ht rfl)
    have HART := Lib.hid hart
    obtain ⟨Aa, ca, rfl, hla, hca⟩ := hart.form
    have HTB := Lib.hid (ht rfl)
    obtain ⟨pb, ⟨Ao, co, rfl, _⟩, _⟩ := ht rfl
    have HP2 := Lib.hid (hp1.trans hp2)
    clear ht hp1 hp2 hart
    go_wp2_with fail
    go_loopg [19] cs.length (fun gk i wr => ∃ k : Nat, gk + k = cs.length ∧ i = .int .i64 k ∧ prOk cs k ∧ Pure w2 wr)
    case atStart => exact ⟨0, rfl, rfl, fun j hj => absurd hj (Nat.not_lt_zero _), Pure.refl _⟩
    case round =>
      obtain ⟨k, hgk, rfl, hpr, hp⟩ := hrel
      have Hgk := Lib.hid hgk
      have HPR := Lib.hid hpr
      have HP := Lib.hid hp
      have HPW := Lib.hid (HP2.out.trans hp)
      have hkn : k ≤ cs.length := by omega
      clear hgk hpr hp
      by_cases hlt : k < cs.length
      · obtain ⟨b, ob, rfl, hb, hc⟩ := H.out.at_ hlt
        obtain ⟨_, ba, oa, Ar, cr, rfl, hba, hq⟩ := HART.out.at_ hlt
        obtain ⟨cd, Hcd⟩ : ∃ cd, Hid (cs.getD k default = cd) := ⟨_, Lib.hid rfl⟩
        have hat := hc.keep HPW.out hb
        rw [Hcd.out] at hat
        have hcok : CdOk cd := by rw [← Hcd.out]; exact HV.out.1 _ (cdOk_mem hlt)
        obtain ⟨op, a1, a2, a3⟩ := cd
        obtain ⟨c0, c1, c2, c3⟩ := hat
        simp only at c0 c1 c2 c3
        obtain ⟨_, hb0, hb3, _, _, hop1, hop2⟩ := hcok.regs
        have hq := keepPc HP.out hq
        have hbw := Nat.lt_of_lt_of_le hb HPW.out.size
        have hbaw := Nat.lt_of_lt_of_le hba HP.out.size
        have HNX := Lib.hid (pr_next Hcd.out HPR.out)
        have HBK : Hid (¬ prAt cs k → B = false) := Lib.hid (HBAD.out k hlt)
        unfold prAt at HBK
        rw [Hcd.out] at HBK
        simp only at HNX HBK
        have HST := Lib.hid (stk_no HV.out hlt)
        have HHAS : Hid (op = 9 → (lanS cs k).testBit a2.toNat = hasL cs a2 k) := Lib.hid (fun h9 => lan_has HV.out.1 (hb0 (by omega)) (hb3 (by omega) (by omega)) k hkn)
        obtain ⟨sl, Hsl⟩ : ∃ sl, Hid ((stkPos cs k).length = sl) := ⟨_, Lib.hid rfl⟩
        rw [Hsl.out] at hq HST
        obtain ⟨hh, Hhh⟩ : ∃ hh, Hid (hasL cs a2 k = hh) := ⟨_, Lib.hid rfl⟩
        rw [Hhh.out] at HHAS
        have hk0 : (0 : Int) ≤ (k : Int) := by omega
        have hkI : (k : Int) < (cs.length : Int) := by omega
        clear hc hb hba hcok hb0 hb3
        by_cases h8 : op = 8
        · subst h8
          have hBf : B = false := HBK.out (fun h => h.1 rfl)
          subst hBf
          go_wp2
          go_ret
          exact ⟨rfl, by exact HPW.out.trans (by repeat (first | assumption | exact Pure.refl _ | refine Pure.drewN ?_ _ | refine Pure.drew ?_ | refine Pure.alloc ?_ _ | refine Pure.setCell ?_ (by simp <;> omega) _))⟩
        have d8 : (op == 8) = false := by rw [beq_eq_false_iff_ne]; exact h8
        by_cases h9 : op = 9
        · subst h9
          by_cases hs : sl = 0
          · have HAR : Hid (aroundAt cs k < 0) := Lib.hid (HST.out.1 hs)
            subst hs
            go_wp2_with fail
            refine (ihas_any _ _ cs k a2 _ (H.out.keep (by exact HPW.out.trans (by repeat (first | assumption | exact Pure.refl _ | refine Pure.drewN ?_ _ | refine Pure.drew ?_ | refine Pure.alloc ?_ _ | refine Pure.setCell ?_ (by simp <;> omega) _)))) (HART.out.keep (by exact HP.out.trans (by repeat (first | assumption | exact Pure.refl _ | refine Pure.drewN ?_ _ | refine Pure.drew ?_ | refine Pure.alloc ?_ _ | refine Pure.setCell ?_ (by simp <;> omega) _)))) HV.out hkn).mono ?_
            rintro e w4 ⟨rfl, hp4⟩
            rw [Hhh.out]
            cases hh
            · have hBf : B = false := HBK.out (fun h => by
                have := (h.2 (by trivial)).2
                rw [HHAS.out (by trivial)] at this
                cases this)
              subst hBf
              go_wp2
              go_ret
              exact ⟨rfl, (show Pure w _ from by exact HPW.out.trans (by repeat (first | assumption | exact Pure.refl _ | refine Pure.drewN ?_ _ | refine Pure.drew ?_ | refine Pure.alloc ?_ _ | refine Pure.setCell ?_ (by simp <;> omega) _))).trans hp4⟩
            · have HPN := Lib.hid (HNX.out (by decide) (fun _ => ⟨HAR.out, HHAS.out (by trivial)⟩))
              go_wp2
              go_roundg (cs.length - (k + 1))
              case measure => have := Hgk.out; omega
              case rel => exact ⟨k + 1, by have := Hgk.out; omega, by go_num, HPN.out, (show Pure w2 _ from by exact HP.out.trans (by repeat (first | assumption | exact Pure.refl _ | refine Pure.drewN ?_ _ | refine Pure.drew ?_ | refine Pure.alloc ?_ _ | refine Pure.setCell ?_ (by simp <;> omega) _))).trans hp4⟩
          · have hBf : B = false := HBK.out (fun h => hs (HST.out.2 (h.2 rfl).1))
            subst hBf
            have hs0 : 0 < sl := by omega
            clear hs
            go_wp2
            go_ret
            exact ⟨rfl, by exact HPW.out.trans (by repeat (first | assumption | exact Pure.refl _ | refine Pure.drewN ?_ _ | refine Pure.drew ?_ | refine Pure.alloc ?_ _ | refine Pure.setCell ?_ (by simp <;> omega) _))⟩
        have d9 : (op == 9) = false := by rw [beq_eq_false_iff_ne]; exact h9
        have HPN := Lib.hid (HNX.out h8 (fun h => absurd h h9))
        clear h8 h9
        go_wp2
        go_roundg (cs.length - (k + 1))
        case measure => have := Hgk.out; omega
        case rel => exact ⟨k + 1, by have := Hgk.out; omega, by go_num, HPN.out, by exact HP.out.trans (by repeat (first | assumption | exact Pure.refl _ | refine Pure.drewN ?_ _ | refine Pure.drew ?_ | refine Pure.alloc ?_ _ | refine Pure.setCell ?_ (by simp <;> omega) _))⟩
      · have hkl : k = cs.length := by omega
        have hBt : B = true := HB.out.2 ⟨HV.out, by rw [← hkl]; exact HPR.out⟩
        subst hBt
        go_wp2
        go_ret
        exact ⟨rfl, HPW.out⟩

end Go.Proofs.Ytonmndojlnohcaa

namespace Go.Proofs.Ytonmndojlnohcaa
open Go.RowKit

def DrawPQ (w : World) (e : Ending) (w' : World) : Prop := ∃ vl cs, e = .returned vl ∧ Codes w' vl cs ∧ cs.length ≤ 400000 ∧ Pure w w'

set_option maxHeartbeats 4000000 in
set_option maxRecDepth 100000 in
theorem draw_DrawStoresPrivate (v : Value) (bs : List Int) (w : World) (h : Bytes w v bs) (hs : bs.length ≤ 1048576) : Calls Try.prog 29 #[v] w (DrawPQ w) := by
  have H := Lib.hid h
  obtain ⟨A, c, rfl, hnc, hcm⟩ := h.form
  clear h
  go_enter Try.func29, Try.ntmps29
  go_wp2_with fail
  refine (draw_open _ bs _ H.out hs).mono ?_
  rintro e w1 ⟨p, vb, bs', rfl, hr, hp1⟩
  have HR := Lib.hid hr
  clear hr
  go_wp2_with fail
  refine (prog_any w w1 p 0 12 vb bs' 12 rfl (by decide) HR.out (by decide)).mono ?_
  rintro e w2 ⟨vl, cs, rfl, hl⟩
  have HL := Lib.hid hl
  clear hl
  go_wp2_with fail
  refine (pick_t w w2 p 2000000 vb bs' 2 2 rfl HL.out.rb (by decide) (by decide) (by decide)).mono ?_
  rintro e w3 ⟨x, rfl, hx, hr3, hg3⟩
  have HL3 := Lib.hid (HL.out.step hr3 hg3)
  have HR3 := Lib.hid hr3
  clear hr3 hg3
  by_cases hx0 : x = 0
  case neg =>
    have hd : ((x : Int) == 0) = false := by rw [beq_eq_false_iff_ne]; omega
    go_wp2
    go_ret
    exact ⟨vl, cs, rfl, HL3.out.codes, by have := HL3.out.len; omega, HL3.out.rb.pure⟩
  case pos =>
    subst hx0
    have hcl := HL3.out.codes
    have HCL := Lib.hid hcl
    have hln := HL3.out.len
    obtain ⟨Al, cl, rfl, hlc1, hlc2⟩ := hcl.form
    have HNP : Hid (∀ g, (Value.slice Al cs.length cl).ownBlock = some g → g ≠ p) := Lib.hid (fun g hg => by
      obtain ⟨cur, b1⟩ := HR3.out.cell
      exact HL3.out.own.ne_heap b1 (by decide) g hg)
    have S0 : Hid (Out w w3 p vb bs' (2000000 + 1) 0 (.slice none 0 0) [] w3) := Lib.hid ⟨HR3.out, Chg.refl _ _, OwnO.of_own (World.ownsRow_nil _ _ _ _), Nat.le_refl _, HL3.out.rb.pure.size⟩
    have S1 := Lib.hid (S0.out.lit [⟨2, 2, 0, 0⟩] (by decide))
    clear hx hcl
    go_wp2_with fail
    go_loopg [6, 5] cs.length (fun gk i v wr => ∃ (k C : Nat) (ds : List Cd), gk + k = cs.length ∧ i = .int .i64 k ∧ C ≤ 2000001 + k ∧ Out w w3 p vb bs' C (1 + k) v ds wr ∧ ∃ A c, v = .slice A ds.length c)
    case atStart => exact ⟨0, 2000001, [⟨2, 2, 0, 0⟩], by omega, rfl, by omega, S1.out, _, _, rfl⟩
    case round =>
      obtain ⟨k, C, ds, hgk, rfl, hC, hS, Ad, cd_, rfl⟩ := hrel
      have Hgk := Lib.hid hgk
      have HS := Lib.hid hS
      have hkn : k ≤ cs.length := by omega
      have hdl := hS.len
      clear hgk hS
      by_cases hlt : k < cs.length
      · obtain ⟨b, ob, rfl, hb, hc⟩ := HCL.out.at_ hlt
        have hbp : b ≠ p := HNP.out b rfl
        obtain ⟨cd, Hcd⟩ : ∃ cd, Hid (cs.getD k default = cd) := ⟨_, Lib.hid rfl⟩
        rw [Hcd.out] at hc
        obtain ⟨op, a1, a2, a3⟩ := cd
        obtain ⟨c0, c1, c2, c3⟩ := hc
        simp only at c0 c1 c2 c3
        have c0 := keepAt HS.out.at_ c0 hbp
        have c1 := keepAt HS.out.at_ c1 hbp
        have c2 := keepAt HS.out.at_ c2 hbp
        have c3 := keepAt HS.out.at_ c3 hbp
        have hbw := Nat.lt_of_lt_of_le hb HS.out.at_.size
        have hk0 : (0 : Int) ≤ (k : Int) := by omega
        have hkI : (k : Int) < (cs.length : Int) := by omega
        clear hb
        by_cases h8 : op = 8
        · have d8 : (op != 8) = false := by rw [bne_eq_false_iff_eq]; exact h8
          clear h8
          go_wp2
          go_roundg (cs.length - (k + 1))
          case measure => have := Hgk.out; omega
          case rel => exact ⟨k + 1, C, ds, by have := Hgk.out; omega, by go_num, by omega, HS.out.more (Nat.le_refl _) (by omega), _, _, rfl⟩
        have d8 : (op != 8) = true := by rw [bne_iff_ne]; exact h8
        clear h8
        by_cases h9 : op = 9
        · have d9 : (op != 9) = false := by rw [bne_eq_false_iff_eq]; exact h9
          clear h9
          go_wp2_with fail
          refine (pick_t w wr p C vb bs' 9 9 rfl HS.out.rb (by omega) (by decide) (by decide)).mono ?_
          rintro e w5 ⟨y, rfl, hy, hr5, hg5⟩
          have S5 := Lib.hid (HS.out.step hr5 hg5)
          have c0 := keepAt hg5 c0 hbp
          have c1 := keepAt hg5 c1 hbp
          have c2 := keepAt hg5 c2 hbp
          have c3 := keepAt hg5 c3 hbp
          have hbw := Nat.lt_of_lt_of_le hbw hg5.size
          clear hr5 hg5
          by_cases hy0 : y = 0
          · subst hy0
            by_cases hd38 : ds.length < 38
            · go_wp2_with (at_builtin; go_must (refine wl_appendLF elCode rfl _ _ rfl w3.heap.size _ _ _ rfl S5.out.own _ 1 _ [.int .i64 op, .int .i64 a1, .int .i64 a2, .int .i64 a3] rfl rfl rfl rfl (by decide) (by have := S5.out.len; omega) S5.out.at_.size ?_); intro v' wq1 hq hgq _; obtain ⟨cs1, A1, c1, rfl, hS1⟩ := S5.out.appA (ds := [⟨op, a1, a2, a3⟩]) (M := 1) hq hgq (by simp); have Sb := Lib.hid hS1; clear hq hgq hS1)
              go_roundg (cs.length - (k + 1))
              case measure => have := Hgk.out; omega
              case rel => exact ⟨k + 1, C + 1, cs1, by have := Hgk.out; omega, by go_num, by omega, Sb.out.more (Nat.le_refl _) (by omega), _, _, rfl⟩
            · go_wp2
              go_roundg (cs.length - (k + 1))
              case measure => have := Hgk.out; omega
              case rel => exact ⟨k + 1, C + 1, ds, by have := Hgk.out; omega, by go_num, by omega, S5.out.more (Nat.le_refl _) (by omega), _, _, rfl⟩
          · have hd : ((y : Int) == 0) = false := by rw [beq_eq_false_iff_ne]; omega
            clear hy0 hy
            go_wp2
            go_roundg (cs.length - (k + 1))
            case measure => have := Hgk.out; omega
            case rel => exact ⟨k + 1, C + 1, ds, by have := Hgk.out; omega, by go_num, by omega, S5.out.more (Nat.le_refl _) (by omega), _, _, rfl⟩
        · have d9 : (op != 9) = true := by rw [bne_iff_ne]; exact h9
          clear h9
          by_cases hd38 : ds.length < 38
          · go_wp2_with (at_builtin; go_must (refine wl_appendLF elCode rfl _ _ rfl w3.heap.size _ _ _ rfl HS.out.own _ 1 _ [.int .i64 op, .int .i64 a1, .int .i64 a2, .int .i64 a3] rfl rfl rfl rfl (by decide) (by have := HS.out.len; omega) HS.out.at_.size ?_); intro v' wq1 hq hgq _; obtain ⟨cs1, A1, c1, rfl, hS1⟩ := HS.out.appA (ds := [⟨op, a1, a2, a3⟩]) (M := 1) hq hgq (by simp); have Sb := Lib.hid hS1; clear hq hgq hS1)
            go_roundg (cs.length - (k + 1))
            case measure => have := Hgk.out; omega
            case rel => exact ⟨k + 1, C, cs1, by have := Hgk.out; omega, by go_num, by omega, Sb.out.more (Nat.le_refl _) (by omega), _, _, rfl⟩
          · go_wp2
            go_roundg (cs.length - (k + 1))
            case measure => have := Hgk.out; omega
            case rel => exact ⟨k + 1, C, ds, by have := Hgk.out; omega, by go_num, by omega, HS.out.more (Nat.le_refl _) (by omega), _, _, rfl⟩
      · go_wp2_with (at_builtin; go_must (refine wl_appendLF elCode rfl _ _ rfl w3.heap.size _ _ _ rfl HS.out.own _ 1 _ [.int .i64 (9), .int .i64 (1), .int .i64 (2), .int .i64 (0)] rfl rfl rfl rfl (by decide) (by have := HS.out.len; omega) HS.out.at_.size ?_); intro v' wq1 hq hgq _; obtain ⟨cs1, A1, c1, rfl, hS1⟩ := HS.out.appA (ds := [⟨9, 1, 2, 0⟩]) (M := 1) hq hgq (by simp); have Sb := Lib.hid hS1; clear hq hgq hS1)
        go_ret
        exact ⟨_, cs1, rfl, Sb.out.codes, by have := Sb.out.len; omega, Sb.out.rb.pure⟩

end Go.Proofs.Ytonmndojlnohcaa
