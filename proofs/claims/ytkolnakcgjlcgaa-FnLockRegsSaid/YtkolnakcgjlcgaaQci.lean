/- The law FnLockRegs: lanes have their own registers. Arguments that came in, opened into the words that the walks use. Bytes that came in, opened into the words that the walks use. No condition. -/
import Derived.ProofKit
import Derived.OpenShut
import Derived.ChangeOld
import Derived.Deep.Matrix
import Derived.Test.YtkolnakcgjlcgaaQab
import Derived.Test.YtkolnakcgjlcgaaQcd
import Derived.Test.YtkolnakcgjlcgaaQce
import Derived.Test.YtkolnakcgjlcgaaQch

namespace Go.Proofs.Ytkolnakcgjlcgaa
open Go.RowKit

/-- What the law's loop keeps: the lane in its variable, its memory, how far it has come. -/
structure LR (cs : List Cd) (xs : List Int) (w4 wr : World) (b7 k : Nat) (R T vm : Value) (l : Ln) (M : Nat → Int) (ms : List Int) (W b : Nat) : Prop where
  pure : Pure w4 wr
  lo : w4.heap.size ≤ b7
  box : wr.heap[b7]? = some (.cells #[R, .int .i64 (l.at_ : Nat), T, .bool l.W] 43 (0, 0))
  r : Ints wr R [l.R 0, l.R 1, l.R 2, l.R 3]
  t : Ints wr T l.T
  m : Ints wr vm ms
  ml : ms.length = xs.length
  mv : ∀ j, j < ms.length → ms.getD j 0 = M j
  on : OnWB cs l W b
  wok : WOk cs l
  g : ∀ r, Word (l.R r)
  mg : ∀ j, Word (M j)
  lone : Lone cs xs l M
  st : (l.W = true ∧ b + k ≤ 2560) ∨ (l.W = false ∧ k = 0 ∧ b ≤ 2560) ∨ (l.W = false ∧ cs.length ≤ l.at_ ∧ k ≤ 2561)
theorem LR.start {cs : List Cd} {xs : List Int} {w4 wr : World} {b7 g : Nat} {vm : Value} (hp : Pure w4 wr) (hlo : w4.heap.size ≤ b7) (hb : wr.heap[b7]? = some (.cells #[.slice (some ⟨g, 0, none⟩) 4 4, .int .i64 0, .slice none 0 0, .bool false] 43 (0, 0))) (hz : wr.heap[g]? = some (.cells zero4 3 (0, 0))) (hm : Ints wr vm xs) (hok : RunOk cs (1 : Nat) xs) :
    LR cs xs w4 wr b7 0 (.slice (some ⟨g, 0, none⟩) 4 4) (.slice none 0 0) vm ln0 (fun j => xs.getD j 0) xs 5000 2560 := by
  refine ⟨hp, hlo, hb, ?_, ⟨none, 0, rfl, Nat.le_refl _, by omega, fun h => absurd h (by simp [ln0])⟩, hm, rfl, fun _ _ => rfl, start_wb hok.1, (fun h => by cases h), fun r => ⟨Int.le_refl 0, by show (0 : Int) ≤ 255; decide⟩, fun j => ?_, Lone.start _ _, .inr (.inl ⟨rfl, rfl, Nat.le_refl _⟩)⟩
  · refine ⟨_, 4, rfl, Nat.le_refl _, by omega, fun _ => ⟨g, 0, rfl, (Array.getElem?_eq_some_iff.1 hz).1, fun j hj => ?_⟩⟩
    rw [cell_of_row _ _ (0 + j) _ _ _ hz]
    have hj4 : j < 4 := by simpa using hj
    have : j = 0 ∨ j = 1 ∨ j = 2 ∨ j = 3 := by omega
    rcases this with rfl | rfl | rfl | rfl <;> rfl
  · show Word (xs.getD j 0)
    by_cases hj : j < xs.length
    · exact hok.2.2.2 _ (getD_mem hj)
    · have : xs.getD j 0 = 0 := by rw [List.getD_eq_getElem?_getD, List.getElem?_eq_none (by omega)]; rfl
      rw [this]
      exact ⟨Int.le_refl 0, by decide⟩
theorem LR.keep {cs : List Cd} {xs ms : List Int} {w4 wr wy : World} {b7 k W b : Nat} {R T vm : Value} {l : Ln} {M : Nat → Int} (h : LR cs xs w4 wr b7 k R T vm l M ms W b) (hp : Pure wr wy) : LR cs xs w4 wy b7 k R T vm l M ms W b :=
  ⟨h.pure.trans hp, h.lo, (Chg.of_pure (S := fun _ => False) hp).heap h.box id, h.r.keep hp, h.t.keep hp, h.m.keep hp, h.ml, h.mv, h.on, h.wok, h.g, h.mg, h.lone, h.st⟩
theorem LR.fin {cs : List Cd} {xs ms : List Int} {w4 wr : World} {b7 k W b : Nat} {R T vm : Value} {l : Ln} {M : Nat → Int} (h : LR cs xs w4 wr b7 k R T vm l M ms W b) (hok : RunOk cs ((1 : Nat) : Int) xs) (hl : cs.length ≤ l.at_) : Ints wr R ((List.range 4).map ((lockA cs ((1 : Nat) : Int) xs).R 0)) := by
  have e := h.lone.fin hok hl
  have e2 : (List.range 4).map ((lockA cs ((1 : Nat) : Int) xs).R 0) = [l.R 0, l.R 1, l.R 2, l.R 3] := by
    rw [lockA_ok hok, ← e]; rfl
  rw [e2]; exact h.r
/-- A further leg. -/
theorem LR.next {cs : List Cd} {xs ms : List Int} {w4 wr w5 w6 : World} {b7 k W b gR cR gm cm : Nat} {R T vm vt : Value} {l l' : Ln} {M M' : Nat → Int} (h : LR cs xs w4 wr b7 k R T vm l M ms W b) (hlive : l.W = true ∨ l.at_ < cs.length)
    (o1 : OwnO w5 wr.heap.size 3 1 (.slice (some ⟨gR, 0, none⟩) 4 cR) 4 (row4 l'.R).toList) (o2 : OwnO w5 wr.heap.size 3 1 vt l'.T.length (l'.T.map (.int .i64))) (o3 : OwnO w5 wr.heap.size 3 1 (.slice (some ⟨gm, 0, none⟩) ms.length cm) ms.length (memL ms.length M'))
    (hc : Comes cs ms.length { l with W := false } M l' M') (hg : goesL cs.length l' = false) (hw : ∀ r, Word (l'.R r)) (hm : ∀ j, Word (M' j)) (hp : Pure wr w5) (hp6 : Pure w5 w6) :
    ∃ W' b', LR cs xs w4 ((((w6.setCell ⟨b7, 0, none⟩ (.slice (some ⟨gR, 0, none⟩) 4 cR)).setCell ⟨b7, 1, none⟩ (.int .i64 (l'.at_ : Nat))).setCell ⟨b7, 2, none⟩ vt).setCell ⟨b7, 3, none⟩ (.bool l'.W)) b7 (k + 1) (.slice (some ⟨gR, 0, none⟩) 4 cR) vt (.slice (some ⟨gm, 0, none⟩) ms.length cm) l' M' ((List.range ms.length).map M') W' b' := by
  have hb7 : b7 < wr.heap.size := (Array.getElem?_eq_some_iff.1 h.box).1
  have hcw : ∀ (u : World) (i : Nat) (x : Value), Chg (fun b => b = b7) u (u.setCell ⟨b7, i, none⟩ x) := fun u i x => Chg.of_set u _ _ _ rfl
  have hcc := (((hcw w6 0 (.slice (some ⟨gR, 0, none⟩) 4 cR)).trans (hcw _ 1 (.int .i64 (l'.at_ : Nat)))).trans (hcw _ 2 vt)).trans (hcw _ 3 (.bool l'.W))
  have h6 := (Chg.of_pure (S := fun _ => False) (hp.trans hp6)).heap h.box id
  have hI : ∀ {v : Value} {ys : List Int}, OwnO w5 wr.heap.size 3 1 v ys.length (ys.map (.int .i64)) → Ints ((((w6.setCell ⟨b7, 0, none⟩ (.slice (some ⟨gR, 0, none⟩) 4 cR)).setCell ⟨b7, 1, none⟩ (.int .i64 (l'.at_ : Nat))).setCell ⟨b7, 2, none⟩ vt).setCell ⟨b7, 3, none⟩ (.bool l'.W)) v ys := fun {v ys} ho => by
    have h2 := (ho.pure hp6).chg hcc fun g hg e => by have h3 : g = b7 := e; have := (ho.lt g hg).1; omega
    unfold Ints
    refine Cells.of_ownO h2 fun j hj => ?_
    have : j < ys.length := by omega
    simp [List.getD_eq_getElem?_getD, this]
  have hleg : LegTo cs b l' := hc (fun a _ => LegTo cs b a) (LegTo.start (h.on.pass false) rfl) (fun a N ha hga => ha.step hga)
  obtain ⟨W', b', g1, g2, g3, g4⟩ := hleg
  have hlone : Lone cs xs l' M' := by
    rw [h.ml] at hc
    exact hc (fun a N => Lone cs xs a N) h.lone (fun a N ha hga => ha.step hga)
  refine ⟨W', b', Chg.pure (h.pure.trans (hp.trans hp6)) hcc (fun i e => by have h3 : i = b7 := e; have := h.lo; omega), h.lo, ?_, hI (ys := [l'.R 0, l'.R 1, l'.R 2, l'.R 3]) o1, hI o2, ?_, by simpa using h.ml, fun j hj => ?_, g1, g2, hw, hm, hlone, ?_⟩
  · rw [heap_setCell_same _ _ 3 _ _ _ (heap_setCell_same _ _ 2 _ _ _ (heap_setCell_same _ _ 1 _ _ _ (heap_setCell_same _ _ 0 _ _ _ h6)))]; rfl
  · have e : memL ms.length M' = ((List.range ms.length).map M').map (.int .i64) := by unfold memL; rw [List.map_map]; rfl
    have hl : ((List.range ms.length).map M').length = ms.length := by simp
    have o4 : OwnO w5 wr.heap.size 3 1 (.slice (some ⟨gm, 0, none⟩) ms.length cm) ((List.range ms.length).map M').length (((List.range ms.length).map M').map (.int .i64)) := by rw [hl, ← e]; exact o3
    exact hI o4
  · have hj2 : j < ms.length := by simpa using hj
    simp [List.getD_eq_getElem?_getD, hj2]
  · have hlen : ∀ h0 : l'.W = false, cs.length ≤ l'.at_ := fun h0 => by
      unfold goesL at hg
      rw [h0] at hg
      simp at hg
      exact hg
    cases hW : l'.W with
    | true =>
      refine .inl ⟨rfl, ?_⟩
      have := g3 hW
      rcases h.st with ⟨_, h1⟩ | ⟨_, h1, h2⟩ | ⟨h1, h2, _⟩
      · omega
      · omega
      · rcases hlive with h3 | h3
        · rw [h1] at h3; cases h3
        · omega
    | false =>
      refine .inr (.inr ⟨rfl, hlen hW, ?_⟩)
      rcases h.st with ⟨_, h1⟩ | ⟨_, h1, h2⟩ | ⟨h1, h2, _⟩
      · omega
      · omega
      · rcases hlive with h3 | h3
        · rw [h1] at h3; cases h3
        · omega
theorem rowsL_len {n : Nat} {R : Nat → Nat → Int} : (rowsL n R).length = n := by unfold rowsL; simp
theorem rowsL_row {n : Nat} {R : Nat → Nat → Int} {k : Nat} (hk : k < n) : ((rowsL n R).getD k []).length = 4 := by
  unfold rowsL; simp [List.getD_eq_getElem?_getD, hk]
theorem lanesA_ok {cs : List Cd} {n : Nat} {mem : List Int} (h : RunOk cs n mem) : lanesA cs n mem = n := by
  unfold lanesA; rw [if_pos h, Int.toNat_natCast]
theorem lanesA_no {cs : List Cd} {a : Int} {mem : List Int} (h : ¬ RunOk cs a mem) : lanesA cs a mem = 0 := by
  unfold lanesA; rw [if_neg h]

set_option maxHeartbeats 8000000 in
set_option maxRecDepth 100000 in
theorem law_FnLockRegs (v : Value) (bs : List Int) (w : World) (h : Bytes w v bs) :
    Calls Try.prog 4 #[v] w fun e w' => e = .returned (.bool true) ∧ Pure w w' := by
  have H := Lib.hid h
  obtain ⟨A, c, rfl, hnc, hcm⟩ := h.form
  clear h
  by_cases hbig : (bs.length : Int) > 1048576
  · go_enter Try.func4, Try.ntmps4
    go_wp2
    go_ret
    exact ⟨rfl, Pure.refl _⟩
  go_enter Try.func4, Try.ntmps4
  go_wp2_with fail
  refine (draw_DrawLockRegs _ bs _ H.out (by omega)).mono ?_
  rintro e w1 ⟨vl, cs, a, vm, xs, rfl, ha0, ha9, hl, hm, hcl, hml, hp1⟩
  have HC := Lib.hid hl
  have HM := Lib.hid hm
  have HP1 := Lib.hid hp1
  obtain ⟨Ac, cc, rfl, hcc1, hcc2⟩ := hl.form
  obtain ⟨Am, cm, rfl⟩ := hm.form
  clear hl hm hp1
  obtain ⟨n, Hn⟩ : ∃ n, Hid (lanesA cs a xs = n) := ⟨_, Lib.hid rfl⟩
  have hn8 : n ≤ 8 := by rw [← Hn.out]; exact lanesA_le
  go_wp2_with fail
  refine (iregs_any _ _ cs a xs _ HC.out HM.out (by omega) (by omega)).mono ?_
  rintro e w2 ⟨v2, rw2, rfl, ho2, hp2⟩
  rw [Hn.out] at ho2
  have HO2 := Lib.hid ho2
  have HP2 := Lib.hid hp2
  obtain ⟨A2, c2, rfl, _⟩ := ho2.form
  clear ho2 hp2
  go_wp2_with fail
  refine (sregs_any _ _ cs a xs _ (HC.out.keep HP2.out) (HM.out.keep HP2.out) (by omega) (by omega)).mono ?_
  rintro e w3 ⟨v3, rw3, rfl, ho3, hp3⟩
  rw [Hn.out] at ho3
  have HO3 := Lib.hid ho3
  have HP3 := Lib.hid (HP2.out.trans hp3)
  have HO23 := Lib.hid (HO2.out.pure hp3)
  obtain ⟨A3, c3, rfl, _⟩ := ho3.form
  clear ho3 hp3
  go_wp2_with fail
  refine (sameRows_same _ _ (rowsL n (lockA cs a xs).R) _ HO23.out.read HO3.out.read (by rw [rowsL_len]; omega) (fun k hk => by rw [rowsL_len] at hk; rw [rowsL_row hk]; omega)).mono ?_
  rintro e w4 ⟨rfl, hp4⟩
  have HP4 := Lib.hid (HP3.out.trans hp4)
  clear hp4
  by_cases hok : RunOk cs a xs
  · have HOK := Lib.hid hok
    obtain ⟨n', rfl, hn1, hn8'⟩ := lanes_nat hok.2.1
    have hnn : n = n' := by rw [← Hn.out]; exact lanesA_ok HOK.out
    subst hnn
    have HOK1 : Hid (RunOk cs ((1 : Nat) : Int) xs) := Lib.hid (one_ok hok)
    have hx32 := hok.2.2.1
    clear hok
    go_wp2_with fail
    refine (runs_any _ _ cs n xs _ (HC.out.keep HP4.out) (HM.out.keep HP4.out) (by omega) (by omega) true (by simp only [true_iff]; exact HOK.out)).mono ?_
    rintro e w5 ⟨rfl, hp5⟩
    have HP5 := Lib.hid (HP4.out.trans hp5)
    clear hp5
    go_wp2_with fail
    refine (inewlane_any _).mono ?_
    rintro e w6 ⟨g, rfl, hg1, hz, hp6⟩
    have HZ := Lib.hid hz
    have HP6 := Lib.hid (HP5.out.trans hp6)
    unfold lane0
    obtain ⟨b7, Hb7⟩ : ∃ b7, Hid (w6.heap.size = b7) := ⟨_, Lib.hid rfl⟩
    obtain ⟨wx, Hwx⟩ : ∃ wx, Hid (w6.alloc (.cells #[.slice (some ⟨g, 0, none⟩) 4 4, .int .i64 0, .slice none 0 0, .bool false] 43) = wx) := ⟨_, Lib.hid rfl⟩
    have HPX : Hid (Pure w6 wx) := Lib.hid (by rw [← Hwx.out]; exact (by repeat (first | assumption | exact Pure.refl _ | refine Pure.drewN ?_ _ | refine Pure.drew ?_ | refine Pure.alloc ?_ _ | refine Pure.setCell ?_ (by simp <;> omega) _)))
    have HX : Hid (wx.heap[b7]? = some (.cells #[.slice (some ⟨g, 0, none⟩) 4 4, .int .i64 0, .slice none 0 0, .bool false] 43 (0, 0))) := Lib.hid (by rw [← Hwx.out, ← Hb7.out]; exact heap_alloc_new w6 _)
    have HS : Hid (LR cs xs w6 wx b7 0 (.slice (some ⟨g, 0, none⟩) 4 4) (.slice none 0 0) (.slice Am xs.length cm) ln0 (fun j => xs.getD j 0) xs 5000 2560) := Lib.hid (LR.start HPX.out (by rw [Hb7.out]; exact Nat.le_refl _) HX.out ((Chg.of_pure (S := fun _ => False) HPX.out).heap HZ.out id) (HM.out.keep (HP6.out.trans HPX.out)) HOK1.out)
    clear hz hp6
    go_wp2_with fail
    rw [Hwx.out, Hb7.out]
    have HXB : Hid (wx.heap.size = b7 + 1) := Lib.hid (by rw [← Hwx.out, ← Hb7.out]; simp)
    have HDD : Hid (Pure w1 w6) := Lib.hid HP6.out
    clear hx32
    go_loopg [9, 8, 10, 11] 4000 (fun gk kk cq p10 c11 wr => ∃ (k : Nat) (R T vm' : Value) (l : Ln) (M : Nat → Int) (ms : List Int) (W b : Nat), gk + k = 4000 ∧ kk = .int .i64 k ∧ cq = vm' ∧ LR cs xs w6 wr b7 k R T vm' l M ms W b)
    case atStart => exact ⟨0, _, _, _, _, _, xs, _, _, rfl, rfl, rfl, HS.out⟩
    case round =>
      obtain ⟨k, R, T, vm', l, M, ms, W, b, hgk, rfl, rfl, hL⟩ := hrel
      have L := Lib.hid hL
      have Hgk := Lib.hid hgk
      have hk3 : (k : Int) ≤ 3000 := by
        rcases hL.st with ⟨_, h1⟩ | ⟨_, h1, _⟩ | ⟨_, _, h1⟩ <;> omega
      have hms32 : 1 ≤ ms.length ∧ ms.length ≤ 32 := by rw [hL.ml]; exact HOK.out.2.2.1
      obtain ⟨Ar, cr, rfl⟩ := hL.r.form
      obtain ⟨At, ct, rfl⟩ := hL.t.form
      obtain ⟨Aq, cq2, rfl⟩ := hL.m.form
      obtain ⟨lW, HlW⟩ : ∃ lW, Hid (l.W = lW) := ⟨_, Lib.hid rfl⟩
      obtain ⟨la, Hla⟩ : ∃ la, Hid (l.at_ = la) := ⟨_, Lib.hid rfl⟩
      have hbx := hL.box
      rw [HlW.out, Hla.out] at hbx
      have HB := Lib.hid hbx
      have x0 := (cell_of_row _ _ 0 _ _ _ hbx).trans (show _ = some (Value.slice Ar 4 cr) from rfl)
      have x1 := (cell_of_row _ _ 1 _ _ _ hbx).trans (show _ = some (Value.int .i64 (la : Nat)) from rfl)
      have x2 := (cell_of_row _ _ 2 _ _ _ hbx).trans (show _ = some (Value.slice At l.T.length ct) from rfl)
      have x3 := (cell_of_row _ _ 3 _ _ _ hbx).trans (show _ = some (Value.bool lW) from rfl)
      have HRUN : Hid (∀ u, Pure wr u → Calls Try.prog 28 #[.agg #[.slice Ar 4 cr, .int .i64 (la : Nat), .slice At l.T.length ct, .bool lW], .slice Ac cs.length cc, .int .i64 0, .slice Aq ms.length cq2] u (LegP cs ms.length l M u)) := Lib.hid (by
        intro u hu
        have hs := irunlane_any (.slice Ar 4 cr) (.slice At l.T.length ct) (.slice Ac cs.length cc) (.slice Aq ms.length cq2) l M W b cs ms u (L.out.r.keep hu) (L.out.t.keep hu) (HC.out.keep (HP6.out.trans (L.out.pure.trans hu))) (L.out.m.keep hu) L.out.mv HOK.out.1 L.out.on L.out.wok L.out.g L.out.mg hms32.1 hms32.2
        unfold lnVX at hs
        rw [HlW.out, Hla.out] at hs
        exact hs)
      have hb7s : b7 < wr.heap.size := (Array.getElem?_eq_some_iff.1 hbx).1
      clear hL hgk hbx
      by_cases hlive : lW = true ∨ la < cs.length
      · have HLV : Hid (l.W = true ∨ l.at_ < cs.length) := Lib.hid (by rw [HlW.out, Hla.out]; exact hlive)
        have hcase : lW = true ∨ (lW = false ∧ (la : Int) < (cs.length : Int)) := by
          rcases hlive with h | h
          · exact .inl h
          · cases lW
            · exact .inr ⟨rfl, by omega⟩
            · exact .inl rfl
        clear hlive
        rcases hcase with rfl | ⟨rfl, hlt⟩
        all_goals
          go_wp2_with fail
          refine (HRUN.out _ (Pure.refl _)).mono ?_
          rintro e w7 ⟨gR, cR, vt, gm, cm7, l', M', rfl, o1, o2, o3, hco, hgo, hww, hmw, hp7⟩
          have O1 := Lib.hid o1; have O2 := Lib.hid o2; have O3 := Lib.hid o3; have HCO := Lib.hid hco; have HGO := Lib.hid hgo; have HWW := Lib.hid hww; have HMW := Lib.hid hmw
          obtain ⟨A5, c5, rfl⟩ := o2.form
          have HP7 := Lib.hid hp7
          have HB7 := Lib.hid ((Chg.of_pure (S := fun _ => False) hp7).heap HB.out id)
          unfold lnVX
          obtain ⟨la', Hla'⟩ : ∃ la', Hid (l'.at_ = la') := ⟨_, Lib.hid rfl⟩
          obtain ⟨lW', HlW'⟩ : ∃ lW', Hid (l'.W = lW') := ⟨_, Lib.hid rfl⟩
          rw [Hla'.out, HlW'.out]
          have LN := L.out.next HLV.out O1.out O2.out O3.out HCO.out HGO.out HWW.out HMW.out hp7 (Pure.refl w7)
          rw [Hla'.out, HlW'.out] at LN
          have HLN := Lib.hid LN
          have hb7' := HB7.out
          have z0 := cell_of_row _ _ 0 _ _ _ hb7'
          have z1 := cell_of_row _ _ 1 _ _ _ hb7'
          have z2 := cell_of_row _ _ 2 _ _ _ hb7'
          have z3 := cell_of_row _ _ 3 _ _ _ hb7'
          simp only [List.getElem?_toArray, List.getElem?_cons_zero, List.getElem?_cons_succ] at z0 z1 z2 z3
          have f0 := frozen_of_row _ _ 0 _ _ hb7'
          have f1 := frozen_of_row _ _ 1 _ _ hb7'
          have f2 := frozen_of_row _ _ 2 _ _ hb7'
          have f3 := frozen_of_row _ _ 3 _ _ hb7'
          have hbs7 : b7 < w7.heap.size := Nat.lt_of_lt_of_le hb7s hp7.size
          clear o1 o2 o3 hco hgo hww hmw hp7 x0 x1 x2 x3 LN hb7'
          go_wp2
          go_roundg (gk - 1)
          case measure => have := Hgk.out; omega
          case rel =>
            obtain ⟨W', b', hn⟩ := HLN.out
            exact ⟨k + 1, _, _, _, l', M', _, W', b', by have := Hgk.out; omega, by go_num, rfl, hn.keep (by exact (by repeat (first | assumption | exact Pure.refl _ | refine Pure.drewN ?_ _ | refine Pure.drew ?_ | refine Pure.alloc ?_ _ | refine Pure.setCell ?_ (by simp <;> omega) _)))⟩
      · have hlf : lW = false := by
          cases lW
          · rfl
          · exact absurd (.inl rfl) hlive
        have hle : cs.length ≤ la := by
          rcases Nat.lt_or_ge la cs.length with h | h
          · exact absurd (.inr h) hlive
          · exact h
        subst hlf
        have HLE := Lib.hid hle
        have hnl : ¬ ((la : Int) < (cs.length : Int)) := by omega
        have HFI := Lib.hid (L.out.fin HOK1.out (by rw [Hla.out]; exact hle))
        have HPR := Lib.hid (HP6.out.trans L.out.pure)
        clear hlive hle
        go_wp2_with fail
        refine (iregs_any _ _ cs ((1 : Nat) : Int) xs _ (HC.out.keep HPR.out) (HM.out.keep HPR.out) (by omega) (by omega)).mono ?_
        rintro e w8 ⟨v9, rw9, rfl, ho9, hp9⟩
        rw [lanesA_ok HOK1.out] at ho9
        have HO9 := Lib.hid ho9
        have HP9 := Lib.hid (HPR.out.trans hp9)
        obtain ⟨A9, c9, rfl, _, _, h9⟩ := ho9.form
        obtain ⟨gr, rfl, _, cur, hcur, hrow⟩ := h9 (by omega)
        have q9 := (cell_of_row _ _ 0 _ _ _ hcur).trans (hrow 0 (by omega))
        have hb8 := (Chg.of_pure (S := fun _ => False) hp9).heap HB.out id
        have x0 := (cell_of_row _ _ 0 _ _ _ hb8).trans (show _ = some (Value.slice Ar 4 cr) from rfl)
        have HSI : Hid (∀ u, Pure w8 u → Calls Try.prog 29 #[.slice (some ⟨rw9 0, 0, none⟩) 4 4, .slice Ar 4 cr] u fun e w' => e = .returned (.bool true) ∧ Pure u w') := Lib.hid fun u hu => sameInts_same _ _ ((List.range 4).map ((lockA cs ((1 : Nat) : Int) xs).R 0)) u ((HO9.out.ints (by omega)).keep hu) (HFI.out.keep (hp9.trans hu)) (by simp)
        have hP9 := Lib.hid hp9
        clear ho9 hp9 h9 hcur hrow hb8 x1 x2 x3
        go_wp2
        refine region_pure [.slice A2 n c2, .int .i64 n, .int .i64 n, .bool true, .bool true, .slice (some ⟨gr, 0, none⟩) 1 c9, .int .i64 1, .bool true, .bool true, .bool true, .slice (some ⟨gr, 0, none⟩) 1 c9, .pointer (some ⟨gr, 0, none⟩), .slice (some ⟨rw9 0, 0, none⟩) 4 4, .pointer (some ⟨b7, 0, none⟩), .slice Ar 4 cr, .bool true, .bool true, .bool true] (Pure w8) (by kernel_rfl) (by kernel_rfl) rfl (by kernel_rfl) (Pure.drew (Pure.refl _)) ?_ ?_ (by kernel_rfl)
        · simp only [foldPut, Act.put, List.setIfInBounds_toArray, List.set_cons_succ, List.set_cons_zero]
          refine ⟨fun u hu => ?_, fun u hu => ?_, fun u hu => ?_, fun u hu => ?_, fun u hu => ?_, fun u hu => ?_, fun u hu => ?_, fun u hu => ?_, fun u hu => ?_, fun u hu => ?_, fun u hu => ?_, fun u hu => ?_, fun u hu => ?_, fun u hu => ?_, fun u hu => ?_, fun u hu => ?_, fun u hu => ?_, fun u hu => ?_, trivial⟩
          all_goals
            have x0 := keepPc hu x0
            have q9 := keepPc hu q9
            go_wp2_with (go_at_call 29; refine (HSI.out _ hu).mono ?_; rintro e w10 ⟨rfl, hp10⟩; have hu := hu.trans hp10)
            exact ⟨by assumption, rfl⟩
        · intro u hu
          simp only [foldPut, Act.put, List.setIfInBounds_toArray, List.set_cons_succ, List.set_cons_zero]
          go_wp2
          go_ret
          exact ⟨rfl, HP1.out.trans (HP9.out.trans hu)⟩
  · have HOK := Lib.hid hok
    have hn0 : n = 0 := by rw [← Hn.out]; exact lanesA_no hok
    subst hn0
    clear hok
    go_wp2_with fail
    refine (runs_any _ _ cs a xs _ (HC.out.keep HP4.out) (HM.out.keep HP4.out) (by omega) (by omega) false (by simp only [Bool.false_eq_true, false_iff]; exact HOK.out)).mono ?_
    rintro e w5 ⟨rfl, hp5⟩
    go_wp2_with fail
    refine (alive_any _).mono ?_
    rintro e w8 ⟨rfl, hp8⟩
    go_wp2
    go_ret
    exact ⟨rfl, ((HP1.out.trans HP4.out).trans hp5).trans hp8⟩

end Go.Proofs.Ytkolnakcgjlcgaa

namespace Go.Proofs.Ytkolnakcgjlcgaa
open Go.ChangeShapes Go.WideShapes Go.ChangeAt Go.RowKit Go.Deep

theorem own_knob : ownKnob Try.prog.godebug = none := by kernel_rfl
theorem laid_out : laidOutB Try.prog = true := by kernel_rfl

theorem addr_form {w : World} {a : Addr} {v : Value} (h : w.cell? a = some v) : ∃ b o, a = ⟨b, o, none⟩ := by
  obtain ⟨b, o, s⟩ := a
  have := World.cell?_spot h
  simp only at this
  subst this
  exact ⟨b, o, rfl⟩
theorem block_of_cell {w : World} {b o : Nat} {v : Value} (h : w.cell? ⟨b, o, none⟩ = some v) : b < w.heap.size := World.block_lt_of_cell? w ⟨b, o, none⟩ h

theorem Cells.of_addr {w : World} {a : Addr} {len cap s : Nat} {f : Nat → Value} (hs : 0 < s) (h1 : len ≤ cap) (h2 : cap ≤ maxLen) (hc : ∀ j, j < len * s → w.cell? (a.add j) = some (f j)) : Cells w (.slice (some a) len cap) len s f := by
  refine ⟨_, cap, rfl, h1, by unfold maxLen at h2; omega, fun hn => ?_⟩
  have h0 := hc 0 (Nat.mul_pos hn hs)
  obtain ⟨b, o, rfl⟩ := addr_form (show w.cell? a = some (f 0) by simpa [Addr.add] using h0)
  refine ⟨b, o, rfl, block_of_cell (show w.cell? ⟨b, o, none⟩ = some (f 0) by simpa [Addr.add] using h0), fun j hj => ?_⟩
  rw [← add_mid]; exact hc j hj

end Go.Proofs.Ytkolnakcgjlcgaa

namespace Go.Proofs.Ytkolnakcgjlcgaa
open Go.ChangeShapes Go.WideShapes Go.ChangeAt Go.RowKit Go.Deep

section
variable {H : Type} {enc : TypeId × Value → H} {W : World} {base : Nat} {held : Bool}

theorem bytes_open {fuel : Nat} {cs : List Value} {x : DataW H × List MemPlace} (h : DataW.trod enc Try.prog W base (fun _ => true) held fuel 22 cs = some x) : ∃ v xs, cs = [v] ∧ Bytes W v xs := by
  rcases open_ints Try.underlying22 Try.underlying5 (by kernel_rfl) h with ⟨hcs, _⟩ | ⟨a, len, cap, zs, hcs, _, hl, hm, hz, _, hcell, hwz⟩
  · exact ⟨_, [], hcs, ⟨none, 0, rfl, by simp, by omega, fun h => absurd h (by simp)⟩, by simp⟩
  · simp only [if_true] at hz
    refine ⟨_, zs.take len, hcs, ?_, fun x hx => ?_⟩
    · have hlen : (zs.take len).length = len := by simp; omega
      rw [hlen]
      refine Cells.of_addr (by omega) hl hm fun j hj => ?_
      rw [hcell j (by omega)]
      have : j < len := by omega
      simp [List.getD_eq_getElem?_getD, this]
    · have := hwz x (List.mem_of_mem_take hx)
      simp only [Lit.wf, Bool.and_eq_true, decide_eq_true_eq] at this
      exact ⟨this.1, this.2⟩
end
end Go.Proofs.Ytkolnakcgjlcgaa
