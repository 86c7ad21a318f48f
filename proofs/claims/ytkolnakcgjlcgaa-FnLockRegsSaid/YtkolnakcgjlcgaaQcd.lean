/- A lane that runs alone to the next barrier, as the program runs it. A region that draws its order, walked by what holds of the operations that are through: each operation once, whatever the order. A region that draws its order, whose operations each yield a known value in every world that meets S, and leave such a world: whatever the order, the same values lie there behind it. Equal lists of rows are found equal; a new lane. No condition. -/
import Derived.Test.YtkolnakcgjlcgaaQab
import Derived.Test.YtkolnakcgjlcgaaQaj
import Derived.Test.YtkolnakcgjlcgaaQbe
import Derived.Test.YtkolnakcgjlcgaaQbi
import Derived.Test.YtkolnakcgjlcgaaQbj
import Derived.Test.YtkolnakcgjlcgaaQca
import Derived.Test.YtkolnakcgjlcgaaQcb
import Derived.Test.YtkolnakcgjlcgaaQcc

namespace Go.Proofs.Ytkolnakcgjlcgaa
open Go.RowKit

/-- What a lane comes to, step by step. -/
def Comes (cs : List Cd) (m : Nat) (l : Ln) (M : Nat → Int) (l' : Ln) (M' : Nat → Int) : Prop :=
  ∀ I : Ln → (Nat → Int) → Prop, I l M → (∀ a N, I a N → goesL cs.length a = true → I (lnStep cs m 0 a N) (lnMem cs m a N)) → I l' M'
theorem Comes.refl (cs : List Cd) (m : Nat) (l : Ln) (M : Nat → Int) : Comes cs m l M l M := fun _ h _ => h
theorem Comes.step {cs : List Cd} {m : Nat} {l l' : Ln} {M M' : Nat → Int} (h : Comes cs m l M l' M') (hg : goesL cs.length l' = true) : Comes cs m l M (lnStep cs m 0 l' M') (lnMem cs m l' M') :=
  fun I h0 hs => hs l' M' (h I h0 hs) hg

set_option maxHeartbeats 1000000 in
theorem nm1_any (v : Value) (cs : List Cd) (w : World) (h : Codes w v cs) (hv : PValid cs) :
    Calls Try.prog 68 #[v] w fun e w' => ∃ p, e = .returned (.pointer (some ⟨p, 0, none⟩)) ∧ Pure w w' ∧ Mach w.heap.size w'.heap.size w' p v cs := by
  have H := Lib.hid h
  have HV := Lib.hid hv
  obtain ⟨A, c, rfl, hnc, hcm⟩ := h.form
  clear h hv
  go_enter Try.func68, Try.ntmps68
  go_wp2_with fail
  refine (blocksB_any _ cs _ H.out HV.out.2.1).mono ?_
  rintro e w1 ⟨hp, hm⟩
  rw [HV.out.2.2] at hm
  obtain ⟨va, vo, rfl, ht⟩ := hm
  obtain ⟨g, pb, rfl, hg1, hg2, hown, hblk⟩ := ht rfl
  have HOWN := Lib.hid hown
  have HBLK := Lib.hid hblk
  have HP := Lib.hid hp
  clear ht hown hblk hp
  go_wp2
  go_ret
  have hx := heap_alloc_new w1 (.cells #[.slice A cs.length c, .slice (some ⟨g, 0, none⟩) cs.length cs.length] 109)
  have hk : Pure w1 (w1.alloc (.cells #[.slice A cs.length c, .slice (some ⟨g, 0, none⟩) cs.length cs.length] 109)) := (Pure.refl _).alloc _
  have hsz : (w1.alloc (.cells #[.slice A cs.length c, .slice (some ⟨g, 0, none⟩) cs.length cs.length] 109)).heap.size = w1.heap.size + 1 := by simp
  have hws := HP.out.size
  refine ⟨w1.heap.size, rfl, HP.out.trans hk, g, cs.length, pb, ⟨hws, by omega⟩, ⟨hg1, by omega⟩, (cell_of_row _ _ 0 _ _ _ hx).trans rfl, (cell_of_row _ _ 1 _ _ _ hx).trans rfl, Nat.le_refl _, by have := HV.out.2.1; omega, fun j hj => keepPc hk (HOWN.out j hj), fun q hq ho => ?_⟩
  obtain ⟨⟨a1, a2⟩, b1, b2, b3⟩ := HBLK.out q hq ho
  exact ⟨⟨a1, by omega⟩, keepPc hk b1, keepPc hk b2, keepPc hk b3⟩

set_option maxHeartbeats 1000000 in
theorem icanstep_t (R T v vm : Value) (l : Lx) (cs : List Cd) (mem : List Int) (w : World) (hr : Ints w R l.rs) (ht : Ints w T l.ts) (h : Codes w v cs) (hm : Ints w vm mem) (hs : cs.length ≤ 1048576) (hl : LaneOk cs l) (hmm : MemOk mem) :
    Calls Try.prog 65 #[lnVX R l.at_ T l.wt, v, .int .i64 0, vm] w fun e w' => e = .returned (.bool true) ∧ Pure w w' := by
  have HR := Lib.hid hr; have HT := Lib.hid ht; have H := Lib.hid h; have HM := Lib.hid hm
  have HL := Lib.hid hl; have HMM := Lib.hid hmm
  have hm32 := hmm.1.2
  unfold lnVX
  obtain ⟨A, c, rfl, _⟩ := h.form
  obtain ⟨Am, cm, rfl⟩ := hm.form
  obtain ⟨Ar, cr, rfl⟩ := hr.form
  obtain ⟨At, ct, rfl⟩ := ht.form
  obtain ⟨wz, Hwz⟩ : ∃ wz, Hid (w.alloc (.cells #[.slice Ar l.rs.length cr, .int .i64 l.at_, .slice At l.ts.length ct, .bool l.wt] 43) = wz) := ⟨_, Lib.hid rfl⟩
  have HPZ : Hid (Pure w wz) := Lib.hid (by rw [← Hwz.out]; exact (by repeat (first | assumption | exact Pure.refl _ | refine Pure.drewN ?_ _ | refine Pure.drew ?_ | refine Pure.alloc ?_ _ | refine Pure.setCell ?_ (by simp <;> omega) _)))
  have HZ : Hid (wz.heap[w.heap.size]? = some (.cells #[.slice Ar l.rs.length cr, .int .i64 l.at_, .slice At l.ts.length ct, .bool l.wt] 43 (0, 0))) := Lib.hid (by rw [← Hwz.out]; exact heap_alloc_new w _)
  have HLV : Hid (∀ u, Pure wz u → Calls Try.prog 89 #[.agg #[.slice Ar l.rs.length cr, .int .i64 l.at_, .slice At l.ts.length ct, .bool l.wt], .slice A cs.length c] u fun e w' => e = .returned (.bool true) ∧ Pure u w') :=
    Lib.hid fun u hu => ilv_any _ _ _ l cs u (HR.out.keep (HPZ.out.trans hu)) (HT.out.keep (HPZ.out.trans hu)) (H.out.keep (HPZ.out.trans hu)) hs true (by simp only [true_iff]; exact HL.out)
  clear hr ht h hm hl hmm
  go_enter Try.func65, Try.ntmps65
  go_wp2_with fail
  rw [Hwz.out]
  refine (HLV.out _ (Pure.refl _)).mono ?_
  rintro e w1 ⟨rfl, hp1⟩
  have HP1 := Lib.hid (HPZ.out.trans hp1)
  clear hp1
  go_wp2_with fail
  refine (within_t _ _ _ _ (by omega)).mono ?_
  rintro e w2 ⟨rfl, rfl⟩
  go_wp2_with fail
  refine (imem_any _ mem _ (HM.out.keep HP1.out) (by omega) true (by simp only [true_iff]; exact HMM.out)).mono ?_
  rintro e w3 ⟨rfl, hp3⟩
  go_wp2
  go_ret
  exact ⟨rfl, HP1.out.trans hp3⟩

/-- What a leg leaves. -/
def LegP (cs : List Cd) (m : Nat) (l : Ln) (M : Nat → Int) (w : World) (e : Ending) (w' : World) : Prop :=
  ∃ (gR cr : Nat) (vt : Value) (gm cm : Nat) (l' : Ln) (M' : Nat → Int), e = .returned (.tuple #[lnVX (.slice (some ⟨gR, 0, none⟩) 4 cr) (l'.at_ : Nat) vt l'.W, .slice (some ⟨gm, 0, none⟩) m cm]) ∧
    OwnO w' w.heap.size 3 1 (.slice (some ⟨gR, 0, none⟩) 4 cr) 4 (row4 l'.R).toList ∧ OwnO w' w.heap.size 3 1 vt l'.T.length (l'.T.map (.int .i64)) ∧ OwnO w' w.heap.size 3 1 (.slice (some ⟨gm, 0, none⟩) m cm) m (memL m M') ∧
    Comes cs m { l with W := false } M l' M' ∧ goesL cs.length l' = false ∧ (∀ r, Word (l'.R r)) ∧ (∀ j, Word (M' j)) ∧ Pure w w'
/-- A lane's copy, with four registers. -/
def LCP (l : Ln) (w : World) (e : Ending) (w' : World) : Prop :=
  ∃ gR cr At ct, e = .returned (.agg #[.slice (some ⟨gR, 0, none⟩) 4 cr, .int .i64 (l.at_ : Nat), .slice At l.T.length ct, .bool l.W]) ∧ OwnO w' w.heap.size 3 1 (.slice (some ⟨gR, 0, none⟩) 4 cr) 4 (row4 l.R).toList ∧
    OwnO w' w.heap.size 3 1 (.slice At l.T.length ct) l.T.length (l.T.map (.int .i64)) ∧ (∀ g, (Value.slice At l.T.length ct).ownBlock = some g → g ≠ gR) ∧ Pure w w'

set_option maxHeartbeats 8000000 in
set_option maxRecDepth 100000 in
theorem irunlane_any (R T v vm : Value) (l : Ln) (M : Nat → Int) (W b : Nat) (cs : List Cd) (mem : List Int) (w : World) (hr : Ints w R [l.R 0, l.R 1, l.R 2, l.R 3]) (ht : Ints w T l.T) (h : Codes w v cs) (hm : Ints w vm mem) (hmem : ∀ j, j < mem.length → mem.getD j 0 = M j)
    (hv : PValid cs) (hon : OnWB cs l W b) (hwok : WOk cs l) (hg : ∀ r, Word (l.R r)) (hmg : ∀ j, Word (M j)) (hm1 : 1 ≤ mem.length) (hm32 : mem.length ≤ 32) :
    Calls Try.prog 28 #[lnVX R (l.at_ : Nat) T l.W, v, .int .i64 0, vm] w (LegP cs mem.length l M w) := by
  have HR := Lib.hid hr; have HT := Lib.hid ht; have H := Lib.hid h; have HM := Lib.hid hm
  have HV := Lib.hid hv; have HON := Lib.hid hon; have HMEM := Lib.hid hmem
  have hLO : LaneOk cs (lxL l) := hon.lane hv hwok hg
  have hts : l.T.length ≤ 3 := hLO.short
  have HLO := Lib.hid hLO
  have HG := Lib.hid hg; have HMG := Lib.hid hmg
  have hlen := hv.2.1
  have hMO : MemOk mem := by
    refine ⟨⟨hm1, hm32⟩, ?_⟩
    intro x hx
    obtain ⟨j, hj, rfl⟩ := List.getElem_of_mem hx
    have := HMEM.out j hj
    rw [List.getD_eq_getElem?_getD, List.getElem?_eq_getElem hj] at this
    simp only [Option.getD_some] at this
    rw [this]; exact HMG.out j
  have HMO := Lib.hid hMO
  unfold lnVX
  obtain ⟨A, c, rfl, hcc1, hcc2⟩ := h.form
  obtain ⟨Am, cm, rfl⟩ := hm.form
  obtain ⟨Ar, cr, rfl⟩ := hr.form
  obtain ⟨At, ct, rfl⟩ := ht.form
  have HCS : Hid (∀ u, Pure w u → Calls Try.prog 65 #[.agg #[.slice Ar 4 cr, .int .i64 (l.at_ : Nat), .slice At l.T.length ct, .bool l.W], .slice A cs.length c, .int .i64 0, .slice Am mem.length cm] u fun e w' => e = .returned (.bool true) ∧ Pure u w') :=
    Lib.hid fun u hu => icanstep_t _ _ _ _ (lxL l) cs mem u (HR.out.keep hu) (HT.out.keep hu) (H.out.keep hu) (HM.out.keep hu) (by omega) HLO.out HMO.out
  have HCL : Hid (∀ u, Pure w u → Calls Try.prog 66 #[.agg #[.slice Ar 4 cr, .int .i64 (l.at_ : Nat), .slice At l.T.length ct, .bool l.W]] u (LCP l u)) :=
    Lib.hid fun u hu => lclone_any _ _ (lxL l) u (HR.out.keep hu) (HT.out.keep hu) (by show 1 ≤ 4; omega) (by show 4 ≤ _; omega) (by show l.T.length ≤ _; omega)
  obtain ⟨wz, Hwz⟩ : ∃ wz, Hid ((w.alloc (.cells #[.slice Ar 4 cr, .int .i64 (l.at_ : Nat), .slice At l.T.length ct, .bool l.W] 43)).alloc (.cells #[.slice none 0 0, .int .i64 0, .slice none 0 0, .bool false] 43) = wz) := ⟨_, Lib.hid rfl⟩
  have HPZ : Hid (Pure w wz) := Lib.hid (by rw [← Hwz.out]; exact (by repeat (first | assumption | exact Pure.refl _ | refine Pure.drewN ?_ _ | refine Pure.drew ?_ | refine Pure.alloc ?_ _ | refine Pure.setCell ?_ (by simp <;> omega) _)))
  have HZ := Lib.hid (Hwz.out ▸ heap_alloc2 w _ _)
  have HZS : Hid (wz.heap.size = w.heap.size + 2) := Lib.hid (by rw [← Hwz.out]; simp)
  simp only [List.length_cons, List.length_nil, Nat.zero_add, Nat.reduceAdd]
  clear hr ht h hm hv hon hLO hg hmg hMO hmem hwok
  go_enter Try.func28, Try.ntmps28
  go_wp2_with fail
  rw [Hwz.out]
  refine (HCS.out _ HPZ.out).mono ?_
  rintro e w1 ⟨rfl, hp1⟩
  obtain ⟨x0, _⟩ := row_pure hp1 HZ.out.1 0
  obtain ⟨x1, _⟩ := row_pure hp1 HZ.out.1 1
  obtain ⟨x2, _⟩ := row_pure hp1 HZ.out.1 2
  obtain ⟨x3, _⟩ := row_pure hp1 HZ.out.1 3
  simp only [List.getElem?_toArray, List.getElem?_cons_zero, List.getElem?_cons_succ] at x0 x1 x2 x3
  have HP1 := Lib.hid (HPZ.out.trans hp1)
  have HQ1 := Lib.hid hp1
  clear hp1
  go_wp2_with fail
  refine (HCL.out _ HP1.out).mono ?_
  rintro e w2 ⟨gR, cR, A2, c2, rfl, ho1, ho2, hne, hp2⟩
  have HO1 := Lib.hid ho1; have HO2 := Lib.hid ho2; have HNE := Lib.hid hne
  have HP2 := Lib.hid (HP1.out.trans hp2)
  have HQ2 := Lib.hid (HQ1.out.trans hp2)
  clear ho1 ho2 hne hp2 x0 x1 x2 x3
  go_wp2_with fail
  refine (clone_any _ mem _ (HM.out.keep HP2.out) hm1 (by omega)).mono ?_
  rintro e w3 ⟨gm, cmm, rfl, ho3, hp3⟩
  have HO3 := Lib.hid ho3
  have HP3 := Lib.hid (HP2.out.trans hp3)
  have HQ3 := Lib.hid (HQ2.out.trans hp3)
  have HP23 := Lib.hid hp3
  clear ho3 hp3
  obtain ⟨gl, Hgl⟩ : ∃ gl, Hid (w3.heap.size = gl) := ⟨_, Lib.hid rfl⟩
  obtain ⟨wl, Hwl⟩ : ∃ wl, Hid (w3.alloc (.cells #[.slice (some ⟨gR, 0, none⟩) 4 cR, .int .i64 (l.at_ : Nat), .slice A2 l.T.length c2, .bool false] 43) = wl) := ⟨_, Lib.hid rfl⟩
  have HPL : Hid (Pure w3 wl) := Lib.hid (by rw [← Hwl.out]; exact (by repeat (first | assumption | exact Pure.refl _ | refine Pure.drewN ?_ _ | refine Pure.drew ?_ | refine Pure.alloc ?_ _ | refine Pure.setCell ?_ (by simp <;> omega) _)))
  have HLX : Hid (wl.heap[gl]? = some (.cells #[.slice (some ⟨gR, 0, none⟩) 4 cR, .int .i64 (l.at_ : Nat), .slice A2 l.T.length c2, .bool false] 43 (0, 0))) := Lib.hid (by rw [← Hwl.out, ← Hgl.out]; exact heap_alloc_new w3 _)
  have HLZ : Hid (wl.heap.size = gl + 1) := Lib.hid (by rw [← Hwl.out, ← Hgl.out]; simp)
  go_wp2_with fail
  rw [Hwl.out, Hgl.out]
  refine (nm1_any _ cs _ (H.out.keep (HP3.out.trans HPL.out)) HV.out).mono ?_
  rintro e w4 ⟨pm, rfl, hp4, hmach⟩
  have HP4 := Lib.hid hp4
  have HW4 : Hid (Pure wz w4) := Lib.hid (HQ3.out.trans (HPL.out.trans hp4))
  obtain ⟨o, Ho⟩ : ∃ o : MO, Hid ((⟨wz, wl.heap.size, w4.heap.size, cs, .slice A cs.length c, pm, 1, mem.length, gl, 1, gm, cmm, cR, fun _ => gR⟩ : MO) = o) := ⟨_, Lib.hid rfl⟩
  have hrun : MRun o w4 (fun _ => .slice A2 l.T.length c2) (fun _ => { l with W := false }) M := by
    rw [← Ho.out]
    have s1 := HQ1.out.size
    have s2 := (HO1.out.lt gR rfl)
    have s3 := (HO3.out.lt gm rfl)
    have s4 := HP23.out.size
    have s5 := HLZ.out
    have s6 := Hgl.out
    have hf : w4.heap[gl]? = _ := (Chg.of_pure (S := fun _ => False) hp4).heap HLX.out id
    have hp24 : Pure w2 w4 := HP23.out.trans (HPL.out.trans hp4)
    refine ⟨HW4.out, H.out.keep HPZ.out, by show wz.heap.size ≤ wl.heap.size; omega, hp4.size, Nat.le_refl _, hmach, by show 1 ≤ 1; omega, by show 1 ≤ 8; omega, hm1, hm32, by show 1 ≤ 1; omega, by show 1 ≤ 9223372036854775807; omega, ⟨_, hf, fun k hk => ?_⟩, ⟨by show wz.heap.size ≤ gl; omega, by show gl < wl.heap.size; omega⟩,
      fun k hk => OwnO.base' (HO1.out.pure hp24) s1, fun k hk => by show gR < wl.heap.size; omega, fun k l hk hl _ => by have h1 : k < 1 := hk; have h2 : l < 1 := hl; omega, ?_, by show gm < wl.heap.size; omega, fun k hk => by show gR ≠ gm; omega, fun k hk => OwnO.base' (HO2.out.pure hp24) s1, fun k g hk hg => ?_, fun k l hk hl hkl => by have h1 : k < 1 := hk; have h2 : l < 1 := hl; omega, fun k hk => HG.out, HMG.out⟩
    · have h1 : k < 1 := hk
      have : k = 0 := by omega
      subst this
      exact ⟨rfl, rfl, rfl, rfl⟩
    · have e : ((List.range mem.length).map fun j => Value.int .i64 (mem.getD j 0)) = memL mem.length M := by
        unfold memL
        refine List.map_congr_left fun j hj => ?_
        rw [HMEM.out j (by simpa using hj)]
      have h3 := HO3.out
      rw [e] at h3
      exact OwnO.base' (h3.pure (HPL.out.trans hp4)) (by show wz.heap.size ≤ w2.heap.size; omega)
    · have h2 := HO2.out.lt g hg
      exact ⟨.inl (by show g < wl.heap.size; omega), by show g ≠ gm; omega, fun l hl => HNE.out g hg⟩
  have HRUN := Lib.hid hrun
  have HOG : Hid (o.gl = gl ∧ o.pm = pm ∧ o.n = 1 ∧ o.m = mem.length ∧ o.cs = cs ∧ o.gm = gm ∧ o.vm = .slice (some ⟨gm, 0, none⟩) mem.length cmm ∧ (∀ k, o.row k = .slice (some ⟨gR, 0, none⟩) 4 cR) ∧ o.w0 = wz) := Lib.hid (by rw [← Ho.out]; exact ⟨rfl, rfl, rfl, rfl, rfl, rfl, rfl, fun _ => rfl, rfl⟩)
  have HST : Hid (∀ (u : World) (vt : Nat → Value) (L : Nat → Ln) (N : Nat → Int) (k : Nat), MRun o u vt L N → OnWay cs (L 0) k → goesL cs.length (L 0) = true → Calls Try.prog 70 #[.pointer (some ⟨pm, 0, none⟩), .pointer (some ⟨gl, 0, none⟩), .int .i64 0, .slice (some ⟨gm, 0, none⟩) mem.length cmm] u fun e w' => e = .returned (.tuple #[]) ∧ ∃ vt', MRun o w' vt' (upL L 0 (lnStep cs mem.length 0 (L 0) N)) (lnMem cs mem.length (L 0) N)) := Lib.hid (by
    intro u vt L N k h1 h2 h3
    obtain ⟨e1, e2, e3, e4, e5, e6, e7, e8, e9⟩ := HOG.out
    have hs := istep_any o (by rw [e5]; exact HV.out) u vt L N h1 0 (by omega) k (by rw [e5]; exact h2)
    unfold stepL stepM at hs
    rw [e5, h3, e4, e2, e1, e7] at hs
    refine hs.mono ?_
    rintro e w' ⟨he, vt', hm', _⟩
    exact ⟨he, vt', hm'⟩)
  have HDN : Hid (∀ (u : World) (vt : Nat → Value) (L : Nat → Ln) (N : Nat → Int), MRun o u vt L N → Calls Try.prog 69 #[.pointer (some ⟨pm, 0, none⟩), .pointer (some ⟨gl, 0, none⟩)] u fun e w' => e = .returned (.bool (decide ((L 0).at_ = cs.length))) ∧ Pure u w') := Lib.hid (by
    intro u vt L N h1
    obtain ⟨e1, e2, e3, e4, e5, e6, e7, e8, e9⟩ := HOG.out
    have hs := idone_any o u vt L N h1 0 (by omega)
    rw [e5, e2, e1] at hs
    exact hs)
  have HCE : Hid (∀ (u : World) (vt : Nat → Value) (L : Nat → Ln) (N : Nat → Int), MRun o u vt L N → u.cell? ⟨gl, 0, none⟩ = some (.slice (some ⟨gR, 0, none⟩) 4 cR) ∧ u.cell? ⟨gl, 1, none⟩ = some (.int .i64 ((L 0).at_ : Nat)) ∧ u.cell? ⟨gl, 2, none⟩ = some (vt 0) ∧ u.cell? ⟨gl, 3, none⟩ = some (.bool (L 0).W)) := Lib.hid (by
    intro u vt L N h1
    obtain ⟨e1, e2, e3, e4, e5, e6, e7, e8, e9⟩ := HOG.out
    obtain ⟨g0, g1, g2, g3, _⟩ := h1.laneCells (k := 0) (by omega)
    rw [e8, e1] at g0
    rw [e1] at g1 g2 g3
    exact ⟨g0, g1, g2, g3⟩)
  have HFIN : Hid (∀ (u : World) (vt : Nat → Value) (L : Nat → Ln) (N : Nat → Int) (A5 : Option Addr) (c5 : Nat), MRun o u vt L N → vt 0 = .slice A5 (L 0).T.length c5 → Comes cs mem.length { l with W := false } M (L 0) N → goesL cs.length (L 0) = false → ∀ x0 x1 x2 x3, LegP cs mem.length l M w (.returned (.tuple #[.agg #[.slice (some ⟨gR, 0, none⟩) 4 cR, .int .i64 ((L 0).at_ : Nat), .slice A5 (L 0).T.length c5, .bool (L 0).W], .slice (some ⟨gm, 0, none⟩) mem.length cmm])) ((((u.setCell ⟨w.heap.size + 1, 0, none⟩ x0).setCell ⟨w.heap.size + 1, 1, none⟩ x1).setCell ⟨w.heap.size + 1, 2, none⟩ x2).setCell ⟨w.heap.size + 1, 3, none⟩ x3)) := Lib.hid (by
    intro u vt L N A5 c5 h1 h2 h3 h4 x0 x1 x2 x3
    obtain ⟨e1, e2, e3, e4, e5, e6, e7, e8, e9⟩ := HOG.out
    have hcw : ∀ (u : World) (i : Nat) (x : Value), Chg (fun b => b = w.heap.size + 1) u (u.setCell ⟨w.heap.size + 1, i, none⟩ x) := fun u i x => Chg.of_set u _ _ _ rfl
    have hc := (((hcw u 0 x0).trans (hcw _ 1 x1)).trans (hcw _ 2 x2)).trans (hcw _ 3 x3)
    have r1 := h1.row 0 (by omega)
    have r2 := h1.trn 0 (by omega)
    have r3 := h1.mem
    have r4 := h1.pure
    have r5 := h1.good 0 (by omega)
    rw [e8, e9] at r1
    rw [e9, h2] at r2
    rw [e9, e7, e4] at r3
    rw [e9] at r4
    have hz := HZS.out
    refine ⟨gR, cR, .slice A5 (L 0).T.length c5, gm, cmm, L 0, N, rfl, ?_, ?_, ?_, h3, h4, r5, h1.mgood, Chg.pure (HPZ.out.trans r4) hc (fun b e => by omega)⟩
    · exact OwnO.base' (r1.chg hc fun g hg e => by have := (r1.lt g hg).1; omega) (by omega)
    · exact OwnO.base' (r2.chg hc fun g hg e => by have := (r2.lt g hg).1; omega) (by omega)
    · exact OwnO.base' (r3.chg hc fun g hg e => by have := (r3.lt g hg).1; omega) (by omega))
  have HKZ : Hid (∀ (u : World) (vt : Nat → Value) (L : Nat → Ln) (N : Nat → Int), MRun o u vt L N → Pure wz u) := Lib.hid (by
    intro u vt L N h1
    have := h1.pure
    rw [HOG.out.2.2.2.2.2.2.2.2] at this
    exact this)
  have HFO : Hid (∀ (u : World) (vt : Nat → Value) (L : Nat → Ln) (N : Nat → Int), MRun o u vt L N → ∃ A5 c5, vt 0 = .slice A5 (L 0).T.length c5) := Lib.hid (by
    intro u vt L N h1
    exact (h1.trn 0 (by rw [HOG.out.2.2.1]; omega)).form)
  clear hp4 hmach hrun
  go_wp2_with fail
  go_loopg [] W (fun gk wr => ∃ (vt : Nat → Value) (L : Nat → Ln) (N : Nat → Int), MRun o wr vt L N ∧ Comes cs mem.length { l with W := false } M (L 0) N ∧ OnWay cs (L 0) gk)
  case atStart => exact ⟨_, _, M, HRUN.out, Comes.refl _ _ _ _, (HON.out.on.pass false)⟩
  case round =>
    obtain ⟨vt, L, N, hr, hco, hw⟩ := hrel
    have HR2 := Lib.hid hr; have HCO := Lib.hid hco; have HWY := Lib.hid hw
    have HLE := Lib.hid hw.le
    obtain ⟨y0, y1, y2, y3⟩ := HCE.out _ _ _ _ hr
    obtain ⟨A5, c5, hv5⟩ := HFO.out _ _ _ _ hr
    rw [hv5] at y2
    have HV5 := Lib.hid hv5
    obtain ⟨d0, fd0⟩ := row_pure (HKZ.out _ _ _ _ hr) HZ.out.2 0
    obtain ⟨d1, fd1⟩ := row_pure (HKZ.out _ _ _ _ hr) HZ.out.2 1
    obtain ⟨d2, fd2⟩ := row_pure (HKZ.out _ _ _ _ hr) HZ.out.2 2
    obtain ⟨d3, fd3⟩ := row_pure (HKZ.out _ _ _ _ hr) HZ.out.2 3
    simp only [List.getElem?_toArray, List.getElem?_cons_zero, List.getElem?_cons_succ] at d0 d1 d2 d3
    obtain ⟨q, Hq⟩ : ∃ q, Hid (L 0 = q) := ⟨_, Lib.hid rfl⟩
    rw [Hq.out] at y1 y2 y3
    obtain ⟨qa, Hqa⟩ : ∃ qa, Hid (q.at_ = qa) := ⟨_, Lib.hid rfl⟩
    obtain ⟨qW, HqW⟩ : ∃ qW, Hid (q.W = qW) := ⟨_, Lib.hid rfl⟩
    rw [Hqa.out] at y1
    rw [HqW.out] at y3
    have HF2 := Lib.hid (HFIN.out wr vt L N A5 c5 hr hv5 hco)
    rw [Hq.out, Hqa.out, HqW.out] at HF2
    clear hr hco hw hv5
    cases qW with
    | true =>
      have HGO : Hid (goesL cs.length q = false) := Lib.hid (by unfold goesL; rw [HqW.out]; rfl)
      go_wp2
      refine bodyPost_ret (v := .tuple #[.agg #[.slice (some ⟨gR, 0, none⟩) 4 cR, .int .i64 (qa : Nat), .slice A5 q.T.length c5, .bool true], .slice (some ⟨gm, 0, none⟩) mem.length cmm]) (by simp [results, Try.results28, go_sem, d0, d1, d2, d3]) rfl ?_
      exact HF2.out HGO.out _ _ _ _
    | false =>
      go_wp2_with fail
      refine (HDN.out wr vt L N HR2.out).mono ?_
      rintro e w5 ⟨rfl, hp5⟩
      rw [Hq.out, Hqa.out]
      have hr5 := HR2.out.keep hp5
      have HR5 := Lib.hid hr5
      obtain ⟨y0, y1, y2, y3⟩ := HCE.out _ _ _ _ hr5
      rw [HV5.out] at y2
      obtain ⟨d0, fd0⟩ := row_pure (HKZ.out _ _ _ _ hr5) HZ.out.2 0
      obtain ⟨d1, fd1⟩ := row_pure (HKZ.out _ _ _ _ hr5) HZ.out.2 1
      obtain ⟨d2, fd2⟩ := row_pure (HKZ.out _ _ _ _ hr5) HZ.out.2 2
      obtain ⟨d3, fd3⟩ := row_pure (HKZ.out _ _ _ _ hr5) HZ.out.2 3
      simp only [List.getElem?_toArray, List.getElem?_cons_zero, List.getElem?_cons_succ] at d0 d1 d2 d3
      rw [Hq.out] at y1 y2 y3
      rw [Hqa.out] at y1
      rw [HqW.out] at y3
      have HF2 := Lib.hid (HFIN.out w5 vt L N A5 c5 HR5.out HV5.out HCO.out)
      rw [Hq.out, Hqa.out, HqW.out] at HF2
      clear hr5 hp5
      by_cases hdn : qa = cs.length
      · have HGO : Hid (goesL cs.length q = false) := Lib.hid (by unfold goesL; rw [Hqa.out, hdn]; simp)
        rw [decide_eq_true hdn]
        clear hdn
        go_wp2
        refine bodyPost_ret (v := .tuple #[.agg #[.slice (some ⟨gR, 0, none⟩) 4 cR, .int .i64 (qa : Nat), .slice A5 q.T.length c5, .bool false], .slice (some ⟨gm, 0, none⟩) mem.length cmm]) (by simp [results, Try.results28, go_sem, d0, d1, d2, d3]) rfl ?_
        exact HF2.out HGO.out _ _ _ _
      · have hlt : qa < cs.length := by
          have := HLE.out
          rw [Hq.out, Hqa.out] at this
          omega
        have HLT := Lib.hid hlt
        have HGO : Hid (goesL cs.length q = true) := Lib.hid (goes_iff.2 ⟨HqW.out, by rw [Hqa.out]; exact HLT.out⟩)
        rw [decide_eq_false hdn]
        clear hdn hlt
        go_wp2_with fail
        refine (HST.out w5 vt L N gk HR5.out HWY.out (by rw [Hq.out]; exact HGO.out)).mono ?_
        rintro e w6 ⟨rfl, vt2, h2⟩
        have H6 := Lib.hid h2
        clear h2
        have hst : 1 ≤ gk ∧ OnWay cs (lnStep cs mem.length 0 (L 0) N) (gk - 1) := HWY.out.step (by rw [Hq.out, Hqa.out]; exact HLT.out)
        have HST2 := Lib.hid hst
        clear hst
        go_wp2
        have hst := HST2.out
        go_roundg (gk - 1)
        case measure => have := hst.1; omega
        case rel => exact ⟨vt2, _, _, H6.out, by rw [upL_same]; exact HCO.out.step (by rw [Hq.out]; exact HGO.out), by rw [upL_same]; exact hst.2⟩

end Go.Proofs.Ytkolnakcgjlcgaa

namespace Go.Proofs.Ytkolnakcgjlcgaa
open Go.RowKit

section
variable {P : Program} {ops : Array Oper} {Q : Exit → Act → World → Prop} {md : Region.Mode}
def unl (l : Array Bool) : Nat := l.toList.countP (fun b => !b)
theorem countP_set_lt : ∀ (l : List Bool) (i : Nat), l[i]? = some false → (l.set i true).countP (fun b => !b) + 1 = l.countP (fun b => !b)
  | [], _, h => by simp at h
  | b :: r, 0, h => by simp at h; subst h; simp
  | b :: r, i + 1, h => by
    have := countP_set_lt r i (by simpa using h)
    simp only [List.set_cons_succ, List.countP_cons]
    omega
theorem unl_set {l : Array Bool} {i : Nat} (h : l.getD i true = false) : unl (l.setIfInBounds i true) + 1 = unl l := by
  have hs : l.toList[i]? = some false := by
    rw [Array.getD_eq_getD_getElem?] at h
    cases he : l[i]? with
    | none => rw [he] at h; simp at h
    | some b => rw [he] at h; simp at h; subst h; simpa using he
  unfold unl
  rw [Array.toList_setIfInBounds]
  exact countP_set_lt _ _ hs
theorem unl_pos {l : Array Bool} {i : Nat} (h : l.getD i true = false) : 0 < unl l := by have := unl_set h; omega

/-- Inv holds at the region's head; each operation that may come next keeps it: so it holds behind all of them. -/
theorem any_inv (Inv : Array Bool → Act → World → Prop) (hend : ∀ l a w, Inv l a w → Region.ready md ops l = [] → Q .normal a w)
    (hstep : ∀ l a w i o, Inv l a w → ops[i]? = some o → l.getD i true = false → (∀ e ∈ o.after, Region.binds md e = true → l.getD e.on false = true) → wpList P ops (thenK Q fun b u => Inv (l.setIfInBounds i true) b u) [o] a w) :
    ∀ (f : Nat) (l : Array Bool) (a : Act) (w : World), Inv l a w → unl l ≤ f → wpAny P md ops Q f l a w
  | 0, l, a, w, h, hf => by
    have hr : Region.ready md ops l = [] := by
      rw [List.eq_nil_iff_forall_not_mem]
      intro i hi
      have := unl_pos (mem_ready.1 hi).1
      omega
    exact ⟨hr, hend l a w h hr⟩
  | f + 1, l, a, w, h, hf => by
    refine ⟨fun hr => hend l a w h hr, fun i hi => ?_⟩
    obtain ⟨h1, o, ho, h2⟩ := mem_ready.1 hi
    refine wpOp_mono (fun b u hb => any_inv Inv hend hstep f _ b u hb (by have := unl_set h1; omega)) (wpOp_of_one ho (hstep l a w i o h ho h1 h2))
theorem unl_start (n : Nat) : unl (Array.replicate n false) = n := by simp [unl, List.countP_replicate]
def backB (ops : Array Oper) : Bool := (List.range ops.size).all fun i => ((ops[i]?).map fun o => o.after.all fun e => decide (e.on < i)).getD true
/-- When nothing may come next, all are through. -/
theorem ready_nil {l : Array Bool} (hb : backB ops = true) (hl : l.size = ops.size) (h : Region.ready md ops l = []) : ∀ i, i < ops.size → l.getD i false = true := by
  intro i
  induction i using Nat.strongRecOn with
  | ind i ih =>
    intro hi
    cases hv : l.getD i false with
    | true => rfl
    | false =>
      have hn : l.getD i true = false := by
        rw [Array.getD_eq_getD_getElem?] at hv ⊢
        have : i < l.size := by omega
        simp [this] at hv ⊢; exact hv
      have ho : ops[i]? = some ops[i] := Array.getElem?_eq_getElem hi
      have hmem : i ∈ Region.ready md ops l := mem_ready.2 ⟨hn, _, ho, fun e he _ => by
        have hbi := (List.all_eq_true.1 hb) i (List.mem_range.2 hi)
        rw [ho] at hbi
        simp only [Option.map_some, Option.getD_some] at hbi
        have := (Array.all_eq_true_iff_forall_mem.1 hbi) e he
        simp at this
        exact ih e.on this (by omega)⟩
      rw [h] at hmem; cases hmem
theorem region_inv {id : Nat} {a : Act} {w : World} {l : List Oper} (hm : P.follows .mixedOrders = true) (Inv : Array Bool → Act → World → Prop) (h0 : Inv (Array.replicate l.length false) a w.drew)
    (hend : ∀ l' a w, Inv l' a w → Region.ready .any l.toArray l' = [] → Q .normal a w)
    (hstep : ∀ l' a w i o, Inv l' a w → l.toArray[i]? = some o → l'.getD i true = false → (∀ e ∈ o.after, Region.binds .any e = true → l'.getD e.on false = true) → wpList P l.toArray (thenK Q fun b u => Inv (l'.setIfInBounds i true) b u) [o] a w) :
    (Code.region id l.toArray true).wp P Q a w :=
  wp_region_any hm (any_inv Inv hend hstep _ _ _ _ h0 (by rw [unl_start]; simp))
theorem getD_setB (l : Array Bool) (i j : Nat) (h : (l.setIfInBounds i true).getD j false = true) : l.getD j false = true ∨ i = j := by
  rw [Array.getD_eq_getD_getElem?, Array.getElem?_setIfInBounds] at h
  split at h
  · right; assumption
  · left; rw [Array.getD_eq_getD_getElem?]; exact h
end

end Go.Proofs.Ytkolnakcgjlcgaa

namespace Go.Proofs.Ytkolnakcgjlcgaa
open Go.RowKit

def foldPut : Act → List Oper → List Value → Act
  | a, o :: r, v :: vs => foldPut (a.put o.dst v) r vs
  | a, _, _ => a
def nowhere : Exit → Act → World → Prop := fun _ _ _ => False
def PureOps (P : Program) (ops : Array Oper) (S : World → Prop) (aF : Act) : List Oper → List Value → Prop
  | o :: r, v :: vs => (∀ u, S u → wpList P ops (thenK nowhere fun b u' => S u' ∧ b = aF.put o.dst v) [o] aF u) ∧ PureOps P ops S aF r vs
  | _, _ => True
def dsts (l : List Oper) : List Tmp := l.filterMap (·.dst)
def looksB (ops : Array Oper) : Bool := (List.range ops.size).all fun i => ((ops[i]?).map fun o => (o.looksAt ops).all fun t => (List.range ops.size).all fun j => ((ops[j]?).map fun o' => o'.dst != some t || o.after.any fun e => e.on == j && Region.binds .any e).getD true).getD true
def pureB (l : List Oper) : Bool := Region.noSelect l.toArray && looksB l.toArray && decide (dsts l).Nodup
def sizeB (a : Act) (l : List Oper) : Bool := (dsts l).all fun d => decide (d < a.tmps.size)

theorem put_size (a : Act) (d : Option Tmp) (v : Value) : (a.put d v).tmps.size = a.tmps.size := by
  cases d <;> simp [Act.put]
theorem put_def (a : Act) (d : Option Tmp) (v : Value) : (a.put d v).defers = a.defers := by
  cases d <;> rfl
theorem foldPut_size : ∀ (l : List Oper) (vs : List Value) (a : Act), (foldPut a l vs).tmps.size = a.tmps.size
  | [], _, _ => rfl
  | _ :: _, [], _ => rfl
  | o :: r, v :: vs, a => by
    show (foldPut (a.put o.dst v) r vs).tmps.size = _
    rw [foldPut_size r vs, put_size]
theorem foldPut_def : ∀ (l : List Oper) (vs : List Value) (a : Act), (foldPut a l vs).defers = a.defers
  | [], _, _ => rfl
  | _ :: _, [], _ => rfl
  | o :: r, v :: vs, a => by
    show (foldPut (a.put o.dst v) r vs).defers = _
    rw [foldPut_def r vs, put_def]
theorem put_get_ne (a : Act) {d : Option Tmp} {t : Tmp} (v : Value) (h : d ≠ some t) : (a.put d v).tmps[t]? = a.tmps[t]? := by
  cases d with
  | none => rfl
  | some d => simp [Act.put, Array.getElem?_setIfInBounds_ne (show d ≠ t from fun e => h (by rw [e]))]
theorem put_get_same (a : Act) {t : Tmp} (v : Value) (h : t < a.tmps.size) : (a.put (some t) v).tmps[t]? = some v := by
  simp [Act.put, Array.getElem?_setIfInBounds_self_of_lt h]
theorem foldPut_keep : ∀ (l : List Oper) (vs : List Value) (a : Act) (t : Tmp), t ∉ dsts l → (foldPut a l vs).tmps[t]? = a.tmps[t]?
  | [], _, _, _, _ => rfl
  | _ :: _, [], _, _, _ => rfl
  | o :: r, v :: vs, a, t, h => by
    show (foldPut (a.put o.dst v) r vs).tmps[t]? = _
    have h1 : o.dst ≠ some t := fun e => h (by unfold dsts; exact List.mem_filterMap.2 ⟨o, by simp, e⟩)
    have h2 : t ∉ dsts r := fun e => h (by
      unfold dsts at e ⊢
      obtain ⟨x, hx, he⟩ := List.mem_filterMap.1 e
      exact List.mem_filterMap.2 ⟨x, by simp [hx], he⟩)
    rw [foldPut_keep r vs _ t h2, put_get_ne a v h1]
theorem foldPut_hit : ∀ (l : List Oper) (vs : List Value) (a : Act) (j : Nat) (o : Oper) (v : Value) (t : Tmp), (dsts l).Nodup → l[j]? = some o → vs[j]? = some v → o.dst = some t → t < a.tmps.size → (foldPut a l vs).tmps[t]? = some v
  | [], _, _, j, _, _, _, _, h, _, _, _ => by simp at h
  | _ :: _, [], _, j, _, _, _, _, _, h, _, _ => by simp at h
  | o :: r, v :: vs, a, 0, o', v', t, hn, h1, h2, h3, h4 => by
    simp at h1 h2
    subst h1 h2
    have e : dsts (o :: r) = t :: dsts r := by unfold dsts; simp [h3]
    rw [e] at hn
    show (foldPut (a.put o.dst v) r vs).tmps[t]? = _
    rw [foldPut_keep r vs _ t (List.nodup_cons.1 hn).1, h3, put_get_same a v h4]
  | o :: r, v :: vs, a, j + 1, o', v', t, hn, h1, h2, h3, h4 => by
    have hn' : (dsts r).Nodup := by
      unfold dsts at hn ⊢
      cases hd : o.dst with
      | none => simpa [hd] using hn
      | some d => simp [hd] at hn; exact hn.2
    exact foldPut_hit r vs (a.put o.dst v) j o' v' t hn' (by simpa using h1) (by simpa using h2) h3 (by rw [put_size]; exact h4)
theorem PureOps.get {P : Program} {ops : Array Oper} {S : World → Prop} {aF : Act} : ∀ {l : List Oper} {vs : List Value} {j : Nat} {o : Oper} {v : Value}, PureOps P ops S aF l vs → l[j]? = some o → vs[j]? = some v → ∀ u, S u → wpList P ops (thenK nowhere fun b u' => S u' ∧ b = aF.put o.dst v) [o] aF u
  | [], _, _, _, _, _, h, _ => by simp at h
  | _ :: _, [], _, _, _, _, _, h => by simp at h
  | _ :: _, _ :: _, 0, _, _, hp, h1, h2 => by
    simp at h1 h2; subst h1 h2; exact hp.1
  | _ :: _, _ :: _, j + 1, _, _, hp, h1, h2 => PureOps.get hp.2 (by simpa using h1) (by simpa using h2)
theorem put_inj {aF a : Act} {d : Option Tmp} {x v : Value} (hd : ∀ t, d = some t → t < aF.tmps.size) (h : aF.put d x = aF.put d v) : a.put d x = a.put d v := by
  cases d with
  | none => rfl
  | some t =>
    have h1 := put_get_same aF x (hd t rfl)
    rw [h, put_get_same aF v (hd t rfl)] at h1
    injection h1 with h1
    rw [h1]
theorem transfer {P : Program} {ops : Array Oper} {S : World → Prop} {Q : Exit → Act → World → Prop} {K : Act → World → Prop} {o : Oper} {a aF : Act} {v : Value} {u : World} (he : execOp a.eval o = execOp aF.eval o)
    (hw : Region.wanted o (yielded ops a.tmps) = Region.wanted o (yielded ops aF.tmps)) (hd : ∀ t, o.dst = some t → t < aF.tmps.size) (h : wpList P ops (thenK nowhere fun b u' => S u' ∧ b = aF.put o.dst v) [o] aF u)
    (hK : ∀ u', S u' → K (a.put o.dst v) u') : wpList P ops (thenK Q K) [o] a u := by
  unfold wpList at h ⊢
  rw [hw]
  split
  · rename_i hwt
    rw [if_pos hwt] at h
    rcases h with h | ⟨_, b, u', h2⟩
    · left
      unfold Oper.wp at h ⊢
      rw [he]
      generalize (execOp aF.eval o).run P u = r at h
      cases r with
      | ok n w' =>
        cases n with
        | value x => obtain ⟨h1, h2⟩ := h; show K _ _; rw [put_inj hd h2]; exact hK _ h1
        | skip => obtain ⟨h1, h2⟩ := h; show K _ _; rw [put_inj hd h2]; exact hK _ h1
        | defer d =>
          obtain ⟨_, h2⟩ := h
          exfalso
          have := congrArg Act.defers h2
          rw [put_def, put_def] at this
          exact absurd (congrArg List.length this) (by simp)
        | enter f xs =>
          refine Calls.mono h fun e w'' k => ?_
          cases e with
          | returned x => obtain ⟨h1, h2⟩ := k; show K _ _; rw [put_inj hd h2]; exact hK _ h1
          | panicked c => exact (k : False).elim
          | outgrown => obtain ⟨_, _, k⟩ := k; exact (k : False).elim
        | row r xs =>
          refine Rows.mono h fun x w'' k => ?_
          obtain ⟨h1, h2⟩ := k; show K _ _; rw [put_inj hd h2]; exact hK _ h1
        | _ => exact (h : False).elim
      | halt x w' => cases x <;> exact (h : False).elim
    · exact (h2 : False).elim
  · rename_i hwt
    rw [if_neg hwt] at h
    obtain ⟨h1, h2⟩ := h
    show K _ _
    rw [put_inj hd h2]
    exact hK _ h1
theorem eval_eq {a aF : Act} {x : Operand} (h : ∀ t, x = .tmp t → a.tmps[t]? = aF.tmps[t]?) : a.eval x = aF.eval x := by
  cases x with
  | tmp t => simp [Act.eval, h t rfl]
  | _ => rfl
theorem wanted_eq {ops : Array Oper} {o : Oper} {a aF : Act} (h : ∀ t ∈ o.looksAt ops, a.tmps[t]? = aF.tmps[t]?) : Region.wanted o (yielded ops a.tmps) = Region.wanted o (yielded ops aF.tmps) := by
  unfold Region.wanted
  cases hg : o.guard with
  | none => rfl
  | some gw =>
    obtain ⟨g, want⟩ := gw
    have hy : yielded ops a.tmps g = yielded ops aF.tmps g := by
      unfold yielded
      cases ht : (ops[g]?).bind (·.dst) with
      | none => rfl
      | some t =>
        have := h t (by simp [Oper.looksAt, hg, ht])
        simp only [Option.bind_some, this]
    simp only [hy]
theorem looksB_spec {ops : Array Oper} (h : looksB ops = true) {i j : Nat} {o o' : Oper} {t : Tmp} (ho : ops[i]? = some o) (ht : t ∈ o.looksAt ops) (ho' : ops[j]? = some o') (hd : o'.dst = some t) : ∃ e ∈ o.after, e.on = j ∧ Region.binds .any e = true := by
  have hi := (Array.getElem?_eq_some_iff.1 ho).1
  have hj := (Array.getElem?_eq_some_iff.1 ho').1
  have h1 := (List.all_eq_true.1 h) i (List.mem_range.2 hi)
  rw [ho] at h1
  simp only [Option.map_some, Option.getD_some] at h1
  have h2 := (List.all_eq_true.1 ((List.all_eq_true.1 h1) t ht)) j (List.mem_range.2 hj)
  rw [ho'] at h2
  simp only [Option.map_some, Option.getD_some, hd, bne_self_eq_false, Bool.false_or] at h2
  obtain ⟨k, hk, h3⟩ := Array.any_eq_true.1 h2
  simp only [Bool.and_eq_true, beq_iff_eq] at h3
  exact ⟨o.after[k], Array.getElem_mem hk, h3⟩

theorem getD_setS' (l : Array Bool) (i j : Nat) (h : (l.setIfInBounds i true).getD j false = true) (hij : i ≠ j) : l.getD j false = true := (getD_setB l i j h).resolve_right hij

theorem region_pure {P : Program} {id : Nat} {Q : Exit → Act → World → Prop} {a : Act} {w : World} {l : List Oper} (vals : List Value) (S : World → Prop) (hm : P.follows .mixedOrders = true) (hB : pureB l = true) (hl : vals.length = l.length) (hz : sizeB a l = true)
    (hS : S w.drew) (hops : PureOps P l.toArray S (foldPut a l vals) l vals) (hend : ∀ u, S u → Q .normal (foldPut a l vals) u) (hback : backB l.toArray = true) : (Code.region id l.toArray true).wp P Q a w := by
  simp only [pureB, Bool.and_eq_true, decide_eq_true_eq] at hB
  obtain ⟨⟨hsel, hlook⟩, hnd⟩ := hB
  have hsz : ∀ o ∈ l, ∀ t, o.dst = some t → t < a.tmps.size := fun o ho t ht => by
    have := (List.all_eq_true.1 hz) t (List.mem_filterMap.2 ⟨o, ho, ht⟩)
    simpa using this
  have hval : ∀ j o, l[j]? = some o → ∃ v, vals[j]? = some v := fun j o ho => by
    have : j < vals.length := by have := (List.getElem?_eq_some_iff.1 ho).1; omega
    exact ⟨vals[j], List.getElem?_eq_getElem this⟩
  refine region_inv hm (fun l' b u => S u ∧ b.defers = a.defers ∧ b.tmps.size = a.tmps.size ∧ l'.size = l.length ∧ (∀ j o t, l[j]? = some o → o.dst = some t → l'.getD j false = true → b.tmps[t]? = (foldPut a l vals).tmps[t]?) ∧ ∀ t, t ∉ dsts l → b.tmps[t]? = (foldPut a l vals).tmps[t]?) ?_ ?_ ?_
  · refine ⟨hS, rfl, rfl, by simp, fun j o t _ _ h => ?_, fun t ht => (foldPut_keep l vals a t ht).symm⟩
    rw [Array.getD_eq_getD_getElem?] at h
    by_cases hj : j < l.length
    · simp [hj] at h
    · simp [hj] at h
  · rintro l' b u ⟨h1, h2, h3, h4, h5, h6⟩ hr
    have hall := ready_nil hback (by simpa using h4) hr
    have : b = foldPut a l vals := by
      have ht : b.tmps = (foldPut a l vals).tmps := by
        apply Array.ext_getElem?
        intro t
        by_cases ht : t ∈ dsts l
        · obtain ⟨o, ho, hd⟩ := List.mem_filterMap.1 ht
          obtain ⟨j, hj, rfl⟩ := List.getElem_of_mem ho
          exact h5 j l[j] t (List.getElem?_eq_getElem hj) hd (hall j (by simpa using hj))
        · exact h6 t ht
      have hd : b.defers = (foldPut a l vals).defers := by rw [h2, foldPut_def]
      cases b
      cases hF : foldPut a l vals
      rw [hF] at ht hd
      simp only at ht hd
      rw [ht, hd]
    rw [this]
    exact hend u h1
  · rintro l' b u i o ⟨h1, h2, h3, h4, h5, h6⟩ ho hun hdep
    have ho' : l[i]? = some o := by simpa using ho
    obtain ⟨v, hv⟩ := hval i o ho'
    have hlooks : ∀ t ∈ o.looksAt l.toArray, b.tmps[t]? = (foldPut a l vals).tmps[t]? := fun t ht => by
      by_cases hd : t ∈ dsts l
      · obtain ⟨oj, hoj, hdj⟩ := List.mem_filterMap.1 hd
        obtain ⟨j, hj, rfl⟩ := List.getElem_of_mem hoj
        obtain ⟨e, he, e1, e2⟩ := looksB_spec hlook ho ht (show l.toArray[j]? = some l[j] by simp [hj]) hdj
        exact h5 j _ t (List.getElem?_eq_getElem hj) hdj (by rw [← e1]; exact hdep e he e2)
      · exact h6 t hd
    refine transfer (execOp_congr o (fun cs c => Region.noSelect_spec hsel i o cs c ho) fun x hx => eval_eq fun t ht => hlooks t ?_) (wanted_eq hlooks) (fun t ht => by rw [foldPut_size]; exact hsz o (List.mem_of_getElem? ho') t ht) (PureOps.get hops ho' hv u h1) fun u' hu' => ?_
    · subst ht
      exact List.mem_append_left _ (List.mem_filterMap.2 ⟨.tmp t, by simpa using hx, rfl⟩)
    · refine ⟨hu', by rw [put_def, h2], by rw [put_size, h3], by simpa using h4, fun j oj t hj hdj hlj => ?_, fun t ht => ?_⟩
      · by_cases hij : i = j
        · subst hij
          rw [ho'] at hj
          injection hj with hj
          subst hj
          have hlt := hsz o (List.mem_of_getElem? ho') t hdj
          rw [foldPut_hit l vals a i o v t hnd ho' hv hdj hlt, hdj, put_get_same b v (by rw [h3]; exact hlt)]
        · by_cases hdd : o.dst = some t
          · exfalso
            have hlt := hsz o (List.mem_of_getElem? ho') t hdd
            -- two operations with the same slot
            have : ∀ (l : List Oper) (i j : Nat) (x y : Oper), (dsts l).Nodup → l[i]? = some x → l[j]? = some y → x.dst = some t → y.dst = some t → i = j := by
              intro l
              induction l with
              | nil => intro i j x y _ h; simp at h
              | cons z r ih =>
                intro i j x y hn hx hy dx dy
                have hn' : (dsts r).Nodup := by
                  unfold dsts at hn ⊢
                  cases hd : z.dst with
                  | none => simpa [hd] using hn
                  | some d => simp [hd] at hn; exact hn.2
                have hz0 : z.dst = some t → t ∉ dsts r := fun e => by
                  have : dsts (z :: r) = t :: dsts r := by unfold dsts; simp [e]
                  rw [this] at hn
                  exact (List.nodup_cons.1 hn).1
                cases i with
                | zero =>
                  cases j with
                  | zero => rfl
                  | succ j =>
                    simp at hx hy; subst hx
                    exact absurd (List.mem_filterMap.2 ⟨y, List.mem_of_getElem? hy, dy⟩) (hz0 dx)
                | succ i =>
                  cases j with
                  | zero =>
                    simp at hx hy; subst hy
                    exact absurd (List.mem_filterMap.2 ⟨x, List.mem_of_getElem? hx, dx⟩) (hz0 dy)
                  | succ j => rw [ih i j x y hn' (by simpa using hx) (by simpa using hy) dx dy]
            exact hij (this l i j o oj hnd ho' hj hdd hdj)
          · rw [put_get_ne b v hdd]
            exact h5 j oj t hj hdj (getD_setS' l' i j hlj hij)
      · have hdd : o.dst ≠ some t := fun e => ht (List.mem_filterMap.2 ⟨o, List.mem_of_getElem? ho', e⟩)
        rw [put_get_ne b v hdd]
        exact h6 t ht

end Go.Proofs.Ytkolnakcgjlcgaa

namespace Go.Proofs.Ytkolnakcgjlcgaa
open Go.RowKit

set_option maxHeartbeats 2000000 in
set_option maxRecDepth 100000 in
theorem sameRows_same (v v' : Value) (xss : List (List Int)) (w : World) (h : IntRows w v xss) (h' : IntRows w v' xss) (hl : xss.length ≤ 1048576) (hr : ∀ k, k < xss.length → (xss.getD k []).length ≤ 1048576) :
    Calls Try.prog 25 #[v, v'] w fun e w' => e = .returned (.bool true) ∧ Pure w w' := by
  have HF := Lib.hid h
  have HF' := Lib.hid h'
  have HR := Lib.hid hr
  obtain ⟨A, c, rfl, h1, h2, _⟩ := h
  obtain ⟨A', c', rfl, h1', h2', _⟩ := h'
  have hww : ((xss.length : Int) != xss.length) = false := by simp
  clear hr
  go_enter Try.func25, Try.ntmps25
  go_wp2_with fail
  go_loopg [5] xss.length (fun gk i wr => ∃ k : Nat, gk + k = xss.length ∧ i = .int .i64 k ∧ Pure w wr)
  case atStart => exact ⟨0, rfl, rfl, Pure.refl _⟩
  case round =>
    obtain ⟨k, hgk, rfl, hp⟩ := hrel
    have Hgk := Lib.hid hgk
    have HP := Lib.hid hp
    have hkn : k ≤ xss.length := by omega
    clear hgk
    by_cases hlt : k < xss.length
    · obtain ⟨a1, c1, e1, _, _, g1⟩ := HF.out.keep hp
      injection e1 with e1 e2 e3
      subst e1 e3
      obtain ⟨b, o, rfl, hb, hrow⟩ := g1 (by omega)
      obtain ⟨r, q0, hi⟩ := hrow k hlt
      obtain ⟨a2, c2, e4, _, _, g2⟩ := HF'.out.keep hp
      injection e4 with e4 e5 e6
      subst e4 e6
      obtain ⟨b2, o2, rfl, hb2, hrow2⟩ := g2 (by omega)
      obtain ⟨r2, q1, hi2⟩ := hrow2 k hlt
      have HI := Lib.hid hi
      have HI2 := Lib.hid hi2
      have hrk := HR.out k hlt
      have HS : Hid (∀ u : World, Pure wr u → Calls Try.prog 29 #[r, r2] u fun e w' => e = .returned (.bool true) ∧ Pure u w') := Lib.hid fun u hu =>
        sameInts_same r r2 _ u (HI.out.keep hu) (HI2.out.keep hu) hrk
      clear g1 g2 hrow hrow2 hi hi2
      go_wp2_with fail
      refine region_pure [.slice (some ⟨b, o, none⟩) xss.length c, .int .i64 (k : Int), .pointer (some ⟨b, o + k, none⟩), r, .slice (some ⟨b2, o2, none⟩) xss.length c', .int .i64 (k : Int), .pointer (some ⟨b2, o2 + k, none⟩), r2, .bool true, .bool false] (Pure wr) (by kernel_rfl) (by kernel_rfl) rfl (by kernel_rfl) (Pure.drew (Pure.refl _)) ?_ ?_ (by kernel_rfl)
      · simp only [foldPut, Act.put, List.setIfInBounds_toArray, List.set_cons_succ, List.set_cons_zero]
        refine ⟨fun u hu => ?_, fun u hu => ?_, fun u hu => ?_, fun u hu => ?_, fun u hu => ?_, fun u hu => ?_, fun u hu => ?_, fun u hu => ?_, fun u hu => ?_, fun u hu => ?_, trivial⟩
        all_goals
          have q0u := keepPc hu q0
          have q1u := keepPc hu q1
          go_wp2_with (go_at_call 29; refine (HS.out _ hu).mono ?_; rintro e w7 ⟨rfl, hp7⟩; have hu := hu.trans hp7)
          exact ⟨by assumption, rfl⟩
      · intro u hu
        simp only [foldPut, Act.put, List.setIfInBounds_toArray, List.set_cons_succ, List.set_cons_zero]
        go_wp2
        go_roundg (xss.length - (k + 1))
        case measure => have := Hgk.out; omega
        case rel => exact ⟨k + 1, by have := Hgk.out; omega, by go_num, HP.out.trans hu⟩
    · have hkl : k = xss.length := by omega
      subst hkl
      have hpf := HP.out
      go_wp2
      go_ret
      exact ⟨rfl, by exact (by repeat (first | assumption | exact Pure.refl _ | refine Pure.drewN ?_ _ | refine Pure.drew ?_ | refine Pure.alloc ?_ _ | refine Pure.setCell ?_ (by simp <;> omega) _))⟩

def lane0 (g : Nat) : Value := .agg #[.slice (some ⟨g, 0, none⟩) 4 4, .int .i64 0, .slice none 0 0, .bool false]
def zero4 : Array Value := #[.int .i64 0, .int .i64 0, .int .i64 0, .int .i64 0]
def NewP (w : World) (e : Ending) (w' : World) : Prop := ∃ g, e = .returned (lane0 g) ∧ w.heap.size ≤ g ∧ w'.heap[g]? = some (.cells zero4 3 (0, 0)) ∧ Pure w w'

set_option maxHeartbeats 1000000 in
theorem inewlane_any (w : World) : Calls Try.prog 27 #[] w (NewP w) := by
  have hx := heap_alloc_new w (.cells #[.slice none 0 0, .int .i64 0, .slice none 0 0, .bool false] 43)
  have HX := Lib.hid hx
  clear hx
  go_enter Try.func27, Try.ntmps27
  go_wp2_with (at_make; refine wl_make elInt rfl _ _ rfl w.heap.size _ _ _ _ 4 rfl rfl rfl rfl (by decide) (by decide) (by simp) ?_; intro w4 hown4 hp4 hsz4; have HZ4 := Lib.hid (own_zero4 hown4); have HP4 := Lib.hid hp4; have hb4 := (Chg.of_pure (S := fun _ => False) hp4).heap HX.out id; have k0 := cell_of_row _ _ 0 _ _ _ hb4; have k1 := cell_of_row _ _ 1 _ _ _ hb4; have k2 := cell_of_row _ _ 2 _ _ _ hb4; have k3 := cell_of_row _ _ 3 _ _ _ hb4; simp only [List.getElem?_toArray, List.getElem?_cons_zero, List.getElem?_cons_succ] at k0 k1 k2 k3; have kf := fun j => frozen_of_row _ _ j _ _ hb4; have kf0 := kf 0; have kf1 := kf 1; have kf2 := kf 2; have kf3 := kf 3; clear hown4 hp4 hb4 kf)
  refine bodyPost_ret (v := lane0 (w.heap.size + 1)) (by simp [results, Try.results27, lane0, go_sem, k0, k1, k2, k3]) rfl ?_
  have hz : w4.heap[w.heap.size + 1]? = some (.cells zero4 3 (0, 0)) := by have := HZ4.out; simpa [zero4] using this
  refine ⟨w.heap.size + 1, rfl, by omega, ?_, ?_⟩
  · have hc : ∀ (u : World) (j : Nat) (x : Value), Chg (fun b => b = w.heap.size) u (u.setCell ⟨w.heap.size, j, none⟩ x) := fun u j x => Chg.of_set u _ _ _ rfl
    exact (hc _ _ _).heap ((hc _ _ _).heap ((hc _ _ _).heap ((hc _ _ _).heap hz (by omega)) (by omega)) (by omega)) (by omega)
  · have hp : Pure w w4 := ((Pure.refl w).alloc _).trans HP4.out
    exact (by repeat (first | assumption | exact Pure.refl _ | refine Pure.drewN ?_ _ | refine Pure.drew ?_ | refine Pure.alloc ?_ _ | refine Pure.setCell ?_ (by simp <;> omega) _))

end Go.Proofs.Ytkolnakcgjlcgaa
