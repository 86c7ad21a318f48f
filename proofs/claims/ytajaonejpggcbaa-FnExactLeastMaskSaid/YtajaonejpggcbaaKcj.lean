/- Lanes that run alone, each in its turn: what the program's RunOrder leaves. No condition. -/
import Derived.Test.YtajaonejpggcbaaKbf
import Derived.Test.YtajaonejpggcbaaKci

namespace Go.Proofs.Ytajaonejpggcbaa
open Go.RowKit

theorem ints_ownJ {w : World} {B : Nat} {v : Value} {xs : List Int} (ho : OwnO w B 3 1 v xs.length (xs.map (.int .i64))) : Ints w v xs := by
  unfold Ints
  refine Cells.of_ownO ho fun j hj => ?_
  have : j < xs.length := by omega
  simp [List.getD_eq_getElem?_getD, this]
theorem memA_smallJ {cs : List Cd} {a : Int} {mem : List Int} (h : mem.length ≤ 33) : (memA cs a mem).length ≤ 1048576 := Nat.le_trans memA_len (by omega)


set_option maxHeartbeats 1000000 in
theorem nmB_any (v : Value) (cs : List Cd) (w : World) (h : Codes w v cs) (hv : PValid cs) :
    Calls Try.prog 55 #[v] w fun e w' => ∃ p, e = .returned (.pointer (some ⟨p, 0, none⟩)) ∧ Pure w w' ∧ Mach w.heap.size w'.heap.size w' p v cs := by
  have H := Lib.hid h
  have HV := Lib.hid hv
  obtain ⟨A, c, rfl, hnc, hcm⟩ := h.form
  clear h hv
  go_enter Try.func55, Try.ntmps55
  go_wp2_with fail
  refine (blocksB_any _ cs _ H.out HV.out.2.1).mono ?_
  rintro e w1 ⟨hp, hm⟩
  rw [HV.out.2.2] at hm
  obtain ⟨va, vo, rfl, ht⟩ := hm
  obtain ⟨g, pb, rfl, hg1, hg2, hown, hblk⟩ := ht rfl
  have HOWN := Lib.hid hown
  have HBLK := Lib.hid hblk
  have HP := Lib.hid hp
  clear ht hown hblk hp
  go_wp2
  go_ret
  have hx := heap_alloc_new w1 (.cells #[.slice A cs.length c, .slice (some ⟨g, 0, none⟩) cs.length cs.length] 120)
  have hk : Pure w1 (w1.alloc (.cells #[.slice A cs.length c, .slice (some ⟨g, 0, none⟩) cs.length cs.length] 120)) := (Pure.refl _).alloc _
  have hsz : (w1.alloc (.cells #[.slice A cs.length c, .slice (some ⟨g, 0, none⟩) cs.length cs.length] 120)).heap.size = w1.heap.size + 1 := by simp
  have hws := HP.out.size
  refine ⟨w1.heap.size, rfl, HP.out.trans hk, g, cs.length, pb, ⟨hws, by omega⟩, ⟨hg1, by omega⟩, (cell_of_row _ _ 0 _ _ _ hx).trans rfl, (cell_of_row _ _ 1 _ _ _ hx).trans rfl, Nat.le_refl _, by have := HV.out.2.1; omega, fun j hj => keepPc hk (HOWN.out j hj), fun q hq ho => ?_⟩
  obtain ⟨⟨a1, a2⟩, b1, b2, b3⟩ := HBLK.out q hq ho
  exact ⟨⟨a1, by omega⟩, keepPc hk b1, keepPc hk b2, keepPc hk b3⟩

/-- The lanes at the beginning. -/
theorem crowd_run {w0 w1 w2 : World} {n gl cl gm cm gc pm : Nat} {rows : Nat → Nat} {mem : List Int} {cs : List Cd} {vl : Value} (hok : RunOk cs n mem) (hcs : Codes w0 vl cs) (hp01 : Pure w0 w1) (hc : CrowdP w0.heap.size w1 n mem gl cl gm cm rows) (hcl : n ≤ cl) (hcl2 : cl ≤ 9223372036854775807)
    (hgc : w1.heap[gc]? = some (.cells #[.slice (some ⟨gl, 0, none⟩) n cl, .slice (some ⟨gm, 0, none⟩) mem.length cm] 33 (0, 0))) (hgc0 : w0.heap.size ≤ gc) (hp12 : Pure w1 w2) (hm : Mach w1.heap.size w2.heap.size w2 pm vl cs) :
    MRun ⟨w0, w1.heap.size, w2.heap.size, cs, vl, pm, n, mem.length, gl, cl, gm, cm, gc, rows⟩ w2 (fun _ => .slice none 0 0) (fun _ => ln0) (fun j => mem.getD j 0) := by
  obtain ⟨hcr, hmem⟩ := hc
  obtain ⟨_, ⟨hn1, hn8⟩, ⟨hm1, hm32⟩, hwords⟩ := hok
  have hf : ∀ {k : Nat} {ob : Obj}, w1.heap[k]? = some ob → w2.heap[k]? = some ob := fun hk => (Chg.of_pure (S := fun _ => False) hp12).heap hk id
  have hlt : ∀ {k : Nat} {ob : Obj}, w1.heap[k]? = some ob → k < w1.heap.size := fun hk => (Array.getElem?_eq_some_iff.1 hk).1
  have hglo := own_lt hcr.own gl rfl
  have hgmo := hmem.lt gm rfl
  refine ⟨hp01.trans hp12, hcs, hp01.size, hp12.size, Nat.le_refl _, hm, (show 1 ≤ n by omega), (show n ≤ 8 by omega), hm1, hm32, hcl, hcl2, hf hgc, hgc0, ?_, ⟨hglo.1, hglo.2⟩, fun k hk => ?_, fun k hk => hlt (hcr.row k hk), hcr.inj, ?_, hgmo.2, hcr.ne, fun k hk => ?_, fun k l hk hl hkl g hg => ?_, fun k hk r => ⟨Int.le_refl 0, by show (0 : Int) ≤ 255; decide⟩, fun j => ?_⟩
  · rcases hcr.own.2 with ⟨hv, _⟩ | ⟨g, cap, cur, hv, h1, h2, h3, h4, h5, h6⟩
    · cases hv
    · injection hv with hv _ hcc
      injection hv with hv
      injection hv with e1 e2
      subst e1
      refine ⟨cur, hf h2, fun k hk => ?_⟩
      have hk' : k < n := hk
      have hat : ∀ i, i < 4 → cur[k * 4 + i]? = (lane0L (rows k))[i]? := fun i hi => by
        rw [← laneLs_at rows hk' hi, ← h6, List.getElem?_take, if_pos (by omega), Array.getElem?_toList]
      exact ⟨(hat 0 (by decide)).trans rfl, (hat 1 (by decide)).trans rfl, (hat 2 (by decide)).trans rfl, (hat 3 (by decide)).trans rfl⟩
  · have hr := hf (hcr.row k hk)
    refine ⟨rfl, .inr ⟨rows k, 0, 4, zero4, rfl, hcr.lo k hk, hr, Nat.le_refl _, by decide, by decide, fun j u hu => ?_⟩⟩
    rw [Nat.zero_add, ← hu]
    show zero4[j]? = (row4 (fun _ => 0)).toList[j]?
    rw [← Array.getElem?_toList]; rfl
  · exact hmem.pure hp12
  · exact OwnO.of_own (World.ownsRow_nil _ _ _ _)
  · simp [Value.ownBlock] at hg
  · show Word (mem.getD j 0)
    by_cases hj : j < mem.length
    · exact hwords _ (getD_mem hj)
    · have : mem.getD j 0 = 0 := by rw [List.getD_eq_getElem?_getD, List.getElem?_eq_none (by omega)]; rfl
      rw [this]
      exact ⟨Int.le_refl 0, by decide⟩

def turnOf (order : List Int) (j : Nat) : Nat := (order.getD (j % order.length) 0).toNat
theorem turn_lt {order : List Int} {n : Nat} (h : OrdOk order n) (j : Nat) : turnOf order j < n := by
  obtain ⟨h1, _, _, h4, h5⟩ := h
  obtain ⟨j0, hj0, _⟩ := h5 0 (by omega)
  have := h4 (j % order.length) (Nat.mod_lt _ (by omega))
  unfold turnOf; omega
theorem turn_fair {order : List Int} {n : Nat} (h : OrdOk order n) : Fair n order.length (turnOf order) := by
  intro i l hl
  obtain ⟨_, _, _, h4, h5⟩ := h
  obtain ⟨j0, hj0, hj1⟩ := h5 l hl
  -- the place of j0 in the round that begins at i
  have hp : 0 < order.length := by omega
  refine ⟨i + (j0 + order.length - i % order.length) % order.length, by omega, by have := Nat.mod_lt (j0 + order.length - i % order.length) hp; omega, ?_⟩
  have hm : (i + (j0 + order.length - i % order.length) % order.length) % order.length = j0 := by
    have h1 := Nat.div_add_mod i order.length
    have h2 := Nat.mod_lt i hp
    rw [Nat.add_mod, Nat.mod_mod, ← Nat.add_mod]
    have : i + (j0 + order.length - i % order.length) = j0 + order.length * (i / order.length + 1) := by rw [Nat.mul_add]; omega
    rw [this, Nat.add_mul_mod_self_left]
    exact Nat.mod_eq_of_lt hj0
  unfold turnOf
  rw [hm, hj1, Int.toNat_natCast]
def start2 (mem : List Int) : (Nat → Ln) × (Nat → Int) := (fun _ => ln0, fun j => mem.getD j 0)
theorem order_end {cs : List Cd} {n : Nat} {mem order : List Int} (hok : RunOk cs n mem) (ho : OrdOk order n) : ∃ N, N ≤ 1600000 ∧ DoneL cs n (oIter cs n mem.length (turnOf order) N (start2 mem)).1 := by
  obtain ⟨N, h1, h2⟩ := order_ends (cs := cs) (n := n) (m := mem.length) (p := order.length) (n * 5000) (turnOf order) (start2 mem) (turn_fair ho) (turn_lt ho) (start_norm cs n) (start_ways hok.1 n)
  refine ⟨N, Nat.le_trans h1 ?_, h2⟩
  have a1 := ho.2.1
  have a2 := ho.2.2.1
  have : n * 5000 * order.length ≤ (8 * 5000) * 40 := Nat.mul_le_mul (Nat.mul_le_mul_right _ a1) a2
  omega
theorem ord_norm {cs : List Cd} {n m : Nat} {f : Nat → Nat} (_hf : ∀ j, f j < n) {s : (Nat → Ln) × (Nat → Int)} (h : Norm cs n s.1) : ∀ j, Norm cs n (oIter cs n m f j s).1
  | 0 => h
  | j + 1 => by
    show Norm cs n (ordStep cs n m (f j) (oIter cs n m f j s)).1
    unfold ordStep
    exact norm_pass _

set_option maxHeartbeats 4000000 in
set_option maxRecDepth 100000 in
theorem irunorder_any (vl vm vo : Value) (cs : List Cd) (n : Nat) (mem order : List Int) (w : World) (h : Codes w vl cs) (hm : Ints w vm mem) (hor : Ints w vo order) (hok : RunOk cs n mem) (f : Nat → Nat) (hf : ∀ j, f j < n) (hop : 0 < order.length) (ho40 : order.length ≤ 40) (hfo : ∀ j, order.getD (j % order.length) 0 = ((f j : Nat) : Int)) (N : Nat) (hN : N ≤ 1600000) (hd : DoneL cs n (oIter cs n mem.length f N (start2 mem)).1) :
    Calls Try.prog 75 #[vl, .int .i64 (n : Nat), vm, vo] w fun e w' => ∃ v, e = .returned v ∧ OwnO w' w.heap.size 3 1 v mem.length (memL mem.length (oIter cs n mem.length f N (start2 mem)).2) ∧ Pure w w' := by
  have H := Lib.hid h
  have HM := Lib.hid hm
  have HOR := Lib.hid hor
  have HOK := Lib.hid hok
  have HFL := Lib.hid hf
  have HFO := Lib.hid hfo
  have HD := Lib.hid hd
  obtain ⟨hv, ⟨hn1, hn8⟩, ⟨hm1, hm32⟩, _⟩ := hok
  have HV := Lib.hid hv
  have h40 := hv.2.1
  obtain ⟨A, c, rfl, hnc, hcm⟩ := h.form
  obtain ⟨Am, cm0, rfl⟩ := hm.form
  have hor2 := hor
  obtain ⟨Ao, co, rfl, hoc1, hoc2, _⟩ := hor2
  clear h hm hor hv hd hf hfo
  go_enter Try.func75, Try.ntmps75
  go_wp2_with fail
  refine (inewcrowd_any _ mem n _ HM.out hm1 hm32 (by omega) (by omega)).mono ?_
  rintro e w1 ⟨gl, cl, gm, cmm, rows, rfl, hcr, hcl, hcl2, hp1⟩
  have HCR := Lib.hid hcr
  have HP1 := Lib.hid hp1
  clear hcr hp1
  have hbox := heap_alloc_new w1 (.cells #[.slice (some ⟨gl, 0, none⟩) n cl, .slice (some ⟨gm, 0, none⟩) mem.length cmm] 33)
  have HPb := Lib.hid (show Pure w1 (w1.alloc (.cells #[.slice (some ⟨gl, 0, none⟩) n cl, .slice (some ⟨gm, 0, none⟩) mem.length cmm] 33)) from (by repeat (first | assumption | exact Pure.refl _ | refine Pure.drewN ?_ _ | refine Pure.drew ?_ | refine Pure.alloc ?_ _ | refine Pure.setCell ?_ (by simp <;> omega) _)))
  have HBX := Lib.hid hbox
  clear hbox
  go_wp2_with fail
  refine (nmB_any _ cs _ (H.out.keep (HP1.out.trans HPb.out)) HV.out).mono ?_
  rintro e w2 ⟨pm, rfl, hp2, hmach⟩
  have HR := Lib.hid (crowd_run HOK.out H.out (HP1.out.trans HPb.out) ⟨HCR.out.1.pure HPb.out, HCR.out.2.pure HPb.out⟩ hcl hcl2 HBX.out HP1.out.size hp2 hmach)
  clear hp2 hmach
  obtain ⟨o, Ho⟩ : ∃ o, Hid ((⟨w, (w1.alloc (.cells #[.slice (some ⟨gl, 0, none⟩) n cl, .slice (some ⟨gm, 0, none⟩) mem.length cmm] 33)).heap.size, w2.heap.size, cs, .slice A cs.length c, pm, n, mem.length, gl, cl, gm, cmm, w1.heap.size, rows⟩ : MO) = o) := ⟨_, Lib.hid rfl⟩
  rw [Ho.out] at HR
  have e1 : o.pm = pm := by rw [← Ho.out]
  have e2 : o.gc = w1.heap.size := by rw [← Ho.out]
  have e3 : o.n = n := by rw [← Ho.out]
  have e4 : o.cs = cs := by rw [← Ho.out]
  have e5 : o.m = mem.length := by rw [← Ho.out]
  have e6 : o.w0 = w := by rw [← Ho.out]
  have e7 : o.vm = .slice (some ⟨gm, 0, none⟩) mem.length cmm := by rw [← Ho.out]; rfl
  have E := Lib.hid (And.intro e1 (And.intro e2 (And.intro e3 (And.intro e4 (And.intro e5 (And.intro e6 e7))))))
  obtain ⟨gc, Hgc⟩ : ∃ gc, Hid (w1.heap.size = gc) := ⟨_, Lib.hid rfl⟩
  rw [Hgc.out] at e2 ⊢
  subst e1 e2
  have HST : Hid (∀ u : World, ∀ vt (s : (Nat → Ln) × (Nat → Int)) (k : Nat), k < n → MRun o u vt s.1 s.2 → OnW o s.1 → Calls Try.prog 116 #[.pointer (some ⟨o.pm, 0, none⟩), .pointer (some ⟨o.gc, 0, none⟩), .int .i64 (k : Nat)] u (MPost o u vt (ordStep cs n mem.length k s).1 (ordStep cs n mem.length k s).2)) := Lib.hid fun u vt s k hk hr hw => by
    have := istepof_any o (by rw [e4]; exact HV.out) u vt s.1 s.2 hr hw k (by rw [e3]; exact hk)
    rw [e3, e4, e5] at this
    exact this
  have HIS : Hid (∀ u : World, ∀ vt (s : (Nat → Ln) × (Nat → Int)) (B : Bool), (B = true ↔ ∀ l, l < n → (s.1 l).at_ = cs.length) → MRun o u vt s.1 s.2 → Calls Try.prog 96 #[.pointer (some ⟨o.pm, 0, none⟩), .pointer (some ⟨o.gc, 0, none⟩)] u fun e w' => e = .returned (.bool B) ∧ Pure u w') := Lib.hid fun u vt s B hB hr => iover_any o u vt s.1 s.2 hr B (by rw [e3, e4]; exact hB)
  have HW0 : Hid (OnW o (start2 mem).1) := Lib.hid (by
    obtain ⟨h1, h2, h3⟩ := treeOf_spec HV.out
    intro l _
    rw [e4]
    exact ⟨_, OnWay.start h1 h2⟩)
  have HWS : Hid (∀ (s : (Nat → Ln) × (Nat → Int)) (k : Nat), k < n → OnW o s.1 → OnW o (ordStep cs n mem.length k s).1) := Lib.hid fun s k hk hw => by
    have := (hw.step s.2 (k := k) (by rw [e3]; exact hk)).pass
    have e := ord_eq o s.1 s.2 k
    rw [e3, e4, e5] at e
    rw [show s = (s.1, s.2) from rfl, e]; exact this
  have HLE : Hid (∀ (s : (Nat → Ln) × (Nat → Int)), OnW o s.1 → ∀ l, l < n → (s.1 l).at_ ≤ cs.length) := Lib.hid fun s hw l hl => by
    have := hw.le l (by rw [e3]; exact hl)
    rwa [e4] at this
  have hol : ((order.length : Int) == 0) = false := by rw [beq_eq_false_iff_ne]; omega
  have hol2 : ¬ ((order.length : Int) = 0) := by omega
  clear e3 e4 e5 e6 e7 Hgc HCR
  go_wp2_with fail
  go_loopg [11] N (fun gk i wr => ∃ (j : Nat) (vt : Nat → Value), gk + j = N ∧ i = .int .i64 j ∧ MRun o wr vt (oIter cs n mem.length f j (start2 mem)).1 (oIter cs n mem.length f j (start2 mem)).2 ∧ OnW o (oIter cs n mem.length f j (start2 mem)).1)
  case atStart => exact ⟨0, _, rfl, rfl, HR.out, HW0.out⟩
  case round =>
    obtain ⟨j, vt, hgk, rfl, hr, hw⟩ := hrel
    have Hgk := Lib.hid hgk
    have HMR := Lib.hid hr
    have HWW := Lib.hid hw
    have hjN : j ≤ N := by omega
    have HNORM := Lib.hid (ord_norm (cs := cs) (n := n) (m := mem.length) HFL.out (s := start2 mem) (start_norm cs n) j)
    have HNX : Hid (oIter cs n mem.length f (j + 1) (start2 mem) = ordStep cs n mem.length (f j) (oIter cs n mem.length f j (start2 mem))) := Lib.hid rfl
    obtain ⟨s, Hs⟩ : ∃ s, Hid (oIter cs n mem.length f j (start2 mem) = s) := ⟨_, Lib.hid rfl⟩
    rw [Hs.out] at HMR HWW HNORM HNX
    clear hgk hr hw HR
    by_cases hov : ∀ l, l < n → (s.1 l).at_ = cs.length
    · have HDN : Hid (DoneL cs n s.1) := Lib.hid (by
        rcases HNORM.out with h | h
        · obtain ⟨l, hl, hg⟩ := anyGo_iff.1 h
          have := (goes_iff.1 hg).2
          have := hov l hl
          omega
        · exact h)
      have HEQ : Hid (oIter cs n mem.length f N (start2 mem) = s) := Lib.hid (by
        obtain ⟨d, rfl⟩ : ∃ d, N = j + d := ⟨N - j, by omega⟩
        rw [oIter_done HFL.out (by rw [Hs.out]; exact HDN.out) d, Hs.out])
      have HOV := Lib.hid hov
      clear hov
      go_wp2_with fail
      refine (HIS.out _ vt s true (by simp only [true_iff]; exact HOV.out) HMR.out).mono ?_
      rintro e w3 ⟨rfl, hp3⟩
      have hcc := (HMR.out.keep hp3).crowdCells.2
      rw [E.out.2.2.2.2.2.2] at hcc
      have hme := (HMR.out.keep hp3).mem
      have hpu := (HMR.out.keep hp3).pure
      rw [E.out.2.2.2.2.2.1] at hme hpu
      rw [E.out.2.2.2.2.2.2, E.out.2.2.2.2.1] at hme
      have HME := Lib.hid hme
      have HPU := Lib.hid hpu
      clear hme hpu
      go_wp2
      go_ret
      rw [HEQ.out]
      exact ⟨_, rfl, HME.out, HPU.out⟩
    · have hjlt : j < N := by
        rcases Nat.lt_or_ge j N with h | h
        · exact h
        · have : j = N := by omega
          subst this
          rw [Hs.out] at HD
          exact absurd (fun l hl => Nat.le_antisymm (HLE.out s HWW.out l hl) (HD.out l hl).2) hov
      have HOV := Lib.hid hov
      have hfo := HFO.out j
      have hml := Nat.mod_lt j hop
      have hjm : Int.tmod (j : Int) (order.length : Int) = ((j % order.length : Nat) : Int) := by rw [Int.tmod_eq_emod_of_nonneg (by omega)]; norm_cast
      obtain ⟨md, Hmd⟩ : ∃ md, Hid (j % order.length = md) := ⟨_, Lib.hid rfl⟩
      rw [Hmd.out] at hfo hml hjm
      obtain ⟨k, Hk⟩ : ∃ k, Hid (f j = k) := ⟨_, Lib.hid rfl⟩
      have hkn : k < n := by rw [← Hk.out]; exact HFL.out j
      rw [Hk.out] at hfo HNX
      have HFOJ := Lib.hid hfo
      clear hov hfo
      go_wp2_with fail
      refine (HIS.out _ vt s false (by simp only [Bool.false_eq_true, false_iff]; exact HOV.out) HMR.out).mono ?_
      rintro e w3 ⟨rfl, hp3⟩
      have HM3 := Lib.hid (HMR.out.keep hp3)
      have hpw := HM3.out.pure
      rw [E.out.2.2.2.2.2.1] at hpw
      obtain ⟨A1, c1, hv1, hc1, hc2, hread⟩ := HOR.out.keep hpw
      injection hv1 with hA _ hC
      subst hA hC
      obtain ⟨bo, oo, rfl, hbo, hcell⟩ := hread hop
      have q0 := hcell md (by omega)
      simp only at q0
      rw [HFOJ.out] at q0
      have hmd0 : (0 : Int) ≤ (md : Int) := by omega
      have hmdI : (md : Int) < (order.length : Int) := by omega
      clear hcell hread hp3 hpw
      go_wp2_with fail
      refine (HST.out _ vt s k hkn HM3.out HWW.out).mono ?_
      rintro e w4 ⟨rfl, vt4, h4, _⟩
      have H4 := Lib.hid h4
      clear h4
      go_wp2
      go_roundg (N - (j + 1))
      case measure => have := Hgk.out; omega
      case rel => exact ⟨j + 1, vt4, by have := Hgk.out; omega, by go_num, by rw [HNX.out]; exact H4.out, by rw [HNX.out]; exact HWS.out s k hkn HWW.out⟩

theorem memL_map (m : Nat) (M : Nat → Int) : memL m M = ((List.range m).map M).map (.int .i64) := by simp [memL]

set_option maxHeartbeats 1000000 in
/-- RunOrder, for valid arguments, when every order leads to the memory Mf. -/
theorem irunord_any (vl vm vo : Value) (cs : List Cd) (n : Nat) (mem order : List Int) (w : World) (h : Codes w vl cs) (hm : Ints w vm mem) (hor : Ints w vo order) (hok : RunOk cs n mem) (ho : OrdOk order n) (Mf : Nat → Int) (hMf : ∀ N, DoneL cs n (oIter cs n mem.length (turnOf order) N (start2 mem)).1 → (oIter cs n mem.length (turnOf order) N (start2 mem)).2 = Mf) :
    Calls Try.prog 45 #[vl, .int .i64 (n : Nat), vm, vo] w fun e w' => ∃ v, e = .returned v ∧ Ints w' v ((List.range mem.length).map Mf) ∧ Pure w w' := by
  have H := Lib.hid h
  have HM := Lib.hid hm
  have HOR := Lib.hid hor
  have HOK := Lib.hid hok
  have HO := Lib.hid ho
  have HMF := Lib.hid hMf
  have h40 := hok.1.2.1
  have hm32 := hok.2.2.1.2
  obtain ⟨N, hN, hd⟩ := order_end hok ho
  have HD := Lib.hid hd
  have HTF : Hid (∀ j, order.getD (j % order.length) 0 = ((turnOf order j : Nat) : Int)) := Lib.hid (fun j => by
    obtain ⟨h1, _, _, h4, h5⟩ := HO.out
    obtain ⟨j0, hj0, _⟩ := h5 0 (by omega)
    have := h4 (j % order.length) (Nat.mod_lt _ (by omega))
    unfold turnOf; omega)
  have hop : 0 < order.length := by
    obtain ⟨h1, _, _, h4, h5⟩ := HO.out
    obtain ⟨j0, hj0, _⟩ := h5 0 (by omega)
    omega
  have ho40 := ho.2.2.1
  obtain ⟨A, c, rfl, hnc, hcm⟩ := h.form
  obtain ⟨Am, cm0, rfl⟩ := hm.form
  obtain ⟨Ao, co, rfl⟩ := hor.form
  clear h hm hor hok ho hMf hd
  go_enter Try.func45, Try.ntmps45
  go_wp2_with fail
  refine (icanrun_any _ _ cs n mem _ H.out HM.out (by omega) (by omega) true (by simp only [true_iff]; exact HOK.out)).mono ?_
  rintro e w1 ⟨rfl, hp1⟩
  go_wp2_with fail
  refine (iordv_any _ order n _ (HOR.out.keep hp1) HO.out).mono ?_
  rintro e w2 ⟨rfl, hp2⟩
  have HP2 := Lib.hid (hp1.trans hp2)
  clear hp1 hp2
  go_wp2_with fail
  refine (irunorder_any _ _ _ cs n mem order _ (H.out.keep HP2.out) (HM.out.keep HP2.out) (HOR.out.keep HP2.out) HOK.out (turnOf order) (turn_lt HO.out) hop ho40 HTF.out N hN HD.out).mono ?_
  rintro e w3 ⟨v, rfl, hv, hp3⟩
  rw [HMF.out N HD.out] at hv
  have HV := Lib.hid hv
  clear hv
  go_wp2
  go_ret
  refine ⟨v, rfl, ?_, HP2.out.trans hp3⟩
  have := HV.out
  rw [memL_map] at this
  exact ints_ownJ (by simpa using this)

end Go.Proofs.Ytajaonejpggcbaa
