/- The trace and its cost, as the reference finds them. No condition. -/
import Derived.Test.YtokdfgodmhekmaaAll8
import Derived.Test.YtokdfgodmhekmaaCanRun
import Derived.Test.YtokdfgodmhekmaaCodeC
namespace Go.Proofs.Ytokdfgodmhekmaa
open Go.RowKit

theorem beatsL_at : ∀ (H : List (Nat × Nat × (Nat → Nat → Int))) (k : Nat), k < H.length → (beatsL H)[k * 2]? = some (.int .i64 ((H.getD k default).1 : Nat)) ∧ (beatsL H)[k * 2 + 1]? = some (.int .i64 ((H.getD k default).2.1 : Nat))
  | [], _, h => absurd h (by simp)
  | x :: r, 0, _ => ⟨rfl, rfl⟩
  | x :: r, k + 1, h => by
    have := beatsL_at r k (by simpa using h)
    have e : beatsL (x :: r) = .int .i64 (x.1 : Nat) :: .int .i64 (x.2.1 : Nat) :: beatsL r := rfl
    have e2 : (k + 1) * 2 = k * 2 + 1 + 1 := by omega
    rw [e, e2]
    simpa using this
theorem getD_mem' {α : Type} [Inhabited α] {H : List α} {k : Nat} (h : k < H.length) : H.getD k default ∈ H := by simp [List.getD_eq_getElem?_getD, h]
theorem lockOf_in {cs : List Cd} {n : Nat} {mem : List Int} (hv : PValid cs) : ∀ x ∈ (lockOf cs n mem).H, StepIn n 0 cs.length x := by
  intro x hx
  obtain ⟨h1, h2, h3⟩ := treeOf_spec hv
  have hlen : (treeOf cs).len = cs.length := (congrArg List.length h1).symm
  rcases runStepIn n mem.length (treeOf cs) 0 (2 ^ n - 1) (startLS mem) x (Nat.sub_lt (Nat.two_pow_pos n) (by decide)) hx with h | h
  · cases h
  · rw [hlen, Nat.zero_add] at h; exact h
theorem lockOf_len {cs : List Cd} {n : Nat} {mem : List Int} (hv : PValid cs) : (lockOf cs n mem).H.length ≤ 2560 := by
  obtain ⟨h1, h2, h3⟩ := treeOf_spec hv
  have h4 := hv.cost h1 h2 h3
  have h5 := run_H n mem.length (treeOf cs) 0 (2 ^ n - 1) (startLS mem)
  have h6 : (startLS mem).H.length = 0 := rfl
  show (run _ _ _ _ _ _).H.length ≤ _
  omega
theorem lanes_nat {a : Int} (h : LanesOk a) : ∃ n : Nat, a = n ∧ 1 ≤ n ∧ n ≤ 8 := ⟨a.toNat, by unfold LanesOk at h; omega, by unfold LanesOk at h; omega, by unfold LanesOk at h; omega⟩

set_option maxHeartbeats 1000000 in
set_option maxRecDepth 100000 in
theorem strace_any (vl vm : Value) (cs : List Cd) (n : Nat) (mem : List Int) (w : World) (h : Codes w vl cs) (hm : Ints w vm mem) (hok : RunOk cs n mem) :
    Calls Try.prog 25 #[vl, .int .i64 n, vm] w fun e w' => ∃ v, e = .returned v ∧ OwnO w' w.heap.size 44 2 v (lockOf cs n mem).H.length (beatsL (lockOf cs n mem).H) ∧ Pure w w' := by
  have H := Lib.hid h
  have HM := Lib.hid hm
  have HOK := Lib.hid hok
  obtain ⟨hv, hl, hmm⟩ := hok
  have hc40 := hv.2.1
  have hm32 := hmm.1.2
  have hn1 : 1 ≤ n := by unfold LanesOk at hl; omega
  have hn8 : n ≤ 8 := by unfold LanesOk at hl; omega
  obtain ⟨A, c, rfl, hnc, hcm⟩ := h.form
  obtain ⟨Am, cm, rfl⟩ := hm.form
  clear h hm hv hl hmm
  go_enter Try.func25, Try.ntmps25
  go_wp2_with fail
  refine (sok_any _ _ cs n mem _ H.out HM.out (by omega) (by omega) true (by simp only [true_iff]; exact HOK.out)).mono ?_
  rintro e w1 ⟨rfl, hp1⟩
  go_wp2_with fail
  refine (sall_any _ _ cs n mem _ (H.out.keep hp1) (HM.out.keep hp1) HOK.out.1 hn1 hn8 HOK.out.2.2).mono ?_
  rintro e w2 ⟨o, vt, rfl, rfl, hcs, hvl, hn, hm, hck, hrun⟩
  have p4 : w2.cell? ⟨o.p, 4, none⟩ = some vt := hrun.obj.cell 4
  have HT := Lib.hid hrun.tr
  have HP := Lib.hid hrun.pure
  clear hrun hcs hvl hn hm hck
  go_wp2
  go_ret
  exact ⟨_, rfl, HT.out.base' hp1.size, hp1.trans HP.out⟩

def CostP (cs : List Cd) (a : Int) (mem : List Int) (x : Int) : Prop := (∀ n : Nat, a = n → RunOk cs a mem → x = (costTo cs (lockOf cs n mem).H (lockOf cs n mem).H.length : Nat)) ∧ (¬ RunOk cs a mem → x = -1)
theorem CostP.unique {cs : List Cd} {a : Int} {mem : List Int} {x y : Int} (h : CostP cs a mem x) (k : CostP cs a mem y) : y = x := by
  by_cases ho : RunOk cs a mem
  · obtain ⟨n, hn, _⟩ := lanes_nat ho.2.1
    rw [h.1 n hn ho, k.1 n hn ho]
  · rw [h.2 ho, k.2 ho]

set_option maxHeartbeats 1000000 in
set_option maxRecDepth 100000 in
theorem stc_any (vl vm : Value) (cs : List Cd) (a : Int) (mem : List Int) (w : World) (h : Codes w vl cs) (hm : Ints w vm mem) (hs1 : cs.length ≤ 1048576) (hs2 : mem.length ≤ 1048576) :
    Calls Try.prog 43 #[vl, .int .i64 a, vm] w fun e w' => ∃ x, e = .returned (.int .i64 x) ∧ CostP cs a mem x ∧ Pure w w' := by
  have H := Lib.hid h
  have HM := Lib.hid hm
  obtain ⟨A, c, rfl, hnc, hcm⟩ := h.form
  obtain ⟨Am, cm, rfl⟩ := hm.form
  clear h hm
  by_cases hok : RunOk cs a mem
  · have HOK := Lib.hid hok
    obtain ⟨n, rfl, hn1, hn8⟩ := lanes_nat hok.2.1
    clear hok
    go_enter Try.func43, Try.ntmps43
    go_wp2_with fail
    refine (sok_any _ _ cs n mem _ H.out HM.out hs1 hs2 true (by simp only [true_iff]; exact HOK.out)).mono ?_
    rintro e w1 ⟨rfl, hp1⟩
    go_wp2_with fail
    refine (strace_any _ _ cs n mem _ (H.out.keep hp1) (HM.out.keep hp1) HOK.out).mono ?_
    rintro e w2 ⟨v, rfl, hown, hp2⟩
    have HIN := Lib.hid (lockOf_in (n := n) (mem := mem) HOK.out.1)
    have hlen := lockOf_len (n := n) (mem := mem) HOK.out.1
    obtain ⟨L, HL⟩ : ∃ L, Hid ((lockOf cs n mem).H = L) := ⟨_, rfl⟩
    rw [HL.out] at hown hlen HIN
    have HO := Lib.hid hown
    obtain ⟨Av, cv, rfl⟩ := hown.form
    have HP12 := Lib.hid (hp1.trans hp2)
    clear hown hp1 hp2
    go_wp2
    go_loopg [7, 9] L.length (fun gk q i wr => ∃ k : Nat, gk + k = L.length ∧ i = .int .i64 k ∧ q = .int .i64 (costTo cs L k : Nat) ∧ Pure w2 wr)
    case atStart => exact ⟨0, rfl, rfl, rfl, Pure.refl _⟩
    case round =>
      obtain ⟨k, hgk, rfl, rfl, hp⟩ := hrel
      have Hgk := Lib.hid hgk
      have hkn : k ≤ L.length := by omega
      clear hgk
      by_cases hlt : k < L.length
      · obtain ⟨g, off, c', hvv, h1, h2, h3, h4⟩ := HO.out.formSome (by omega)
        injection hvv with e1 e2 e3
        subst e1
        subst e3
        have q0 := (HO.out.pure hp).cell (k * 2) (by omega)
        rw [(beatsL_at L k hlt).1] at q0
        obtain ⟨p, Hp⟩ : ∃ p, Hid ((L.getD k default).1 = p) := ⟨_, rfl⟩
        have hpl : p < cs.length := by rw [← Hp.out]; exact (HIN.out _ (getD_mem' hlt)).2.1
        rw [Hp.out] at q0
        obtain ⟨b, o, rfl, hb, hc⟩ := H.out.at_ hpl
        obtain ⟨cd, Hcd⟩ : ∃ cd, Hid (cs.getD p default = cd) := ⟨_, rfl⟩
        have hat := hc.keep (HP12.out.trans hp) hb
        rw [Hcd.out] at hat
        obtain ⟨r0, r1, r2, r3⟩ := hat
        clear hc
        have hcd : CdOk cd := by rw [← Hcd.out]; exact HOK.out.1.1 _ (cdOk_mem hpl)
        have HCD := Lib.hid hcd
        clear hcd
        obtain ⟨u, Hu⟩ : ∃ u, Hid (cdCost cd = u) := ⟨_, rfl⟩
        have hu4 : u ≤ 4 := by rw [← Hu.out]; exact cdCost_le cd
        have hsum := costTo_le cs L k
        have Hnext : Hid (costTo cs L (k + 1) = costTo cs L k + u) := Lib.hid (by show costTo cs L k + cdCost (cs.getD (L.getD k default).1 default) = _; rw [Hp.out, Hcd.out, Hu.out])
        obtain ⟨su, Hsu⟩ : ∃ su, Hid (costTo cs L k = su) := ⟨_, rfl⟩
        rw [Hsu.out] at Hnext hsum ⊢
        go_wp2_with fail
        refine (scost_any cd _ HCD.out u Hu.out).mono ?_
        rintro e w3 ⟨rfl, hp3⟩
        go_wp2
        go_roundg (L.length - (k + 1))
        case measure => have := Hgk.out; omega
        case rel => exact ⟨k + 1, by have := Hgk.out; omega, by go_num, by rw [Hnext.out]; go_num, hp.trans hp3⟩
      · have hkl : k = L.length := by omega
        subst hkl
        go_wp2
        go_ret
        refine ⟨_, rfl, ⟨fun n' hn' _ => ?_, fun hno => absurd HOK.out hno⟩, HP12.out.trans hp⟩
        obtain rfl : n = n' := by omega
        rw [HL.out]
  · have HOK := Lib.hid hok
    clear hok
    go_enter Try.func43, Try.ntmps43
    go_wp2_with fail
    refine (sok_any _ _ cs a mem _ H.out HM.out hs1 hs2 false (by simp [HOK.out])).mono ?_
    rintro e w1 ⟨rfl, hp1⟩
    go_wp2
    go_ret
    exact ⟨_, rfl, ⟨fun _ _ h => absurd h HOK.out, fun _ => rfl⟩, hp1⟩

end Go.Proofs.Ytokdfgodmhekmaa
