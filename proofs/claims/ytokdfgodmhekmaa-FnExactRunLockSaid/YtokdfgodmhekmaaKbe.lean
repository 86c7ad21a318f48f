/- The memory and the registers of a run, for any arguments, the program's and the reference's. What the laws' walks share. Arguments that came in, opened into the words that the walks use. Arguments of instructions that came in, opened into the words that the walks use. The split step for any arguments, as the program finds it. The trace's cost, as the program finds it; the law that both are the same. What a lane costs, and what lockstep loses, for any arguments, the program's and the reference's. No condition. -/
import Derived.ProofKit
import Derived.OpenShut
import Derived.ChangeOld
import Derived.Deep.Matrix
import Derived.Test.YtokdfgodmhekmaaKab
import Derived.Test.YtokdfgodmhekmaaKac
import Derived.Test.YtokdfgodmhekmaaKba
import Derived.Test.YtokdfgodmhekmaaKbd

namespace Go.Proofs.Ytokdfgodmhekmaa
open Go.RowKit

open Classical in
noncomputable def memA (cs : List Cd) (a : Int) (mem : List Int) : List Int := if RunOk cs a mem then (List.range mem.length).map (lockA cs a mem).M else []
open Classical in
noncomputable def wholeA (cs : List Cd) (a : Int) (mem : List Int) : Bool := decide (RunOk cs a mem) && (splA cs a mem).isNone
theorem memA_ok {cs : List Cd} {n : Nat} {mem : List Int} (h : RunOk cs n mem) : memA cs n mem = (List.range mem.length).map (lockOf cs n mem).M := by
  unfold memA; rw [if_pos h, lockA_ok h]
theorem memA_no {cs : List Cd} {a : Int} {mem : List Int} (h : ¬ RunOk cs a mem) : memA cs a mem = [] := by unfold memA; rw [if_neg h]
theorem memA_len {cs : List Cd} {a : Int} {mem : List Int} : (memA cs a mem).length ≤ mem.length := by
  by_cases h : RunOk cs a mem
  · unfold memA; rw [if_pos h]; simp
  · rw [memA_no h]; simp
theorem wholeA_no {cs : List Cd} {a : Int} {mem : List Int} (h : ¬ RunOk cs a mem) : wholeA cs a mem = false := by unfold wholeA; simp [h]
theorem wholeA_ok {cs : List Cd} {n : Nat} {mem : List Int} (h : RunOk cs n mem) : wholeA cs n mem = !splitH cs n (lockOf cs n mem).H := by
  unfold wholeA splA
  rw [lockA_ok h]
  simp only [h, decide_true, Bool.true_and]
  have e : splitH cs n (lockOf cs n mem).H = (lockOf cs n mem).H.any (splBad cs n) := rfl
  rw [e, show ((n : Int)).toNat = n by omega]
  cases hf : (lockOf cs n mem).H.find? (splBad cs n) with
  | none =>
    rw [List.find?_eq_none] at hf
    have : (lockOf cs n mem).H.any (splBad cs n) = false := by
      rw [List.any_eq_false]; exact fun x hx => by simpa using hf x hx
    rw [this]; rfl
  | some y =>
    have h1 := List.find?_some hf
    have h2 := List.mem_of_find?_eq_some hf
    have : (lockOf cs n mem).H.any (splBad cs n) = true := List.any_eq_true.2 ⟨y, h2, h1⟩
    rw [this]; rfl
theorem memL_own {w : World} {B m : Nat} {v : Value} {M : Nat → Int} (h : OwnO w B 3 1 v m (memL m M)) : OwnO w B 3 1 v ((List.range m).map M).length (((List.range m).map M).map (.int .i64)) := by
  have e : ((List.range m).map M).map (Value.int .i64) = memL m M := by unfold memL; simp
  rw [e]; simpa using h

def RLP (cs : List Cd) (a : Int) (mem : List Int) (w : World) (e : Ending) (w' : World) : Prop :=
  ∃ v, e = .returned (.tuple #[v, .bool (wholeA cs a mem)]) ∧ OwnO w' w.heap.size 3 1 v (memA cs a mem).length ((memA cs a mem).map (.int .i64)) ∧ Pure w w'

set_option maxHeartbeats 2000000 in
set_option maxRecDepth 100000 in
theorem srl_any (vl vm : Value) (cs : List Cd) (a : Int) (mem : List Int) (w : World) (h : Codes w vl cs) (hm : Ints w vm mem) (hs1 : cs.length ≤ 1048576) (hs2 : mem.length ≤ 1048576) :
    Calls Try.prog 16 #[vl, .int .i64 a, vm] w (RLP cs a mem w) := by
  have H := Lib.hid h
  have HM := Lib.hid hm
  obtain ⟨A, c, rfl, hnc, hcm⟩ := h.form
  obtain ⟨Am, cm, rfl⟩ := hm.form
  clear h hm
  by_cases hok : RunOk cs a mem
  · have HOK := Lib.hid hok
    obtain ⟨n, rfl, hn1, hn8⟩ := lanes_nat hok.2.1
    have HE : Hid (memA cs n mem = (List.range mem.length).map (lockOf cs n mem).M) := Lib.hid (memA_ok hok)
    have HW : Hid (wholeA cs n mem = !splitH cs n (lockOf cs n mem).H) := Lib.hid (wholeA_ok hok)
    clear hok
    go_enter Try.func16, Try.ntmps16
    go_wp2_with fail
    refine (sok_any _ _ cs n mem _ H.out HM.out hs1 hs2 true (by simp only [true_iff]; exact HOK.out)).mono ?_
    rintro e w1 ⟨rfl, hp1⟩
    go_wp2_with fail
    refine (sall_any _ _ cs n mem _ (H.out.keep hp1) (HM.out.keep hp1) HOK.out.1 hn1 hn8 HOK.out.2.2).mono ?_
    rintro e w2 ⟨o, vt, rfl, rfl, hcs, hvl, hn, hmm, hck, hrun⟩
    have p3 : w2.cell? ⟨o.p, 3, none⟩ = some o.rm.vm := hrun.obj.cell 3
    have p5 : w2.cell? ⟨o.p, 5, none⟩ = some (.bool (splitH o.cs o.rm.n (lockOf cs n mem).H)) := hrun.obj.cell 5
    rw [hcs, hn] at p5
    have hmem := hrun.rm.mem
    have hB := hrun.base
    rw [hmm, hB] at hmem
    have HMEM := Lib.hid (memL_own hmem)
    have HP := Lib.hid hrun.pure
    clear hrun hcs hvl hn hmm hck hmem hB
    obtain ⟨sp, Hsp⟩ : ∃ sp, Hid (splitH cs n (lockOf cs n mem).H = sp) := ⟨_, Lib.hid rfl⟩
    rw [Hsp.out] at p5 HW
    obtain ⟨vv, Hvv⟩ : ∃ vv, Hid (o.rm.vm = vv) := ⟨_, Lib.hid rfl⟩
    rw [Hvv.out] at p3 HMEM
    go_wp2
    go_quiet (fail)
    go_wp2
    refine bodyPost_ret (results_tmp2 rfl _ _ _) rfl ?_
    refine ⟨vv, by rw [HW.out]; rfl, ?_, hp1.trans (HP.out.trans (by exact (by repeat (first | assumption | exact Pure.refl _ | refine Pure.drewN ?_ _ | refine Pure.drew ?_ | refine Pure.alloc ?_ _ | refine Pure.setCell ?_ (by simp <;> omega) _))))⟩
    rw [HE.out]
    exact (HMEM.out.base' hp1.size).pure (by exact (by repeat (first | assumption | exact Pure.refl _ | refine Pure.drewN ?_ _ | refine Pure.drew ?_ | refine Pure.alloc ?_ _ | refine Pure.setCell ?_ (by simp <;> omega) _)))
  · have HOK := Lib.hid hok
    have HE : Hid (memA cs a mem = []) := Lib.hid (memA_no hok)
    have HW : Hid (wholeA cs a mem = false) := Lib.hid (wholeA_no hok)
    clear hok
    go_enter Try.func16, Try.ntmps16
    go_wp2_with fail
    refine (sok_any _ _ cs a mem _ H.out HM.out hs1 hs2 false (by simp [HOK.out])).mono ?_
    rintro e w1 ⟨rfl, hp1⟩
    go_wp2
    refine bodyPost_ret (results_tmp2 rfl _ _ _) rfl ?_
    refine ⟨_, by rw [HW.out]; rfl, ?_, hp1.trans (by exact (by repeat (first | assumption | exact Pure.refl _ | refine Pure.drewN ?_ _ | refine Pure.drew ?_ | refine Pure.alloc ?_ _ | refine Pure.setCell ?_ (by simp <;> omega) _)))⟩
    rw [HE.out]; exact OwnO.empty_lit hp1.size

set_option maxHeartbeats 2000000 in
set_option maxRecDepth 100000 in
theorem irl_any (vl vm : Value) (cs : List Cd) (a : Int) (mem : List Int) (w : World) (h : Codes w vl cs) (hm : Ints w vm mem) (hs1 : cs.length ≤ 1048576) (hs2 : mem.length ≤ 1048576) :
    Calls Try.prog 19 #[vl, .int .i64 a, vm] w (RLP cs a mem w) := by
  have H := Lib.hid h
  have HM := Lib.hid hm
  obtain ⟨A, c, rfl, hnc, hcm⟩ := h.form
  obtain ⟨Am, cm, rfl⟩ := hm.form
  clear h hm
  by_cases hok : RunOk cs a mem
  · have HOK := Lib.hid hok
    obtain ⟨n, rfl, hn1, hn8⟩ := lanes_nat hok.2.1
    have HE : Hid (memA cs n mem = (List.range mem.length).map (lockOf cs n mem).M) := Lib.hid (memA_ok hok)
    have HW : Hid (wholeA cs n mem = (splA cs n mem).isNone) := Lib.hid (by unfold wholeA; simp [hok])
    have HSA : Hid (splA cs n mem = (lockOf cs n mem).H.find? (splBad cs n)) := Lib.hid (by unfold splA; rw [lockA_ok hok, show ((n : Int)).toNat = n by omega])
    clear hok
    go_enter Try.func19, Try.ntmps19
    go_wp2_with fail
    refine (ilock_any _ _ cs n mem _ H.out HM.out HOK.out.1 hn1 hn8 HOK.out.2.2).mono ?_
    rintro e w1 ⟨o, vb, va, rfl, hp0, hcs, hvl, hlk, hn, hmm, hrun⟩
    have p2 : w1.cell? ⟨o.p, 2, none⟩ = some o.rm.vm := hrun.obj.cell 2
    have hmem := hrun.rm.mem
    have hB := hrun.base
    rw [hmm, hB] at hmem
    have HMEM := Lib.hid (memL_own hmem)
    have HR := Lib.hid hrun
    have HP0 := Lib.hid hp0
    have HIN : Hid (∀ x ∈ (lockOf cs n mem).H, x.1 < o.cs.length) := Lib.hid (by rw [hcs]; exact fun x hx => (lockOf_in HOK.out.1 x hx).2.1)
    have hlen := lockOf_len (n := n) (mem := mem) HOK.out.1
    have HSP : Hid ((lockOf cs n mem).H.find? (splBad o.cs o.rm.n) = splA cs n mem) := Lib.hid (by rw [hcs, hn, HSA.out])
    clear hrun hvl hlk hmem hB hp0 hcs hn hmm
    go_wp2_with fail
    refine (isplit_any o _ _ _ _ HR.out HIN.out (by omega)).mono ?_
    rintro e w2 ⟨rfl, hp2⟩
    rw [HSP.out]
    have z2 := keepPc hp2 p2
    obtain ⟨vv, Hvv⟩ : ∃ vv, Hid (o.rm.vm = vv) := ⟨_, Lib.hid rfl⟩
    rw [Hvv.out] at z2 HMEM
    have HPF : Hid (Pure w w2) := Lib.hid ((HP0.out.trans HR.out.pure).trans hp2)
    have HMF := Lib.hid ((HMEM.out.pure hp2).base' HP0.out.size)
    have hpf := HPF.out
    have hop : o.p < w2.heap.size := World.block_lt_of_cell? _ _ z2
    clear p2
    cases hsp : splA cs n mem with
    | none =>
      have HW2 : Hid (wholeA cs n mem = true) := Lib.hid (by rw [HW.out, hsp]; rfl)
      unfold spl2
      clear hsp
      go_wp2
      refine bodyPost_ret (results_tmp2 rfl _ _ _) rfl ?_
      refine ⟨vv, by rw [HW2.out]; rfl, ?_, by exact (by repeat (first | assumption | exact Pure.refl _ | refine Pure.drewN ?_ _ | refine Pure.drew ?_ | refine Pure.alloc ?_ _ | refine Pure.setCell ?_ (by simp <;> omega) _))⟩
      rw [HE.out]
      exact HMF.out.pure (by exact (by repeat (first | assumption | exact Pure.refl _ | refine Pure.drewN ?_ _ | refine Pure.drew ?_ | refine Pure.alloc ?_ _ | refine Pure.setCell ?_ (by simp <;> omega) _)))
    | some y =>
      have HW2 : Hid (wholeA cs n mem = false) := Lib.hid (by rw [HW.out, hsp]; rfl)
      unfold spl2
      clear hsp
      go_wp2
      refine bodyPost_ret (results_tmp2 rfl _ _ _) rfl ?_
      refine ⟨vv, by rw [HW2.out]; rfl, ?_, by exact (by repeat (first | assumption | exact Pure.refl _ | refine Pure.drewN ?_ _ | refine Pure.drew ?_ | refine Pure.alloc ?_ _ | refine Pure.setCell ?_ (by simp <;> omega) _))⟩
      rw [HE.out]
      exact HMF.out.pure (by exact (by repeat (first | assumption | exact Pure.refl _ | refine Pure.drewN ?_ _ | refine Pure.drew ?_ | refine Pure.alloc ?_ _ | refine Pure.setCell ?_ (by simp <;> omega) _)))
  · have HOK := Lib.hid hok
    have HE : Hid (memA cs a mem = []) := Lib.hid (memA_no hok)
    have HW : Hid (wholeA cs a mem = false) := Lib.hid (wholeA_no hok)
    clear hok
    go_enter Try.func19, Try.ntmps19
    go_wp2_with fail
    refine (ino_any _ _ cs a mem _ H.out HM.out hs1 hs2 HOK.out).mono ?_
    rintro e w1 ⟨rfl, hp1⟩
    go_wp2
    refine bodyPost_ret (results_tmp2 rfl _ _ _) rfl ?_
    refine ⟨_, by rw [HW.out]; rfl, ?_, hp1⟩
    rw [HE.out]; exact OwnO.of_own (World.ownsRow_nil _ _ _ _)

end Go.Proofs.Ytokdfgodmhekmaa

namespace Go.Proofs.Ytokdfgodmhekmaa
open Go.RowKit

theorem ints_of_row {w : World} {B e : Nat} {v : Value} {ys : List Int} (h : w.ownsRow B e 1 v ys.length (ys.map (.int .i64))) : Ints w v ys := Ints.of_map h
theorem OwnO.of_own' {w : World} {B e s n : Nat} {v : Value} {xs : List Value} (h : w.ownsRow B e s v n xs) : OwnO w B e s v n xs := OwnO.of_own h

end Go.Proofs.Ytokdfgodmhekmaa

namespace Go.Proofs.Ytokdfgodmhekmaa
open Go.ChangeShapes Go.WideShapes Go.ChangeAt Go.RowKit Go.Deep

theorem own_knob : ownKnob Try.prog.godebug = none := by kernel_rfl
theorem laid_out : laidOutB Try.prog = true := by kernel_rfl

theorem addr_form {w : World} {a : Addr} {v : Value} (h : w.cell? a = some v) : ∃ b o, a = ⟨b, o, none⟩ := by
  obtain ⟨b, o, s⟩ := a
  have := World.cell?_spot h
  simp only at this
  subst this
  exact ⟨b, o, rfl⟩
theorem block_of_cell {w : World} {b o : Nat} {v : Value} (h : w.cell? ⟨b, o, none⟩ = some v) : b < w.heap.size := World.block_lt_of_cell? w ⟨b, o, none⟩ h

theorem Cells.of_addr {w : World} {a : Addr} {len cap s : Nat} {f : Nat → Value} (hs : 0 < s) (h1 : len ≤ cap) (h2 : cap ≤ maxLen) (hc : ∀ j, j < len * s → w.cell? (a.add j) = some (f j)) : Cells w (.slice (some a) len cap) len s f := by
  refine ⟨_, cap, rfl, h1, by unfold maxLen at h2; omega, fun hn => ?_⟩
  have h0 := hc 0 (Nat.mul_pos hn hs)
  obtain ⟨b, o, rfl⟩ := addr_form (show w.cell? a = some (f 0) by simpa [Addr.add] using h0)
  refine ⟨b, o, rfl, block_of_cell (show w.cell? ⟨b, o, none⟩ = some (f 0) by simpa [Addr.add] using h0), fun j hj => ?_⟩
  rw [← add_mid]; exact hc j hj

section
variable {H : Type} {enc : TypeId × Value → H} {W : World} {base : Nat} {held : Bool}

theorem ints_open {fuel : Nat} {cs : List Value} {x : DataW H × List MemPlace} (h : DataW.trod enc Try.prog W base (fun _ => true) held fuel 23 cs = some x) : ∃ v xs, cs = [v] ∧ Ints W v xs ∧ xs.length * 8 ≤ maxLen * 8 := by
  rcases open_ints Try.underlying23 Try.underlying3 (by kernel_rfl) h with ⟨hcs, _⟩ | ⟨a, len, cap, zs, hcs, _, hl, hm, hz, _, hcell, hwz⟩
  · exact ⟨_, [], hcs, ⟨none, 0, rfl, by simp, by omega, fun h => absurd h (by simp)⟩, by simp⟩
  · simp only [if_true] at hz
    refine ⟨_, zs.take len, hcs, ?_, by simp; have := hm; omega⟩
    have hlen : (zs.take len).length = len := by simp; omega
    unfold Ints
    rw [hlen]
    refine Cells.of_addr (by omega) hl hm fun j hj => ?_
    rw [hcell j (by omega)]
    have : j < len := by omega
    simp [List.getD_eq_getElem?_getD, List.getElem?_take, this]

theorem introws_open {fuel : Nat} {cs : List Value} {x : DataW H × List MemPlace} (h : DataW.trod enc Try.prog W base (fun _ => true) held fuel 39 cs = some x) : ∃ v xss, cs = [v] ∧ IntRows W v xss := by
  rcases open_int_rows Try.underlying39 Try.underlying23 Try.underlying3 (by kernel_rfl) (by kernel_rfl) h with ⟨hcs, _⟩ | ⟨a, len, cap, A, L, C, Z, hcs, _, hl, hm, _, hr⟩
  · exact ⟨_, [], hcs, ⟨none, 0, rfl, by simp, by omega, fun h => absurd h (by simp)⟩⟩
  · refine ⟨_, (List.range len).map fun r => (Z r).take (L r), hcs, ?_⟩
    have hlen : ((List.range len).map fun r => (Z r).take (L r)).length = len := by simp
    refine ⟨some a, cap, by rw [hlen], by rw [hlen]; exact hl, by unfold maxLen at hm; omega, fun hn => ?_⟩
    rw [hlen] at hn
    have h0 := (hr 0 (by omega)).1
    obtain ⟨b, o, rfl⟩ := addr_form (show W.cell? a = _ by simpa [Addr.add] using h0)
    refine ⟨b, o, rfl, block_of_cell (show W.cell? ⟨b, o, none⟩ = _ by simpa [Addr.add] using h0), fun k hk => ?_⟩
    rw [hlen] at hk
    obtain ⟨c1, c2, c3, c4, c5, c6, c7⟩ := hr k (by omega)
    refine ⟨_, by rw [← add_mid]; exact c1, ?_⟩
    have hrow : ((List.range len).map fun r => (Z r).take (L r)).getD k [] = (Z k).take (L k) := by simp [List.getD_eq_getElem?_getD, hk]
    rw [hrow]
    have hl2 : ((Z k).take (L k)).length = L k := by simp; omega
    unfold Ints
    rw [hl2]
    cases hA : A k with
    | none =>
      have := c6 hA
      exact ⟨none, C k, rfl, by omega, by unfold maxLen at c3; omega, fun h => absurd h (by omega)⟩
    | some a' =>
      refine Cells.of_addr (by omega) c2 c3 fun j hj => ?_
      rw [(c7 a' hA).2 j (by omega)]
      have : j < L k := by omega
      simp [List.getD_eq_getElem?_getD, List.getElem?_take, this]
end
end Go.Proofs.Ytokdfgodmhekmaa

namespace Go.Proofs.Ytokdfgodmhekmaa
open Go.ChangeShapes Go.WideShapes Go.ChangeAt Go.RowKit Go.Deep

section
variable {H : Type} {enc : TypeId × Value → H} {W : World} {base : Nat} {held : Bool}

set_option maxRecDepth 100000 in
theorem codes_open {fuel : Nat} {cs : List Value} {x : DataW H × List MemPlace} (h : DataW.trod enc Try.prog W base (fun _ => true) held fuel 22 cs = some x) : ∃ v xs, cs = [v] ∧ Codes W v xs := by
  rcases open_slice Try.underlying22 h with ⟨hcs, _⟩ | ⟨a, len, cap, m, n, D, Pl, hcs, _, hl, hm, hmm, _, hx⟩
  · exact ⟨_, [], hcs, ⟨none, 0, rfl, by simp, by omega, fun h => absurd h (by simp)⟩⟩
  · simp only [if_true] at hmm
    subst hmm
    have c67 : Try.prog.cellsOf 63 = 4 := by kernel_rfl
    have c3 : Try.prog.cellsOf 3 = 1 := by kernel_rfl
    have each : ∀ i, i < m → ∃ c : Cd, W.cell? (a.add (i * 4)) = some (.int .i64 c.op) ∧ W.cell? (a.add (i * 4 + 1)) = some (.int .i64 c.a) ∧ W.cell? (a.add (i * 4 + 2)) = some (.int .i64 c.b) ∧ W.cell? (a.add (i * 4 + 3)) = some (.int .i64 c.c) := by
      intro i hi
      obtain ⟨cs', h1, h2⟩ := hx i hi
      rw [c67] at h1
      obtain ⟨_, hlen, hcell⟩ := World.cells?_some h1
      obtain ⟨xs, k, hk, hxy, _, hxl, hf⟩ := DataW.trod_struct Try.underlying63 h2
      match cs', hlen with
      | [v0, v1, v2, v3], _ =>
        have g0 := hf 0 _ rfl
        have g1 := hf 1 _ rfl
        have g2 := hf 2 _ rfl
        have g3 := hf 3 _ rfl
        have e0 := hcell 0 (by omega)
        have e1 := hcell 1 (by omega)
        have e2 := hcell 2 (by omega)
        have e3 := hcell 3 (by omega)
        rw [add_add] at e0 e1 e2 e3
        match xs, hxl with
        | [y0, y1, y2, y3], _ =>
          simp [c3] at g0 g1 g2 g3
          obtain ⟨z0, hz0, _⟩ := DataW.trod_int Try.underlying3 g0
          obtain ⟨z1, hz1, _⟩ := DataW.trod_int Try.underlying3 g1
          obtain ⟨z2, hz2, _⟩ := DataW.trod_int Try.underlying3 g2
          obtain ⟨z3, hz3, _⟩ := DataW.trod_int Try.underlying3 g3
          simp only [List.cons.injEq, and_true] at hz0 hz1 hz2 hz3
          subst hz0 hz1 hz2 hz3
          exact ⟨⟨z0, z1, z2, z3⟩, by simpa using e0, by simpa using e1, by simpa using e2, by simpa using e3⟩
    obtain ⟨q, hq⟩ := choose_lt each
    refine ⟨_, (List.range len).map q, hcs, ?_⟩
    have hlen : ((List.range len).map q).length = len := by simp
    unfold Codes
    rw [hlen]
    refine Cells.of_addr (by omega) hl hm fun j hj => ?_
    have hj4 : j / 4 < len := by omega
    have hd : ((List.range len).map q).getD (j / 4) default = q (j / 4) := by simp [List.getD_eq_getElem?_getD, hj4]
    obtain ⟨a0, a1, a2, a3⟩ := hq (j / 4) (by omega)
    unfold cdf
    rw [hd]
    have hm4 : j % 4 < 4 := Nat.mod_lt _ (by decide)
    have hsplit : j = j / 4 * 4 + j % 4 := by omega
    clear hd
    generalize j / 4 = p at *
    generalize j % 4 = r at *
    subst hsplit
    match r, hm4 with
    | 0, _ => exact a0
    | 1, _ => exact a1
    | 2, _ => exact a2
    | 3, _ => exact a3
end
end Go.Proofs.Ytokdfgodmhekmaa

namespace Go.Proofs.Ytokdfgodmhekmaa
open Go.RowKit

set_option maxHeartbeats 2000000 in
set_option maxRecDepth 100000 in
theorem ispl_any (vl vm : Value) (cs : List Cd) (a : Int) (mem : List Int) (w : World) (h : Codes w vl cs) (hm : Ints w vm mem) (hs1 : cs.length ≤ 1048576) (hs2 : mem.length ≤ 1048576) :
    Calls Try.prog 36 #[vl, .int .i64 a, vm] w fun e w' => e = .returned (spl2 (splA cs a mem)) ∧ Pure w w' := by
  have H := Lib.hid h
  have HM := Lib.hid hm
  obtain ⟨A, c, rfl, hnc, hcm⟩ := h.form
  obtain ⟨Am, cm, rfl⟩ := hm.form
  clear h hm
  by_cases hok : RunOk cs a mem
  · have HOK := Lib.hid hok
    obtain ⟨n, rfl, hn1, hn8⟩ := lanes_nat hok.2.1
    have HSA : Hid (splA cs n mem = (lockOf cs n mem).H.find? (splBad cs n)) := Lib.hid (by unfold splA; rw [lockA_ok hok, show ((n : Int)).toNat = n by omega])
    clear hok
    have HZ := Lib.hid (heap_alloc_new w (.cells #[.int .i64 0, .int .i64 0] 44))
    have hp0 : Pure w (w.alloc (.cells #[.int .i64 0, .int .i64 0] 44)) := by exact (by repeat (first | assumption | exact Pure.refl _ | refine Pure.drewN ?_ _ | refine Pure.drew ?_ | refine Pure.alloc ?_ _ | refine Pure.setCell ?_ (by simp <;> omega) _))
    have HP00 := Lib.hid hp0
    clear hp0
    go_enter Try.func36, Try.ntmps36
    go_wp2_with fail
    refine (ilock_any _ _ cs n mem _ (H.out.keep HP00.out) (HM.out.keep HP00.out) HOK.out.1 hn1 hn8 HOK.out.2.2).mono ?_
    rintro e w1 ⟨o, vb, va, rfl, hp0, hcs, hvl, hlk, hn, hmm, hrun⟩
    have HR := Lib.hid hrun
    have HP1 := Lib.hid (hp0.trans hrun.pure)
    have HIN : Hid (∀ x ∈ (lockOf cs n mem).H, x.1 < o.cs.length) := Lib.hid (by rw [hcs]; exact fun x hx => (lockOf_in HOK.out.1 x hx).2.1)
    have hlen := lockOf_len (n := n) (mem := mem) HOK.out.1
    have HSP : Hid ((lockOf cs n mem).H.find? (splBad o.cs o.rm.n) = splA cs n mem) := Lib.hid (by rw [hcs, hn, HSA.out])
    clear hrun hvl hlk hp0 hcs hn hmm
    go_wp2_with fail
    refine (isplit_any o _ _ _ _ HR.out HIN.out (by omega)).mono ?_
    rintro e w2 ⟨rfl, hp2⟩
    rw [HSP.out]
    have HPF : Hid (Pure w w2) := Lib.hid ((HP00.out.trans HP1.out).trans hp2)
    have hpf := HPF.out
    have hz : w2.heap[w.heap.size]? = some (.cells #[.int .i64 0, .int .i64 0] 44 (0, 0)) := (Chg.of_pure (S := fun _ => False) (HP1.out.trans hp2)).heap HZ.out id
    have HZ2 := Lib.hid hz
    have c0 : w2.cell? ⟨w.heap.size, 0, none⟩ = some (.int .i64 0) := (cell_of_row w2 _ 0 _ _ _ hz).trans rfl
    have c1 : w2.cell? ⟨w.heap.size, 1, none⟩ = some (.int .i64 0) := (cell_of_row w2 _ 1 _ _ _ hz).trans rfl
    have f0 := frozen_of_row w2 w.heap.size 0 _ _ hz
    have f1 := frozen_of_row w2 w.heap.size 1 _ _ hz
    clear hp2 hz
    cases hsp : splA cs n mem with
    | none =>
      have HQ : Hid (spl2 (splA cs n mem) = .tuple #[.agg #[.int .i64 0, .int .i64 0], .bool false]) := Lib.hid (by rw [hsp]; rfl)
      unfold spl2
      clear hsp
      go_wp2
      obtain ⟨y0, y1, y2⟩ := pair_set HZ2.out (.int .i64 0) (.int .i64 0)
      refine bodyPost_ret (v := .tuple #[.agg #[.int .i64 0, .int .i64 0], .bool false]) (by simp [results, Try.results36, go_sem, y0, y1, y2]) rfl ?_
      exact ⟨by rw [HQ.out], by exact (by repeat (first | assumption | exact Pure.refl _ | refine Pure.drewN ?_ _ | refine Pure.drew ?_ | refine Pure.alloc ?_ _ | refine Pure.setCell ?_ (by simp <;> omega) _))⟩
    | some y =>
      obtain ⟨u0, u1, u2⟩ := y
      have HQ : Hid (spl2 (splA cs n mem) = .tuple #[.agg #[.int .i64 (u0 : Int), .int .i64 (u1 : Int)], .bool true]) := Lib.hid (by rw [hsp]; rfl)
      unfold spl2
      clear hsp
      simp only
      go_wp2
      obtain ⟨y0, y1, y2⟩ := pair_set HZ2.out (.int .i64 (u0 : Int)) (.int .i64 (u1 : Int))
      refine bodyPost_ret (v := .tuple #[.agg #[.int .i64 (u0 : Int), .int .i64 (u1 : Int)], .bool true]) (by simp [results, Try.results36, go_sem, y0, y1, y2]) rfl ?_
      exact ⟨by rw [HQ.out], by exact (by repeat (first | assumption | exact Pure.refl _ | refine Pure.drewN ?_ _ | refine Pure.drew ?_ | refine Pure.alloc ?_ _ | refine Pure.setCell ?_ (by simp <;> omega) _))⟩
  · have HOK := Lib.hid hok
    have HSA : Hid (splA cs a mem = none) := Lib.hid (by unfold splA; rw [lockA_no hok]; rfl)
    have HZ := Lib.hid (heap_alloc_new w (.cells #[.int .i64 0, .int .i64 0] 44))
    have hp0 : Pure w (w.alloc (.cells #[.int .i64 0, .int .i64 0] 44)) := by exact (by repeat (first | assumption | exact Pure.refl _ | refine Pure.drewN ?_ _ | refine Pure.drew ?_ | refine Pure.alloc ?_ _ | refine Pure.setCell ?_ (by simp <;> omega) _))
    have HP00 := Lib.hid hp0
    clear hok hp0
    rw [HSA.out]
    unfold spl2
    go_enter Try.func36, Try.ntmps36
    go_wp2_with fail
    refine (ino_any _ _ cs a mem _ (H.out.keep HP00.out) (HM.out.keep HP00.out) hs1 hs2 HOK.out).mono ?_
    rintro e w1 ⟨rfl, hp1⟩
    have hz : w1.heap[w.heap.size]? = some (.cells #[.int .i64 0, .int .i64 0] 44 (0, 0)) := (Chg.of_pure (S := fun _ => False) hp1).heap HZ.out id
    have HZ2 := Lib.hid hz
    have hpf := HP00.out.trans hp1
    have c0 : w1.cell? ⟨w.heap.size, 0, none⟩ = some (.int .i64 0) := (cell_of_row w1 _ 0 _ _ _ hz).trans rfl
    have c1 : w1.cell? ⟨w.heap.size, 1, none⟩ = some (.int .i64 0) := (cell_of_row w1 _ 1 _ _ _ hz).trans rfl
    have f0 := frozen_of_row w1 w.heap.size 0 _ _ hz
    have f1 := frozen_of_row w1 w.heap.size 1 _ _ hz
    clear hp1 hz
    go_wp2
    obtain ⟨y0, y1, y2⟩ := pair_set HZ2.out (.int .i64 0) (.int .i64 0)
    refine bodyPost_ret (v := .tuple #[.agg #[.int .i64 0, .int .i64 0], .bool false]) (by simp [results, Try.results36, go_sem, y0, y1, y2]) rfl ?_
    exact ⟨rfl, by exact (by repeat (first | assumption | exact Pure.refl _ | refine Pure.drewN ?_ _ | refine Pure.drew ?_ | refine Pure.alloc ?_ _ | refine Pure.setCell ?_ (by simp <;> omega) _))⟩

end Go.Proofs.Ytokdfgodmhekmaa

namespace Go.Proofs.Ytokdfgodmhekmaa
open Go.RowKit

/-- What the steps below j cost that one of the lanes of b takes. -/
def costM (cs : List Cd) (b : Nat) (H : List (Nat × Nat × (Nat → Nat → Int))) : Nat → Nat
  | 0 => 0
  | j + 1 => if (H.getD j default).2.1 &&& b = 0 then costM cs b H j else costM cs b H j + cdCost (cs.getD (H.getD j default).1 default)
theorem costM_le (cs : List Cd) (b : Nat) (H : List (Nat × Nat × (Nat → Nat → Int))) : ∀ j, costM cs b H j ≤ 4 * j
  | 0 => Nat.le_refl _
  | j + 1 => by
    have h1 := costM_le cs b H j
    have h2 := cdCost_le (cs.getD (H.getD j default).1 default)
    unfold costM
    split <;> omega
theorem costM_all {cs : List Cd} {n : Nat} {H : List (Nat × Nat × (Nat → Nat → Int))} (h : ∀ x ∈ H, StepIn n 0 cs.length x) : ∀ j, j ≤ H.length → costM cs (2 ^ n - 1) H j = costTo cs H j
  | 0, _ => rfl
  | j + 1, hj => by
    have ih := costM_all h j (by omega)
    have hx := h _ (getD_mem' (show j < H.length by omega))
    unfold costM costTo
    rw [Nat.and_two_pow_sub_one_eq_mod, Nat.mod_eq_of_lt hx.2.2.2, if_neg hx.2.2.1, ih]

theorem neqI (x y : Nat) : (((x : Int) != (y : Int)) = true ∧ x ≠ y) ∨ (((x : Int) != (y : Int)) = false ∧ x = y) := by
  by_cases h : x = y
  · exact .inr ⟨by simp [h], h⟩
  · exact .inl ⟨by simp; omega, h⟩

/-- The cells that a step's cost is read from. -/
def CostS (P M : Nat) (vl : Value) (p g b k : Nat) (cd : Cd) (w : World) : Prop :=
  w.cell? ⟨P, 0, none⟩ = some (.pointer (some ⟨M, 0, none⟩)) ∧ w.cell? ⟨M, 0, none⟩ = some vl ∧ w.cell? ⟨g, 0, none⟩ = some (.int .i64 p) ∧
  w.cell? ⟨b, k, none⟩ = some (.int .i64 cd.op) ∧ w.cell? ⟨b, k + 1, none⟩ = some (.int .i64 cd.a) ∧ w.cell? ⟨b, k + 2, none⟩ = some (.int .i64 cd.b) ∧ w.cell? ⟨b, k + 3, none⟩ = some (.int .i64 cd.c)

set_option maxHeartbeats 2000000 in
set_option maxRecDepth 100000 in
theorem lcost_any (o : IObj) (hv : PValid o.cs) (b : Nat) (hb : b < 256) (w : World) (vb va : Value) (s : LS) (hr : ORun o w vb va s) (hin : ∀ x ∈ s.H, StepIn o.rm.n 0 o.cs.length x) (hlen : s.H.length ≤ 2560) (hn8 : o.rm.n ≤ 8) :
    Calls Try.prog 67 #[.pointer (some ⟨o.p, 0, none⟩), .int .i64 b] w fun e w' => e = .returned (.int .i64 (costM o.cs b s.H s.H.length : Nat)) ∧ Pure w w' := by
  have HV := Lib.hid hv
  have HIN := Lib.hid hin
  have HC := Lib.hid hr.codes
  have HPW := Lib.hid hr.pure
  obtain ⟨cs, Hcs⟩ : ∃ cs, Hid (o.cs = cs) := ⟨_, rfl⟩
  obtain ⟨L, HL⟩ : ∃ L, Hid (s.H = L) := ⟨_, rfl⟩
  rw [Hcs.out] at HV HIN HC ⊢
  have HB := Lib.hid hr.bt
  have hvl : w.cell? ⟨o.pm, 0, none⟩ = some o.vl := keepPc hr.pure hr.mach.1
  have m0 : w.cell? ⟨o.p, 0, none⟩ = some (.pointer (some ⟨o.pm, 0, none⟩)) := hr.obj.cell 0
  have m3 : w.cell? ⟨o.p, 3, none⟩ = some vb := hr.obj.cell 3
  rw [HL.out] at HIN hlen HB ⊢
  obtain ⟨Av, cv, rfl⟩ := HB.out.form
  obtain ⟨vl, Hvl⟩ : ∃ vl, Hid (o.vl = vl) := ⟨_, rfl⟩
  rw [Hvl.out] at hvl HC
  obtain ⟨A, c, rfl, hnc, hcm⟩ := HC.out.form
  clear hv hin hr
  go_enter Try.func67, Try.ntmps67
  go_wp2
  go_loopg [5, 13] L.length (fun gk q i wr => ∃ k : Nat, gk + k = L.length ∧ i = .int .i64 k ∧ q = .int .i64 (costM cs b L k : Nat) ∧ Pure w wr)
  case atStart => exact ⟨0, rfl, rfl, rfl, Pure.refl _⟩
  case round =>
    obtain ⟨k, hgk, rfl, rfl, hp⟩ := hrel
    have Hgk := Lib.hid hgk
    have hkn : k ≤ L.length := by omega
    clear hgk
    by_cases hlt : k < L.length
    · obtain ⟨g, off, c', hvv, h1, h2, h3, h4⟩ := HB.out.formSome (by omega)
      injection hvv with e1 e2 e3
      subst e1
      subst e3
      have q0 := (HB.out.pure hp).cell (k * 2) (by omega)
      have q1 := (HB.out.pure hp).cell (k * 2 + 1) (by omega)
      rw [show beatsI L = beatsL L from rfl, (beatsL_at L k hlt).1] at q0
      rw [show beatsI L = beatsL L from rfl, (beatsL_at L k hlt).2, ← Nat.add_assoc] at q1
      have hst := HIN.out _ (getD_mem' hlt)
      obtain ⟨p, Hp⟩ : ∃ p, Hid ((L.getD k default).1 = p) := ⟨_, rfl⟩
      obtain ⟨mk, Hmk⟩ : ∃ mk, Hid ((L.getD k default).2.1 = mk) := ⟨_, rfl⟩
      have hpl : p < cs.length := by rw [← Hp.out]; exact hst.2.1
      have hmk : mk < 256 := by rw [← Hmk.out]; exact Nat.lt_of_lt_of_le hst.2.2.2 (powI hn8)
      rw [Hp.out] at q0
      rw [Hmk.out] at q1
      clear hst
      obtain ⟨bb, oo, rfl, hbb, hc⟩ := HC.out.at_ hpl
      obtain ⟨cd, Hcd⟩ : ∃ cd, Hid (cs.getD p default = cd) := ⟨_, rfl⟩
      have hat := hc.keep (HPW.out.trans hp) hbb
      rw [Hcd.out] at hat
      obtain ⟨r0, r1, r2, r3⟩ := hat
      clear hc
      have HCD : Hid (CdOk cd) := Lib.hid (by rw [← Hcd.out]; exact HV.out.1 _ (cdOk_mem hpl))
      obtain ⟨u, Hu⟩ : ∃ u, Hid (cdCost cd = u) := ⟨_, rfl⟩
      have hu4 : u ≤ 4 := by rw [← Hu.out]; exact cdCost_le cd
      have hsum := costM_le cs b L k
      have hband : bits .and .i64 (mk : Int) (b : Int) = ((mk &&& b : Nat) : Int) := bits_and (by omega) (by omega)
      obtain ⟨x, Hx⟩ : ∃ x, Hid (mk &&& b = x) := ⟨_, rfl⟩
      rw [Hx.out] at hband
      have Hnext : Hid (costM cs b L (k + 1) = if x = 0 then costM cs b L k else costM cs b L k + u) := Lib.hid (by
        show (if (L.getD k default).2.1 &&& b = 0 then _ else _ + cdCost (cs.getD (L.getD k default).1 default)) = _
        rw [Hp.out, Hcd.out, Hu.out, Hmk.out, Hx.out])
      obtain ⟨su, Hsu⟩ : ∃ su, Hid (costM cs b L k = su) := ⟨_, rfl⟩
      rw [Hsu.out] at Hnext hsum ⊢
      have n0 := keepPc hp m0
      have n3 := keepPc hp m3
      have nv := keepPc hp hvl
      have HPA := Lib.hid (show Pure w (wr.alloc (.cells #[.int .i64 p, .int .i64 mk] 44)) from Pure.alloc hp _)
      by_cases hx0 : x = 0
      · subst hx0
        have Hn2 : Hid (costM cs b L (k + 1) = su) := Lib.hid (by rw [Hnext.out, if_pos rfl])
        go_wp2
        go_roundg (L.length - (k + 1))
        case measure => have := Hgk.out; omega
        case rel => exact ⟨k + 1, by have := Hgk.out; omega, by go_num, by rw [Hn2.out], HPA.out⟩
      · have Hn2 : Hid (costM cs b L (k + 1) = su + u) := Lib.hid (by rw [Hnext.out, if_neg hx0])
        have hxn : ((x : Int) != 0) = true := by simp [hx0]
        clear hx0
        have hpd : Pure wr (wr.alloc (.cells #[.int .i64 p, .int .i64 mk] 44)).drew := Pure.drew (Pure.alloc (Pure.refl _) _)
        have t0 := keepPc hpd n0
        have tv := keepPc hpd nv
        have s0 := keepPc hpd r0
        have s1 := keepPc hpd r1
        have s2 := keepPc hpd r2
        have s3 := keepPc hpd r3
        have x0 : (wr.alloc (.cells #[.int .i64 p, .int .i64 mk] 44)).cell? ⟨wr.heap.size, 0, none⟩ = some (.int .i64 p) := (cell_of_row _ _ 0 _ _ _ (heap_alloc_new wr (.cells #[.int .i64 p, .int .i64 mk] 44))).trans rfl
        have x1 : (wr.alloc (.cells #[.int .i64 p, .int .i64 mk] 44)).drew.cell? ⟨wr.heap.size, 0, none⟩ = some (.int .i64 p) := keepPc (Pure.drew (Pure.refl _)) x0
        clear hpd x0
        go_wp2_with fail
        refine region_heldF (CostS o.p o.pm (.slice (some ⟨bb, oo, none⟩) cs.length c) p wr.heap.size bb (oo + p * 4) cd) (List.range 12) [12, 13, 14] (fun l => List.take 12 l) (fun l => List.drop 12 l) (by kernel_rfl) (by kernel_rfl) (by kernel_rfl) (by kernel_rfl) (fun c a d v w h => by cases d <;> exact h) (by exact ⟨t0, tv, x1, s0, s1, s2, s3⟩) ?_
        simp only [List.take_succ_cons, List.take_zero, List.drop_succ_cons, List.drop_zero, List.cons_append, List.nil_append]
        apply held_of
        · exact rfl
        · intro w' hS
          obtain ⟨y0, y1, y2, y3, y4, y5, y6⟩ := hS
          go_simp
          try exact rfl
        try go_simp
        apply held_of
        · exact rfl
        · intro w' hS
          obtain ⟨y0, y1, y2, y3, y4, y5, y6⟩ := hS
          go_simp
          try exact rfl
        try go_simp
        apply held_of
        · exact rfl
        · intro w' hS
          obtain ⟨y0, y1, y2, y3, y4, y5, y6⟩ := hS
          go_simp
          try exact rfl
        try go_simp
        apply held_of
        · exact rfl
        · intro w' hS
          obtain ⟨y0, y1, y2, y3, y4, y5, y6⟩ := hS
          go_simp
          try exact rfl
        try go_simp
        apply held_of
        · exact rfl
        · intro w' hS
          obtain ⟨y0, y1, y2, y3, y4, y5, y6⟩ := hS
          go_simp
          try exact rfl
        try go_simp
        apply held_of
        · exact rfl
        · intro w' hS
          obtain ⟨y0, y1, y2, y3, y4, y5, y6⟩ := hS
          go_simp
          try exact rfl
        try go_simp
        apply held_of
        · exact rfl
        · intro w' hS
          obtain ⟨y0, y1, y2, y3, y4, y5, y6⟩ := hS
          go_simp
          try exact rfl
        try go_simp
        apply held_of
        · exact rfl
        · intro w' hS
          obtain ⟨y0, y1, y2, y3, y4, y5, y6⟩ := hS
          go_simp
          try exact rfl
        try go_simp
        apply held_of
        · exact rfl
        · intro w' hS
          obtain ⟨y0, y1, y2, y3, y4, y5, y6⟩ := hS
          go_simp
          try exact rfl
        try go_simp
        apply held_of
        · exact rfl
        · intro w' hS
          obtain ⟨y0, y1, y2, y3, y4, y5, y6⟩ := hS
          go_simp
          try exact rfl
        try go_simp
        apply held_of
        · exact rfl
        · intro w' hS
          obtain ⟨y0, y1, y2, y3, y4, y5, y6⟩ := hS
          go_simp
          try exact rfl
        try go_simp
        apply held_of
        · exact rfl
        · intro w' hS
          obtain ⟨y0, y1, y2, y3, y4, y5, y6⟩ := hS
          go_simp
          try exact rfl
        try go_simp
        refine held_nil ?_
        unfold Tail
        go_wp2_with fail
        refine (icost_any cd _ HCD.out u Hu.out).mono ?_
        rintro e w3 ⟨rfl, hp3⟩
        have hS3 : CostS o.p o.pm (.slice (some ⟨bb, oo, none⟩) cs.length c) p wr.heap.size bb (oo + p * 4) cd w3 := ⟨keepPc hp3 t0, keepPc hp3 tv, keepPc hp3 x1, keepPc hp3 s0, keepPc hp3 s1, keepPc hp3 s2, keepPc hp3 s3⟩
        have HS3 := Lib.hid hS3
        clear hS3
        go_wp2
        refine And.intro HS3.out ?_
        unfold Tail
        go_wp2
        refine And.intro HS3.out ?_
        unfold Tail
        go_wp2
        go_roundg (L.length - (k + 1))
        case measure => have := Hgk.out; omega
        case rel => exact ⟨k + 1, by have := Hgk.out; omega, by go_num, by rw [Hn2.out]; go_num, (Pure.drew HPA.out).trans hp3⟩
    · have hkl : k = L.length := by omega
      subst hkl
      go_wp2
      go_ret
      exact ⟨rfl, hp⟩

end Go.Proofs.Ytokdfgodmhekmaa

namespace Go.Proofs.Ytokdfgodmhekmaa
open Go.RowKit

open Classical in
noncomputable def laneA (cs : List Cd) (a : Int) (mem : List Int) (n0 : Int) : Int :=
  if RunOk cs a mem ∧ 0 ≤ n0 ∧ n0 ≤ a - 1 then (costM cs (2 ^ n0.toNat) (lockA cs a mem).H (lockA cs a mem).H.length : Nat) else -1
theorem laneA_ok {cs : List Cd} {n k : Nat} {mem : List Int} (h : RunOk cs n mem) (hk : k < n) : laneA cs n mem k = (costM cs (2 ^ k) (lockOf cs n mem).H (lockOf cs n mem).H.length : Nat) := by
  unfold laneA
  rw [if_pos ⟨h, by omega, by omega⟩, lockA_ok h]; rfl
theorem laneA_no {cs : List Cd} {a : Int} {mem : List Int} {n0 : Int} (h : ¬ (RunOk cs a mem ∧ 0 ≤ n0 ∧ n0 ≤ a - 1)) : laneA cs a mem n0 = -1 := by
  unfold laneA; rw [if_neg h]
theorem bit_and (mk k : Nat) : (mk &&& 2 ^ k = 0) ↔ mk.testBit k = false := by
  constructor
  · intro h
    have : (mk &&& 2 ^ k).testBit k = false := by rw [h]; simp
    rw [Nat.testBit_and, Nat.testBit_two_pow_self, Bool.and_true] at this
    exact this
  · intro h
    apply Nat.eq_of_testBit_eq
    intro i
    rw [Nat.testBit_and, Nat.testBit_two_pow, Nat.zero_testBit]
    by_cases e : k = i
    · subst e; simp [h]
    · simp [e]
theorem costM_bit (cs : List Cd) (k : Nat) (H : List (Nat × Nat × (Nat → Nat → Int))) (j : Nat) : costM cs (2 ^ k) H (j + 1) = if (H.getD j default).2.1.testBit k then costM cs (2 ^ k) H j + cdCost (cs.getD (H.getD j default).1 default) else costM cs (2 ^ k) H j := by
  show (if (H.getD j default).2.1 &&& 2 ^ k = 0 then _ else _ : Nat) = _
  by_cases hb : (H.getD j default).2.1.testBit k = true
  · rw [if_pos hb, if_neg (fun h => by rw [(bit_and _ _).1 h] at hb; cases hb)]
  · rw [if_neg hb, if_pos ((bit_and _ _).2 (by simpa using hb))]

set_option maxHeartbeats 2000000 in
set_option maxRecDepth 100000 in
theorem slane_any (vl vm : Value) (cs : List Cd) (a : Int) (mem : List Int) (n0 : Int) (w : World) (h : Codes w vl cs) (hm : Ints w vm mem) (hs1 : cs.length ≤ 1048576) (hs2 : mem.length ≤ 1048576) :
    Calls Try.prog 45 #[vl, .int .i64 a, vm, .int .i64 n0] w fun e w' => e = .returned (.int .i64 (laneA cs a mem n0)) ∧ Pure w w' := by
  have H := Lib.hid h
  have HM := Lib.hid hm
  obtain ⟨A, c, rfl, hnc, hcm⟩ := h.form
  obtain ⟨Am, cm, rfl⟩ := hm.form
  clear h hm
  by_cases hok : RunOk cs a mem
  · have HOK := Lib.hid hok
    obtain ⟨n, rfl, hn1, hn8⟩ := lanes_nat hok.2.1
    by_cases hin : 0 ≤ n0 ∧ n0 ≤ (n : Int) - 1
    · obtain ⟨k, rfl⟩ : ∃ k : Nat, n0 = k := ⟨n0.toNat, by omega⟩
      have hkn : k < n := by omega
      obtain ⟨q, Hq⟩ : ∃ q, Hid (laneA cs n mem k = q) := ⟨_, Lib.hid rfl⟩
      have HQ : Hid (((costM cs (2 ^ k) (lockOf cs n mem).H (lockOf cs n mem).H.length : Nat) : Int) = q) := Lib.hid (by rw [← laneA_ok hok hkn]; exact Hq.out)
      rw [Hq.out]
      have HL1 := Lib.hid hin
      clear hok hin
      go_enter Try.func45, Try.ntmps45
      go_wp2_with fail
      refine (sok_any _ _ cs n mem _ H.out HM.out hs1 hs2 true (by simp only [true_iff]; exact HOK.out)).mono ?_
      rintro e w1 ⟨rfl, hp1⟩
      go_wp2_with fail
      refine (l1In_any (k : Int) 0 ((n : Int) - 1) _ true (by simp only [true_iff]; exact HL1.out)).mono ?_
      rintro e w2 ⟨rfl, rfl⟩
      go_wp2_with fail
      refine (stra_any _ _ cs n mem _ (H.out.keep hp1) (HM.out.keep hp1) hs1 hs2).mono ?_
      rintro e w2 ⟨v, rfl, hown, hp2⟩
      rw [lockA_ok HOK.out] at hown
      have HIN := Lib.hid (lockOf_in (n := n) (mem := mem) HOK.out.1)
      have hlen := lockOf_len (n := n) (mem := mem) HOK.out.1
      obtain ⟨L, HL⟩ : ∃ L, Hid ((lockOf cs n mem).H = L) := ⟨_, Lib.hid rfl⟩
      have HQ2 : Hid (((costM cs (2 ^ k) L L.length : Nat) : Int) = q) := Lib.hid (by rw [← HL.out]; exact HQ.out)
      rw [HL.out] at hown hlen HIN
      have HO := Lib.hid hown
      have HP12 := Lib.hid (hp1.trans hp2)
      obtain ⟨Av, cv, rfl⟩ := hown.form
      clear hown hp1 hp2
      go_wp2_with fail
      go_loopg [9, 11] L.length (fun gk qq i wr => ∃ j : Nat, gk + j = L.length ∧ i = .int .i64 j ∧ qq = .int .i64 (costM cs (2 ^ k) L j : Nat) ∧ Pure w2 wr)
      case atStart => exact ⟨0, rfl, rfl, rfl, Pure.refl _⟩
      case round =>
        obtain ⟨j, hgk, rfl, rfl, hp⟩ := hrel
        have Hgk := Lib.hid hgk
        have hjn : j ≤ L.length := by omega
        clear hgk
        by_cases hlt : j < L.length
        · obtain ⟨b', o', hv', hb', hc'⟩ := (Flat.of_own (HO.out.pure hp)).at_ (by omega)
          subst hv'
          have q0 := hc' (j * 2) (by omega)
          have q1 := hc' (j * 2 + 1) (by omega)
          rw [getD_of (beat_at L j hlt).1] at q0
          rw [getD_of (beat_at L j hlt).2, ← Nat.add_assoc] at q1
          have hpl : (L.getD j default).1 < cs.length := (HIN.out _ (getD_mem' hlt)).2.1
          have hnext := costM_bit cs k L j
          have hcl := costM_le cs (2 ^ k) L j
          obtain ⟨cd, Hcd⟩ : ∃ cd, Hid (cs.getD (L.getD j default).1 default = cd) := ⟨_, Lib.hid rfl⟩
          obtain ⟨b, o, rfl, hb, hc⟩ := H.out.at_ hpl
          have hat := hc.keep (HP12.out.trans hp) hb
          rw [Hcd.out] at hat hnext
          have HCD : Hid (CdOk cd) := Lib.hid (by rw [← Hcd.out]; exact HOK.out.1.1 _ (cdOk_mem hpl))
          obtain ⟨p, Hp⟩ : ∃ p, Hid ((L.getD j default).1 = p) := ⟨_, Lib.hid rfl⟩
          obtain ⟨mk, Hmk⟩ : ∃ mk, Hid ((L.getD j default).2.1 = mk) := ⟨_, Lib.hid rfl⟩
          rw [Hp.out] at q0 hpl hat
          rw [Hmk.out] at q1 hnext
          obtain ⟨r0, r1, r2, r3⟩ := hat
          have hnn := digit_nonneg mk k
          have hbit := digit_eq1 mk k
          obtain ⟨D, HD⟩ : ∃ D, Hid (mk.testBit k = D) := ⟨_, Lib.hid rfl⟩
          rw [HD.out] at hbit hnext
          obtain ⟨su, Hsu⟩ : ∃ su, Hid (costM cs (2 ^ k) L j = su) := ⟨_, Lib.hid rfl⟩
          rw [Hsu.out] at hnext hcl ⊢
          clear hc hc'
          cases D
          · have Hnext : Hid (costM cs (2 ^ k) L (j + 1) = su) := Lib.hid (by rw [hnext]; rfl)
            clear hnext
            go_wp2
            go_roundg (L.length - (j + 1))
            case measure => have := Hgk.out; omega
            case rel => exact ⟨j + 1, by have := Hgk.out; omega, by go_num, by rw [Hnext.out], hp⟩
          · obtain ⟨u, Hu⟩ : ∃ u, Hid (cdCost cd = u) := ⟨_, Lib.hid rfl⟩
            have hu4 : u ≤ 4 := by rw [← Hu.out]; exact cdCost_le cd
            have Hnext : Hid (costM cs (2 ^ k) L (j + 1) = su + u) := Lib.hid (by rw [hnext, Hu.out]; rfl)
            clear hnext
            go_wp2_with fail
            refine (scost_any cd _ HCD.out u Hu.out).mono ?_
            rintro e w3 ⟨rfl, hp3⟩
            go_wp2
            go_roundg (L.length - (j + 1))
            case measure => have := Hgk.out; omega
            case rel => exact ⟨j + 1, by have := Hgk.out; omega, by go_num, by rw [Hnext.out]; go_num, hp.trans hp3⟩
        · have hjl : j = L.length := by omega
          subst hjl
          go_wp2
          go_ret
          exact ⟨by rw [← HQ2.out] <;> rfl, HP12.out.trans hp⟩
    · have HN : Hid (laneA cs n mem n0 = -1) := Lib.hid (laneA_no (fun h => hin h.2))
      have HIN := Lib.hid hin
      clear hok hin
      rw [HN.out]
      go_enter Try.func45, Try.ntmps45
      go_wp2_with fail
      refine (sok_any _ _ cs n mem _ H.out HM.out hs1 hs2 true (by simp only [true_iff]; exact HOK.out)).mono ?_
      rintro e w1 ⟨rfl, hp1⟩
      go_wp2_with fail
      refine (l1In_any n0 0 ((n : Int) - 1) _ false (by simp only [Bool.false_eq_true, false_iff]; exact HIN.out)).mono ?_
      rintro e w2 ⟨rfl, rfl⟩
      go_wp2
      go_ret
      exact ⟨rfl, hp1⟩
  · have HN : Hid (laneA cs a mem n0 = -1) := Lib.hid (laneA_no (fun h => hok h.1))
    have HOK := Lib.hid hok
    clear hok
    rw [HN.out]
    go_enter Try.func45, Try.ntmps45
    go_wp2_with fail
    refine (sok_any _ _ cs a mem _ H.out HM.out hs1 hs2 false (by simp [HOK.out])).mono ?_
    rintro e w1 ⟨rfl, hp1⟩
    go_wp2
    go_ret
    exact ⟨rfl, hp1⟩

set_option maxHeartbeats 2000000 in
set_option maxRecDepth 100000 in
theorem ilane_any (vl vm : Value) (cs : List Cd) (a : Int) (mem : List Int) (n0 : Int) (w : World) (h : Codes w vl cs) (hm : Ints w vm mem) (hs1 : cs.length ≤ 1048576) (hs2 : mem.length ≤ 1048576) :
    Calls Try.prog 46 #[vl, .int .i64 a, vm, .int .i64 n0] w fun e w' => e = .returned (.int .i64 (laneA cs a mem n0)) ∧ Pure w w' := by
  have H := Lib.hid h
  have HM := Lib.hid hm
  obtain ⟨A, c, rfl, hnc, hcm⟩ := h.form
  obtain ⟨Am, cm, rfl⟩ := hm.form
  clear h hm
  by_cases hok : RunOk cs a mem
  · have HOK := Lib.hid hok
    obtain ⟨n, rfl, hn1, hn8⟩ := lanes_nat hok.2.1
    obtain ⟨q, Hq⟩ : ∃ q, Hid (laneA cs n mem n0 = q) := ⟨_, Lib.hid rfl⟩
    rw [Hq.out]
    go_enter Try.func46, Try.ntmps46
    go_wp2_with fail
    refine (ilock_any _ _ cs n mem _ H.out HM.out HOK.out.1 hn1 hn8 HOK.out.2.2).mono ?_
    rintro e w1 ⟨o, vb, va, rfl, hp0, hcs, hvl, hlk, hn, hmm, hrun⟩
    have HIN : Hid (∀ x ∈ (lockOf cs n mem).H, StepIn o.rm.n 0 o.cs.length x) := Lib.hid (by rw [hn, hcs]; exact lockOf_in HOK.out.1)
    have hlen := lockOf_len (n := n) (mem := mem) HOK.out.1
    have HLEN := Lib.hid hlen
    have HR := Lib.hid hrun
    have HN8 : Hid (o.rm.n ≤ 8) := Lib.hid (by rw [hn]; exact hn8)
    have HP0 := Lib.hid (hp0.trans hrun.pure)
    have HVV : Hid (PValid o.cs) := Lib.hid (by rw [hcs]; exact HOK.out.1)
    have HCS := Lib.hid hcs
    clear hp0 hcs hvl hlk hn hmm hrun hlen hok
    by_cases hin : 0 ≤ n0 ∧ n0 ≤ (n : Int) - 1
    · obtain ⟨k, rfl⟩ : ∃ k : Nat, n0 = k := ⟨n0.toNat, by omega⟩
      have hkn : k < n := by omega
      have HQ : Hid (((costM o.cs (2 ^ k) (lockOf cs n mem).H (lockOf cs n mem).H.length : Nat) : Int) = q) := Lib.hid (by rw [HCS.out, ← laneA_ok HOK.out hkn]; exact Hq.out)
      have hs := shlI (j := k) (by omega)
      have hB : 2 ^ k < 256 := Nat.lt_of_lt_of_le (Nat.pow_lt_pow_right (by decide) (show k < 8 by omega)) (by decide)
      obtain ⟨b, Hb⟩ : ∃ b, Hid (2 ^ k = b) := ⟨2 ^ k, Lib.hid rfl⟩
      rw [Hb.out] at HQ hB hs
      have HL1 := Lib.hid hin
      clear hin
      go_wp2_with fail
      refine (within_any (k : Int) 0 ((n : Int) - 1) _ true (by simp only [true_iff]; exact HL1.out)).mono ?_
      rintro e w2 ⟨rfl, rfl⟩
      go_wp2_with fail
      refine (lcost_any o HVV.out b hB _ _ _ _ HR.out HIN.out HLEN.out HN8.out).mono ?_
      rintro e w3 ⟨rfl, hp3⟩
      rw [HQ.out]
      go_wp2
      go_ret
      exact ⟨rfl, HP0.out.trans hp3⟩
    · have HN : Hid (q = -1) := Lib.hid (by rw [← Hq.out]; exact laneA_no (fun h => hin h.2))
      have HL1 := Lib.hid hin
      clear hin
      go_wp2_with fail
      refine (within_any n0 0 ((n : Int) - 1) _ false (by simp only [Bool.false_eq_true, false_iff]; exact HL1.out)).mono ?_
      rintro e w2 ⟨rfl, rfl⟩
      go_wp2
      go_ret
      exact ⟨by rw [HN.out]; rfl, HP0.out⟩
  · have HN : Hid (laneA cs a mem n0 = -1) := Lib.hid (laneA_no (fun h => hok h.1))
    have HOK := Lib.hid hok
    clear hok
    rw [HN.out]
    go_enter Try.func46, Try.ntmps46
    go_wp2_with fail
    refine (ino_any _ _ cs a mem _ H.out HM.out hs1 hs2 HOK.out).mono ?_
    rintro e w1 ⟨rfl, hp1⟩
    go_wp2
    go_ret
    exact ⟨rfl, hp1⟩

/-- The greatest cost of the lanes below j. -/
def mostTo (cs : List Cd) (H : List (Nat × Nat × (Nat → Nat → Int))) : Nat → Nat
  | 0 => 0
  | j + 1 => max (mostTo cs H j) (costM cs (2 ^ j) H H.length)
theorem mostTo_le (cs : List Cd) (H : List (Nat × Nat × (Nat → Nat → Int))) : ∀ j, mostTo cs H j ≤ 4 * H.length
  | 0 => Nat.zero_le _
  | j + 1 => Nat.max_le.2 ⟨mostTo_le cs H j, costM_le _ _ _ _⟩
open Classical in
noncomputable def lostA (cs : List Cd) (a : Int) (mem : List Int) : Int :=
  if RunOk cs a mem then ((costTo cs (lockA cs a mem).H (lockA cs a mem).H.length : Nat) : Int) - (mostTo cs (lockA cs a mem).H a.toNat : Nat) else -1
theorem lostA_ok {cs : List Cd} {n : Nat} {mem : List Int} (h : RunOk cs n mem) : lostA cs n mem = ((costTo cs (lockOf cs n mem).H (lockOf cs n mem).H.length : Nat) : Int) - (mostTo cs (lockOf cs n mem).H n : Nat) := by
  unfold lostA
  rw [if_pos h, lockA_ok h]; rfl
theorem lostA_no {cs : List Cd} {a : Int} {mem : List Int} (h : ¬ RunOk cs a mem) : lostA cs a mem = -1 := by
  unfold lostA; rw [if_neg h]

set_option maxHeartbeats 2000000 in
set_option maxRecDepth 100000 in
theorem slost_any (vl vm : Value) (cs : List Cd) (a : Int) (mem : List Int) (w : World) (h : Codes w vl cs) (hm : Ints w vm mem) (hs1 : cs.length ≤ 1048576) (hs2 : mem.length ≤ 1048576) :
    Calls Try.prog 47 #[vl, .int .i64 a, vm] w fun e w' => e = .returned (.int .i64 (lostA cs a mem)) ∧ Pure w w' := by
  have H := Lib.hid h
  have HM := Lib.hid hm
  obtain ⟨A, c, rfl, hnc, hcm⟩ := h.form
  obtain ⟨Am, cm, rfl⟩ := hm.form
  clear h hm
  by_cases hok : RunOk cs a mem
  · have HOK := Lib.hid hok
    obtain ⟨n, rfl, hn1, hn8⟩ := lanes_nat hok.2.1
    obtain ⟨q, Hq⟩ : ∃ q, Hid (lostA cs n mem = q) := ⟨_, Lib.hid rfl⟩
    rw [Hq.out]
    have hlen := lockOf_len (n := n) (mem := mem) hok.1
    have HLA : Hid (∀ j, j < n → laneA cs n mem (j : Nat) = (costM cs (2 ^ j) (lockOf cs n mem).H (lockOf cs n mem).H.length : Nat)) := Lib.hid fun j hj => laneA_ok hok hj
    have HQ : Hid (((costTo cs (lockOf cs n mem).H (lockOf cs n mem).H.length : Nat) : Int) - (mostTo cs (lockOf cs n mem).H n : Nat) = q) := Lib.hid (by rw [← lostA_ok hok]; exact Hq.out)
    obtain ⟨L, HL⟩ : ∃ L, Hid ((lockOf cs n mem).H = L) := ⟨_, Lib.hid rfl⟩
    rw [HL.out] at HQ HLA hlen
    have hct := costTo_le cs L L.length
    obtain ⟨ct, Hct⟩ : ∃ ct, Hid (costTo cs L L.length = ct) := ⟨_, Lib.hid rfl⟩
    rw [Hct.out] at HQ hct
    clear hok
    go_enter Try.func47, Try.ntmps47
    go_wp2_with fail
    refine (sok_any _ _ cs n mem _ H.out HM.out hs1 hs2 true (by simp only [true_iff]; exact HOK.out)).mono ?_
    rintro e w1 ⟨rfl, hp1⟩
    go_wp2_with fail
    go_loopg [7, 8] n (fun gk qq i wr => ∃ j : Nat, gk + j = n ∧ i = .int .i64 j ∧ qq = .int .i64 (mostTo cs L j : Nat) ∧ Pure w1 wr)
    case atStart => exact ⟨0, rfl, rfl, rfl, Pure.refl _⟩
    case round =>
      obtain ⟨j, hgk, rfl, rfl, hp⟩ := hrel
      have Hgk := Lib.hid hgk
      have hjn : j ≤ n := by omega
      clear hgk
      have hml := mostTo_le cs L j
      by_cases hlt : j < n
      · have hcl := costM_le cs (2 ^ j) L L.length
        have hnext : mostTo cs L (j + 1) = max (mostTo cs L j) (costM cs (2 ^ j) L L.length) := rfl
        have hla := HLA.out j hlt
        obtain ⟨m0, Hm0⟩ : ∃ m0, Hid (mostTo cs L j = m0) := ⟨_, Lib.hid rfl⟩
        obtain ⟨u, Hu⟩ : ∃ u, Hid (costM cs (2 ^ j) L L.length = u) := ⟨_, Lib.hid rfl⟩
        rw [Hm0.out] at hnext hml ⊢
        rw [Hu.out] at hnext hcl hla
        have HLJ := Lib.hid hla
        have Hnext := Lib.hid hnext
        clear hnext hla
        go_wp2_with fail
        refine (slane_any _ _ cs n mem (j : Int) _ (H.out.keep (hp1.trans hp)) (HM.out.keep (hp1.trans hp)) hs1 hs2).mono ?_
        rintro e w2 ⟨rfl, hp2⟩
        rw [HLJ.out]
        by_cases hmx : (m0 : Int) ≤ (u : Int)
        · have HX : Hid (mostTo cs L (j + 1) = u) := Lib.hid (by rw [Hnext.out]; exact Nat.max_eq_right (by omega))
          go_wp2
          all_goals first
            | omega
            | (go_roundg (n - (j + 1)); (case measure => have := Hgk.out; omega); (case rel => exact ⟨j + 1, by have := Hgk.out; omega, by go_num, by rw [HX.out] <;> first | rfl | exact congrArg (Value.int .i64) (by omega), hp.trans hp2⟩))
        · have HX : Hid (mostTo cs L (j + 1) = m0) := Lib.hid (by rw [Hnext.out]; exact Nat.max_eq_left (by omega))
          go_wp2
          all_goals first
            | omega
            | (go_roundg (n - (j + 1)); (case measure => have := Hgk.out; omega); (case rel => exact ⟨j + 1, by have := Hgk.out; omega, by go_num, by rw [HX.out] <;> first | rfl | exact congrArg (Value.int .i64) (by omega), hp.trans hp2⟩))
      · have hjl : j = n := by omega
        subst hjl
        obtain ⟨m0, Hm0⟩ : ∃ m0, Hid (mostTo cs L j = m0) := ⟨_, Lib.hid rfl⟩
        rw [Hm0.out] at hml ⊢
        have HQ2 : Hid ((ct : Int) - (m0 : Int) = q) := Lib.hid (by rw [← Hm0.out]; exact HQ.out)
        go_wp2_with fail
        refine (stc_any _ _ cs j mem _ (H.out.keep (hp1.trans hp)) (HM.out.keep (hp1.trans hp)) hs1 hs2).mono ?_
        rintro e w3 ⟨x, rfl, hx, hp3⟩
        have hx2 : x = (ct : Int) := by
          rw [hx.1 j rfl HOK.out, ← Hct.out, HL.out]
        subst hx2
        go_wp2
        go_ret
        exact ⟨by rw [← HQ2.out] <;> rfl, (hp1.trans hp).trans hp3⟩
  · have HN : Hid (lostA cs a mem = -1) := Lib.hid (lostA_no hok)
    have HOK := Lib.hid hok
    clear hok
    rw [HN.out]
    go_enter Try.func47, Try.ntmps47
    go_wp2_with fail
    refine (sok_any _ _ cs a mem _ H.out HM.out hs1 hs2 false (by simp [HOK.out])).mono ?_
    rintro e w1 ⟨rfl, hp1⟩
    go_wp2
    go_ret
    exact ⟨rfl, hp1⟩

set_option maxHeartbeats 2000000 in
set_option maxRecDepth 100000 in
theorem ilost_any (vl vm : Value) (cs : List Cd) (a : Int) (mem : List Int) (w : World) (h : Codes w vl cs) (hm : Ints w vm mem) (hs1 : cs.length ≤ 1048576) (hs2 : mem.length ≤ 1048576) :
    Calls Try.prog 48 #[vl, .int .i64 a, vm] w fun e w' => e = .returned (.int .i64 (lostA cs a mem)) ∧ Pure w w' := by
  have H := Lib.hid h
  have HM := Lib.hid hm
  obtain ⟨A, c, rfl, hnc, hcm⟩ := h.form
  obtain ⟨Am, cm, rfl⟩ := hm.form
  clear h hm
  by_cases hok : RunOk cs a mem
  · have HOK := Lib.hid hok
    obtain ⟨n, rfl, hn1, hn8⟩ := lanes_nat hok.2.1
    obtain ⟨q, Hq⟩ : ∃ q, Hid (lostA cs n mem = q) := ⟨_, Lib.hid rfl⟩
    rw [Hq.out]
    have HQ : Hid (((costTo cs (lockOf cs n mem).H (lockOf cs n mem).H.length : Nat) : Int) - (mostTo cs (lockOf cs n mem).H n : Nat) = q) := Lib.hid (by rw [← lostA_ok hok]; exact Hq.out)
    clear hok
    go_enter Try.func48, Try.ntmps48
    go_wp2_with fail
    refine (ilock_any _ _ cs n mem _ H.out HM.out HOK.out.1 hn1 hn8 HOK.out.2.2).mono ?_
    rintro e w1 ⟨o, vb, va, rfl, hp0, hcs, hvl, hlk, hn, hmm, hrun⟩
    have HIN : Hid (∀ x ∈ (lockOf cs n mem).H, StepIn o.rm.n 0 o.cs.length x) := Lib.hid (by rw [hn, hcs]; exact lockOf_in HOK.out.1)
    have hlen := lockOf_len (n := n) (mem := mem) HOK.out.1
    have HLEN := Lib.hid hlen
    have HR := Lib.hid hrun
    have HN8 : Hid (o.rm.n ≤ 8) := Lib.hid (by rw [hn]; exact hn8)
    have HP0 := Lib.hid (hp0.trans hrun.pure)
    have HVV : Hid (PValid o.cs) := Lib.hid (by rw [hcs]; exact HOK.out.1)
    have HCS := Lib.hid hcs
    have HB : Hid (2 ^ n - 1 < 256) := Lib.hid (by have := powI hn8; have : 1 ≤ 2 ^ n := Nat.one_le_two_pow; omega)
    have HEQ : Hid (costM o.cs (2 ^ n - 1) (lockOf cs n mem).H (lockOf cs n mem).H.length = costTo cs (lockOf cs n mem).H (lockOf cs n mem).H.length) := Lib.hid (by rw [hcs]; exact costM_all (lockOf_in HOK.out.1) _ (Nat.le_refl _))
    clear hp0 hcs hvl hlk hn hmm hrun
    obtain ⟨S, HS⟩ : ∃ S, Hid (lockOf cs n mem = S) := ⟨_, Lib.hid rfl⟩
    rw [HS.out] at HQ HIN hlen HLEN HR HEQ
    have hct := costTo_le cs S.H S.H.length
    obtain ⟨ct, Hct⟩ : ∃ ct, Hid (costTo cs S.H S.H.length = ct) := ⟨_, Lib.hid rfl⟩
    rw [Hct.out] at HQ hct HEQ
    go_wp2_with fail
    go_loopg [9, 10, 21] n (fun gk qq _ i wr => ∃ j : Nat, gk + j = n ∧ i = .int .i64 j ∧ qq = .int .i64 (mostTo cs S.H j : Nat) ∧ Pure w1 wr)
    case atStart => exact ⟨0, rfl, rfl, rfl, Pure.refl _⟩
    case round =>
      obtain ⟨j, hgk, rfl, rfl, hp⟩ := hrel
      have Hgk := Lib.hid hgk
      have hjn : j ≤ n := by omega
      clear hgk
      have hml := mostTo_le cs S.H j
      by_cases hlt : j < n
      · have hcl := costM_le cs (2 ^ j) S.H S.H.length
        have hnext : mostTo cs S.H (j + 1) = max (mostTo cs S.H j) (costM cs (2 ^ j) S.H S.H.length) := rfl
        have hs := shlI (j := j) (by omega)
        have hB : 2 ^ j < 256 := Nat.lt_of_lt_of_le (Nat.pow_lt_pow_right (by decide) (show j < 8 by omega)) (by decide)
        have HCC : Hid (costM o.cs (2 ^ j) S.H S.H.length = costM cs (2 ^ j) S.H S.H.length) := Lib.hid (by rw [HCS.out])
        obtain ⟨m0, Hm0⟩ : ∃ m0, Hid (mostTo cs S.H j = m0) := ⟨_, Lib.hid rfl⟩
        obtain ⟨u, Hu⟩ : ∃ u, Hid (costM cs (2 ^ j) S.H S.H.length = u) := ⟨_, Lib.hid rfl⟩
        rw [Hm0.out] at hnext hml ⊢
        rw [Hu.out] at hnext hcl HCC
        have Hnext := Lib.hid hnext
        clear hnext
        obtain ⟨b, Hb⟩ : ∃ b, Hid (2 ^ j = b) := ⟨2 ^ j, Lib.hid rfl⟩
        rw [Hb.out] at hB hs HCC
        go_wp2_with fail
        refine (lcost_any o HVV.out b hB _ _ _ _ (HR.out.keep hp) HIN.out HLEN.out HN8.out).mono ?_
        rintro e w3 ⟨rfl, hp3⟩
        rw [HCC.out]
        by_cases hmx : (m0 : Int) ≤ (u : Int)
        · have HX : Hid (mostTo cs S.H (j + 1) = u) := Lib.hid (by rw [Hnext.out]; exact Nat.max_eq_right (by omega))
          go_wp2
          all_goals first
            | omega
            | (go_roundg (n - (j + 1)); (case measure => have := Hgk.out; omega); (case rel => exact ⟨j + 1, by have := Hgk.out; omega, by go_num, by rw [HX.out] <;> first | rfl | exact congrArg (Value.int .i64) (by omega), hp.trans hp3⟩))
        · have HX : Hid (mostTo cs S.H (j + 1) = m0) := Lib.hid (by rw [Hnext.out]; exact Nat.max_eq_left (by omega))
          go_wp2
          all_goals first
            | omega
            | (go_roundg (n - (j + 1)); (case measure => have := Hgk.out; omega); (case rel => exact ⟨j + 1, by have := Hgk.out; omega, by go_num, by rw [HX.out] <;> first | rfl | exact congrArg (Value.int .i64) (by omega), hp.trans hp3⟩))
      · have hjl : j = n := by omega
        subst hjl
        obtain ⟨m0, Hm0⟩ : ∃ m0, Hid (mostTo cs S.H j = m0) := ⟨_, Lib.hid rfl⟩
        rw [Hm0.out] at hml ⊢
        have HQ2 : Hid ((ct : Int) - (m0 : Int) = q) := Lib.hid (by rw [← Hm0.out]; exact HQ.out)
        go_wp2_with fail
        refine (imaskall_any j _ hn1 hn8).mono ?_
        rintro e w2 ⟨rfl, rfl⟩
        obtain ⟨b, Hb⟩ : ∃ b, Hid (2 ^ j - 1 = b) := ⟨2 ^ j - 1, Lib.hid rfl⟩
        rw [Hb.out] at HB HEQ ⊢
        go_wp2_with fail
        refine (lcost_any o HVV.out b HB.out _ _ _ _ (HR.out.keep hp) HIN.out HLEN.out HN8.out).mono ?_
        rintro e w3 ⟨rfl, hp3⟩
        rw [HEQ.out]
        go_wp2
        go_ret
        exact ⟨by rw [← HQ2.out] <;> rfl, (HP0.out.trans hp).trans hp3⟩
  · have HN : Hid (lostA cs a mem = -1) := Lib.hid (lostA_no hok)
    have HOK := Lib.hid hok
    clear hok
    rw [HN.out]
    go_enter Try.func48, Try.ntmps48
    go_wp2_with fail
    refine (ino_any _ _ cs a mem _ H.out HM.out hs1 hs2 HOK.out).mono ?_
    rintro e w1 ⟨rfl, hp1⟩
    go_wp2
    go_ret
    exact ⟨rfl, hp1⟩

end Go.Proofs.Ytokdfgodmhekmaa
