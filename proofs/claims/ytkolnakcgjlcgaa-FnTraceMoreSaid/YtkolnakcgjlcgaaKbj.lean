/- The split step and the memory of a run, for any arguments, the program's and the reference's. The memory and the registers of a run, for any arguments, the program's and the reference's. The split step for any arguments, as the program finds it. No condition. -/
import Derived.Test.YtkolnakcgjlcgaaKbi

namespace Go.Proofs.Ytkolnakcgjlcgaa
open Go.RowKit

set_option maxHeartbeats 2000000 in
set_option maxRecDepth 100000 in
theorem isplit_any (o : IObj) (w : World) (vb va : Value) (s : LS) (hr : ORun o w vb va s) (hin : ∀ x ∈ s.H, x.1 < o.cs.length) (hlen : s.H.length ≤ 1048576) :
    Calls Try.prog 71 #[.pointer (some ⟨o.p, 0, none⟩)] w fun e w' => e = .returned (spl2 (s.H.find? (splBad o.cs o.rm.n))) ∧ Pure w w' := by
  have HR := Lib.hid hr
  have HIN := Lib.hid hin
  obtain ⟨r, Hr⟩ : ∃ r, Hid (s.H.find? (splBad o.cs o.rm.n) = r) := ⟨_, Lib.hid rfl⟩
  rw [Hr.out]
  have hn1 := hr.n1
  have hn8 := hr.rm.n8
  obtain ⟨Ab, cb, rfl⟩ := hr.bt.form
  clear hin hr
  have hHB := HR.out.bt
  obtain ⟨L, HL⟩ : ∃ L, Hid (s.H = L) := ⟨_, Lib.hid rfl⟩
  have HBT : Hid (OwnO w o.w0.heap.size 33 2 (.slice Ab s.H.length cb) s.H.length (beatsL s.H)) := Lib.hid hHB
  have p3 : w.cell? ⟨o.p, 3, none⟩ = some (.slice Ab s.H.length cb) := HR.out.obj.cell 3
  have p0 : w.cell? ⟨o.p, 0, none⟩ = some (.pointer (some ⟨o.pm, 0, none⟩)) := HR.out.obj.cell 0
  have p1 : w.cell? ⟨o.p, 1, none⟩ = some o.rm.vr := HR.out.obj.cell 1
  have pm0 : w.cell? ⟨o.pm, 0, none⟩ = some o.vl := keepPc HR.out.pure HR.out.mach.1
  have HC : Hid (Codes w o.vl o.cs) := Lib.hid (HR.out.codes.keep HR.out.pure)
  have HIN2 : Hid (∀ x ∈ L, x.1 < o.cs.length) := Lib.hid (by rw [← HL.out]; exact HIN.out)
  have HR2 : Hid (L.find? (splBad o.cs o.rm.n) = r) := Lib.hid (by rw [← HL.out]; exact Hr.out)
  rw [HL.out] at HBT p3 hlen
  have HP3 := Lib.hid p3
  have HP0 := Lib.hid p0
  have HP1 := Lib.hid p1
  have HPM := Lib.hid pm0
  clear hHB HR Hr HIN p0 p1 pm0
  have hx := heap_alloc_new w (.cells #[.pointer (some ⟨o.p, 0, none⟩)] 72)
  have hxc := (cell_of_row _ _ 0 _ _ _ hx).trans rfl
  have HX : Hid ((w.alloc (.cells #[.pointer (some ⟨o.p, 0, none⟩)] 72)).cell? ⟨w.heap.size, 0, none⟩ = some (.pointer (some ⟨o.p, 0, none⟩))) := Lib.hid hxc
  have hz := heap_alloc_new (w.alloc (.cells #[.pointer (some ⟨o.p, 0, none⟩)] 72)) (.cells #[.int .i64 0, .int .i64 0] 33)
  rw [World.size_alloc] at hz
  have HZ := Lib.hid hz
  clear hx hxc hz
  have lp := World.block_lt_of_cell? _ _ p3
  go_enter Try.func71, Try.ntmps71
  go_wp2_with fail
  refine (ispix_any _ w.heap.size o.p o.pm o.rm.n o.rm.cr (some ⟨o.rm.gr, 0, none⟩) o.vl _ o.cs L (keepPc (by exact (by repeat (first | assumption | exact Pure.refl _ | refine Pure.drewN ?_ _ | refine Pure.drew ?_ | refine Pure.alloc ?_ _ | refine Pure.setCell ?_ (by simp <;> omega) _))) HX.out) (keepPc (by exact (by repeat (first | assumption | exact Pure.refl _ | refine Pure.drewN ?_ _ | refine Pure.drew ?_ | refine Pure.alloc ?_ _ | refine Pure.setCell ?_ (by simp <;> omega) _))) HP0.out) (keepPc (by exact (by repeat (first | assumption | exact Pure.refl _ | refine Pure.drewN ?_ _ | refine Pure.drew ?_ | refine Pure.alloc ?_ _ | refine Pure.setCell ?_ (by simp <;> omega) _))) HP1.out) (keepPc (by exact (by repeat (first | assumption | exact Pure.refl _ | refine Pure.drewN ?_ _ | refine Pure.drew ?_ | refine Pure.alloc ?_ _ | refine Pure.setCell ?_ (by simp <;> omega) _))) HPM.out) (HC.out.keep (by exact (by repeat (first | assumption | exact Pure.refl _ | refine Pure.drewN ?_ _ | refine Pure.drew ?_ | refine Pure.alloc ?_ _ | refine Pure.setCell ?_ (by simp <;> omega) _)))) hn1 hn8 (Flat.of_own (HBT.out.pure (by exact (by repeat (first | assumption | exact Pure.refl _ | refine Pure.drewN ?_ _ | refine Pure.drew ?_ | refine Pure.alloc ?_ _ | refine Pure.setCell ?_ (by simp <;> omega) _))))) HIN2.out hlen).mono ?_
  rintro e w1 ⟨i, rfl, hi, hp1⟩
  have hz1 : ∀ n, (w1.drewN n).heap[w.heap.size + 1]? = some (.cells #[.int .i64 0, .int .i64 0] 33 (0, 0)) := fun n => (Chg.of_pure (S := fun _ => False) hp1).heap HZ.out id
  have HZ1 := Lib.hid hz1
  have c0 : w1.cell? ⟨w.heap.size + 1, 0, none⟩ = some (.int .i64 0) := (cell_of_row w1 _ 0 _ _ _ (hz1 0)).trans rfl
  have c1 : w1.cell? ⟨w.heap.size + 1, 1, none⟩ = some (.int .i64 0) := (cell_of_row w1 _ 1 _ _ _ (hz1 0)).trans rfl
  have f0 := frozen_of_row w1 (w.heap.size + 1) 0 _ _ (hz1 0)
  have f1 := frozen_of_row w1 (w.heap.size + 1) 1 _ _ (hz1 0)
  have b1 : w1.cell? ⟨w.heap.size, 0, none⟩ = some (.pointer (some ⟨o.p, 0, none⟩)) := keepPc hp1 (keepPc (by exact (by repeat (first | assumption | exact Pure.refl _ | refine Pure.drewN ?_ _ | refine Pure.drew ?_ | refine Pure.alloc ?_ _ | refine Pure.setCell ?_ (by simp <;> omega) _))) HX.out)
  have b3 : w1.cell? ⟨o.p, 3, none⟩ = some (.slice Ab L.length cb) := keepPc hp1 (keepPc (by exact (by repeat (first | assumption | exact Pure.refl _ | refine Pure.drewN ?_ _ | refine Pure.drew ?_ | refine Pure.alloc ?_ _ | refine Pure.setCell ?_ (by simp <;> omega) _))) HP3.out)
  have HP : Hid (Pure w w1) := Lib.hid (Pure.trans (by exact (by repeat (first | assumption | exact Pure.refl _ | refine Pure.drewN ?_ _ | refine Pure.drew ?_ | refine Pure.alloc ?_ _ | refine Pure.setCell ?_ (by simp <;> omega) _))) hp1)
  have hpw := HP.out
  clear hz1 hp1
  rcases hi with ⟨k, rfl, hk, hbad, hall⟩ | ⟨rfl, hall⟩
  · have HR3 : Hid (spl2 r = .tuple #[.agg #[.int .i64 ((L.getD k default).1 : Nat), .int .i64 ((L.getD k default).2.1 : Nat)], .bool true]) := Lib.hid (by rw [← HR2.out, find_first hall hk hbad]; rfl)
    clear hbad hall
    obtain ⟨b, oo, hv, hb, hcl⟩ := (Flat.of_own (HBT.out.pure HP.out)).at_ (by omega)
    subst hv
    have q0 := hcl (k * 2) (by omega)
    have q1 := hcl (k * 2 + 1) (by omega)
    rw [getD_of (beat_at L k hk).1] at q0
    rw [getD_of (beat_at L k hk).2, ← Nat.add_assoc] at q1
    clear hcl
    obtain ⟨pp, Hp⟩ : ∃ p, Hid ((L.getD k default).1 = p) := ⟨_, Lib.hid rfl⟩
    obtain ⟨mk, Hmk⟩ : ∃ mk, Hid ((L.getD k default).2.1 = mk) := ⟨_, Lib.hid rfl⟩
    rw [Hp.out, Hmk.out] at HR3
    rw [Hp.out] at q0
    rw [Hmk.out] at q1
    go_wp2
    obtain ⟨y0, y1, y2⟩ := pair_set (HZ1.out 0) (.int .i64 pp) (.int .i64 mk)
    simp only [show w1.drewN 0 = w1 from rfl] at y0 y1 y2
    refine bodyPost_ret (v := .tuple #[.agg #[.int .i64 pp, .int .i64 mk], .bool true]) (by simp [results, Try.results71, go_sem, y1, y2]) rfl ?_
    exact ⟨by rw [HR3.out], by exact (by repeat (first | assumption | exact Pure.refl _ | refine Pure.drewN ?_ _ | refine Pure.drew ?_ | refine Pure.alloc ?_ _ | refine Pure.setCell ?_ (by simp <;> omega) _))⟩
  · have HR3 : Hid (spl2 r = .tuple #[.agg #[.int .i64 0, .int .i64 0], .bool false]) := Lib.hid (by rw [← HR2.out, find_none hall]; rfl)
    clear hall
    go_wp2
    obtain ⟨y0, y1, y2⟩ := pair_set (HZ1.out 0) (.int .i64 0) (.int .i64 0)
    simp only [show w1.drewN 0 = w1 from rfl] at y0 y1 y2
    refine bodyPost_ret (v := .tuple #[.agg #[.int .i64 0, .int .i64 0], .bool false]) (by simp [results, Try.results71, go_sem, y1, y2]) rfl ?_
    exact ⟨by rw [HR3.out], by exact (by repeat (first | assumption | exact Pure.refl _ | refine Pure.drewN ?_ _ | refine Pure.drew ?_ | refine Pure.alloc ?_ _ | refine Pure.setCell ?_ (by simp <;> omega) _))⟩

end Go.Proofs.Ytkolnakcgjlcgaa

namespace Go.Proofs.Ytkolnakcgjlcgaa
open Go.RowKit

open Classical in
noncomputable def memA (cs : List Cd) (a : Int) (mem : List Int) : List Int := if RunOk cs a mem then (List.range mem.length).map (lockA cs a mem).M else []
open Classical in
noncomputable def wholeA (cs : List Cd) (a : Int) (mem : List Int) : Bool := decide (RunOk cs a mem) && (splA cs a mem).isNone
theorem memA_ok {cs : List Cd} {n : Nat} {mem : List Int} (h : RunOk cs n mem) : memA cs n mem = (List.range mem.length).map (lockOf cs n mem).M := by
  unfold memA; rw [if_pos h, lockA_ok h]
theorem memA_no {cs : List Cd} {a : Int} {mem : List Int} (h : ¬ RunOk cs a mem) : memA cs a mem = [] := by unfold memA; rw [if_neg h]
theorem memA_len {cs : List Cd} {a : Int} {mem : List Int} : (memA cs a mem).length ≤ mem.length := by
  by_cases h : RunOk cs a mem
  · unfold memA; rw [if_pos h]; simp
  · rw [memA_no h]; simp
theorem wholeA_no {cs : List Cd} {a : Int} {mem : List Int} (h : ¬ RunOk cs a mem) : wholeA cs a mem = false := by unfold wholeA; simp [h]
theorem wholeA_ok {cs : List Cd} {n : Nat} {mem : List Int} (h : RunOk cs n mem) : wholeA cs n mem = !splitH cs n (lockOf cs n mem).H := by
  unfold wholeA splA
  rw [lockA_ok h]
  simp only [h, decide_true, Bool.true_and]
  have e : splitH cs n (lockOf cs n mem).H = (lockOf cs n mem).H.any (splBad cs n) := rfl
  rw [e, show ((n : Int)).toNat = n by omega]
  cases hf : (lockOf cs n mem).H.find? (splBad cs n) with
  | none =>
    rw [List.find?_eq_none] at hf
    have : (lockOf cs n mem).H.any (splBad cs n) = false := by
      rw [List.any_eq_false]; exact fun x hx => by simpa using hf x hx
    rw [this]; rfl
  | some y =>
    have h1 := List.find?_some hf
    have h2 := List.mem_of_find?_eq_some hf
    have : (lockOf cs n mem).H.any (splBad cs n) = true := List.any_eq_true.2 ⟨y, h2, h1⟩
    rw [this]; rfl
theorem memL_own {w : World} {B m : Nat} {v : Value} {M : Nat → Int} (h : OwnO w B 3 1 v m (memL m M)) : OwnO w B 3 1 v ((List.range m).map M).length (((List.range m).map M).map (.int .i64)) := by
  have e : ((List.range m).map M).map (Value.int .i64) = memL m M := by unfold memL; simp
  rw [e]; simpa using h

def RLP (cs : List Cd) (a : Int) (mem : List Int) (w : World) (e : Ending) (w' : World) : Prop :=
  ∃ v, e = .returned (.tuple #[v, .bool (wholeA cs a mem)]) ∧ OwnO w' w.heap.size 3 1 v (memA cs a mem).length ((memA cs a mem).map (.int .i64)) ∧ Pure w w'

set_option maxHeartbeats 2000000 in
set_option maxRecDepth 100000 in
theorem srl_any (vl vm : Value) (cs : List Cd) (a : Int) (mem : List Int) (w : World) (h : Codes w vl cs) (hm : Ints w vm mem) (hs1 : cs.length ≤ 1048576) (hs2 : mem.length ≤ 1048576) :
    Calls Try.prog 56 #[vl, .int .i64 a, vm] w (RLP cs a mem w) := by
  have H := Lib.hid h
  have HM := Lib.hid hm
  obtain ⟨A, c, rfl, hnc, hcm⟩ := h.form
  obtain ⟨Am, cm, rfl⟩ := hm.form
  clear h hm
  by_cases hok : RunOk cs a mem
  · have HOK := Lib.hid hok
    obtain ⟨n, rfl, hn1, hn8⟩ := lanes_nat hok.2.1
    have HE : Hid (memA cs n mem = (List.range mem.length).map (lockOf cs n mem).M) := Lib.hid (memA_ok hok)
    have HW : Hid (wholeA cs n mem = !splitH cs n (lockOf cs n mem).H) := Lib.hid (wholeA_ok hok)
    clear hok
    go_enter Try.func56, Try.ntmps56
    go_wp2_with fail
    refine (sok_any _ _ cs n mem _ H.out HM.out hs1 hs2 true (by simp only [true_iff]; exact HOK.out)).mono ?_
    rintro e w1 ⟨rfl, hp1⟩
    go_wp2_with fail
    refine (sall_any _ _ cs n mem _ (H.out.keep hp1) (HM.out.keep hp1) HOK.out.1 hn1 hn8 HOK.out.2.2).mono ?_
    rintro e w2 ⟨o, vt, rfl, rfl, hcs, hvl, hn, hmm, hck, hrun⟩
    have p3 : w2.cell? ⟨o.p, 3, none⟩ = some o.rm.vm := hrun.obj.cell 3
    have p5 : w2.cell? ⟨o.p, 5, none⟩ = some (.bool (splitH o.cs o.rm.n (lockOf cs n mem).H)) := hrun.obj.cell 5
    rw [hcs, hn] at p5
    have hmem := hrun.rm.mem
    have hB := hrun.base
    rw [hmm, hB] at hmem
    have HMEM := Lib.hid (memL_own hmem)
    have HP := Lib.hid hrun.pure
    clear hrun hcs hvl hn hmm hck hmem hB
    obtain ⟨sp, Hsp⟩ : ∃ sp, Hid (splitH cs n (lockOf cs n mem).H = sp) := ⟨_, Lib.hid rfl⟩
    rw [Hsp.out] at p5 HW
    obtain ⟨vv, Hvv⟩ : ∃ vv, Hid (o.rm.vm = vv) := ⟨_, Lib.hid rfl⟩
    rw [Hvv.out] at p3 HMEM
    go_wp2
    go_quiet (fail)
    go_wp2
    refine bodyPost_ret (results_tmp2 rfl _ _ _) rfl ?_
    refine ⟨vv, by rw [HW.out]; rfl, ?_, hp1.trans (HP.out.trans (by exact (by repeat (first | assumption | exact Pure.refl _ | refine Pure.drewN ?_ _ | refine Pure.drew ?_ | refine Pure.alloc ?_ _ | refine Pure.setCell ?_ (by simp <;> omega) _))))⟩
    rw [HE.out]
    exact (HMEM.out.base' hp1.size).pure (by exact (by repeat (first | assumption | exact Pure.refl _ | refine Pure.drewN ?_ _ | refine Pure.drew ?_ | refine Pure.alloc ?_ _ | refine Pure.setCell ?_ (by simp <;> omega) _)))
  · have HOK := Lib.hid hok
    have HE : Hid (memA cs a mem = []) := Lib.hid (memA_no hok)
    have HW : Hid (wholeA cs a mem = false) := Lib.hid (wholeA_no hok)
    clear hok
    go_enter Try.func56, Try.ntmps56
    go_wp2_with fail
    refine (sok_any _ _ cs a mem _ H.out HM.out hs1 hs2 false (by simp [HOK.out])).mono ?_
    rintro e w1 ⟨rfl, hp1⟩
    go_wp2
    refine bodyPost_ret (results_tmp2 rfl _ _ _) rfl ?_
    refine ⟨_, by rw [HW.out]; rfl, ?_, hp1.trans (by exact (by repeat (first | assumption | exact Pure.refl _ | refine Pure.drewN ?_ _ | refine Pure.drew ?_ | refine Pure.alloc ?_ _ | refine Pure.setCell ?_ (by simp <;> omega) _)))⟩
    rw [HE.out]; exact OwnO.empty_lit hp1.size

set_option maxHeartbeats 2000000 in
set_option maxRecDepth 100000 in
theorem irl_any (vl vm : Value) (cs : List Cd) (a : Int) (mem : List Int) (w : World) (h : Codes w vl cs) (hm : Ints w vm mem) (hs1 : cs.length ≤ 1048576) (hs2 : mem.length ≤ 1048576) :
    Calls Try.prog 33 #[vl, .int .i64 a, vm] w (RLP cs a mem w) := by
  have H := Lib.hid h
  have HM := Lib.hid hm
  obtain ⟨A, c, rfl, hnc, hcm⟩ := h.form
  obtain ⟨Am, cm, rfl⟩ := hm.form
  clear h hm
  by_cases hok : RunOk cs a mem
  · have HOK := Lib.hid hok
    obtain ⟨n, rfl, hn1, hn8⟩ := lanes_nat hok.2.1
    have HE : Hid (memA cs n mem = (List.range mem.length).map (lockOf cs n mem).M) := Lib.hid (memA_ok hok)
    have HW : Hid (wholeA cs n mem = (splA cs n mem).isNone) := Lib.hid (by unfold wholeA; simp [hok])
    have HSA : Hid (splA cs n mem = (lockOf cs n mem).H.find? (splBad cs n)) := Lib.hid (by unfold splA; rw [lockA_ok hok, show ((n : Int)).toNat = n by omega])
    clear hok
    go_enter Try.func33, Try.ntmps33
    go_wp2_with fail
    refine (ilock_any _ _ cs n mem _ H.out HM.out HOK.out.1 hn1 hn8 HOK.out.2.2).mono ?_
    rintro e w1 ⟨o, vb, va, rfl, hp0, hcs, hvl, hlk, hn, hmm, hrun⟩
    have p2 : w1.cell? ⟨o.p, 2, none⟩ = some o.rm.vm := hrun.obj.cell 2
    have hmem := hrun.rm.mem
    have hB := hrun.base
    rw [hmm, hB] at hmem
    have HMEM := Lib.hid (memL_own hmem)
    have HR := Lib.hid hrun
    have HP0 := Lib.hid hp0
    have HIN : Hid (∀ x ∈ (lockOf cs n mem).H, x.1 < o.cs.length) := Lib.hid (by rw [hcs]; exact fun x hx => (lockOf_in HOK.out.1 x hx).2.1)
    have hlen := lockOf_len (n := n) (mem := mem) HOK.out.1
    have HSP : Hid ((lockOf cs n mem).H.find? (splBad o.cs o.rm.n) = splA cs n mem) := Lib.hid (by rw [hcs, hn, HSA.out])
    clear hrun hvl hlk hmem hB hp0 hcs hn hmm
    go_wp2_with fail
    refine (isplit_any o _ _ _ _ HR.out HIN.out (by omega)).mono ?_
    rintro e w2 ⟨rfl, hp2⟩
    rw [HSP.out]
    have z2 := keepPc hp2 p2
    obtain ⟨vv, Hvv⟩ : ∃ vv, Hid (o.rm.vm = vv) := ⟨_, Lib.hid rfl⟩
    rw [Hvv.out] at z2 HMEM
    have HPF : Hid (Pure w w2) := Lib.hid ((HP0.out.trans HR.out.pure).trans hp2)
    have HMF := Lib.hid ((HMEM.out.pure hp2).base' HP0.out.size)
    have hpf := HPF.out
    have hop : o.p < w2.heap.size := World.block_lt_of_cell? _ _ z2
    clear p2
    cases hsp : splA cs n mem with
    | none =>
      have HW2 : Hid (wholeA cs n mem = true) := Lib.hid (by rw [HW.out, hsp]; rfl)
      unfold spl2
      clear hsp
      go_wp2
      refine bodyPost_ret (results_tmp2 rfl _ _ _) rfl ?_
      refine ⟨vv, by rw [HW2.out]; rfl, ?_, by exact (by repeat (first | assumption | exact Pure.refl _ | refine Pure.drewN ?_ _ | refine Pure.drew ?_ | refine Pure.alloc ?_ _ | refine Pure.setCell ?_ (by simp <;> omega) _))⟩
      rw [HE.out]
      exact HMF.out.pure (by exact (by repeat (first | assumption | exact Pure.refl _ | refine Pure.drewN ?_ _ | refine Pure.drew ?_ | refine Pure.alloc ?_ _ | refine Pure.setCell ?_ (by simp <;> omega) _)))
    | some y =>
      have HW2 : Hid (wholeA cs n mem = false) := Lib.hid (by rw [HW.out, hsp]; rfl)
      unfold spl2
      clear hsp
      go_wp2
      refine bodyPost_ret (results_tmp2 rfl _ _ _) rfl ?_
      refine ⟨vv, by rw [HW2.out]; rfl, ?_, by exact (by repeat (first | assumption | exact Pure.refl _ | refine Pure.drewN ?_ _ | refine Pure.drew ?_ | refine Pure.alloc ?_ _ | refine Pure.setCell ?_ (by simp <;> omega) _))⟩
      rw [HE.out]
      exact HMF.out.pure (by exact (by repeat (first | assumption | exact Pure.refl _ | refine Pure.drewN ?_ _ | refine Pure.drew ?_ | refine Pure.alloc ?_ _ | refine Pure.setCell ?_ (by simp <;> omega) _)))
  · have HOK := Lib.hid hok
    have HE : Hid (memA cs a mem = []) := Lib.hid (memA_no hok)
    have HW : Hid (wholeA cs a mem = false) := Lib.hid (wholeA_no hok)
    clear hok
    go_enter Try.func33, Try.ntmps33
    go_wp2_with fail
    refine (ino_any _ _ cs a mem _ H.out HM.out hs1 hs2 HOK.out).mono ?_
    rintro e w1 ⟨rfl, hp1⟩
    go_wp2
    refine bodyPost_ret (results_tmp2 rfl _ _ _) rfl ?_
    refine ⟨_, by rw [HW.out]; rfl, ?_, hp1⟩
    rw [HE.out]; exact OwnO.of_own (World.ownsRow_nil _ _ _ _)

end Go.Proofs.Ytkolnakcgjlcgaa

namespace Go.Proofs.Ytkolnakcgjlcgaa
open Go.RowKit

set_option maxHeartbeats 2000000 in
set_option maxRecDepth 100000 in
theorem ispl_any (vl vm : Value) (cs : List Cd) (a : Int) (mem : List Int) (w : World) (h : Codes w vl cs) (hm : Ints w vm mem) (hs1 : cs.length ≤ 1048576) (hs2 : mem.length ≤ 1048576) :
    Calls Try.prog 31 #[vl, .int .i64 a, vm] w fun e w' => e = .returned (spl2 (splA cs a mem)) ∧ Pure w w' := by
  have H := Lib.hid h
  have HM := Lib.hid hm
  obtain ⟨A, c, rfl, hnc, hcm⟩ := h.form
  obtain ⟨Am, cm, rfl⟩ := hm.form
  clear h hm
  by_cases hok : RunOk cs a mem
  · have HOK := Lib.hid hok
    obtain ⟨n, rfl, hn1, hn8⟩ := lanes_nat hok.2.1
    have HSA : Hid (splA cs n mem = (lockOf cs n mem).H.find? (splBad cs n)) := Lib.hid (by unfold splA; rw [lockA_ok hok, show ((n : Int)).toNat = n by omega])
    clear hok
    have HZ := Lib.hid (heap_alloc_new w (.cells #[.int .i64 0, .int .i64 0] 33))
    have hp0 : Pure w (w.alloc (.cells #[.int .i64 0, .int .i64 0] 33)) := by exact (by repeat (first | assumption | exact Pure.refl _ | refine Pure.drewN ?_ _ | refine Pure.drew ?_ | refine Pure.alloc ?_ _ | refine Pure.setCell ?_ (by simp <;> omega) _))
    have HP00 := Lib.hid hp0
    clear hp0
    go_enter Try.func31, Try.ntmps31
    go_wp2_with fail
    refine (ilock_any _ _ cs n mem _ (H.out.keep HP00.out) (HM.out.keep HP00.out) HOK.out.1 hn1 hn8 HOK.out.2.2).mono ?_
    rintro e w1 ⟨o, vb, va, rfl, hp0, hcs, hvl, hlk, hn, hmm, hrun⟩
    have HR := Lib.hid hrun
    have HP1 := Lib.hid (hp0.trans hrun.pure)
    have HIN : Hid (∀ x ∈ (lockOf cs n mem).H, x.1 < o.cs.length) := Lib.hid (by rw [hcs]; exact fun x hx => (lockOf_in HOK.out.1 x hx).2.1)
    have hlen := lockOf_len (n := n) (mem := mem) HOK.out.1
    have HSP : Hid ((lockOf cs n mem).H.find? (splBad o.cs o.rm.n) = splA cs n mem) := Lib.hid (by rw [hcs, hn, HSA.out])
    clear hrun hvl hlk hp0 hcs hn hmm
    go_wp2_with fail
    refine (isplit_any o _ _ _ _ HR.out HIN.out (by omega)).mono ?_
    rintro e w2 ⟨rfl, hp2⟩
    rw [HSP.out]
    have HPF : Hid (Pure w w2) := Lib.hid ((HP00.out.trans HP1.out).trans hp2)
    have hpf := HPF.out
    have hz : w2.heap[w.heap.size]? = some (.cells #[.int .i64 0, .int .i64 0] 33 (0, 0)) := (Chg.of_pure (S := fun _ => False) (HP1.out.trans hp2)).heap HZ.out id
    have HZ2 := Lib.hid hz
    have c0 : w2.cell? ⟨w.heap.size, 0, none⟩ = some (.int .i64 0) := (cell_of_row w2 _ 0 _ _ _ hz).trans rfl
    have c1 : w2.cell? ⟨w.heap.size, 1, none⟩ = some (.int .i64 0) := (cell_of_row w2 _ 1 _ _ _ hz).trans rfl
    have f0 := frozen_of_row w2 w.heap.size 0 _ _ hz
    have f1 := frozen_of_row w2 w.heap.size 1 _ _ hz
    clear hp2 hz
    cases hsp : splA cs n mem with
    | none =>
      have HQ : Hid (spl2 (splA cs n mem) = .tuple #[.agg #[.int .i64 0, .int .i64 0], .bool false]) := Lib.hid (by rw [hsp]; rfl)
      unfold spl2
      clear hsp
      go_wp2
      obtain ⟨y0, y1, y2⟩ := pair_set HZ2.out (.int .i64 0) (.int .i64 0)
      refine bodyPost_ret (v := .tuple #[.agg #[.int .i64 0, .int .i64 0], .bool false]) (by simp [results, Try.results31, go_sem, y1, y2]) rfl ?_
      exact ⟨by rw [HQ.out], by exact (by repeat (first | assumption | exact Pure.refl _ | refine Pure.drewN ?_ _ | refine Pure.drew ?_ | refine Pure.alloc ?_ _ | refine Pure.setCell ?_ (by simp <;> omega) _))⟩
    | some y =>
      obtain ⟨u0, u1, u2⟩ := y
      have HQ : Hid (spl2 (splA cs n mem) = .tuple #[.agg #[.int .i64 (u0 : Int), .int .i64 (u1 : Int)], .bool true]) := Lib.hid (by rw [hsp]; rfl)
      unfold spl2
      clear hsp
      simp only
      go_wp2
      obtain ⟨y0, y1, y2⟩ := pair_set HZ2.out (.int .i64 (u0 : Int)) (.int .i64 (u1 : Int))
      refine bodyPost_ret (v := .tuple #[.agg #[.int .i64 (u0 : Int), .int .i64 (u1 : Int)], .bool true]) (by simp [results, Try.results31, go_sem, y1, y2]) rfl ?_
      exact ⟨by rw [HQ.out], by exact (by repeat (first | assumption | exact Pure.refl _ | refine Pure.drewN ?_ _ | refine Pure.drew ?_ | refine Pure.alloc ?_ _ | refine Pure.setCell ?_ (by simp <;> omega) _))⟩
  · have HOK := Lib.hid hok
    have HSA : Hid (splA cs a mem = none) := Lib.hid (by unfold splA; rw [lockA_no hok]; rfl)
    have HZ := Lib.hid (heap_alloc_new w (.cells #[.int .i64 0, .int .i64 0] 33))
    have hp0 : Pure w (w.alloc (.cells #[.int .i64 0, .int .i64 0] 33)) := by exact (by repeat (first | assumption | exact Pure.refl _ | refine Pure.drewN ?_ _ | refine Pure.drew ?_ | refine Pure.alloc ?_ _ | refine Pure.setCell ?_ (by simp <;> omega) _))
    have HP00 := Lib.hid hp0
    clear hok hp0
    rw [HSA.out]
    unfold spl2
    go_enter Try.func31, Try.ntmps31
    go_wp2_with fail
    refine (ino_any _ _ cs a mem _ (H.out.keep HP00.out) (HM.out.keep HP00.out) hs1 hs2 HOK.out).mono ?_
    rintro e w1 ⟨rfl, hp1⟩
    have hz : w1.heap[w.heap.size]? = some (.cells #[.int .i64 0, .int .i64 0] 33 (0, 0)) := (Chg.of_pure (S := fun _ => False) hp1).heap HZ.out id
    have HZ2 := Lib.hid hz
    have hpf := HP00.out.trans hp1
    have c0 : w1.cell? ⟨w.heap.size, 0, none⟩ = some (.int .i64 0) := (cell_of_row w1 _ 0 _ _ _ hz).trans rfl
    have c1 : w1.cell? ⟨w.heap.size, 1, none⟩ = some (.int .i64 0) := (cell_of_row w1 _ 1 _ _ _ hz).trans rfl
    have f0 := frozen_of_row w1 w.heap.size 0 _ _ hz
    have f1 := frozen_of_row w1 w.heap.size 1 _ _ hz
    clear hp1 hz
    go_wp2
    obtain ⟨y0, y1, y2⟩ := pair_set HZ2.out (.int .i64 0) (.int .i64 0)
    refine bodyPost_ret (v := .tuple #[.agg #[.int .i64 0, .int .i64 0], .bool false]) (by simp [results, Try.results31, go_sem, y1, y2]) rfl ?_
    exact ⟨rfl, by exact (by repeat (first | assumption | exact Pure.refl _ | refine Pure.drewN ?_ _ | refine Pure.drew ?_ | refine Pure.alloc ?_ _ | refine Pure.setCell ?_ (by simp <;> omega) _))⟩

end Go.Proofs.Ytkolnakcgjlcgaa
