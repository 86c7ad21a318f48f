/- Where a block ends and which block is around a place, as the reference finds them. A run in lockstep, as the reference keeps it in memory: its object; the lanes whose register is not 0; the mask of all lanes. Which instructions are valid, as the reference finds it: the rest. No condition. -/
import Derived.Test.YtajaonejpggcbaaQaa
import Derived.Test.YtajaonejpggcbaaQad
import Derived.Test.YtajaonejpggcbaaQae

namespace Go.Proofs.Ytajaonejpggcbaa
open Go.RowKit

set_option maxHeartbeats 400000 in
theorem l4Opens_any (c : Cd) (w : World) (B : Bool) (hB : B = true ↔ Opens c) :
    Calls Try.prog 143 #[cdv c] w fun e w' => e = .returned (.bool B) ∧ Pure w w' := by
  unfold cdv
  obtain ⟨o, a, b, c⟩ := c
  unfold Opens at hB
  simp only at hB ⊢
  have HB := Lib.hid hB; clear hB
  by_cases h11 : o = 11
  · have d11 : (o == 11) = true := by simp [h11]
    have H11 := Lib.hid h11; clear h11
    go_enter Try.func143, Try.ntmps143
    go_wp2
    go_ret
    exact ⟨ret_bool (HB.out.2 (.inl H11.out)).symm, (by repeat (first | assumption | exact Pure.refl _ | refine Pure.drewN ?_ _ | refine Pure.drew ?_ | refine Pure.alloc ?_ _ | refine Pure.setCell ?_ (by simp <;> omega) _))⟩
  · have d11 : (o == 11) = false := by simp [h11]
    have H11 := Lib.hid h11; clear h11
    go_enter Try.func143, Try.ntmps143
    go_wp2
    go_ret
    refine ⟨ret_bool ?_, (by repeat (first | assumption | exact Pure.refl _ | refine Pure.drewN ?_ _ | refine Pure.drew ?_ | refine Pure.alloc ?_ _ | refine Pure.setCell ?_ (by simp <;> omega) _))⟩
    rw [Bool.eq_iff_iff, HB.out, beq_iff_eq]
    exact ⟨fun h => .inr h, fun h => h.resolve_left H11.out⟩

def EndPost (r : Int × Int) (w : World) (e : Ending) (w' : World) : Prop := e = .returned (.tuple #[.int .i64 r.1, .int .i64 r.2]) ∧ Pure w w'

set_option maxHeartbeats 1000000 in
set_option maxRecDepth 100000 in
theorem l4End_any (v : Value) (cs : List Cd) (p : Nat) (r : Int × Int) (w : World) (h : Codes w v cs) (_hsmall : cs.length ≤ 1048576) (hp : p < cs.length) (hr : endAt cs p = r) :
    Calls Try.prog 128 #[v, .int .i64 p] w (EndPost r w) := by
  have H := Lib.hid h
  have HR := Lib.hid hr
  obtain ⟨A, c, rfl, hnc, hcm⟩ := h.form
  clear h hr
  go_enter Try.func128, Try.ntmps128
  go_wp2
  go_loopg [8, 6, 7] (cs.length - (p + 1)) (fun gk i d ot wr => ∃ (k d' : Nat) (o : Int), gk + k = cs.length ∧ i = .int .i64 k ∧ d = .int .i64 d' ∧ ot = .int .i64 o ∧ Pure w wr ∧ d' ≤ k ∧ endAt cs p = eScan (cs.drop k) k d' o)
  case atStart => exact ⟨p + 1, 0, -1, Nat.sub_add_cancel (show p + 1 ≤ cs.length from hp), by go_num, rfl, rfl, Pure.refl _, by omega, rfl⟩
  case round =>
    obtain ⟨k, d, ot, hgk, rfl, rfl, rfl, hp, hdk, hsc⟩ := hrel
    have Hgk := Lib.hid hgk
    have Hsc := Lib.hid hsc
    have hkn : k ≤ cs.length := by omega
    clear hgk hsc
    by_cases hlt : k < cs.length
    · obtain ⟨b, o, rfl, hb, hc⟩ := H.out.at_ hlt
      obtain ⟨cd, Hcd⟩ : ∃ cd, Hid (cs.getD k default = cd) := ⟨_, rfl⟩
      have hat := hc.keep hp hb
      rw [Hcd.out] at hat
      obtain ⟨q0, q1, q2, q3⟩ := hat
      clear hc
      have hdr := drop_cons hlt
      rw [Hcd.out] at hdr
      have hst := Hsc.out
      rw [hdr] at hst
      have Hst := Lib.hid hst
      clear hst hdr
      by_cases hop : Opens cd
      · go_wp2_with fail
        refine (l4Opens_any cd _ true (by simp [hop])).mono ?_
        rintro e w1 ⟨rfl, hp1⟩
        have hp2 := hp.trans hp1
        have Hop := Lib.hid hop
        clear hop q0 q1 q2 q3
        go_wp2
        go_roundg (cs.length - (k + 1))
        case measure => have := Hgk.out; omega
        case rel =>
          refine ⟨k + 1, d + 1, ot, by have := Hgk.out; omega, by go_num, by go_num, rfl, hp2, by omega, ?_⟩
          rw [Hst.out]; simp only [eScan, if_pos Hop.out]
      · go_wp2_with fail
        refine (l4Opens_any cd _ false (by simp [hop])).mono ?_
        rintro e w1 ⟨rfl, hp1⟩
        have hp2 := hp.trans hp1
        have p0 := (hp1.cell b (o + k * 4) (by have := hp.size; omega)).trans q0
        have Hop := Lib.hid hop
        clear hop q0 q1 q2 q3
        by_cases h12 : cd.op = 12
        · have d12 : (cd.op == 12) = true := by simp [h12]
          have d14 : (cd.op == 14) = false := by simp [h12]
          have H12 := Lib.hid h12
          clear h12
          by_cases hd0 : d = 0
          · subst hd0
            go_wp2
            go_roundg (cs.length - (k + 1))
            case measure => have := Hgk.out; omega
            case rel =>
              refine ⟨k + 1, 0, k, by have := Hgk.out; omega, by go_num, by go_num, rfl, hp2, by omega, ?_⟩
              rw [Hst.out]; simp only [eScan, if_neg Hop.out, H12.out, true_and, if_true]
          · have dd : ((d : Int) == 0) = false := by rw [beq_eq_false_iff_ne]; omega
            have Hd0 := Lib.hid hd0
            clear hd0
            go_wp2
            go_roundg (cs.length - (k + 1))
            case measure => have := Hgk.out; omega
            case rel =>
              refine ⟨k + 1, d, ot, by have := Hgk.out; omega, by go_num, by go_num, rfl, hp2, by omega, ?_⟩
              rw [Hst.out]; simp only [eScan, if_neg Hop.out, H12.out, Hd0.out]; simp
        · have d12 : (cd.op == 12) = false := by simp [h12]
          have H12 := Lib.hid h12
          clear h12
          by_cases h14 : cd.op = 14
          · have d14 : (cd.op == 14) = true := by simp [h14]
            have H14 := Lib.hid h14
            clear h14
            by_cases hd0 : d = 0
            · subst hd0
              have hres : r = ((k : Int), ot) := by
                rw [← HR.out, Hst.out]; unfold eScan; rw [if_neg Hop.out, if_neg (fun h => H12.out h.1), if_pos ⟨H14.out, rfl⟩]
              have Hres := Lib.hid hres
              clear hres
              go_wp2
              refine bodyPost_ret (results_tmp2 rfl _ _ _) rfl ⟨?_, hp2⟩
              rw [Hres.out]; rfl
            · have dd : ((d : Int) == 0) = false := by rw [beq_eq_false_iff_ne]; omega
              have Hd0 := Lib.hid hd0
              have hd1 : 1 ≤ d := by omega
              clear hd0
              go_wp2
              go_roundg (cs.length - (k + 1))
              case measure => have := Hgk.out; omega
              case rel =>
                refine ⟨k + 1, d - 1, ot, by have := Hgk.out; omega, by go_num, by go_num, rfl, hp2, by omega, ?_⟩
                rw [Hst.out]; simp only [eScan, if_neg Hop.out, H14.out, Hd0.out]; simp
          · have d14 : (cd.op == 14) = false := by simp [h14]
            have H14 := Lib.hid h14
            clear h14
            go_wp2
            go_roundg (cs.length - (k + 1))
            case measure => have := Hgk.out; omega
            case rel =>
              refine ⟨k + 1, d, ot, by have := Hgk.out; omega, by go_num, by go_num, rfl, hp2, by omega, ?_⟩
              rw [Hst.out]; simp only [eScan, if_neg Hop.out, if_neg (fun h : cd.op = 12 ∧ d = 0 => H12.out h.1), if_neg (fun h : cd.op = 14 ∧ d = 0 => H14.out h.1), if_neg H14.out]
    · have hkl : k = cs.length := by omega
      subst hkl
      have hres : r = (-1, ot) := by
        rw [← HR.out, Hsc.out, List.drop_length]; rfl
      have Hres := Lib.hid hres
      clear hres
      go_wp2
      refine bodyPost_ret (results_tmp2 rfl _ _ _) rfl ⟨?_, hp⟩
      rw [Hres.out]; rfl

set_option maxHeartbeats 1000000 in
set_option maxRecDepth 100000 in
theorem l4Around_any (v : Value) (cs : List Cd) (p : Nat) (r : Int) (w : World) (h : Codes w v cs) (_hsmall : cs.length ≤ 1048576) (hp : p ≤ cs.length) (hr : aroundAt cs p = r) :
    Calls Try.prog 129 #[v, .int .i64 p] w fun e w' => e = .returned (.int .i64 r) ∧ Pure w w' := by
  have H := Lib.hid h
  have HR := Lib.hid hr
  obtain ⟨A, c, rfl, hnc, hcm⟩ := h.form
  clear h hr
  go_enter Try.func129, Try.ntmps129
  go_wp2
  go_loopg [6, 5] p (fun gk i d wr => ∃ (d' : Nat), gk ≤ p ∧ i = .int .i64 ((gk : Int) - 1) ∧ d = .int .i64 d' ∧ Pure w wr ∧ d' + gk ≤ p ∧ aroundAt cs p = bScan cs gk d')
  case atStart => exact ⟨0, Nat.le_refl _, rfl, rfl, Pure.refl _, by omega, rfl⟩
  case round =>
    obtain ⟨d, hgp, rfl, rfl, hp1, hdk, hsc⟩ := hrel
    rcases gk with _ | k
    · have hres : r = -1 := by rw [← HR.out, hsc]; rfl
      have Hres := Lib.hid hres
      clear hres hsc
      have hlt : ((0 : Nat) : Int) - 1 < 0 := by omega
      go_wp2
      go_ret
      exact ⟨ret_int Hres.out.symm, hp1⟩
    · have hlt : k < cs.length := by omega
      have hk1 : ((k + 1 : Nat) : Int) - 1 = k := by omega
      rw [hk1]
      clear hk1
      simp only [bScan] at hsc
      obtain ⟨b, o, rfl, hb, hc⟩ := H.out.at_ hlt
      obtain ⟨cd, Hcd⟩ : ∃ cd, Hid (cs.getD k default = cd) := ⟨_, rfl⟩
      have hat := hc.keep hp1 hb
      rw [Hcd.out] at hat hsc
      have Hsc := Lib.hid hsc
      obtain ⟨q0, q1, q2, q3⟩ := hat
      clear hc hsc
      by_cases h14 : cd.op = 14
      · have d14 : (cd.op == 14) = true := by simp [h14]
        have hop : ¬ Opens cd := by unfold Opens; omega
        have H14 := Lib.hid h14
        clear h14
        go_wp2_with fail
        refine (l4Opens_any cd _ false (by simp [hop])).mono ?_
        rintro e w1 ⟨rfl, hp2⟩
        have hp3 := hp1.trans hp2
        have Hop := Lib.hid hop
        clear hop q0 q1 q2 q3
        go_wp2
        go_roundg k
        case measure => omega
        case rel =>
          refine ⟨d + 1, by omega, by go_num, by go_num, hp3, by omega, ?_⟩
          rw [Hsc.out, if_pos H14.out]
      · have d14 : (cd.op == 14) = false := by simp [h14]
        have H14 := Lib.hid h14
        clear h14
        by_cases hop : Opens cd
        · by_cases hd0 : d = 0
          · subst hd0
            have hres : r = (k : Int) := by rw [← HR.out, Hsc.out, if_neg H14.out, if_pos hop, if_pos rfl]
            have Hres := Lib.hid hres
            clear hres
            go_wp2_with fail
            refine (l4Opens_any cd _ true (by simp [hop])).mono ?_
            rintro e w1 ⟨rfl, hp2⟩
            have hp3 := hp1.trans hp2
            clear hop q0 q1 q2 q3
            go_wp2
            go_ret
            exact ⟨ret_int Hres.out.symm, hp3⟩
          · have dd : ((d : Int) == 0) = false := by rw [beq_eq_false_iff_ne]; omega
            have Hd0 := Lib.hid hd0
            have hd1 : 1 ≤ d := by omega
            clear hd0
            go_wp2_with fail
            refine (l4Opens_any cd _ true (by simp [hop])).mono ?_
            rintro e w1 ⟨rfl, hp2⟩
            have hp3 := hp1.trans hp2
            have Hop := Lib.hid hop
            clear hop q0 q1 q2 q3
            go_wp2
            go_roundg k
            case measure => omega
            case rel =>
              refine ⟨d - 1, by omega, by go_num, by go_num, hp3, by omega, ?_⟩
              rw [Hsc.out, if_neg H14.out, if_pos Hop.out, if_neg Hd0.out]
        · go_wp2_with fail
          refine (l4Opens_any cd _ false (by simp [hop])).mono ?_
          rintro e w1 ⟨rfl, hp2⟩
          have hp3 := hp1.trans hp2
          have Hop := Lib.hid hop
          clear hop q0 q1 q2 q3
          go_wp2
          go_roundg k
          case measure => omega
          case rel =>
            refine ⟨d, by omega, by go_num, by go_num, hp3, by omega, ?_⟩
            rw [Hsc.out, if_neg H14.out, if_neg Hop.out]

end Go.Proofs.Ytajaonejpggcbaa

namespace Go.Proofs.Ytajaonejpggcbaa
open Go.RowKit

theorem shl8 {j : Nat} (h : j < 9) : wrap64 (2 ^ j) = ((2 ^ j : Nat) : Int) := by
  have : j = 0 ∨ j = 1 ∨ j = 2 ∨ j = 3 ∨ j = 4 ∨ j = 5 ∨ j = 6 ∨ j = 7 ∨ j = 8 := by omega
  rcases this with rfl | rfl | rfl | rfl | rfl | rfl | rfl | rfl | rfl
  all_goals (rw [← IntWalk.i64_left, IntWalk.i64_in _ ⟨by decide, by decide⟩]; rfl)
theorem pow8 {j : Nat} (h : j ≤ 8) : 2 ^ j ≤ 256 := by
  calc 2 ^ j ≤ 2 ^ 8 := Nat.pow_le_pow_right (by decide) h
    _ = 256 := rfl

/-- Where a run of the reference lies, and what it does not change. -/
structure SO where
  rm : RMo
  w0 : World
  cs : List Cd
  vl : Value
  p : Nat
  vc : Value
  chk : Bool
  sets : Nat → Nat

def beatsL (H : List (Nat × Nat × (Nat → Nat → Int))) : List Value := H.flatMap fun x => [.int .i64 (x.1 : Nat), .int .i64 (x.2.1 : Nat)]
/-- Whether a barrier was split. -/
def splitH (cs : List Cd) (n : Nat) (H : List (Nat × Nat × (Nat → Nat → Int))) : Bool := H.any fun x => decide ((cs.getD x.1 default).op = 10) && !decide (x.2.1 = 2 ^ n - 1)
/-- Whether a register of a set differs between the lanes of a mask (first: the lane that is compared with). -/
def unevTo (set mask : Nat) (R : Nat → Nat → Int) : Nat → Option Nat × Bool
  | 0 => (none, false)
  | j + 1 =>
    let (f, b) := unevTo set mask R j
    if mask.testBit j then (some (f.getD j), b || (List.range 4).any fun r => set.testBit r && !decide (R j r = R (f.getD j) r)) else (f, b)
def unev (n set mask : Nat) (R : Nat → Nat → Int) : Bool := (unevTo set mask R n).2
def SO.un (o : SO) (H : List (Nat × Nat × (Nat → Nat → Int))) : Bool := o.chk && H.any fun x => unev o.rm.n (o.sets x.1) x.2.1 x.2.2

def objC (o : SO) (vt : Value) (sp un : Bool) : Array Value := #[o.vl, .int .i64 (o.rm.n : Nat), o.rm.vr, o.rm.vm, vt, .bool sp, o.vc, .bool un]
def Obj8 (o : SO) (w : World) (vt : Value) (sp un : Bool) : Prop := w.heap[o.p]? = some (.cells (objC o vt sp un) 104 (0, 0))
section
variable {o : SO} {w w' : World} {vt : Value} {sp un : Bool}
theorem Obj8.cell (h : Obj8 o w vt sp un) (i : Nat) : w.cell? ⟨o.p, i, none⟩ = (objC o vt sp un)[i]? := cell_of_row w o.p i _ _ _ h
theorem Obj8.frozen (h : Obj8 o w vt sp un) (i : Nat) : w.frozen? ⟨o.p, i, none⟩ = false := frozen_of_row w o.p i _ _ h
theorem Obj8.lt (h : Obj8 o w vt sp un) : o.p < w.heap.size := (Array.getElem?_eq_some_iff.1 h).1
theorem Obj8.chg {S : Nat → Prop} (h : Obj8 o w vt sp un) (hc : Chg S w w') (hn : ¬ S o.p) : Obj8 o w' vt sp un := hc.heap h hn
theorem Obj8.pure (h : Obj8 o w vt sp un) (hp : Pure w w') : Obj8 o w' vt sp un := h.chg (S := fun _ => False) (Chg.of_pure hp) id
theorem Obj8.setSplit (h : Obj8 o w vt sp un) (b : Bool) : Obj8 o (w.setCell ⟨o.p, 5, none⟩ (.bool b)) vt b un := by
  unfold Obj8
  rw [heap_setCell_same w o.p 5 _ _ (.bool b) h]; rfl
/-- The run's object is none of the registers' and the memory's blocks. -/
theorem Obj8.apart {R : Nat → Nat → Int} {M : Nat → Int} (h : Obj8 o w vt sp un) (hr : RM o.rm w R M) : ¬ o.rm.own o.p ∧ o.p ≠ o.rm.gr ∧ o.p ≠ o.rm.gm ∧ ∀ k, k < o.rm.n → o.p ≠ o.rm.rows k := by
  have hgm : o.p ≠ o.rm.gm := fun e => hr.mem.ne_heap h (by decide) o.rm.gm rfl e.symm
  have hrow : ∀ k, k < o.rm.n → o.p ≠ o.rm.rows k := fun k hk => ne_of_heap h (hr.row k hk) (by decide)
  obtain ⟨cur, b1, _⟩ := hr.outer
  refine ⟨?_, ne_of_heap h b1 (by decide), hgm, hrow⟩
  rintro (⟨k, hk, e⟩ | e)
  · exact hrow k hk e
  · exact hgm e
end

/-- The run under way. -/
structure SRun (o : SO) (w : World) (vt : Value) (s : LS) : Prop where
  pure : Pure o.w0 w
  codes : Codes o.w0 o.vl o.cs
  base : o.rm.B = o.w0.heap.size
  rm : RM o.rm w s.R s.M
  n1 : 1 ≤ o.rm.n
  obj : Obj8 o w vt (splitH o.cs o.rm.n s.H) (o.un s.H)
  plo : o.w0.heap.size ≤ o.p
  tr : OwnO w o.w0.heap.size 84 2 vt s.H.length (beatsL s.H)
  good : Good s
  noChk : o.chk = false → o.vc = .slice none 0 0
  chkS : o.chk = true → (∀ k, o.sets k < 16) ∧ Cells o.w0 o.vc o.cs.length 1 fun j => .int .i64 (o.sets j : Nat)
def SO.own (o : SO) (vt : Value) (k : Nat) : Prop := k = o.p ∨ o.rm.own k ∨ vt.ownBlock = some k
theorem SRun.own_lo {o : SO} {w : World} {vt : Value} {s : LS} (h : SRun o w vt s) : ∀ k, o.own vt k → o.w0.heap.size ≤ k := by
  rintro k (rfl | hk | hk)
  · exact h.plo
  · rw [← h.base]; exact h.rm.own_lo k hk
  · exact (h.tr.lt k hk).1
theorem SRun.keep {o : SO} {w w' : World} {vt : Value} {s : LS} (h : SRun o w vt s) (hp : Pure w w') : SRun o w' vt s :=
  ⟨h.pure.trans hp, h.codes, h.base, h.rm.pure hp, h.n1, h.obj.pure hp, h.plo, h.tr.pure hp, h.good, h.noChk, h.chkS⟩

/-- What happens to the run's blocks between two worlds. -/
def SStep (o : SO) (w : World) (vt : Value) (w' : World) (vt' : Value) : Prop := Chg (o.own vt) w w' ∧ Lies w vt vt'
theorem SStep.refl (o : SO) (w : World) (vt : Value) : SStep o w vt w vt := ⟨Chg.refl _ _, fun _g h => .inl h⟩
theorem SStep.trans {o : SO} {a b c : World} {u v x : Value} (h : SStep o a u b v) (k : SStep o b v c x) : SStep o a u c x := by
  refine ⟨h.1.trans' k.1 fun i hi hs => ?_, fun g hg => ?_⟩
  · rcases hs with hs | hs | hs
    · exact .inl hs
    · exact .inr (.inl hs)
    · rcases h.2 i hs with h2 | h2
      · exact .inr (.inr h2)
      · omega
  · rcases k.2 g hg with h2 | h2
    · exact h.2 g h2
    · exact .inr (Nat.le_trans h.1.size h2)
theorem SStep.of_pure {o : SO} {a b : World} {u : Value} (h : Pure a b) : SStep o a u b u := ⟨Chg.of_pure h, fun _g hg => .inl hg⟩

end Go.Proofs.Ytajaonejpggcbaa

namespace Go.Proofs.Ytajaonejpggcbaa
open Go.RowKit

set_option maxHeartbeats 1000000 in
theorem scv_8 (a b c : Int) (w : World) (B : Bool) (hB : B = true ↔ CdOk ⟨8, a, b, c⟩) :
    Calls Try.prog 103 #[.agg #[.int .i64 8, .int .i64 a, .int .i64 b, .int .i64 c]] w fun e w' => e = .returned (.bool B) ∧ Pure w w' := by
  have HB := Lib.hid hB; clear hB
  obtain ⟨ra, hra⟩ := regB a
  obtain ⟨rb, hrb⟩ := regB b
  have HA := Lib.hid hra; clear hra
  have HR := Lib.hid hrb; clear hrb
  cases ra
  · go_enter Try.func103, Try.ntmps103
    go_wp2_with fail
    refine (l1In_any _ _ _ _ false (by have := HA.out; simpa using this)).mono ?_
    rintro e w1 ⟨rfl, rfl⟩
    go_wp2_with fail
    refine (l1In_any _ _ _ _ rb (by have := HR.out; simpa using this)).mono ?_
    rintro e w1 ⟨rfl, rfl⟩
    go_wp2
    go_ret
    refine ⟨ret_bool ?_, (by repeat (first | assumption | exact Pure.refl _ | refine Pure.drewN ?_ _ | refine Pure.drew ?_ | refine Pure.alloc ?_ _ | refine Pure.setCell ?_ (by simp <;> omega) _))⟩
    rw [Bool.eq_iff_iff, HB.out]
    have t1 := HA.out; have t2 := HR.out
    simp only [Bool.false_eq_true, false_iff, CdOk, Reg, Word, true_and, true_or, or_true] at *
    first | omega | (constructor <;> intro h <;> omega)
  · cases rb
    · go_enter Try.func103, Try.ntmps103
      go_wp2_with fail
      refine (l1In_any _ _ _ _ true (by have := HA.out; simpa using this)).mono ?_
      rintro e w1 ⟨rfl, rfl⟩
      go_wp2_with fail
      refine (l1In_any _ _ _ _ false (by have := HR.out; simpa using this)).mono ?_
      rintro e w1 ⟨rfl, rfl⟩
      go_wp2
      go_ret
      refine ⟨ret_bool ?_, (by repeat (first | assumption | exact Pure.refl _ | refine Pure.drewN ?_ _ | refine Pure.drew ?_ | refine Pure.alloc ?_ _ | refine Pure.setCell ?_ (by simp <;> omega) _))⟩
      rw [Bool.eq_iff_iff, HB.out]
      have t1 := HA.out; have t2 := HR.out
      simp only [Bool.false_eq_true, false_iff, true_iff, CdOk, Reg, Word, true_and, true_or, or_true] at *
      first | omega | (constructor <;> intro h <;> omega)
    · go_enter Try.func103, Try.ntmps103
      go_wp2_with fail
      refine (l1In_any _ _ _ _ true (by have := HA.out; simpa using this)).mono ?_
      rintro e w1 ⟨rfl, rfl⟩
      go_wp2_with fail
      refine (l1In_any _ _ _ _ true (by have := HR.out; simpa using this)).mono ?_
      rintro e w1 ⟨rfl, rfl⟩
      go_wp2
      go_ret
      refine ⟨ret_bool ?_, (by repeat (first | assumption | exact Pure.refl _ | refine Pure.drewN ?_ _ | refine Pure.drew ?_ | refine Pure.alloc ?_ _ | refine Pure.setCell ?_ (by simp <;> omega) _))⟩
      rw [Bool.eq_iff_iff, HB.out]
      have t1 := HA.out; have t2 := HR.out
      simp only [true_iff, beq_iff_eq, CdOk, Reg, Word, true_and, true_or, or_true] at *
      first | omega | (constructor <;> intro h <;> omega)

set_option maxHeartbeats 1000000 in
theorem scv_9 (a b c : Int) (w : World) (B : Bool) (hB : B = true ↔ CdOk ⟨9, a, b, c⟩) :
    Calls Try.prog 103 #[.agg #[.int .i64 9, .int .i64 a, .int .i64 b, .int .i64 c]] w fun e w' => e = .returned (.bool B) ∧ Pure w w' := by
  have HB := Lib.hid hB; clear hB
  obtain ⟨ra, hra⟩ := regB a
  obtain ⟨rb, hrb⟩ := regB b
  have HA := Lib.hid hra; clear hra
  have HR := Lib.hid hrb; clear hrb
  cases ra
  · go_enter Try.func103, Try.ntmps103
    go_wp2_with fail
    refine (l1In_any _ _ _ _ false (by have := HA.out; simpa using this)).mono ?_
    rintro e w1 ⟨rfl, rfl⟩
    go_wp2_with fail
    refine (l1In_any _ _ _ _ rb (by have := HR.out; simpa using this)).mono ?_
    rintro e w1 ⟨rfl, rfl⟩
    go_wp2
    go_ret
    refine ⟨ret_bool ?_, (by repeat (first | assumption | exact Pure.refl _ | refine Pure.drewN ?_ _ | refine Pure.drew ?_ | refine Pure.alloc ?_ _ | refine Pure.setCell ?_ (by simp <;> omega) _))⟩
    rw [Bool.eq_iff_iff, HB.out]
    have t1 := HA.out; have t2 := HR.out
    simp only [Bool.false_eq_true, false_iff, CdOk, Reg, Word, true_and, or_true] at *
    first | omega | (constructor <;> intro h <;> omega)
  · cases rb
    · go_enter Try.func103, Try.ntmps103
      go_wp2_with fail
      refine (l1In_any _ _ _ _ true (by have := HA.out; simpa using this)).mono ?_
      rintro e w1 ⟨rfl, rfl⟩
      go_wp2_with fail
      refine (l1In_any _ _ _ _ false (by have := HR.out; simpa using this)).mono ?_
      rintro e w1 ⟨rfl, rfl⟩
      go_wp2
      go_ret
      refine ⟨ret_bool ?_, (by repeat (first | assumption | exact Pure.refl _ | refine Pure.drewN ?_ _ | refine Pure.drew ?_ | refine Pure.alloc ?_ _ | refine Pure.setCell ?_ (by simp <;> omega) _))⟩
      rw [Bool.eq_iff_iff, HB.out]
      have t1 := HA.out; have t2 := HR.out
      simp only [Bool.false_eq_true, false_iff, true_iff, CdOk, Reg, Word, true_and, or_true] at *
      first | omega | (constructor <;> intro h <;> omega)
    · go_enter Try.func103, Try.ntmps103
      go_wp2_with fail
      refine (l1In_any _ _ _ _ true (by have := HA.out; simpa using this)).mono ?_
      rintro e w1 ⟨rfl, rfl⟩
      go_wp2_with fail
      refine (l1In_any _ _ _ _ true (by have := HR.out; simpa using this)).mono ?_
      rintro e w1 ⟨rfl, rfl⟩
      go_wp2
      go_ret
      refine ⟨ret_bool ?_, (by repeat (first | assumption | exact Pure.refl _ | refine Pure.drewN ?_ _ | refine Pure.drew ?_ | refine Pure.alloc ?_ _ | refine Pure.setCell ?_ (by simp <;> omega) _))⟩
      rw [Bool.eq_iff_iff, HB.out]
      have t1 := HA.out; have t2 := HR.out
      simp only [true_iff, beq_iff_eq, CdOk, Reg, Word, true_and, or_true] at *
      first | omega | (constructor <;> intro h <;> omega)

set_option maxHeartbeats 1000000 in
theorem scv_10 (a b c : Int) (w : World) (B : Bool) (hB : B = true ↔ CdOk ⟨10, a, b, c⟩) :
    Calls Try.prog 103 #[.agg #[.int .i64 10, .int .i64 a, .int .i64 b, .int .i64 c]] w fun e w' => e = .returned (.bool B) ∧ Pure w w' := by
  have HB := Lib.hid hB; clear hB
  obtain ⟨ra, hra⟩ := regB a
  obtain ⟨rb, hrb⟩ := regB b
  have HA := Lib.hid hra; clear hra
  have HR := Lib.hid hrb; clear hrb
  by_cases ha0 : a = 0
  · have d0 : (a == 0) = true := by simp [ha0]
    have Ha0 := Lib.hid ha0; clear ha0
    by_cases hb0 : b = 0
    · have d1 : (b == 0) = true := by simp [hb0]
      have Hb0 := Lib.hid hb0; clear hb0
      go_enter Try.func103, Try.ntmps103
      go_wp2_with fail
      refine (l1In_any _ _ _ _ ra (by have := HA.out; simpa using this)).mono ?_
      rintro e w1 ⟨rfl, rfl⟩
      go_wp2_with fail
      refine (l1In_any _ _ _ _ rb (by have := HR.out; simpa using this)).mono ?_
      rintro e w1 ⟨rfl, rfl⟩
      go_wp2
      go_ret
      refine ⟨ret_bool ?_, (by repeat (first | assumption | exact Pure.refl _ | refine Pure.drewN ?_ _ | refine Pure.drew ?_ | refine Pure.alloc ?_ _ | refine Pure.setCell ?_ (by simp <;> omega) _))⟩
      rw [Bool.eq_iff_iff, HB.out]
      have t1 := HA.out; have t2 := HR.out
      simp only [beq_iff_eq, CdOk, Reg, Word, true_and, true_or] at *
      have := Ha0.out; have := Hb0.out; first | omega | (constructor <;> intro h <;> omega)
    · have d1 : (b == 0) = false := by simp [hb0]
      have Hb0 := Lib.hid hb0; clear hb0
      go_enter Try.func103, Try.ntmps103
      go_wp2_with fail
      refine (l1In_any _ _ _ _ ra (by have := HA.out; simpa using this)).mono ?_
      rintro e w1 ⟨rfl, rfl⟩
      go_wp2_with fail
      refine (l1In_any _ _ _ _ rb (by have := HR.out; simpa using this)).mono ?_
      rintro e w1 ⟨rfl, rfl⟩
      go_wp2
      go_ret
      refine ⟨ret_bool ?_, (by repeat (first | assumption | exact Pure.refl _ | refine Pure.drewN ?_ _ | refine Pure.drew ?_ | refine Pure.alloc ?_ _ | refine Pure.setCell ?_ (by simp <;> omega) _))⟩
      rw [Bool.eq_iff_iff, HB.out]
      have t1 := HA.out; have t2 := HR.out
      simp only [Bool.false_eq_true, false_iff, beq_iff_eq, CdOk, Reg, Word, true_and, true_or] at *
      have := Ha0.out; have := Hb0.out; first | omega | (constructor <;> intro h <;> omega)
  · have d0 : (a == 0) = false := by simp [ha0]
    have Ha0 := Lib.hid ha0; clear ha0
    go_enter Try.func103, Try.ntmps103
    go_wp2_with fail
    refine (l1In_any _ _ _ _ ra (by have := HA.out; simpa using this)).mono ?_
    rintro e w1 ⟨rfl, rfl⟩
    go_wp2_with fail
    refine (l1In_any _ _ _ _ rb (by have := HR.out; simpa using this)).mono ?_
    rintro e w1 ⟨rfl, rfl⟩
    go_wp2
    go_ret
    refine ⟨ret_bool ?_, (by repeat (first | assumption | exact Pure.refl _ | refine Pure.drewN ?_ _ | refine Pure.drew ?_ | refine Pure.alloc ?_ _ | refine Pure.setCell ?_ (by simp <;> omega) _))⟩
    rw [Bool.eq_iff_iff, HB.out]
    have t1 := HA.out; have t2 := HR.out
    simp only [Bool.false_eq_true, false_iff, CdOk, Reg, Word, true_and, true_or] at *
    have := Ha0.out; first | omega | (constructor <;> intro h <;> omega)

set_option maxHeartbeats 1000000 in
theorem scv_11 (a b c : Int) (w : World) (B : Bool) (hB : B = true ↔ CdOk ⟨11, a, b, c⟩) :
    Calls Try.prog 103 #[.agg #[.int .i64 11, .int .i64 a, .int .i64 b, .int .i64 c]] w fun e w' => e = .returned (.bool B) ∧ Pure w w' := by
  have HB := Lib.hid hB; clear hB
  obtain ⟨ra, hra⟩ := regB a
  obtain ⟨rb, hrb⟩ := regB b
  have HA := Lib.hid hra; clear hra
  have HR := Lib.hid hrb; clear hrb
  cases ra
  · go_enter Try.func103, Try.ntmps103
    go_wp2_with fail
    refine (l1In_any _ _ _ _ false (by have := HA.out; simpa using this)).mono ?_
    rintro e w1 ⟨rfl, rfl⟩
    go_wp2_with fail
    refine (l1In_any _ _ _ _ rb (by have := HR.out; simpa using this)).mono ?_
    rintro e w1 ⟨rfl, rfl⟩
    go_wp2
    go_ret
    refine ⟨ret_bool ?_, (by repeat (first | assumption | exact Pure.refl _ | refine Pure.drewN ?_ _ | refine Pure.drew ?_ | refine Pure.alloc ?_ _ | refine Pure.setCell ?_ (by simp <;> omega) _))⟩
    rw [Bool.eq_iff_iff, HB.out]
    have t1 := HA.out; have t2 := HR.out
    simp only [Bool.false_eq_true, false_iff, CdOk, Reg, Word, true_and, or_true] at *
    first | omega | (constructor <;> intro h <;> omega)
  · by_cases hb0 : b = 0
    · have d0 : (b == 0) = true := by simp [hb0]
      have Hb0 := Lib.hid hb0; clear hb0
      go_enter Try.func103, Try.ntmps103
      go_wp2_with fail
      refine (l1In_any _ _ _ _ true (by have := HA.out; simpa using this)).mono ?_
      rintro e w1 ⟨rfl, rfl⟩
      go_wp2_with fail
      refine (l1In_any _ _ _ _ rb (by have := HR.out; simpa using this)).mono ?_
      rintro e w1 ⟨rfl, rfl⟩
      go_wp2
      go_ret
      refine ⟨ret_bool ?_, (by repeat (first | assumption | exact Pure.refl _ | refine Pure.drewN ?_ _ | refine Pure.drew ?_ | refine Pure.alloc ?_ _ | refine Pure.setCell ?_ (by simp <;> omega) _))⟩
      rw [Bool.eq_iff_iff, HB.out]
      have t1 := HA.out; have t2 := HR.out
      simp only [true_iff, beq_iff_eq, CdOk, Reg, Word, true_and, or_true] at *
      have := Hb0.out; first | omega | (constructor <;> intro h <;> omega)
    · have d0 : (b == 0) = false := by simp [hb0]
      have Hb0 := Lib.hid hb0; clear hb0
      go_enter Try.func103, Try.ntmps103
      go_wp2_with fail
      refine (l1In_any _ _ _ _ true (by have := HA.out; simpa using this)).mono ?_
      rintro e w1 ⟨rfl, rfl⟩
      go_wp2_with fail
      refine (l1In_any _ _ _ _ rb (by have := HR.out; simpa using this)).mono ?_
      rintro e w1 ⟨rfl, rfl⟩
      go_wp2
      go_ret
      refine ⟨ret_bool ?_, (by repeat (first | assumption | exact Pure.refl _ | refine Pure.drewN ?_ _ | refine Pure.drew ?_ | refine Pure.alloc ?_ _ | refine Pure.setCell ?_ (by simp <;> omega) _))⟩
      rw [Bool.eq_iff_iff, HB.out]
      have t1 := HA.out; have t2 := HR.out
      simp only [Bool.false_eq_true, false_iff, true_iff, CdOk, Reg, Word, true_and, or_true] at *
      have := Hb0.out; first | omega | (constructor <;> intro h <;> omega)

set_option maxHeartbeats 1000000 in
theorem scv_12 (a b c : Int) (w : World) (B : Bool) (hB : B = true ↔ CdOk ⟨12, a, b, c⟩) :
    Calls Try.prog 103 #[.agg #[.int .i64 12, .int .i64 a, .int .i64 b, .int .i64 c]] w fun e w' => e = .returned (.bool B) ∧ Pure w w' := by
  have HB := Lib.hid hB; clear hB
  obtain ⟨ra, hra⟩ := regB a
  obtain ⟨rb, hrb⟩ := regB b
  have HA := Lib.hid hra; clear hra
  have HR := Lib.hid hrb; clear hrb
  by_cases ha0 : a = 0
  · have d0 : (a == 0) = true := by simp [ha0]
    have Ha0 := Lib.hid ha0; clear ha0
    by_cases hb0 : b = 0
    · have d1 : (b == 0) = true := by simp [hb0]
      have Hb0 := Lib.hid hb0; clear hb0
      go_enter Try.func103, Try.ntmps103
      go_wp2_with fail
      refine (l1In_any _ _ _ _ ra (by have := HA.out; simpa using this)).mono ?_
      rintro e w1 ⟨rfl, rfl⟩
      go_wp2_with fail
      refine (l1In_any _ _ _ _ rb (by have := HR.out; simpa using this)).mono ?_
      rintro e w1 ⟨rfl, rfl⟩
      go_wp2
      go_ret
      refine ⟨ret_bool ?_, (by repeat (first | assumption | exact Pure.refl _ | refine Pure.drewN ?_ _ | refine Pure.drew ?_ | refine Pure.alloc ?_ _ | refine Pure.setCell ?_ (by simp <;> omega) _))⟩
      rw [Bool.eq_iff_iff, HB.out]
      have t1 := HA.out; have t2 := HR.out
      simp only [beq_iff_eq, CdOk, Reg, Word, true_and, true_or, or_true] at *
      have := Ha0.out; have := Hb0.out; first | omega | (constructor <;> intro h <;> omega)
    · have d1 : (b == 0) = false := by simp [hb0]
      have Hb0 := Lib.hid hb0; clear hb0
      go_enter Try.func103, Try.ntmps103
      go_wp2_with fail
      refine (l1In_any _ _ _ _ ra (by have := HA.out; simpa using this)).mono ?_
      rintro e w1 ⟨rfl, rfl⟩
      go_wp2_with fail
      refine (l1In_any _ _ _ _ rb (by have := HR.out; simpa using this)).mono ?_
      rintro e w1 ⟨rfl, rfl⟩
      go_wp2
      go_ret
      refine ⟨ret_bool ?_, (by repeat (first | assumption | exact Pure.refl _ | refine Pure.drewN ?_ _ | refine Pure.drew ?_ | refine Pure.alloc ?_ _ | refine Pure.setCell ?_ (by simp <;> omega) _))⟩
      rw [Bool.eq_iff_iff, HB.out]
      have t1 := HA.out; have t2 := HR.out
      simp only [Bool.false_eq_true, false_iff, beq_iff_eq, CdOk, Reg, Word, true_and, true_or, or_true] at *
      have := Ha0.out; have := Hb0.out; first | omega | (constructor <;> intro h <;> omega)
  · have d0 : (a == 0) = false := by simp [ha0]
    have Ha0 := Lib.hid ha0; clear ha0
    go_enter Try.func103, Try.ntmps103
    go_wp2_with fail
    refine (l1In_any _ _ _ _ ra (by have := HA.out; simpa using this)).mono ?_
    rintro e w1 ⟨rfl, rfl⟩
    go_wp2_with fail
    refine (l1In_any _ _ _ _ rb (by have := HR.out; simpa using this)).mono ?_
    rintro e w1 ⟨rfl, rfl⟩
    go_wp2
    go_ret
    refine ⟨ret_bool ?_, (by repeat (first | assumption | exact Pure.refl _ | refine Pure.drewN ?_ _ | refine Pure.drew ?_ | refine Pure.alloc ?_ _ | refine Pure.setCell ?_ (by simp <;> omega) _))⟩
    rw [Bool.eq_iff_iff, HB.out]
    have t1 := HA.out; have t2 := HR.out
    simp only [Bool.false_eq_true, false_iff, CdOk, Reg, Word, true_and, true_or, or_true] at *
    have := Ha0.out; first | omega | (constructor <;> intro h <;> omega)

set_option maxHeartbeats 1000000 in
theorem scv_13 (a b c : Int) (w : World) (B : Bool) (hB : B = true ↔ CdOk ⟨13, a, b, c⟩) :
    Calls Try.prog 103 #[.agg #[.int .i64 13, .int .i64 a, .int .i64 b, .int .i64 c]] w fun e w' => e = .returned (.bool B) ∧ Pure w w' := by
  have HB := Lib.hid hB; clear hB
  obtain ⟨ra, hra⟩ := regB a
  obtain ⟨rb, hrb⟩ := regB b
  obtain ⟨wb, hwb⟩ := turnB b
  have HW := Lib.hid hwb; clear hwb
  have HA := Lib.hid hra; clear hra
  have HR := Lib.hid hrb; clear hrb
  cases ra
  · go_enter Try.func103, Try.ntmps103
    go_wp2_with fail
    refine (l1In_any _ _ _ _ false (by have := HA.out; simpa using this)).mono ?_
    rintro e w1 ⟨rfl, rfl⟩
    go_wp2_with fail
    refine (l1In_any _ _ _ _ rb (by have := HR.out; simpa using this)).mono ?_
    rintro e w1 ⟨rfl, rfl⟩
    go_wp2
    go_ret
    refine ⟨ret_bool ?_, (by repeat (first | assumption | exact Pure.refl _ | refine Pure.drewN ?_ _ | refine Pure.drew ?_ | refine Pure.alloc ?_ _ | refine Pure.setCell ?_ (by simp <;> omega) _))⟩
    rw [Bool.eq_iff_iff, HB.out]
    have t1 := HA.out; have t2 := HR.out; have t4 := HW.out
    simp only [Bool.false_eq_true, false_iff, CdOk, Reg, Word, true_and] at *
    first | omega | (constructor <;> intro h <;> omega)
  · cases wb
    · go_enter Try.func103, Try.ntmps103
      go_wp2_with fail
      refine (l1In_any _ _ _ _ true (by have := HA.out; simpa using this)).mono ?_
      rintro e w1 ⟨rfl, rfl⟩
      go_wp2_with fail
      refine (l1In_any _ _ _ _ rb (by have := HR.out; simpa using this)).mono ?_
      rintro e w1 ⟨rfl, rfl⟩
      go_wp2_with fail
      refine (l1In_any _ _ _ _ false (by have := HW.out; simpa using this)).mono ?_
      rintro e w1 ⟨rfl, rfl⟩
      go_wp2
      go_ret
      refine ⟨ret_bool ?_, (by repeat (first | assumption | exact Pure.refl _ | refine Pure.drewN ?_ _ | refine Pure.drew ?_ | refine Pure.alloc ?_ _ | refine Pure.setCell ?_ (by simp <;> omega) _))⟩
      rw [Bool.eq_iff_iff, HB.out]
      have t1 := HA.out; have t2 := HR.out; have t4 := HW.out
      simp only [Bool.false_eq_true, false_iff, true_iff, CdOk, Reg, Word, true_and] at *
      first | omega | (constructor <;> intro h <;> omega)
    · go_enter Try.func103, Try.ntmps103
      go_wp2_with fail
      refine (l1In_any _ _ _ _ true (by have := HA.out; simpa using this)).mono ?_
      rintro e w1 ⟨rfl, rfl⟩
      go_wp2_with fail
      refine (l1In_any _ _ _ _ rb (by have := HR.out; simpa using this)).mono ?_
      rintro e w1 ⟨rfl, rfl⟩
      go_wp2_with fail
      refine (l1In_any _ _ _ _ true (by have := HW.out; simpa using this)).mono ?_
      rintro e w1 ⟨rfl, rfl⟩
      go_wp2
      go_ret
      refine ⟨ret_bool ?_, (by repeat (first | assumption | exact Pure.refl _ | refine Pure.drewN ?_ _ | refine Pure.drew ?_ | refine Pure.alloc ?_ _ | refine Pure.setCell ?_ (by simp <;> omega) _))⟩
      rw [Bool.eq_iff_iff, HB.out]
      have t1 := HA.out; have t2 := HR.out; have t4 := HW.out
      simp only [true_iff, beq_iff_eq, CdOk, Reg, Word, true_and] at *
      first | omega | (constructor <;> intro h <;> omega)

set_option maxHeartbeats 1000000 in
theorem scv_14 (a b c : Int) (w : World) (B : Bool) (hB : B = true ↔ CdOk ⟨14, a, b, c⟩) :
    Calls Try.prog 103 #[.agg #[.int .i64 14, .int .i64 a, .int .i64 b, .int .i64 c]] w fun e w' => e = .returned (.bool B) ∧ Pure w w' := by
  have HB := Lib.hid hB; clear hB
  obtain ⟨ra, hra⟩ := regB a
  obtain ⟨rb, hrb⟩ := regB b
  have HA := Lib.hid hra; clear hra
  have HR := Lib.hid hrb; clear hrb
  by_cases ha0 : a = 0
  · have d0 : (a == 0) = true := by simp [ha0]
    have Ha0 := Lib.hid ha0; clear ha0
    by_cases hb0 : b = 0
    · have d1 : (b == 0) = true := by simp [hb0]
      have Hb0 := Lib.hid hb0; clear hb0
      go_enter Try.func103, Try.ntmps103
      go_wp2_with fail
      refine (l1In_any _ _ _ _ ra (by have := HA.out; simpa using this)).mono ?_
      rintro e w1 ⟨rfl, rfl⟩
      go_wp2_with fail
      refine (l1In_any _ _ _ _ rb (by have := HR.out; simpa using this)).mono ?_
      rintro e w1 ⟨rfl, rfl⟩
      go_wp2
      go_ret
      refine ⟨ret_bool ?_, (by repeat (first | assumption | exact Pure.refl _ | refine Pure.drewN ?_ _ | refine Pure.drew ?_ | refine Pure.alloc ?_ _ | refine Pure.setCell ?_ (by simp <;> omega) _))⟩
      rw [Bool.eq_iff_iff, HB.out]
      have t1 := HA.out; have t2 := HR.out
      simp only [beq_iff_eq, CdOk, Reg, Word, true_and, or_true] at *
      have := Ha0.out; have := Hb0.out; first | omega | (constructor <;> intro h <;> omega)
    · have d1 : (b == 0) = false := by simp [hb0]
      have Hb0 := Lib.hid hb0; clear hb0
      go_enter Try.func103, Try.ntmps103
      go_wp2_with fail
      refine (l1In_any _ _ _ _ ra (by have := HA.out; simpa using this)).mono ?_
      rintro e w1 ⟨rfl, rfl⟩
      go_wp2_with fail
      refine (l1In_any _ _ _ _ rb (by have := HR.out; simpa using this)).mono ?_
      rintro e w1 ⟨rfl, rfl⟩
      go_wp2
      go_ret
      refine ⟨ret_bool ?_, (by repeat (first | assumption | exact Pure.refl _ | refine Pure.drewN ?_ _ | refine Pure.drew ?_ | refine Pure.alloc ?_ _ | refine Pure.setCell ?_ (by simp <;> omega) _))⟩
      rw [Bool.eq_iff_iff, HB.out]
      have t1 := HA.out; have t2 := HR.out
      simp only [Bool.false_eq_true, false_iff, beq_iff_eq, CdOk, Reg, Word, true_and, or_true] at *
      have := Ha0.out; have := Hb0.out; first | omega | (constructor <;> intro h <;> omega)
  · have d0 : (a == 0) = false := by simp [ha0]
    have Ha0 := Lib.hid ha0; clear ha0
    go_enter Try.func103, Try.ntmps103
    go_wp2_with fail
    refine (l1In_any _ _ _ _ ra (by have := HA.out; simpa using this)).mono ?_
    rintro e w1 ⟨rfl, rfl⟩
    go_wp2_with fail
    refine (l1In_any _ _ _ _ rb (by have := HR.out; simpa using this)).mono ?_
    rintro e w1 ⟨rfl, rfl⟩
    go_wp2
    go_ret
    refine ⟨ret_bool ?_, (by repeat (first | assumption | exact Pure.refl _ | refine Pure.drewN ?_ _ | refine Pure.drew ?_ | refine Pure.alloc ?_ _ | refine Pure.setCell ?_ (by simp <;> omega) _))⟩
    rw [Bool.eq_iff_iff, HB.out]
    have t1 := HA.out; have t2 := HR.out
    simp only [Bool.false_eq_true, false_iff, CdOk, Reg, Word, true_and, or_true] at *
    have := Ha0.out; first | omega | (constructor <;> intro h <;> omega)

set_option maxHeartbeats 1000000 in
theorem scv_other (o a b c : Int) (ho : ¬ (1 ≤ o ∧ o ≤ 14)) (w : World) :
    Calls Try.prog 103 #[.agg #[.int .i64 o, .int .i64 a, .int .i64 b, .int .i64 c]] w fun e w' => e = .returned (.bool false) ∧ Pure w w' := by
  obtain ⟨ra, hra⟩ := regB a
  obtain ⟨rb, hrb⟩ := regB b
  have HA := Lib.hid hra; clear hra
  have HR := Lib.hid hrb; clear hrb
  have HO := Lib.hid ho; clear ho
  have d1 : (o == 1) = false := by have := HO.out; rw [beq_eq_false_iff_ne]; omega
  have d2 : (o == 2) = false := by have := HO.out; rw [beq_eq_false_iff_ne]; omega
  have d3 : (o == 3) = false := by have := HO.out; rw [beq_eq_false_iff_ne]; omega
  have d4 : (o == 4) = false := by have := HO.out; rw [beq_eq_false_iff_ne]; omega
  have d5 : (o == 5) = false := by have := HO.out; rw [beq_eq_false_iff_ne]; omega
  have d6 : (o == 6) = false := by have := HO.out; rw [beq_eq_false_iff_ne]; omega
  have d7 : (o == 7) = false := by have := HO.out; rw [beq_eq_false_iff_ne]; omega
  have d8 : (o == 8) = false := by have := HO.out; rw [beq_eq_false_iff_ne]; omega
  have d9 : (o == 9) = false := by have := HO.out; rw [beq_eq_false_iff_ne]; omega
  have d10 : (o == 10) = false := by have := HO.out; rw [beq_eq_false_iff_ne]; omega
  have d11 : (o == 11) = false := by have := HO.out; rw [beq_eq_false_iff_ne]; omega
  have d12 : (o == 12) = false := by have := HO.out; rw [beq_eq_false_iff_ne]; omega
  have d13 : (o == 13) = false := by have := HO.out; rw [beq_eq_false_iff_ne]; omega
  have d14 : (o == 14) = false := by have := HO.out; rw [beq_eq_false_iff_ne]; omega
  go_enter Try.func103, Try.ntmps103
  go_wp2_with fail
  refine (l1In_any _ _ _ _ ra (by have := HA.out; simpa using this)).mono ?_
  rintro e w1 ⟨rfl, rfl⟩
  go_wp2_with fail
  refine (l1In_any _ _ _ _ rb HR.out).mono ?_
  rintro e w1 ⟨rfl, rfl⟩
  go_wp2
  go_ret
  exact ⟨rfl, (by repeat (first | assumption | exact Pure.refl _ | refine Pure.drewN ?_ _ | refine Pure.drew ?_ | refine Pure.alloc ?_ _ | refine Pure.setCell ?_ (by simp <;> omega) _))⟩

theorem scv_any (c : Cd) (w : World) (B : Bool) (hB : B = true ↔ CdOk c) :
    Calls Try.prog 103 #[cdv c] w fun e w' => e = .returned (.bool B) ∧ Pure w w' := by
  obtain ⟨o, a, b, c⟩ := c
  by_cases ho : 1 ≤ o ∧ o ≤ 14
  · have : o = 1 ∨ o = 2 ∨ o = 3 ∨ o = 4 ∨ o = 5 ∨ o = 6 ∨ o = 7 ∨ o = 8 ∨ o = 9 ∨ o = 10 ∨ o = 11 ∨ o = 12 ∨ o = 13 ∨ o = 14 := by omega
    rcases this with rfl | rfl | rfl | rfl | rfl | rfl | rfl | rfl | rfl | rfl | rfl | rfl | rfl | rfl
    · exact scv_1 a b c w B hB
    · exact scv_2 a b c w B hB
    · exact scv_3 a b c w B hB
    · exact scv_4 a b c w B hB
    · exact scv_5 a b c w B hB
    · exact scv_6 a b c w B hB
    · exact scv_7 a b c w B hB
    · exact scv_8 a b c w B hB
    · exact scv_9 a b c w B hB
    · exact scv_10 a b c w B hB
    · exact scv_11 a b c w B hB
    · exact scv_12 a b c w B hB
    · exact scv_13 a b c w B hB
    · exact scv_14 a b c w B hB
  · have hb : B = false := by
      cases hb : B
      · rfl
      · have := hB.1 hb
        unfold CdOk at this
        simp only at this
        omega
    subst hb
    exact scv_other o a b c ho w

end Go.Proofs.Ytajaonejpggcbaa
