/- A run in lockstep, as the reference keeps it in memory: its object; the lanes whose register is not 0; the mask of all lanes. No condition. -/
import Derived.Test.YtkolnakcgjlcgaaQad
import Derived.Test.YtkolnakcgjlcgaaQai
import Derived.Test.YtkolnakcgjlcgaaQba

namespace Go.Proofs.Ytkolnakcgjlcgaa
open Go.RowKit

theorem elBeat : ElT Try.prog 27 33 2 [.int .i64 0, .int .i64 0] 16 := ⟨by kernel_rfl, ⟨.agg #[.int .i64 0, .int .i64 0], by kernel_rfl, by kernel_rfl, rfl⟩, by decide⟩

theorem shl8 {j : Nat} (h : j < 9) : wrap64 (2 ^ j) = ((2 ^ j : Nat) : Int) := by
  have : j = 0 ∨ j = 1 ∨ j = 2 ∨ j = 3 ∨ j = 4 ∨ j = 5 ∨ j = 6 ∨ j = 7 ∨ j = 8 := by omega
  rcases this with rfl | rfl | rfl | rfl | rfl | rfl | rfl | rfl | rfl
  all_goals (rw [← IntWalk.i64_left, IntWalk.i64_in _ ⟨by decide, by decide⟩]; rfl)
theorem pow8 {j : Nat} (h : j ≤ 8) : 2 ^ j ≤ 256 := by
  calc 2 ^ j ≤ 2 ^ 8 := Nat.pow_le_pow_right (by decide) h
    _ = 256 := rfl

set_option maxHeartbeats 400000 in
theorem smaskall_any (n : Nat) (w : World) (h1 : 1 ≤ n) (h8 : n ≤ 8) :
    Calls Try.prog 72 #[.int .i64 n] w fun e w' => e = .returned (.int .i64 ((2 ^ n - 1 : Nat) : Int)) ∧ w = w' := by
  have hs := shl8 (j := n) (by omega)
  have hp := pow8 h8
  have hp1 : 1 ≤ 2 ^ n := Nat.one_le_two_pow
  have HC : Hid (((2 ^ n - 1 : Nat) : Int) = ((2 ^ n : Nat) : Int) - 1) := Lib.hid (by omega)
  rw [HC.out]
  obtain ⟨q, Hq⟩ : ∃ q, Hid (2 ^ n = q) := ⟨2 ^ n, Lib.hid rfl⟩
  rw [Hq.out] at hs hp hp1 ⊢
  have HS := Lib.hid hs
  go_enter Try.func72, Try.ntmps72
  go_wp2_with fail
  refine (l1In_t _ _ _ _ ⟨by omega, by omega⟩).mono ?_
  rintro e w' ⟨rfl, rfl⟩
  go_wp2
  go_ret
  exact ⟨rfl, rfl⟩

/-- Where a run of the reference lies, and what it does not change. -/
structure SO where
  rm : RMo
  w0 : World
  cs : List Cd
  vl : Value
  p : Nat
  vc : Value
  chk : Bool
  sets : Nat → Nat

def beatsL (H : List (Nat × Nat × (Nat → Nat → Int))) : List Value := H.flatMap fun x => [.int .i64 (x.1 : Nat), .int .i64 (x.2.1 : Nat)]
theorem beatsL_append (H : List (Nat × Nat × (Nat → Nat → Int))) (x : Nat × Nat × (Nat → Nat → Int)) : beatsL (H ++ [x]) = beatsL H ++ [.int .i64 (x.1 : Nat), .int .i64 (x.2.1 : Nat)] := by
  simp [beatsL]
/-- Whether a barrier was split. -/
def splitH (cs : List Cd) (n : Nat) (H : List (Nat × Nat × (Nat → Nat → Int))) : Bool := H.any fun x => decide ((cs.getD x.1 default).op = 10) && !decide (x.2.1 = 2 ^ n - 1)
/-- Whether a register of a set differs between the lanes of a mask (first: the lane that is compared with). -/
def unevTo (set mask : Nat) (R : Nat → Nat → Int) : Nat → Option Nat × Bool
  | 0 => (none, false)
  | j + 1 =>
    let (f, b) := unevTo set mask R j
    if mask.testBit j then (some (f.getD j), b || (List.range 4).any fun r => set.testBit r && !decide (R j r = R (f.getD j) r)) else (f, b)
def unev (n set mask : Nat) (R : Nat → Nat → Int) : Bool := (unevTo set mask R n).2
def SO.un (o : SO) (H : List (Nat × Nat × (Nat → Nat → Int))) : Bool := o.chk && H.any fun x => unev o.rm.n (o.sets x.1) x.2.1 x.2.2

def objC (o : SO) (vt : Value) (sp un : Bool) : Array Value := #[o.vl, .int .i64 (o.rm.n : Nat), o.rm.vr, o.rm.vm, vt, .bool sp, o.vc, .bool un]
def Obj8 (o : SO) (w : World) (vt : Value) (sp un : Bool) : Prop := w.heap[o.p]? = some (.cells (objC o vt sp un) 80 (0, 0))
section
variable {o : SO} {w w' : World} {vt : Value} {sp un : Bool}
theorem Obj8.cell (h : Obj8 o w vt sp un) (i : Nat) : w.cell? ⟨o.p, i, none⟩ = (objC o vt sp un)[i]? := cell_of_row w o.p i _ _ _ h
theorem Obj8.frozen (h : Obj8 o w vt sp un) (i : Nat) : w.frozen? ⟨o.p, i, none⟩ = false := frozen_of_row w o.p i _ _ h
theorem Obj8.lt (h : Obj8 o w vt sp un) : o.p < w.heap.size := (Array.getElem?_eq_some_iff.1 h).1
theorem Obj8.facts (h : Obj8 o w vt sp un) : w.cell? ⟨o.p, 0, none⟩ = some o.vl ∧ w.cell? ⟨o.p, 1, none⟩ = some (.int .i64 (o.rm.n : Nat)) ∧ w.cell? ⟨o.p, 2, none⟩ = some o.rm.vr ∧ w.cell? ⟨o.p, 3, none⟩ = some o.rm.vm ∧
    w.cell? ⟨o.p, 4, none⟩ = some vt ∧ w.cell? ⟨o.p, 5, none⟩ = some (.bool sp) ∧ w.cell? ⟨o.p, 6, none⟩ = some o.vc ∧ w.cell? ⟨o.p, 7, none⟩ = some (.bool un) :=
  ⟨h.cell 0, h.cell 1, h.cell 2, h.cell 3, h.cell 4, h.cell 5, h.cell 6, h.cell 7⟩
theorem Obj8.chg {S : Nat → Prop} (h : Obj8 o w vt sp un) (hc : Chg S w w') (hn : ¬ S o.p) : Obj8 o w' vt sp un := hc.heap h hn
theorem Obj8.pure (h : Obj8 o w vt sp un) (hp : Pure w w') : Obj8 o w' vt sp un := h.chg (S := fun _ => False) (Chg.of_pure hp) id
theorem Obj8.setTrace (h : Obj8 o w vt sp un) (v : Value) : Obj8 o (w.setCell ⟨o.p, 4, none⟩ v) v sp un := by
  unfold Obj8
  rw [heap_setCell_same w o.p 4 _ _ v h]; rfl
theorem Obj8.setSplit (h : Obj8 o w vt sp un) (b : Bool) : Obj8 o (w.setCell ⟨o.p, 5, none⟩ (.bool b)) vt b un := by
  unfold Obj8
  rw [heap_setCell_same w o.p 5 _ _ (.bool b) h]; rfl
/-- The run's object is none of the registers' and the memory's blocks. -/
theorem Obj8.apart {R : Nat → Nat → Int} {M : Nat → Int} (h : Obj8 o w vt sp un) (hr : RM o.rm w R M) : ¬ o.rm.own o.p ∧ o.p ≠ o.rm.gr ∧ o.p ≠ o.rm.gm ∧ ∀ k, k < o.rm.n → o.p ≠ o.rm.rows k := by
  have hgm : o.p ≠ o.rm.gm := fun e => hr.mem.ne_heap h (by decide) o.rm.gm rfl e.symm
  have hrow : ∀ k, k < o.rm.n → o.p ≠ o.rm.rows k := fun k hk => ne_of_heap h (hr.row k hk) (by decide)
  obtain ⟨cur, b1, _⟩ := hr.outer
  refine ⟨?_, ne_of_heap h b1 (by decide), hgm, hrow⟩
  rintro (⟨k, hk, e⟩ | e)
  · exact hrow k hk e
  · exact hgm e
end

/-- The run under way. -/
structure SRun (o : SO) (w : World) (vt : Value) (s : LS) : Prop where
  pure : Pure o.w0 w
  codes : Codes o.w0 o.vl o.cs
  base : o.rm.B = o.w0.heap.size
  rm : RM o.rm w s.R s.M
  n1 : 1 ≤ o.rm.n
  obj : Obj8 o w vt (splitH o.cs o.rm.n s.H) (o.un s.H)
  plo : o.w0.heap.size ≤ o.p
  tr : OwnO w o.w0.heap.size 33 2 vt s.H.length (beatsL s.H)
  good : Good s
  noChk : o.chk = false → o.vc = .slice none 0 0
  chkS : o.chk = true → (∀ k, o.sets k < 16) ∧ Cells o.w0 o.vc o.cs.length 1 fun j => .int .i64 (o.sets j : Nat)
def SO.own (o : SO) (vt : Value) (k : Nat) : Prop := k = o.p ∨ o.rm.own k ∨ vt.ownBlock = some k
theorem SRun.own_lo {o : SO} {w : World} {vt : Value} {s : LS} (h : SRun o w vt s) : ∀ k, o.own vt k → o.w0.heap.size ≤ k := by
  rintro k (rfl | hk | hk)
  · exact h.plo
  · rw [← h.base]; exact h.rm.own_lo k hk
  · exact (h.tr.lt k hk).1
theorem SRun.own_hi {o : SO} {w : World} {vt : Value} {s : LS} (h : SRun o w vt s) : ∀ k, o.own vt k → k < w.heap.size := by
  rintro k (rfl | (⟨l, hl, rfl⟩ | rfl) | hk)
  · exact h.obj.lt
  · exact (Array.getElem?_eq_some_iff.1 (h.rm.row l hl)).1
  · exact h.rm.gmlo.2
  · exact (h.tr.lt k hk).2
theorem SRun.keep {o : SO} {w w' : World} {vt : Value} {s : LS} (h : SRun o w vt s) (hp : Pure w w') : SRun o w' vt s :=
  ⟨h.pure.trans hp, h.codes, h.base, h.rm.pure hp, h.n1, h.obj.pure hp, h.plo, h.tr.pure hp, h.good, h.noChk, h.chkS⟩

/-- What happens to the run's blocks between two worlds. -/
def SStep (o : SO) (w : World) (vt : Value) (w' : World) (vt' : Value) : Prop := Chg (o.own vt) w w' ∧ Lies w vt vt'
theorem SStep.refl (o : SO) (w : World) (vt : Value) : SStep o w vt w vt := ⟨Chg.refl _ _, fun _g h => .inl h⟩
theorem SStep.trans {o : SO} {a b c : World} {u v x : Value} (h : SStep o a u b v) (k : SStep o b v c x) : SStep o a u c x := by
  refine ⟨h.1.trans' k.1 fun i hi hs => ?_, fun g hg => ?_⟩
  · rcases hs with hs | hs | hs
    · exact .inl hs
    · exact .inr (.inl hs)
    · rcases h.2 i hs with h2 | h2
      · exact .inr (.inr h2)
      · omega
  · rcases k.2 g hg with h2 | h2
    · exact h.2 g h2
    · exact .inr (Nat.le_trans h.1.size h2)
theorem SStep.of_pure {o : SO} {a b : World} {u : Value} (h : Pure a b) : SStep o a u b u := ⟨Chg.of_pure h, fun _g hg => .inl hg⟩

set_option maxHeartbeats 1000000 in
theorem sones_any (o : SO) (w : World) (vt : Value) (sp un : Bool) (R : Nat → Nat → Int) (M : Nat → Int) (mask an : Nat) (ho : Obj8 o w vt sp un) (h : RM o.rm w R M) (_hm : mask < 256) (ha : an < 4) :
    Calls Try.prog 111 #[.pointer (some ⟨o.p, 0, none⟩), .int .i64 mask, .int .i64 an] w fun e w' => e = .returned (.int .i64 (onesTo R mask an o.rm.n : Nat)) ∧ w = w' := by
  have H := Lib.hid h
  obtain ⟨p0, p1, p2, p3, p4, p5, p6, p7⟩ := ho.facts
  have hn8 := h.n8
  have hcr := h.cr1
  have hcr2 := h.cr2
  have ha0 : (0 : Int) ≤ (an : Int) := by omega
  have ha4 : (an : Int) < 4 := by omega
  clear h p0 p3 p4 p5 p6 p7
  unfold RMo.vr at p2
  go_enter Try.func111, Try.ntmps111
  go_wp2
  go_loopg [8, 7] o.rm.n (fun gk i q wr => ∃ j : Nat, gk + j = o.rm.n ∧ i = .int .i64 j ∧ q = .int .i64 (onesTo R mask an j : Nat) ∧ wr = w)
  case atStart => exact ⟨0, rfl, rfl, rfl, rfl⟩
  case round =>
    obtain ⟨j, hgk, rfl, rfl, rfl⟩ := hrel
    have Hgk := Lib.hid hgk
    have hjn : j ≤ o.rm.n := by omega
    clear hgk
    have hq256 := Nat.lt_of_lt_of_le (onesTo_lt R mask an j) (pow8 (show j ≤ 8 by omega))
    have hnext : onesTo R mask an (j + 1) = if mask.testBit j && !decide (R j an = 0) then onesTo R mask an j ||| 2 ^ j else onesTo R mask an j := rfl
    obtain ⟨q, Hq⟩ : ∃ q, Hid (onesTo R mask an j = q) := ⟨_, rfl⟩
    rw [Hq.out] at hq256 hnext ⊢
    by_cases hlt : j < o.rm.n
    · have hnn := digit_nonneg mask j
      have hbit := digit_eq1 mask j
      obtain ⟨D, HD⟩ : ∃ D, Hid (mask.testBit j = D) := ⟨_, rfl⟩
      rw [HD.out] at hbit hnext
      cases D
      · have Hnext := Lib.hid hnext
        clear hnext
        go_wp2
        go_roundg (o.rm.n - (j + 1))
        case measure => have := Hgk.out; omega
        case rel => exact ⟨j + 1, by have := Hgk.out; omega, by go_num, by rw [Hnext.out]; rfl, rfl⟩
      · have q1 := H.out.outerCell hlt
        unfold RMo.row at q1
        have q2 := H.out.regCell hlt ha
        have hs := shl8 (j := j) (by omega)
        have hor : bits .or .i64 (q : Int) ((2 ^ j : Nat) : Int) = ((q ||| 2 ^ j : Nat) : Int) := bits_or (by omega) (by have := pow8 (show j ≤ 8 by omega); omega)
        obtain ⟨x, Hx⟩ : ∃ x, Hid (R j an = x) := ⟨_, rfl⟩
        rw [Hx.out] at q2 hnext
        obtain ⟨s, Hs⟩ : ∃ s, Hid (2 ^ j = s) := ⟨2 ^ j, Lib.hid rfl⟩
        rw [Hs.out] at hs hor hnext
        by_cases hx : x = 0
        · have hxb : (x != 0) = false := by rw [bne_eq_false_iff_eq]; exact hx
          have Hnext : Hid (onesTo R mask an (j + 1) = q) := Lib.hid (by rw [hnext]; simp [hx])
          clear hnext hx
          go_wp2
          go_roundg (o.rm.n - (j + 1))
          case measure => have := Hgk.out; omega
          case rel => exact ⟨j + 1, by have := Hgk.out; omega, by go_num, by rw [Hnext.out], rfl⟩
        · have hxb : (x != 0) = true := by rw [bne_iff_ne]; exact hx
          obtain ⟨q', Hq'⟩ : ∃ q', Hid (q ||| s = q') := ⟨_, rfl⟩
          rw [Hq'.out] at hor hnext
          have Hnext : Hid (onesTo R mask an (j + 1) = q') := Lib.hid (by rw [hnext]; simp [hx])
          clear hnext hx
          go_wp2
          go_roundg (o.rm.n - (j + 1))
          case measure => have := Hgk.out; omega
          case rel => exact ⟨j + 1, by have := Hgk.out; omega, by go_num, by rw [Hnext.out], rfl⟩
    · have hjl : j = o.rm.n := by omega
      go_wp2
      go_ret
      exact ⟨ret_int (by rw [← hjl, Hq.out]), rfl⟩

end Go.Proofs.Ytkolnakcgjlcgaa
