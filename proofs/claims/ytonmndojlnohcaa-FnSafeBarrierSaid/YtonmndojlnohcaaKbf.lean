/- Accesses that clash; whether a list of accesses has a race, as the reference and the program tell it. The first step that splits a barrier, and the memory of a run, the program's and the reference's. The split step and the memory of a run, for any arguments, the program's and the reference's. The memory and the registers of a run, for any arguments, the program's and the reference's. Whether a run has races, whether it is safe, and why not: the contracts of the reference's functions and of the program's. Bytes that are read. No condition. -/
import Derived.Test.YtonmndojlnohcaaKaa
import Derived.Test.YtonmndojlnohcaaKbe

namespace Go.Proofs.Ytonmndojlnohcaa
open Go.RowKit

def acv (x : Ac) : Value := .agg #[.int .i64 (x.who : Nat), .int .i64 (x.cell : Nat), .bool x.wr, .int .i64 (x.ph : Nat)]
def clashB (x y : Ac) : Bool := (x.ph == y.ph) && ((x.who != y.who) && ((x.cell == y.cell) && (x.wr || y.wr)))
/-- Two accesses of the list clash, the first one standing before the second one. -/
def Race (A : List Ac) : Prop := ∃ q p, p < q ∧ q < A.length ∧ clashB (A.getD p default) (A.getD q default) = true
theorem castEq (a b : Nat) : (((a : Nat) : Int) == ((b : Nat) : Int)) = (a == b) := by rw [Bool.eq_iff_iff, beq_iff_eq, beq_iff_eq]; omega
theorem castNe (a b : Nat) : (((a : Nat) : Int) != ((b : Nat) : Int)) = (a != b) := by rw [Bool.eq_iff_iff, bne_iff_ne, bne_iff_ne]; omega

set_option maxHeartbeats 1000000 in
theorem sclash_any (x y : Ac) (w : World) : Calls Try.prog 77 #[acv x, acv y] w fun e w' => e = .returned (.bool (clashB x y)) ∧ Pure w w' := by
  obtain ⟨xw, xc, xr, xp⟩ := x
  obtain ⟨yw, yc, yr, yp⟩ := y
  unfold clashB acv
  simp only
  have d1 := castEq xp yp
  have d2 := castNe xw yw
  have d3 := castEq xc yc
  generalize (xp == yp) = b1 at d1 ⊢
  generalize (xw != yw) = b2 at d2 ⊢
  generalize (xc == yc) = b3 at d3 ⊢
  go_enter Try.func77, Try.ntmps77
  cases b1 <;> cases b2 <;> cases b3 <;> cases xr <;> cases yr <;> (go_wp2; go_ret; exact ⟨rfl, (by repeat (first | assumption | exact Pure.refl _ | refine Pure.drewN ?_ _ | refine Pure.drew ?_ | refine Pure.alloc ?_ _ | refine Pure.setCell ?_ (by simp <;> omega) _))⟩)

set_option maxHeartbeats 1000000 in
theorem iclash_any (x y : Ac) (w : World) : Calls Try.prog 53 #[acv x, acv y] w fun e w' => e = .returned (.bool (clashB x y)) ∧ Pure w w' := by
  obtain ⟨xw, xc, xr, xp⟩ := x
  obtain ⟨yw, yc, yr, yp⟩ := y
  unfold clashB acv
  simp only
  have d1 := castEq xp yp
  have d2 := castNe xw yw
  have d3 := castEq xc yc
  generalize (xp == yp) = b1 at d1 ⊢
  generalize (xw != yw) = b2 at d2 ⊢
  generalize (xc == yc) = b3 at d3 ⊢
  go_enter Try.func53, Try.ntmps53
  cases b1 <;> cases b2 <;> cases b3 <;> cases xr <;> cases yr <;> (go_wp2; go_ret; exact ⟨rfl, (by repeat (first | assumption | exact Pure.refl _ | refine Pure.drewN ?_ _ | refine Pure.drew ?_ | refine Pure.alloc ?_ _ | refine Pure.setCell ?_ (by simp <;> omega) _))⟩)

structure AcAt (w : World) (b o : Nat) (x : Ac) : Prop where
  c0 : w.cell? ⟨b, o, none⟩ = some (.int .i64 (x.who : Nat))
  c1 : w.cell? ⟨b, o + 1, none⟩ = some (.int .i64 (x.cell : Nat))
  c2 : w.cell? ⟨b, o + 2, none⟩ = some (.bool x.wr)
  c3 : w.cell? ⟨b, o + 3, none⟩ = some (.int .i64 (x.ph : Nat))
theorem AcAt.keep {w w' : World} {b o : Nat} {x : Ac} (h : AcAt w b o x) (hp : Pure w w') : AcAt w' b o x := by
  have hb := World.block_lt_of_cell? _ _ h.c0
  exact ⟨(hp.cell _ _ hb).trans h.c0, (hp.cell _ _ hb).trans h.c1, (hp.cell _ _ hb).trans h.c2, (hp.cell _ _ hb).trans h.c3⟩
theorem AcAt.box (w : World) (x : Ac) (t : TypeId) : AcAt (w.alloc (.cells #[.int .i64 (x.who : Nat), .int .i64 (x.cell : Nat), .bool x.wr, .int .i64 (x.ph : Nat)] t)) w.heap.size 0 x := by
  have hh := heap_alloc_new w (.cells #[.int .i64 (x.who : Nat), .int .i64 (x.cell : Nat), .bool x.wr, .int .i64 (x.ph : Nat)] t)
  exact ⟨(cell_of_row _ _ 0 _ _ _ hh).trans rfl, (cell_of_row _ _ 1 _ _ _ hh).trans rfl, (cell_of_row _ _ 2 _ _ _ hh).trans rfl, (cell_of_row _ _ 3 _ _ _ hh).trans rfl⟩
theorem accs_at {w : World} {A : Option Addr} {n c : Nat} {H : List Ac} (h : Flat w (.slice A n c) H.length 4 (accsL H)) {k : Nat} (hk : k < H.length) : ∃ b o, A = some ⟨b, o, none⟩ ∧ b < w.heap.size ∧ ∀ j, j < H.length → AcAt w b (o + j * 4) (H.getD j default) := by
  obtain ⟨A', c', hv, h1, h2, h3⟩ := h
  injection hv with e1 e2 e3
  subst e1 e2 e3
  obtain ⟨b, o, rfl, hb, hc⟩ := h3 (by omega)
  refine ⟨b, o, rfl, hb, fun j hj => ?_⟩
  have a0 := hc (j * 4) (by omega)
  have a1 := hc (j * 4 + 1) (by omega)
  have a2 := hc (j * 4 + 2) (by omega)
  have a3 := hc (j * 4 + 3) (by omega)
  simp only [getD_of (acc_at H j hj).1] at a0
  simp only [getD_of (acc_at H j hj).2.1, ← Nat.add_assoc] at a1
  simp only [getD_of (acc_at H j hj).2.2.1, ← Nat.add_assoc] at a2
  simp only [getD_of (acc_at H j hj).2.2.2, ← Nat.add_assoc] at a3
  exact ⟨a0, a1, a2, a3⟩
def RaceP (H : List Ac) (w : World) (e : Ending) (w' : World) : Prop :=
  ∃ (i j : Int) (B : Bool), e = .returned (.tuple #[.int .i64 i, .int .i64 j, .bool B]) ∧ (B = true ↔ Race H) ∧ Pure w w'
theorem Race.no {H : List Ac} (h : ∀ q, q < H.length → ∀ p, p < q → clashB (H.getD p default) (H.getD q default) = false) : ¬ Race H := by
  rintro ⟨q, p, h1, h2, h3⟩
  rw [h q h2 p h1] at h3
  cases h3

set_option maxHeartbeats 2000000 in
set_option maxRecDepth 100000 in
theorem sfr_any (v : Value) (H : List Ac) (w : World) (h : Flat w v H.length 4 (accsL H)) (_hl : H.length ≤ 1048576) : Calls Try.prog 51 #[v] w (RaceP H w) := by
  have HF := Lib.hid h
  obtain ⟨A, c, rfl, hnc, hcm⟩ := h.form
  clear h
  go_enter Try.func51, Try.ntmps51
  go_wp2
  go_loopg [5] H.length (fun gk i wr => ∃ k : Nat, gk + k = H.length ∧ i = .int .i64 k ∧ Pure w wr ∧ ∀ q, q < k → ∀ p, p < q → clashB (H.getD p default) (H.getD q default) = false)
  case atStart => exact ⟨0, rfl, rfl, Pure.refl _, fun q hq => absurd hq (by omega)⟩
  case round =>
    obtain ⟨k, hgk, rfl, hp, hno⟩ := hrel
    have Hgk := Lib.hid hgk
    have HP := Lib.hid hp
    have HN := Lib.hid hno
    have hkn : k ≤ H.length := by omega
    clear hgk hp hno
    by_cases hlt : k < H.length
    · obtain ⟨b, o, rfl, hb, hc⟩ := accs_at HF.out hlt
      have HC := Lib.hid hc
      clear hc
      go_wp2_with fail
      go_loopg [6] k (fun g2 i wr => ∃ j : Nat, g2 + j = k ∧ i = .int .i64 j ∧ Pure w wr ∧ ∀ p, p < j → clashB (H.getD p default) (H.getD k default) = false)
      case atStart => exact ⟨0, rfl, rfl, HP.out, fun q hq => absurd hq (by omega)⟩
      case round =>
        obtain ⟨j, hg2, rfl, hp2, hno2⟩ := hrel
        have Hg2 := Lib.hid hg2
        have HP2 := Lib.hid hp2
        have HN2 := Lib.hid hno2
        have hjk : j ≤ k := by omega
        clear hg2 hp2 hno2
        by_cases hj : j < k
        · obtain ⟨p0, p1, p2, p3⟩ := (HC.out j (by omega)).keep HP2.out
          obtain ⟨q0, q1, q2, q3⟩ := (HC.out k hlt).keep HP2.out
          obtain ⟨x, Hx⟩ : ∃ x, Hid (H.getD j default = x) := ⟨_, Lib.hid rfl⟩
          obtain ⟨y, Hy⟩ : ∃ y, Hid (H.getD k default = y) := ⟨_, Lib.hid rfl⟩
          rw [Hx.out] at p0 p1 p2 p3
          rw [Hy.out] at q0 q1 q2 q3
          obtain ⟨B, HB⟩ : ∃ B, Hid (clashB x y = B) := ⟨_, Lib.hid rfl⟩
          have hj0 : (0 : Int) ≤ (j : Int) := by omega
          have hj1 : (j : Int) < (H.length : Int) := by omega
          have hk0 : (0 : Int) ≤ (k : Int) := by omega
          have hk1 : (k : Int) < (H.length : Int) := by omega
          go_wp2_with fail
          refine region_tail 8 (by kernel_rfl) (by kernel_rfl) ?_
          simp only [List.take_succ_cons, List.take_zero, List.drop_succ_cons, List.drop_zero]
          repeat still_step
          refine wpStill_nil ?_
          go_wp2_with fail
          refine (sclash_any x y _).mono ?_
          rintro e w7 ⟨rfl, hp7⟩
          rw [HB.out]
          cases B
          · go_wp2_with fail
            go_roundg (k - (j + 1))
            case measure => have := Hg2.out; omega
            case rel => exact ⟨j + 1, by have := Hg2.out; omega, by go_num, HP2.out.drew.trans hp7, fun p hp => by
              by_cases e : p = j
              · subst e; rw [Hx.out, Hy.out, HB.out]
              · exact HN2.out p (by omega)⟩
          · go_wp2_with fail
            go_ret3
            exact ⟨_, _, true, rfl, by simp only [true_iff]; exact ⟨k, j, hj, hlt, by rw [Hx.out, Hy.out, HB.out]⟩, HP2.out.drew.trans hp7⟩
        · have hjk2 : j = k := by omega
          subst hjk2
          go_wp2_with fail
          go_roundg (H.length - (j + 1))
          case measure => have := Hgk.out; omega
          case rel => exact ⟨j + 1, by have := Hgk.out; omega, by go_num, HP2.out, fun q hq p hp => by
            by_cases e : q = j
            · subst e; exact HN2.out p hp
            · exact HN.out q (by omega) p hp⟩
    · have hkl : k = H.length := by omega
      subst hkl
      go_wp2_with fail
      go_ret3
      exact ⟨_, _, false, rfl, by simp only [Bool.false_eq_true, false_iff]; exact Race.no HN.out, HP.out⟩

set_option maxHeartbeats 2000000 in
set_option maxRecDepth 100000 in
theorem ifr_any (v : Value) (H : List Ac) (w : World) (h : Flat w v H.length 4 (accsL H)) (_hl : H.length ≤ 1048576) : Calls Try.prog 50 #[v] w (RaceP H w) := by
  have HF := Lib.hid h
  obtain ⟨A, c, rfl, hnc, hcm⟩ := h.form
  clear h
  go_enter Try.func50, Try.ntmps50
  go_wp2
  go_loopg [11] H.length (fun gk i wr => ∃ k : Nat, gk + k = H.length ∧ i = .int .i64 k ∧ Pure w wr ∧ ∀ q, q < k → ∀ p, p < q → clashB (H.getD p default) (H.getD q default) = false)
  case atStart => exact ⟨0, rfl, rfl, Pure.refl _, fun q hq => absurd hq (by omega)⟩
  case round =>
    obtain ⟨k, hgk, rfl, hp, hno⟩ := hrel
    have Hgk := Lib.hid hgk
    have HP := Lib.hid hp
    have HN := Lib.hid hno
    have hkn : k ≤ H.length := by omega
    clear hgk hp hno
    by_cases hlt : k < H.length
    · obtain ⟨b, o, rfl, hb, hc⟩ := accs_at HF.out hlt
      have HC := Lib.hid hc
      obtain ⟨q0, q1, q2, q3⟩ := (hc k hlt).keep HP.out
      obtain ⟨y, Hy⟩ : ∃ y, Hid (H.getD k default = y) := ⟨_, Lib.hid rfl⟩
      rw [Hy.out] at q0 q1 q2 q3
      have HX := Lib.hid (AcAt.box wr y 39)
      have HPX := Lib.hid (show Pure wr (wr.alloc (.cells #[.int .i64 (y.who : Nat), .int .i64 (y.cell : Nat), .bool y.wr, .int .i64 (y.ph : Nat)] 39)) from (by repeat (first | assumption | exact Pure.refl _ | refine Pure.drewN ?_ _ | refine Pure.drew ?_ | refine Pure.alloc ?_ _ | refine Pure.setCell ?_ (by simp <;> omega) _)))
      clear hc
      go_wp2_with fail
      go_loopg [20] k (fun g2 i wr2 => ∃ j : Nat, g2 + j = k ∧ i = .int .i64 j ∧ Pure (wr.alloc (.cells #[.int .i64 (y.who : Nat), .int .i64 (y.cell : Nat), .bool y.wr, .int .i64 (y.ph : Nat)] 39)) wr2 ∧ ∀ p, p < j → clashB (H.getD p default) y = false)
      case atStart => exact ⟨0, rfl, rfl, Pure.refl _, fun q hq => absurd hq (by omega)⟩
      case round =>
        obtain ⟨j, hg2, rfl, hp2, hno2⟩ := hrel
        have Hg2 := Lib.hid hg2
        have HP2 := Lib.hid hp2
        have HN2 := Lib.hid hno2
        have hjk : j ≤ k := by omega
        clear hg2 hp2 hno2 q0 q1 q2 q3
        by_cases hj : j < k
        · obtain ⟨p0, p1, p2, p3⟩ := (HC.out j (by omega)).keep ((HP.out.trans HPX.out).trans HP2.out)
          obtain ⟨q0, q1, q2, q3⟩ := HX.out.keep HP2.out
          obtain ⟨x, Hx⟩ : ∃ x, Hid (H.getD j default = x) := ⟨_, Lib.hid rfl⟩
          rw [Hx.out] at p0 p1 p2 p3
          obtain ⟨B, HB⟩ : ∃ B, Hid (clashB x y = B) := ⟨_, Lib.hid rfl⟩
          have hblt := World.block_lt_of_cell? _ _ q0
          go_wp2_with fail
          refine (iclash_any x y _).mono ?_
          rintro e w7 ⟨rfl, hp7⟩
          rw [HB.out]
          cases B
          · go_wp2_with fail
            go_roundg (k - (j + 1))
            case measure => have := Hg2.out; omega
            case rel => exact ⟨j + 1, by have := Hg2.out; omega, by go_num, (HP2.out.trans (by exact (by repeat (first | assumption | exact Pure.refl _ | refine Pure.drewN ?_ _ | refine Pure.drew ?_ | refine Pure.alloc ?_ _ | refine Pure.setCell ?_ (by simp <;> omega) _)))).trans hp7, fun p hp => by
              by_cases e : p = j
              · subst e; rw [Hx.out, HB.out]
              · exact HN2.out p (by omega)⟩
          · go_wp2_with fail
            go_ret3
            exact ⟨_, _, true, rfl, by simp only [true_iff]; exact ⟨k, j, hj, hlt, by rw [Hx.out, Hy.out, HB.out]⟩, ((HP.out.trans HPX.out).trans (HP2.out.trans (by exact (by repeat (first | assumption | exact Pure.refl _ | refine Pure.drewN ?_ _ | refine Pure.drew ?_ | refine Pure.alloc ?_ _ | refine Pure.setCell ?_ (by simp <;> omega) _))))).trans hp7⟩
        · have hjk2 : j = k := by omega
          subst hjk2
          go_wp2_with fail
          go_roundg (H.length - (j + 1))
          case measure => have := Hgk.out; omega
          case rel => exact ⟨j + 1, by have := Hgk.out; omega, by go_num, (HP.out.trans HPX.out).trans HP2.out, fun q hq p hp => by
            by_cases e : q = j
            · subst e; rw [Hy.out]; exact HN2.out p hp
            · exact HN.out q (by omega) p hp⟩
    · have hkl : k = H.length := by omega
      subst hkl
      go_wp2_with fail
      go_ret3
      exact ⟨_, _, false, rfl, by simp only [Bool.false_eq_true, false_iff]; exact Race.no HN.out, HP.out⟩

end Go.Proofs.Ytonmndojlnohcaa

namespace Go.Proofs.Ytonmndojlnohcaa
open Go.RowKit

def FirstAt {α : Type} [Inhabited α] (p : α → Bool) (H : List α) (r : Int) : Prop :=
  (∃ k : Nat, r = k ∧ k < H.length ∧ p (H.getD k default) = true ∧ ∀ j, j < k → p (H.getD j default) = false) ∨ (r = -1 ∧ ∀ j, j < H.length → p (H.getD j default) = false)
theorem box_facts {w w' : World} {x y : Value} {t : TypeId} (hp : Pure (w.alloc (.cells #[x, y] t)) w') : w'.cell? ⟨w.heap.size, 0, none⟩ = some x ∧ w'.cell? ⟨w.heap.size, 1, none⟩ = some y := by
  have h := heap_alloc_new w (.cells #[x, y] t)
  exact ⟨keepPc hp ((cell_of_row _ _ 0 _ _ _ h).trans rfl), keepPc hp ((cell_of_row _ _ 1 _ _ _ h).trans rfl)⟩

set_option maxHeartbeats 2000000 in
set_option maxRecDepth 100000 in
theorem ispl1_any (w : World) (bx lp pm p mk n c : Nat) (A : Option Addr) (vl : Value) (cs : List Cd) (hbx : w.cell? ⟨bx, 0, none⟩ = some (.pointer (some ⟨lp, 0, none⟩))) (h0 : w.cell? ⟨lp, 0, none⟩ = some (.pointer (some ⟨pm, 0, none⟩)))
    (h1 : w.cell? ⟨lp, 1, none⟩ = some (.slice A n c)) (hm : w.cell? ⟨pm, 0, none⟩ = some vl) (hc : Codes w vl cs) (hp : p < cs.length) (hn1 : 1 ≤ n) (hn8 : n ≤ 8) (R : Nat → Nat → Int) :
    Calls Try.prog 70 #[.agg #[.int .i64 (p : Int), .int .i64 (mk : Int)], .pointer (some ⟨bx, 0, none⟩)] w fun e w' => e = .returned (.bool (splBad cs n (p, mk, R))) ∧ Pure w w' := by
  have H := Lib.hid hc
  obtain ⟨Al, cl, rfl, hnc, hcm⟩ := hc.form
  clear hc
  obtain ⟨b, o, rfl, hb, hat⟩ := H.out.at_ hp
  obtain ⟨cd, Hcd⟩ : ∃ cd, Hid (cs.getD p default = cd) := ⟨_, Lib.hid rfl⟩
  rw [Hcd.out] at hat
  have hbad : splBad cs n (p, mk, R) = (decide (cd.op = 10) && !decide (mk = 2 ^ n - 1)) := by unfold splBad; rw [Hcd.out]
  have q0 := hat.c0
  have lb := World.block_lt_of_cell? _ _ hbx
  have l0 := World.block_lt_of_cell? _ _ h0
  have l1 := World.block_lt_of_cell? _ _ h1
  have lm := World.block_lt_of_cell? _ _ hm
  clear hat
  obtain ⟨T, HT⟩ : ∃ T, Hid (2 ^ n - 1 = T) := ⟨_, Lib.hid rfl⟩
  have HMA : Hid (∀ u : World, Calls Try.prog 48 #[.int .i64 (n : Int)] u fun e w' => e = .returned (.int .i64 (T : Int)) ∧ w' = u) := Lib.hid fun u => by
    have := imaskall_any n u hn1 hn8
    rw [HT.out] at this; exact this.mono fun e w' h => ⟨h.1, h.2.symm⟩
  rw [HT.out] at hbad
  obtain ⟨z, Hz⟩ : ∃ z, Hid (cd.op = z) := ⟨_, Lib.hid rfl⟩
  rw [Hz.out] at q0 hbad
  have HP : Hid (Pure w (w.alloc (.cells #[.int .i64 (p : Int), .int .i64 (mk : Int)] 46))) := Lib.hid (Pure.alloc (Pure.refl _) _)
  obtain ⟨x0, x1⟩ := box_facts (Pure.refl (w.alloc (.cells #[.int .i64 (p : Int), .int .i64 (mk : Int)] 46)))
  have y0 := keepPc HP.out q0
  have y1 := keepPc HP.out hbx
  have y2 := keepPc HP.out h0
  have y3 := keepPc HP.out h1
  have y4 := keepPc HP.out hm
  by_cases hz : z = 10
  · subst hz
    by_cases hmk : mk = T
    · have hmb : ((mk : Int) != (T : Int)) = false := by simp [hmk]
      have HB : Hid (splBad cs n (p, mk, R) = false) := Lib.hid (by rw [hbad]; simp [hmk])
      clear hmk hbad
      go_enter Try.func70, Try.ntmps70
      go_wp2
      go_quiet ((go_at_call 48; refine Calls.quiet_of_same (HMA.out _)))
      go_wp2
      go_ret
      exact ⟨ret_bool HB.out.symm, by exact (by repeat (first | assumption | exact Pure.refl _ | refine Pure.drewN ?_ _ | refine Pure.drew ?_ | refine Pure.alloc ?_ _ | refine Pure.setCell ?_ (by simp <;> omega) _))⟩
    · have hmb : ((mk : Int) != (T : Int)) = true := by simp; omega
      have HB : Hid (splBad cs n (p, mk, R) = true) := Lib.hid (by rw [hbad]; simp [hmk])
      clear hmk hbad
      go_enter Try.func70, Try.ntmps70
      go_wp2
      go_quiet ((go_at_call 48; refine Calls.quiet_of_same (HMA.out _)))
      go_wp2
      go_ret
      exact ⟨ret_bool HB.out.symm, by exact (by repeat (first | assumption | exact Pure.refl _ | refine Pure.drewN ?_ _ | refine Pure.drew ?_ | refine Pure.alloc ?_ _ | refine Pure.setCell ?_ (by simp <;> omega) _))⟩
  · have hzb : (z == 10) = false := by simp [hz]
    have HB : Hid (splBad cs n (p, mk, R) = false) := Lib.hid (by rw [hbad]; simp [hz])
    clear hz hbad
    go_enter Try.func70, Try.ntmps70
    go_wp2
    go_quiet (fail)
    go_wp2
    go_ret
    exact ⟨ret_bool HB.out.symm, by exact (by repeat (first | assumption | exact Pure.refl _ | refine Pure.drewN ?_ _ | refine Pure.drew ?_ | refine Pure.alloc ?_ _ | refine Pure.setCell ?_ (by simp <;> omega) _))⟩

set_option maxHeartbeats 2000000 in
set_option maxRecDepth 100000 in
theorem ispix_any (w : World) (bx lp pm n c : Nat) (A : Option Addr) (vl vb : Value) (cs : List Cd) (L : List (Nat × Nat × (Nat → Nat → Int))) (hbx : w.cell? ⟨bx, 0, none⟩ = some (.pointer (some ⟨lp, 0, none⟩))) (h0 : w.cell? ⟨lp, 0, none⟩ = some (.pointer (some ⟨pm, 0, none⟩)))
    (h1 : w.cell? ⟨lp, 1, none⟩ = some (.slice A n c)) (hm : w.cell? ⟨pm, 0, none⟩ = some vl) (hc : Codes w vl cs) (hn1 : 1 ≤ n) (hn8 : n ≤ 8) (hf : Flat w vb L.length 2 (beatsL L)) (hin : ∀ x ∈ L, x.1 < cs.length) (hlen : L.length ≤ 1048576) :
    Calls Try.prog 69 #[vb, .func (.func 70) #[] #[.pointer (some ⟨bx, 0, none⟩)]] w fun e w' => ∃ r, e = .returned (.int .i64 r) ∧ FirstAt (splBad cs n) L r ∧ Pure w w' := by
  have H := Lib.hid hc
  have HF := Lib.hid hf
  have HIN := Lib.hid hin
  have HW := Lib.hid (And.intro hbx (And.intro h0 (And.intro h1 hm)))
  obtain ⟨Ab, cb, rfl, hnc, hcm⟩ := hf.form
  clear hc hf hin hbx h0 h1 hm
  go_enter Try.func69, Try.ntmps69
  go_wp2
  go_loopg [8] L.length (fun gk i wr => ∃ k : Nat, gk + k = L.length ∧ i = .int .i64 k ∧ Pure w wr ∧ ∀ j, j < k → splBad cs n (L.getD j default) = false)
  case atStart => exact ⟨0, rfl, rfl, Pure.refl _, fun j hj => absurd hj (by omega)⟩
  case round =>
    obtain ⟨k, hgk, rfl, hp, hall⟩ := hrel
    have Hgk := Lib.hid hgk
    have Hall := Lib.hid hall
    have hkn : k ≤ L.length := by omega
    clear hgk hall
    by_cases hlt : k < L.length
    · obtain ⟨b, o, rfl, hb, hcl⟩ := HF.out.at_ (by omega)
      have q0 := (hp.cell b _ hb).trans (hcl (k * 2) (by omega))
      have q1 := (hp.cell b _ hb).trans (hcl (k * 2 + 1) (by omega))
      rw [getD_of (beat_at L k hlt).1] at q0
      rw [getD_of (beat_at L k hlt).2, ← Nat.add_assoc] at q1
      clear hcl
      have hpl : (L.getD k default).1 < cs.length := HIN.out _ (getD_mem' hlt)
      have HCL := Lib.hid (fun u (hu : Pure w u) => ispl1_any u bx lp pm (L.getD k default).1 (L.getD k default).2.1 n c A vl cs (keepPc hu HW.out.1) (keepPc hu HW.out.2.1) (keepPc hu HW.out.2.2.1) (keepPc hu HW.out.2.2.2) (H.out.keep hu) hpl hn1 hn8 (L.getD k default).2.2)
      obtain ⟨B, HB⟩ : ∃ B, Hid (splBad cs n (L.getD k default) = B) := ⟨_, Lib.hid rfl⟩
      have HB2 : Hid (splBad cs n ((L.getD k default).1, (L.getD k default).2.1, (L.getD k default).2.2) = B) := HB
      have HCL2 : Hid (∀ u, Pure w u → Calls Try.prog 70 #[.agg #[.int .i64 ((L.getD k default).1 : Int), .int .i64 ((L.getD k default).2.1 : Int)], .pointer (some ⟨bx, 0, none⟩)] u fun e w' => e = .returned (.bool B) ∧ Pure u w') := Lib.hid fun u hu => by
        have := HCL.out u hu; rw [HB2.out] at this; exact this
      clear HCL HB2
      obtain ⟨pp, Hp⟩ : ∃ p, Hid ((L.getD k default).1 = p) := ⟨_, Lib.hid rfl⟩
      obtain ⟨mk, Hmk⟩ : ∃ mk, Hid ((L.getD k default).2.1 = mk) := ⟨_, Lib.hid rfl⟩
      rw [Hp.out, Hmk.out] at HCL2
      rw [Hp.out] at q0 hpl
      rw [Hmk.out] at q1
      go_wp2_with fail
      refine (HCL2.out _ hp).mono ?_
      rintro e w1 ⟨rfl, hp1⟩
      cases B
      · have Hnext : Hid (∀ j, j < k + 1 → splBad cs n (L.getD j default) = false) := Lib.hid fun j hj => by
          by_cases e : j = k
          · rw [e, HB.out]
          · exact Hall.out j (by omega)
        go_wp2
        go_roundg (L.length - (k + 1))
        case measure => have := Hgk.out; omega
        case rel => exact ⟨k + 1, by have := Hgk.out; omega, by go_num, hp.trans hp1, Hnext.out⟩
      · have Hhit : Hid (FirstAt (splBad cs n) L (k : Nat)) := Lib.hid (.inl ⟨k, rfl, hlt, HB.out, Hall.out⟩)
        go_wp2
        go_ret
        exact ⟨_, rfl, Hhit.out, hp.trans hp1⟩
    · have HN : Hid (FirstAt (splBad cs n) L (-1)) := Lib.hid (.inr ⟨rfl, fun j hj => Hall.out j (by omega)⟩)
      go_wp2
      go_ret
      exact ⟨_, rfl, HN.out, hp⟩

end Go.Proofs.Ytonmndojlnohcaa

namespace Go.Proofs.Ytonmndojlnohcaa
open Go.RowKit

set_option maxHeartbeats 2000000 in
set_option maxRecDepth 100000 in
theorem isplit_any (o : IObj) (w : World) (vb va : Value) (s : LS) (hr : ORun o w vb va s) (hin : ∀ x ∈ s.H, x.1 < o.cs.length) (hlen : s.H.length ≤ 1048576) :
    Calls Try.prog 44 #[.pointer (some ⟨o.p, 0, none⟩)] w fun e w' => e = .returned (spl2 (s.H.find? (splBad o.cs o.rm.n))) ∧ Pure w w' := by
  have HR := Lib.hid hr
  have HIN := Lib.hid hin
  obtain ⟨r, Hr⟩ : ∃ r, Hid (s.H.find? (splBad o.cs o.rm.n) = r) := ⟨_, Lib.hid rfl⟩
  rw [Hr.out]
  have hn1 := hr.n1
  have hn8 := hr.rm.n8
  obtain ⟨Ab, cb, rfl⟩ := hr.bt.form
  clear hin hr
  have hHB := HR.out.bt
  obtain ⟨L, HL⟩ : ∃ L, Hid (s.H = L) := ⟨_, Lib.hid rfl⟩
  have HBT : Hid (OwnO w o.w0.heap.size 46 2 (.slice Ab s.H.length cb) s.H.length (beatsL s.H)) := Lib.hid hHB
  have p3 : w.cell? ⟨o.p, 3, none⟩ = some (.slice Ab s.H.length cb) := HR.out.obj.cell 3
  have p0 : w.cell? ⟨o.p, 0, none⟩ = some (.pointer (some ⟨o.pm, 0, none⟩)) := HR.out.obj.cell 0
  have p1 : w.cell? ⟨o.p, 1, none⟩ = some o.rm.vr := HR.out.obj.cell 1
  have pm0 : w.cell? ⟨o.pm, 0, none⟩ = some o.vl := keepPc HR.out.pure HR.out.mach.1
  have HC : Hid (Codes w o.vl o.cs) := Lib.hid (HR.out.codes.keep HR.out.pure)
  have HIN2 : Hid (∀ x ∈ L, x.1 < o.cs.length) := Lib.hid (by rw [← HL.out]; exact HIN.out)
  have HR2 : Hid (L.find? (splBad o.cs o.rm.n) = r) := Lib.hid (by rw [← HL.out]; exact Hr.out)
  rw [HL.out] at HBT p3 hlen
  have HP3 := Lib.hid p3
  have HP0 := Lib.hid p0
  have HP1 := Lib.hid p1
  have HPM := Lib.hid pm0
  clear hHB HR Hr HIN p0 p1 pm0
  have hx := heap_alloc_new w (.cells #[.pointer (some ⟨o.p, 0, none⟩)] 53)
  have hxc := (cell_of_row _ _ 0 _ _ _ hx).trans rfl
  have HX : Hid ((w.alloc (.cells #[.pointer (some ⟨o.p, 0, none⟩)] 53)).cell? ⟨w.heap.size, 0, none⟩ = some (.pointer (some ⟨o.p, 0, none⟩))) := Lib.hid hxc
  have hz := heap_alloc_new (w.alloc (.cells #[.pointer (some ⟨o.p, 0, none⟩)] 53)) (.cells #[.int .i64 0, .int .i64 0] 46)
  rw [World.size_alloc] at hz
  have HZ := Lib.hid hz
  clear hx hxc hz
  have lp := World.block_lt_of_cell? _ _ p3
  go_enter Try.func44, Try.ntmps44
  go_wp2_with fail
  refine (ispix_any _ w.heap.size o.p o.pm o.rm.n o.rm.cr (some ⟨o.rm.gr, 0, none⟩) o.vl _ o.cs L (keepPc (by exact (by repeat (first | assumption | exact Pure.refl _ | refine Pure.drewN ?_ _ | refine Pure.drew ?_ | refine Pure.alloc ?_ _ | refine Pure.setCell ?_ (by simp <;> omega) _))) HX.out) (keepPc (by exact (by repeat (first | assumption | exact Pure.refl _ | refine Pure.drewN ?_ _ | refine Pure.drew ?_ | refine Pure.alloc ?_ _ | refine Pure.setCell ?_ (by simp <;> omega) _))) HP0.out) (keepPc (by exact (by repeat (first | assumption | exact Pure.refl _ | refine Pure.drewN ?_ _ | refine Pure.drew ?_ | refine Pure.alloc ?_ _ | refine Pure.setCell ?_ (by simp <;> omega) _))) HP1.out) (keepPc (by exact (by repeat (first | assumption | exact Pure.refl _ | refine Pure.drewN ?_ _ | refine Pure.drew ?_ | refine Pure.alloc ?_ _ | refine Pure.setCell ?_ (by simp <;> omega) _))) HPM.out) (HC.out.keep (by exact (by repeat (first | assumption | exact Pure.refl _ | refine Pure.drewN ?_ _ | refine Pure.drew ?_ | refine Pure.alloc ?_ _ | refine Pure.setCell ?_ (by simp <;> omega) _)))) hn1 hn8 (Flat.of_own (HBT.out.pure (by exact (by repeat (first | assumption | exact Pure.refl _ | refine Pure.drewN ?_ _ | refine Pure.drew ?_ | refine Pure.alloc ?_ _ | refine Pure.setCell ?_ (by simp <;> omega) _))))) HIN2.out hlen).mono ?_
  rintro e w1 ⟨i, rfl, hi, hp1⟩
  have hz1 : ∀ n, (w1.drewN n).heap[w.heap.size + 1]? = some (.cells #[.int .i64 0, .int .i64 0] 46 (0, 0)) := fun n => (Chg.of_pure (S := fun _ => False) hp1).heap HZ.out id
  have HZ1 := Lib.hid hz1
  have c0 : w1.cell? ⟨w.heap.size + 1, 0, none⟩ = some (.int .i64 0) := (cell_of_row w1 _ 0 _ _ _ (hz1 0)).trans rfl
  have c1 : w1.cell? ⟨w.heap.size + 1, 1, none⟩ = some (.int .i64 0) := (cell_of_row w1 _ 1 _ _ _ (hz1 0)).trans rfl
  have f0 := frozen_of_row w1 (w.heap.size + 1) 0 _ _ (hz1 0)
  have f1 := frozen_of_row w1 (w.heap.size + 1) 1 _ _ (hz1 0)
  have b1 : w1.cell? ⟨w.heap.size, 0, none⟩ = some (.pointer (some ⟨o.p, 0, none⟩)) := keepPc hp1 (keepPc (by exact (by repeat (first | assumption | exact Pure.refl _ | refine Pure.drewN ?_ _ | refine Pure.drew ?_ | refine Pure.alloc ?_ _ | refine Pure.setCell ?_ (by simp <;> omega) _))) HX.out)
  have b3 : w1.cell? ⟨o.p, 3, none⟩ = some (.slice Ab L.length cb) := keepPc hp1 (keepPc (by exact (by repeat (first | assumption | exact Pure.refl _ | refine Pure.drewN ?_ _ | refine Pure.drew ?_ | refine Pure.alloc ?_ _ | refine Pure.setCell ?_ (by simp <;> omega) _))) HP3.out)
  have HP : Hid (Pure w w1) := Lib.hid (Pure.trans (by exact (by repeat (first | assumption | exact Pure.refl _ | refine Pure.drewN ?_ _ | refine Pure.drew ?_ | refine Pure.alloc ?_ _ | refine Pure.setCell ?_ (by simp <;> omega) _))) hp1)
  have hpw := HP.out
  clear hz1 hp1
  rcases hi with ⟨k, rfl, hk, hbad, hall⟩ | ⟨rfl, hall⟩
  · have HR3 : Hid (spl2 r = .tuple #[.agg #[.int .i64 ((L.getD k default).1 : Nat), .int .i64 ((L.getD k default).2.1 : Nat)], .bool true]) := Lib.hid (by rw [← HR2.out, find_first hall hk hbad]; rfl)
    clear hbad hall
    obtain ⟨b, oo, hv, hb, hcl⟩ := (Flat.of_own (HBT.out.pure HP.out)).at_ (by omega)
    subst hv
    have q0 := hcl (k * 2) (by omega)
    have q1 := hcl (k * 2 + 1) (by omega)
    rw [getD_of (beat_at L k hk).1] at q0
    rw [getD_of (beat_at L k hk).2, ← Nat.add_assoc] at q1
    clear hcl
    obtain ⟨pp, Hp⟩ : ∃ p, Hid ((L.getD k default).1 = p) := ⟨_, Lib.hid rfl⟩
    obtain ⟨mk, Hmk⟩ : ∃ mk, Hid ((L.getD k default).2.1 = mk) := ⟨_, Lib.hid rfl⟩
    rw [Hp.out, Hmk.out] at HR3
    rw [Hp.out] at q0
    rw [Hmk.out] at q1
    go_wp2
    obtain ⟨y0, y1, y2⟩ := pair_set (HZ1.out 0) (.int .i64 pp) (.int .i64 mk)
    simp only [show w1.drewN 0 = w1 from rfl] at y0 y1 y2
    refine bodyPost_ret (v := .tuple #[.agg #[.int .i64 pp, .int .i64 mk], .bool true]) (by simp [results, Try.results44, go_sem, y1, y2]) rfl ?_
    exact ⟨by rw [HR3.out], by exact (by repeat (first | assumption | exact Pure.refl _ | refine Pure.drewN ?_ _ | refine Pure.drew ?_ | refine Pure.alloc ?_ _ | refine Pure.setCell ?_ (by simp <;> omega) _))⟩
  · have HR3 : Hid (spl2 r = .tuple #[.agg #[.int .i64 0, .int .i64 0], .bool false]) := Lib.hid (by rw [← HR2.out, find_none hall]; rfl)
    clear hall
    go_wp2
    obtain ⟨y0, y1, y2⟩ := pair_set (HZ1.out 0) (.int .i64 0) (.int .i64 0)
    simp only [show w1.drewN 0 = w1 from rfl] at y0 y1 y2
    refine bodyPost_ret (v := .tuple #[.agg #[.int .i64 0, .int .i64 0], .bool false]) (by simp [results, Try.results44, go_sem, y1, y2]) rfl ?_
    exact ⟨by rw [HR3.out], by exact (by repeat (first | assumption | exact Pure.refl _ | refine Pure.drewN ?_ _ | refine Pure.drew ?_ | refine Pure.alloc ?_ _ | refine Pure.setCell ?_ (by simp <;> omega) _))⟩

end Go.Proofs.Ytonmndojlnohcaa

namespace Go.Proofs.Ytonmndojlnohcaa
open Go.RowKit

open Classical in
noncomputable def memA (cs : List Cd) (a : Int) (mem : List Int) : List Int := if RunOk cs a mem then (List.range mem.length).map (lockA cs a mem).M else []
open Classical in
noncomputable def wholeA (cs : List Cd) (a : Int) (mem : List Int) : Bool := decide (RunOk cs a mem) && (splA cs a mem).isNone
theorem memA_ok {cs : List Cd} {n : Nat} {mem : List Int} (h : RunOk cs n mem) : memA cs n mem = (List.range mem.length).map (lockOf cs n mem).M := by
  unfold memA; rw [if_pos h, lockA_ok h]
theorem memA_no {cs : List Cd} {a : Int} {mem : List Int} (h : ¬ RunOk cs a mem) : memA cs a mem = [] := by unfold memA; rw [if_neg h]
theorem memA_len {cs : List Cd} {a : Int} {mem : List Int} : (memA cs a mem).length ≤ mem.length := by
  by_cases h : RunOk cs a mem
  · unfold memA; rw [if_pos h]; simp
  · rw [memA_no h]; simp
theorem wholeA_no {cs : List Cd} {a : Int} {mem : List Int} (h : ¬ RunOk cs a mem) : wholeA cs a mem = false := by unfold wholeA; simp [h]
theorem wholeA_ok {cs : List Cd} {n : Nat} {mem : List Int} (h : RunOk cs n mem) : wholeA cs n mem = !splitH cs n (lockOf cs n mem).H := by
  unfold wholeA splA
  rw [lockA_ok h]
  simp only [h, decide_true, Bool.true_and]
  have e : splitH cs n (lockOf cs n mem).H = (lockOf cs n mem).H.any (splBad cs n) := rfl
  rw [e, show ((n : Int)).toNat = n by omega]
  cases hf : (lockOf cs n mem).H.find? (splBad cs n) with
  | none =>
    rw [List.find?_eq_none] at hf
    have : (lockOf cs n mem).H.any (splBad cs n) = false := by
      rw [List.any_eq_false]; exact fun x hx => by simpa using hf x hx
    rw [this]; rfl
  | some y =>
    have h1 := List.find?_some hf
    have h2 := List.mem_of_find?_eq_some hf
    have : (lockOf cs n mem).H.any (splBad cs n) = true := List.any_eq_true.2 ⟨y, h2, h1⟩
    rw [this]; rfl
theorem memL_own {w : World} {B m : Nat} {v : Value} {M : Nat → Int} (h : OwnO w B 3 1 v m (memL m M)) : OwnO w B 3 1 v ((List.range m).map M).length (((List.range m).map M).map (.int .i64)) := by
  have e : ((List.range m).map M).map (Value.int .i64) = memL m M := by unfold memL; simp
  rw [e]; simpa using h

def RLP (cs : List Cd) (a : Int) (mem : List Int) (w : World) (e : Ending) (w' : World) : Prop :=
  ∃ v, e = .returned (.tuple #[v, .bool (wholeA cs a mem)]) ∧ OwnO w' w.heap.size 3 1 v (memA cs a mem).length ((memA cs a mem).map (.int .i64)) ∧ Pure w w'

set_option maxHeartbeats 2000000 in
set_option maxRecDepth 100000 in
theorem srl_any (vl vm : Value) (cs : List Cd) (a : Int) (mem : List Int) (w : World) (h : Codes w vl cs) (hm : Ints w vm mem) (hs1 : cs.length ≤ 1048576) (hs2 : mem.length ≤ 1048576) :
    Calls Try.prog 16 #[vl, .int .i64 a, vm] w (RLP cs a mem w) := by
  have H := Lib.hid h
  have HM := Lib.hid hm
  obtain ⟨A, c, rfl, hnc, hcm⟩ := h.form
  obtain ⟨Am, cm, rfl⟩ := hm.form
  clear h hm
  by_cases hok : RunOk cs a mem
  · have HOK := Lib.hid hok
    obtain ⟨n, rfl, hn1, hn8⟩ := lanes_nat hok.2.1
    have HE : Hid (memA cs n mem = (List.range mem.length).map (lockOf cs n mem).M) := Lib.hid (memA_ok hok)
    have HW : Hid (wholeA cs n mem = !splitH cs n (lockOf cs n mem).H) := Lib.hid (wholeA_ok hok)
    clear hok
    go_enter Try.func16, Try.ntmps16
    go_wp2_with fail
    refine (sok_any _ _ cs n mem _ H.out HM.out hs1 hs2 true (by simp only [true_iff]; exact HOK.out)).mono ?_
    rintro e w1 ⟨rfl, hp1⟩
    go_wp2_with fail
    refine (sall_any _ _ cs n mem _ (H.out.keep hp1) (HM.out.keep hp1) HOK.out.1 hn1 hn8 HOK.out.2.2).mono ?_
    rintro e w2 ⟨o, vt, rfl, rfl, hcs, hvl, hn, hmm, hck, hrun⟩
    have p3 : w2.cell? ⟨o.p, 3, none⟩ = some o.rm.vm := hrun.obj.cell 3
    have p5 : w2.cell? ⟨o.p, 5, none⟩ = some (.bool (splitH o.cs o.rm.n (lockOf cs n mem).H)) := hrun.obj.cell 5
    rw [hcs, hn] at p5
    have hmem := hrun.rm.mem
    have hB := hrun.base
    rw [hmm, hB] at hmem
    have HMEM := Lib.hid (memL_own hmem)
    have HP := Lib.hid hrun.pure
    clear hrun hcs hvl hn hmm hck hmem hB
    obtain ⟨sp, Hsp⟩ : ∃ sp, Hid (splitH cs n (lockOf cs n mem).H = sp) := ⟨_, Lib.hid rfl⟩
    rw [Hsp.out] at p5 HW
    obtain ⟨vv, Hvv⟩ : ∃ vv, Hid (o.rm.vm = vv) := ⟨_, Lib.hid rfl⟩
    rw [Hvv.out] at p3 HMEM
    go_wp2
    go_quiet (fail)
    go_wp2
    refine bodyPost_ret (results_tmp2 rfl _ _ _) rfl ?_
    refine ⟨vv, by rw [HW.out]; rfl, ?_, hp1.trans (HP.out.trans (by exact (by repeat (first | assumption | exact Pure.refl _ | refine Pure.drewN ?_ _ | refine Pure.drew ?_ | refine Pure.alloc ?_ _ | refine Pure.setCell ?_ (by simp <;> omega) _))))⟩
    rw [HE.out]
    exact (HMEM.out.base' hp1.size).pure (by exact (by repeat (first | assumption | exact Pure.refl _ | refine Pure.drewN ?_ _ | refine Pure.drew ?_ | refine Pure.alloc ?_ _ | refine Pure.setCell ?_ (by simp <;> omega) _)))
  · have HOK := Lib.hid hok
    have HE : Hid (memA cs a mem = []) := Lib.hid (memA_no hok)
    have HW : Hid (wholeA cs a mem = false) := Lib.hid (wholeA_no hok)
    clear hok
    go_enter Try.func16, Try.ntmps16
    go_wp2_with fail
    refine (sok_any _ _ cs a mem _ H.out HM.out hs1 hs2 false (by simp [HOK.out])).mono ?_
    rintro e w1 ⟨rfl, hp1⟩
    go_wp2
    refine bodyPost_ret (results_tmp2 rfl _ _ _) rfl ?_
    refine ⟨_, by rw [HW.out]; rfl, ?_, hp1.trans (by exact (by repeat (first | assumption | exact Pure.refl _ | refine Pure.drewN ?_ _ | refine Pure.drew ?_ | refine Pure.alloc ?_ _ | refine Pure.setCell ?_ (by simp <;> omega) _)))⟩
    rw [HE.out]; exact OwnO.empty_lit hp1.size

set_option maxHeartbeats 2000000 in
set_option maxRecDepth 100000 in
theorem irl_any (vl vm : Value) (cs : List Cd) (a : Int) (mem : List Int) (w : World) (h : Codes w vl cs) (hm : Ints w vm mem) (hs1 : cs.length ≤ 1048576) (hs2 : mem.length ≤ 1048576) :
    Calls Try.prog 15 #[vl, .int .i64 a, vm] w (RLP cs a mem w) := by
  have H := Lib.hid h
  have HM := Lib.hid hm
  obtain ⟨A, c, rfl, hnc, hcm⟩ := h.form
  obtain ⟨Am, cm, rfl⟩ := hm.form
  clear h hm
  by_cases hok : RunOk cs a mem
  · have HOK := Lib.hid hok
    obtain ⟨n, rfl, hn1, hn8⟩ := lanes_nat hok.2.1
    have HE : Hid (memA cs n mem = (List.range mem.length).map (lockOf cs n mem).M) := Lib.hid (memA_ok hok)
    have HW : Hid (wholeA cs n mem = (splA cs n mem).isNone) := Lib.hid (by unfold wholeA; simp [hok])
    have HSA : Hid (splA cs n mem = (lockOf cs n mem).H.find? (splBad cs n)) := Lib.hid (by unfold splA; rw [lockA_ok hok, show ((n : Int)).toNat = n by omega])
    clear hok
    go_enter Try.func15, Try.ntmps15
    go_wp2_with fail
    refine (ilock_any _ _ cs n mem _ H.out HM.out HOK.out.1 hn1 hn8 HOK.out.2.2).mono ?_
    rintro e w1 ⟨o, vb, va, rfl, hp0, hcs, hvl, hlk, hn, hmm, hrun⟩
    have p2 : w1.cell? ⟨o.p, 2, none⟩ = some o.rm.vm := hrun.obj.cell 2
    have hmem := hrun.rm.mem
    have hB := hrun.base
    rw [hmm, hB] at hmem
    have HMEM := Lib.hid (memL_own hmem)
    have HR := Lib.hid hrun
    have HP0 := Lib.hid hp0
    have HIN : Hid (∀ x ∈ (lockOf cs n mem).H, x.1 < o.cs.length) := Lib.hid (by rw [hcs]; exact fun x hx => (lockOf_in HOK.out.1 x hx).2.1)
    have hlen := lockOf_len (n := n) (mem := mem) HOK.out.1
    have HSP : Hid ((lockOf cs n mem).H.find? (splBad o.cs o.rm.n) = splA cs n mem) := Lib.hid (by rw [hcs, hn, HSA.out])
    clear hrun hvl hlk hmem hB hp0 hcs hn hmm
    go_wp2_with fail
    refine (isplit_any o _ _ _ _ HR.out HIN.out (by omega)).mono ?_
    rintro e w2 ⟨rfl, hp2⟩
    rw [HSP.out]
    have z2 := keepPc hp2 p2
    obtain ⟨vv, Hvv⟩ : ∃ vv, Hid (o.rm.vm = vv) := ⟨_, Lib.hid rfl⟩
    rw [Hvv.out] at z2 HMEM
    have HPF : Hid (Pure w w2) := Lib.hid ((HP0.out.trans HR.out.pure).trans hp2)
    have HMF := Lib.hid ((HMEM.out.pure hp2).base' HP0.out.size)
    have hpf := HPF.out
    have hop : o.p < w2.heap.size := World.block_lt_of_cell? _ _ z2
    clear p2
    cases hsp : splA cs n mem with
    | none =>
      have HW2 : Hid (wholeA cs n mem = true) := Lib.hid (by rw [HW.out, hsp]; rfl)
      unfold spl2
      clear hsp
      go_wp2
      refine bodyPost_ret (results_tmp2 rfl _ _ _) rfl ?_
      refine ⟨vv, by rw [HW2.out]; rfl, ?_, by exact (by repeat (first | assumption | exact Pure.refl _ | refine Pure.drewN ?_ _ | refine Pure.drew ?_ | refine Pure.alloc ?_ _ | refine Pure.setCell ?_ (by simp <;> omega) _))⟩
      rw [HE.out]
      exact HMF.out.pure (by exact (by repeat (first | assumption | exact Pure.refl _ | refine Pure.drewN ?_ _ | refine Pure.drew ?_ | refine Pure.alloc ?_ _ | refine Pure.setCell ?_ (by simp <;> omega) _)))
    | some y =>
      have HW2 : Hid (wholeA cs n mem = false) := Lib.hid (by rw [HW.out, hsp]; rfl)
      unfold spl2
      clear hsp
      go_wp2
      refine bodyPost_ret (results_tmp2 rfl _ _ _) rfl ?_
      refine ⟨vv, by rw [HW2.out]; rfl, ?_, by exact (by repeat (first | assumption | exact Pure.refl _ | refine Pure.drewN ?_ _ | refine Pure.drew ?_ | refine Pure.alloc ?_ _ | refine Pure.setCell ?_ (by simp <;> omega) _))⟩
      rw [HE.out]
      exact HMF.out.pure (by exact (by repeat (first | assumption | exact Pure.refl _ | refine Pure.drewN ?_ _ | refine Pure.drew ?_ | refine Pure.alloc ?_ _ | refine Pure.setCell ?_ (by simp <;> omega) _)))
  · have HOK := Lib.hid hok
    have HE : Hid (memA cs a mem = []) := Lib.hid (memA_no hok)
    have HW : Hid (wholeA cs a mem = false) := Lib.hid (wholeA_no hok)
    clear hok
    go_enter Try.func15, Try.ntmps15
    go_wp2_with fail
    refine (ino_any _ _ cs a mem _ H.out HM.out hs1 hs2 HOK.out).mono ?_
    rintro e w1 ⟨rfl, hp1⟩
    go_wp2
    refine bodyPost_ret (results_tmp2 rfl _ _ _) rfl ?_
    refine ⟨_, by rw [HW.out]; rfl, ?_, hp1⟩
    rw [HE.out]; exact OwnO.of_own (World.ownsRow_nil _ _ _ _)

end Go.Proofs.Ytonmndojlnohcaa

namespace Go.Proofs.Ytonmndojlnohcaa
open Go.RowKit

open Classical in
/-- Whether a run is free of races. -/
noncomputable def freeA (cs : List Cd) (a : Int) (mem : List Int) : Bool := decide (RunOk cs a mem ∧ ¬ Race (lockA cs a mem).A)
open Classical in
noncomputable def reasonA (cs : List Cd) (a : Int) (mem : List Int) : Int := if RunOk cs a mem then (if wholeA cs a mem = true then (if freeA cs a mem = true then 0 else 3) else 2) else 1
noncomputable def safeA (cs : List Cd) (a : Int) (mem : List Int) : Bool := wholeA cs a mem && freeA cs a mem
open Classical in
theorem freeA_no {cs : List Cd} {a : Int} {mem : List Int} (h : ¬ RunOk cs a mem) : freeA cs a mem = false := by
  unfold freeA; exact decide_eq_false (fun hh => h hh.1)
open Classical in
theorem freeA_iff {cs : List Cd} {a : Int} {mem : List Int} (h : RunOk cs a mem) : freeA cs a mem = true ↔ ¬ Race (lockA cs a mem).A := by
  unfold freeA; rw [decide_eq_true_iff]; exact ⟨fun hh => hh.2, fun hh => ⟨h, hh⟩⟩
theorem freeA_of {cs : List Cd} {a : Int} {mem : List Int} {B : Bool} (h : RunOk cs a mem) (hB : B = true ↔ Race (lockA cs a mem).A) : freeA cs a mem = !B := by
  have := freeA_iff h
  cases B
  · simp only [Bool.not_false]; rw [this]; intro hr; have := hB.2 hr; cases this
  · rw [Bool.not_true]
    by_cases hf : freeA cs a mem = true
    · exact absurd (hB.1 rfl) (this.1 hf)
    · simpa using hf
theorem reason_0 {cs : List Cd} {a : Int} {mem : List Int} : decide (reasonA cs a mem = 0) = safeA cs a mem := by
  unfold reasonA safeA
  by_cases h : RunOk cs a mem
  · rw [if_pos h]
    cases wholeA cs a mem <;> cases freeA cs a mem <;> simp
  · rw [if_neg h, freeA_no h]; simp

set_option maxHeartbeats 1000000 in
set_option maxRecDepth 100000 in
theorem srf_any (vl vm : Value) (cs : List Cd) (a : Int) (mem : List Int) (w : World) (h : Codes w vl cs) (hm : Ints w vm mem) (hs1 : cs.length ≤ 1048576) (hs2 : mem.length ≤ 1048576) :
    Calls Try.prog 26 #[vl, .int .i64 a, vm] w fun e w' => e = .returned (.bool (freeA cs a mem)) ∧ Pure w w' := by
  have H := Lib.hid h
  have HM := Lib.hid hm
  obtain ⟨A, c, rfl, hnc, hcm⟩ := h.form
  obtain ⟨Am, cm, rfl⟩ := hm.form
  clear h hm
  by_cases hok : RunOk cs a mem
  · have HOK := Lib.hid hok
    clear hok
    go_enter Try.func26, Try.ntmps26
    go_wp2_with fail
    refine (sok_any _ _ cs a mem _ H.out HM.out hs1 hs2 true (by simp only [true_iff]; exact HOK.out)).mono ?_
    rintro e w1 ⟨rfl, hp1⟩
    have HP1 := Lib.hid hp1
    clear hp1
    go_wp2_with fail
    refine (sacc_any _ _ cs a mem _ (H.out.keep HP1.out) (Cells.keep HM.out HP1.out) hs1 hs2).mono ?_
    rintro e w2 ⟨v2, rfl, ho2, hp2⟩
    have HO := Lib.hid (Flat.of_own ho2)
    have HP2 := Lib.hid (HP1.out.trans hp2)
    obtain ⟨A2, c2, rfl, _⟩ := HO.out.form
    clear ho2 hp2
    go_wp2_with fail
    refine (sfr_any _ (lockA cs a mem).A _ HO.out (by have := lockA_lenA (cs := cs) (a := a) (mem := mem); omega)).mono ?_
    rintro e w3 ⟨i, j, B, rfl, hB, hp3⟩
    have HB := Lib.hid (freeA_of HOK.out hB)
    clear hB
    go_wp2
    go_ret
    exact ⟨by rw [HB.out]; rfl, HP2.out.trans hp3⟩
  · have HOK := Lib.hid hok
    rw [freeA_no hok]
    clear hok
    go_enter Try.func26, Try.ntmps26
    go_wp2_with fail
    refine (sok_any _ _ cs a mem _ H.out HM.out hs1 hs2 false (by simp [HOK.out])).mono ?_
    rintro e w1 ⟨rfl, hp1⟩
    go_wp2
    go_ret
    exact ⟨rfl, hp1⟩

set_option maxHeartbeats 1000000 in
set_option maxRecDepth 100000 in
theorem irf_any (vl vm : Value) (cs : List Cd) (a : Int) (mem : List Int) (w : World) (h : Codes w vl cs) (hm : Ints w vm mem) (hs1 : cs.length ≤ 1048576) (hs2 : mem.length ≤ 1048576) :
    Calls Try.prog 25 #[vl, .int .i64 a, vm] w fun e w' => e = .returned (.bool (freeA cs a mem)) ∧ Pure w w' := by
  have H := Lib.hid h
  have HM := Lib.hid hm
  obtain ⟨A, c, rfl, hnc, hcm⟩ := h.form
  obtain ⟨Am, cm, rfl⟩ := hm.form
  clear h hm
  by_cases hok : RunOk cs a mem
  · have HOK := Lib.hid hok
    obtain ⟨n, rfl, hn1, hn8⟩ := lanes_nat hok.2.1
    have HL := Lib.hid (lockA_ok hok)
    clear hok
    go_enter Try.func25, Try.ntmps25
    go_wp2_with fail
    refine (ilock_any _ _ cs n mem _ H.out HM.out HOK.out.1 hn1 hn8 HOK.out.2.2).mono ?_
    rintro e w1 ⟨o, vb, va, rfl, hp0, hcs, hvl, hlk, hn, hmm, hrun⟩
    have p4 : w1.cell? ⟨o.p, 4, none⟩ = some va := hrun.obj.cell 4
    have hac := hrun.ac
    rw [← HL.out] at hac
    have HA := Lib.hid (Flat.of_own hac)
    obtain ⟨Aa, ca, rfl, _⟩ := HA.out.form
    have HP := Lib.hid (hp0.trans hrun.pure)
    clear hrun hcs hvl hn hmm hlk hp0 hac
    go_wp2_with fail
    refine (ifr_any _ (lockA cs n mem).A _ HA.out (by have := lockA_lenA (cs := cs) (a := n) (mem := mem); omega)).mono ?_
    rintro e w3 ⟨i, j, B, rfl, hB, hp3⟩
    have HB := Lib.hid (freeA_of HOK.out hB)
    clear hB
    go_wp2
    go_ret
    exact ⟨by rw [HB.out]; rfl, HP.out.trans hp3⟩
  · have HOK := Lib.hid hok
    rw [freeA_no hok]
    clear hok
    go_enter Try.func25, Try.ntmps25
    go_wp2_with fail
    refine (ino_any _ _ cs a mem _ H.out HM.out hs1 hs2 HOK.out).mono ?_
    rintro e w1 ⟨rfl, hp1⟩
    go_wp2
    go_ret
    exact ⟨rfl, hp1⟩

set_option maxHeartbeats 1000000 in
set_option maxRecDepth 100000 in
theorem ssafe_any (vl vm : Value) (cs : List Cd) (a : Int) (mem : List Int) (w : World) (h : Codes w vl cs) (hm : Ints w vm mem) (hs1 : cs.length ≤ 1048576) (hs2 : mem.length ≤ 1048576) :
    Calls Try.prog 39 #[vl, .int .i64 a, vm] w fun e w' => e = .returned (.bool (safeA cs a mem)) ∧ Pure w w' := by
  have H := Lib.hid h
  have HM := Lib.hid hm
  obtain ⟨A, c, rfl, hnc, hcm⟩ := h.form
  obtain ⟨Am, cm, rfl⟩ := hm.form
  clear h hm
  obtain ⟨bw, Hbw⟩ : ∃ bw, Hid (wholeA cs a mem = bw) := ⟨_, Lib.hid rfl⟩
  go_enter Try.func39, Try.ntmps39
  go_wp2_with fail
  refine (srl_any _ _ cs a mem _ H.out HM.out hs1 hs2).mono ?_
  rintro e w1 ⟨v1, rfl, ho1, hp1⟩
  rw [Hbw.out]
  have HP1 := Lib.hid hp1
  obtain ⟨A1, c1, rfl⟩ := ho1.form
  clear ho1 hp1
  cases bw
  · go_wp2
    go_ret
    exact ⟨by unfold safeA; rw [Hbw.out]; rfl, HP1.out⟩
  · go_wp2_with fail
    refine (srf_any _ _ cs a mem _ (H.out.keep HP1.out) (Cells.keep HM.out HP1.out) hs1 hs2).mono ?_
    rintro e w2 ⟨rfl, hp2⟩
    go_wp2
    go_ret
    exact ⟨by unfold safeA; rw [Hbw.out]; rfl, HP1.out.trans hp2⟩

set_option maxHeartbeats 1000000 in
set_option maxRecDepth 100000 in
theorem sreason_any (vl vm : Value) (cs : List Cd) (a : Int) (mem : List Int) (w : World) (h : Codes w vl cs) (hm : Ints w vm mem) (hs1 : cs.length ≤ 1048576) (hs2 : mem.length ≤ 1048576) :
    Calls Try.prog 35 #[vl, .int .i64 a, vm] w fun e w' => e = .returned (.int .i64 (reasonA cs a mem)) ∧ Pure w w' := by
  have H := Lib.hid h
  have HM := Lib.hid hm
  obtain ⟨A, c, rfl, hnc, hcm⟩ := h.form
  obtain ⟨Am, cm, rfl⟩ := hm.form
  clear h hm
  obtain ⟨bw, Hbw⟩ : ∃ bw, Hid (wholeA cs a mem = bw) := ⟨_, Lib.hid rfl⟩
  obtain ⟨bf, Hbf⟩ : ∃ bf, Hid (freeA cs a mem = bf) := ⟨_, Lib.hid rfl⟩
  go_enter Try.func35, Try.ntmps35
  go_wp2_with fail
  refine (srl_any _ _ cs a mem _ H.out HM.out hs1 hs2).mono ?_
  rintro e w1 ⟨v1, rfl, ho1, hp1⟩
  rw [Hbw.out]
  have HP1 := Lib.hid hp1
  obtain ⟨A1, c1, rfl⟩ := ho1.form
  clear ho1 hp1
  by_cases hok : RunOk cs a mem
  · have HOK := Lib.hid hok
    clear hok
    go_wp2_with fail
    refine (sok_any _ _ cs a mem _ (H.out.keep HP1.out) (Cells.keep HM.out HP1.out) hs1 hs2 true (by simp only [true_iff]; exact HOK.out)).mono ?_
    rintro e w2 ⟨rfl, hp2⟩
    have HP2 := Lib.hid (HP1.out.trans hp2)
    clear hp2
    cases bw
    · go_wp2
      go_ret
      exact ⟨by unfold reasonA; rw [if_pos HOK.out, Hbw.out]; rfl, HP2.out⟩
    · go_wp2_with fail
      refine (srf_any _ _ cs a mem _ (H.out.keep HP2.out) (Cells.keep HM.out HP2.out) hs1 hs2).mono ?_
      rintro e w3 ⟨rfl, hp3⟩
      rw [Hbf.out]
      cases bf
      · go_wp2
        go_ret
        exact ⟨by unfold reasonA; rw [if_pos HOK.out, Hbw.out, Hbf.out]; rfl, HP2.out.trans hp3⟩
      · go_wp2
        go_ret
        exact ⟨by unfold reasonA; rw [if_pos HOK.out, Hbw.out, Hbf.out]; rfl, HP2.out.trans hp3⟩
  · have HOK := Lib.hid hok
    clear hok
    go_wp2_with fail
    refine (sok_any _ _ cs a mem _ (H.out.keep HP1.out) (Cells.keep HM.out HP1.out) hs1 hs2 false (by simp [HOK.out])).mono ?_
    rintro e w2 ⟨rfl, hp2⟩
    go_wp2
    go_ret
    exact ⟨by unfold reasonA; rw [if_neg HOK.out]; rfl, HP1.out.trans hp2⟩

set_option maxHeartbeats 2000000 in
set_option maxRecDepth 100000 in
theorem ireason_any (vl vm : Value) (cs : List Cd) (a : Int) (mem : List Int) (w : World) (h : Codes w vl cs) (hm : Ints w vm mem) (hs1 : cs.length ≤ 1048576) (hs2 : mem.length ≤ 1048576) :
    Calls Try.prog 34 #[vl, .int .i64 a, vm] w fun e w' => e = .returned (.int .i64 (reasonA cs a mem)) ∧ Pure w w' := by
  have H := Lib.hid h
  have HM := Lib.hid hm
  obtain ⟨A, c, rfl, hnc, hcm⟩ := h.form
  obtain ⟨Am, cm, rfl⟩ := hm.form
  clear h hm
  by_cases hok : RunOk cs a mem
  · have HOK := Lib.hid hok
    obtain ⟨n, rfl, hn1, hn8⟩ := lanes_nat hok.2.1
    have HL := Lib.hid (lockA_ok hok)
    have HW : Hid (wholeA cs n mem = (splA cs n mem).isNone) := Lib.hid (by unfold wholeA; simp [hok])
    have HSA : Hid (splA cs n mem = (lockOf cs n mem).H.find? (splBad cs n)) := Lib.hid (by unfold splA; rw [lockA_ok hok, show ((n : Int)).toNat = n by omega])
    clear hok
    go_enter Try.func34, Try.ntmps34
    go_wp2_with fail
    refine (ilock_any _ _ cs n mem _ H.out HM.out HOK.out.1 hn1 hn8 HOK.out.2.2).mono ?_
    rintro e w1 ⟨o, vb, va, rfl, hp0, hcs, hvl, hlk, hn, hmm, hrun⟩
    have p4 : w1.cell? ⟨o.p, 4, none⟩ = some va := hrun.obj.cell 4
    have hac := hrun.ac
    rw [← HL.out] at hac
    have HA := Lib.hid (Flat.of_own hac)
    obtain ⟨Aa, ca, rfl, _⟩ := HA.out.form
    have HR := Lib.hid hrun
    have HP := Lib.hid (hp0.trans hrun.pure)
    have HIN : Hid (∀ x ∈ (lockOf cs n mem).H, x.1 < o.cs.length) := Lib.hid (by rw [hcs]; exact fun x hx => (lockOf_in HOK.out.1 x hx).2.1)
    have hlen := lockOf_len (n := n) (mem := mem) HOK.out.1
    have HSP : Hid ((lockOf cs n mem).H.find? (splBad o.cs o.rm.n) = splA cs n mem) := Lib.hid (by rw [hcs, hn, HSA.out])
    clear hrun hvl hlk hp0 hcs hn hmm hac
    go_wp2_with fail
    refine (isplit_any o _ _ _ _ HR.out HIN.out (by omega)).mono ?_
    rintro e w2 ⟨rfl, hp2⟩
    rw [HSP.out]
    have z4 := keepPc hp2 p4
    have HP2 := Lib.hid (HP.out.trans hp2)
    have HA2 := Lib.hid (HA.out.keep hp2)
    have hplt : o.p < w2.heap.size := World.block_lt_of_cell? _ _ z4
    clear p4 hp2
    cases hsp : splA cs n mem with
    | none =>
      have HW2 : Hid (wholeA cs n mem = true) := Lib.hid (by rw [HW.out, hsp]; rfl)
      unfold spl2
      clear hsp
      go_wp2_with fail
      refine (ifr_any _ (lockA cs n mem).A _ (HA2.out.keep (by exact (by repeat (first | assumption | exact Pure.refl _ | refine Pure.drewN ?_ _ | refine Pure.drew ?_ | refine Pure.alloc ?_ _ | refine Pure.setCell ?_ (by simp <;> omega) _)))) (by have := lockA_lenA (cs := cs) (a := n) (mem := mem); omega)).mono ?_
      rintro e w3 ⟨i, j, B, rfl, hB, hp3⟩
      have HB := Lib.hid (freeA_of HOK.out hB)
      clear hB
      cases B
      · go_wp2
        go_ret
        exact ⟨by unfold reasonA; rw [if_pos HOK.out, HW2.out, HB.out]; rfl, (HP2.out.trans (by exact (by repeat (first | assumption | exact Pure.refl _ | refine Pure.drewN ?_ _ | refine Pure.drew ?_ | refine Pure.alloc ?_ _ | refine Pure.setCell ?_ (by simp <;> omega) _)))).trans hp3⟩
      · go_wp2
        go_ret
        exact ⟨by unfold reasonA; rw [if_pos HOK.out, HW2.out, HB.out]; rfl, (HP2.out.trans (by exact (by repeat (first | assumption | exact Pure.refl _ | refine Pure.drewN ?_ _ | refine Pure.drew ?_ | refine Pure.alloc ?_ _ | refine Pure.setCell ?_ (by simp <;> omega) _)))).trans hp3⟩
    | some y =>
      have HW2 : Hid (wholeA cs n mem = false) := Lib.hid (by rw [HW.out, hsp]; rfl)
      obtain ⟨u0, u1, u2⟩ := y
      unfold spl2
      clear hsp
      simp only
      go_wp2
      go_ret
      exact ⟨by unfold reasonA; rw [if_pos HOK.out, HW2.out]; rfl, HP2.out.trans (by exact (by repeat (first | assumption | exact Pure.refl _ | refine Pure.drewN ?_ _ | refine Pure.drew ?_ | refine Pure.alloc ?_ _ | refine Pure.setCell ?_ (by simp <;> omega) _)))⟩
  · have HOK := Lib.hid hok
    clear hok
    go_enter Try.func34, Try.ntmps34
    go_wp2_with fail
    refine (ino_any _ _ cs a mem _ H.out HM.out hs1 hs2 HOK.out).mono ?_
    rintro e w1 ⟨rfl, hp1⟩
    go_wp2
    go_ret
    exact ⟨by unfold reasonA; rw [if_neg HOK.out]; rfl, hp1⟩

set_option maxHeartbeats 1000000 in
set_option maxRecDepth 100000 in
theorem isafe_any (vl vm : Value) (cs : List Cd) (a : Int) (mem : List Int) (w : World) (h : Codes w vl cs) (hm : Ints w vm mem) (hs1 : cs.length ≤ 1048576) (hs2 : mem.length ≤ 1048576) :
    Calls Try.prog 37 #[vl, .int .i64 a, vm] w fun e w' => e = .returned (.bool (safeA cs a mem)) ∧ Pure w w' := by
  have H := Lib.hid h
  have HM := Lib.hid hm
  obtain ⟨A, c, rfl, hnc, hcm⟩ := h.form
  obtain ⟨Am, cm, rfl⟩ := hm.form
  clear h hm
  have hz : (reasonA cs a mem == 0) = safeA cs a mem := by rw [← reason_0, Bool.eq_iff_iff, beq_iff_eq, decide_eq_true_iff]
  obtain ⟨r, Hr⟩ : ∃ r, Hid (reasonA cs a mem = r) := ⟨_, Lib.hid rfl⟩
  rw [Hr.out] at hz
  go_enter Try.func37, Try.ntmps37
  go_wp2_with fail
  refine (ireason_any _ _ cs a mem _ H.out HM.out hs1 hs2).mono ?_
  rintro e w1 ⟨rfl, hp1⟩
  rw [Hr.out]
  go_wp2
  go_ret
  exact ⟨rfl, hp1⟩

end Go.Proofs.Ytonmndojlnohcaa

namespace Go.Proofs.Ytonmndojlnohcaa
open Go.RowKit

def Bytes (w : World) (v : Value) (bs : List Int) : Prop := (Cells w v bs.length 1 fun j => .int .u8 (bs.getD j 0)) ∧ ∀ x ∈ bs, 0 ≤ x ∧ x ≤ 255
theorem Bytes.keep {w w' : World} {v : Value} {bs : List Int} (h : Bytes w v bs) (hp : Pure w w') : Bytes w' v bs := ⟨Cells.keep h.1 hp, h.2⟩
theorem Bytes.form {w : World} {v : Value} {bs : List Int} (h : Bytes w v bs) : ∃ A c, v = .slice A bs.length c ∧ bs.length ≤ c ∧ c ≤ 9223372036854775807 := by
  obtain ⟨⟨A, c, h1, h2, h3, _⟩, _⟩ := h
  exact ⟨A, c, h1, h2, h3⟩
theorem Bytes.at_ {w : World} {A : Option Addr} {n c : Nat} {bs : List Int} (h : Bytes w (.slice A n c) bs) {k : Nat} (hk : k < bs.length) : ∃ b o, A = some ⟨b, o, none⟩ ∧ b < w.heap.size ∧ ∀ j, j < bs.length → w.cell? ⟨b, o + j, none⟩ = some (.int .u8 (bs.getD j 0)) := by
  obtain ⟨⟨A', c', hv, _, _, h4⟩, _⟩ := h
  injection hv with e1 e2 e3
  subst e1
  obtain ⟨b, o, he, hb, hc⟩ := h4 (by omega)
  exact ⟨b, o, he, hb, fun j hj => hc j (by omega)⟩
theorem Bytes.range {w : World} {v : Value} {bs : List Int} (h : Bytes w v bs) {k : Nat} (hk : k < bs.length) : 0 ≤ bs.getD k 0 ∧ bs.getD k 0 ≤ 255 := by
  have : bs.getD k 0 ∈ bs := by simp [List.getD_eq_getElem?_getD, hk]
  exact h.2 _ this
/-- The first bytes. -/
theorem Bytes.take {w : World} {A : Option Addr} {n c : Nat} {bs : List Int} (h : Bytes w (.slice A n c) bs) {k : Nat} (hk : k ≤ bs.length) : Bytes w (.slice A k c) (bs.take k) := by
  obtain ⟨⟨A', c', hv, h2, h3, h4⟩, hr⟩ := h
  injection hv with e1 e2 e3
  subst e1 e3
  have hl : (bs.take k).length = k := by simp; omega
  refine ⟨⟨A, c, by rw [hl], by rw [hl]; omega, h3, fun hn => ?_⟩, fun x hx => hr x (List.mem_of_mem_take hx)⟩
  rw [hl] at hn
  obtain ⟨b, o, he, hb, hc⟩ := h4 (by omega)
  refine ⟨b, o, he, hb, fun j hj => ?_⟩
  rw [hl] at hj
  rw [hc j (by omega)]
  have : j < k := by omega
  simp [List.getD_eq_getElem?_getD, this]

end Go.Proofs.Ytonmndojlnohcaa
