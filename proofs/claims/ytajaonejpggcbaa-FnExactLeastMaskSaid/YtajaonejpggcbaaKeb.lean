/- Lanes and crowds that came in; the laws' helpers on them: sizes, copies, comparisons. The block around a place, as the program finds it. Valid lanes and crowds, plainly: the loops around a place, by the stack and by the chain of the blocks. Which lanes and crowds are valid, as the reference finds it. Crowds that came in: copies of lanes and of crowds, and their size. Which lanes are valid, as the reference finds it. No condition. -/
import Derived.Test.YtajaonejpggcbaaKab
import Derived.Test.YtajaonejpggcbaaKac
import Derived.Test.YtajaonejpggcbaaKad
import Derived.Test.YtajaonejpggcbaaKae
import Derived.Test.YtajaonejpggcbaaKaf
import Derived.Test.YtajaonejpggcbaaKai
import Derived.Test.YtajaonejpggcbaaKbd
import Derived.Test.YtajaonejpggcbaaKca

namespace Go.Proofs.Ytajaonejpggcbaa
open Go.RowKit

/-- A lane, of any kind. -/
structure Lx where
  rs : List Int
  at_ : Int
  ts : List Int
  wt : Bool
deriving Inhabited
/-- A crowd, of any kind. -/
structure Cx where
  ls : List Lx
  mem : List Int

theorem elILane : ElT Try.prog 31 55 4 [.slice none 0 0, .int .i64 0, .slice none 0 0, .bool false] 64 := ⟨by kernel_rfl, ⟨.agg #[.slice none 0 0, .int .i64 0, .slice none 0 0, .bool false], by kernel_rfl, by kernel_rfl, rfl⟩, by decide⟩

/-- The four cells of a lane, and its rows. -/
structure LnAt (w : World) (b o : Nat) (l : Lx) (R T : Value) : Prop where
  c0 : w.cell? ⟨b, o, none⟩ = some R
  c1 : w.cell? ⟨b, o + 1, none⟩ = some (.int .i64 l.at_)
  c2 : w.cell? ⟨b, o + 2, none⟩ = some T
  c3 : w.cell? ⟨b, o + 3, none⟩ = some (.bool l.wt)
  r : Ints w R l.rs
  t : Ints w T l.ts
theorem LnAt.keep {w w' : World} {b o : Nat} {l : Lx} {R T : Value} (h : LnAt w b o l R T) (hp : Pure w w') : LnAt w' b o l R T := by
  have hb : b < w.heap.size := World.block_lt_of_cell? _ _ h.c0
  exact ⟨(hp.cell b _ hb).trans h.c0, (hp.cell b _ hb).trans h.c1, (hp.cell b _ hb).trans h.c2, (hp.cell b _ hb).trans h.c3, h.r.keep hp, h.t.keep hp⟩
def Lanes (w : World) (v : Value) (ls : List Lx) : Prop :=
  ∃ A c, v = .slice A ls.length c ∧ ls.length ≤ c ∧ c ≤ 9223372036854775807 ∧ (0 < ls.length → ∃ b o, A = some ⟨b, o, none⟩ ∧ b < w.heap.size ∧ ∀ k, k < ls.length → ∃ R T, LnAt w b (o + k * 4) (ls.getD k default) R T)
theorem Lanes.keep {w w' : World} {v : Value} {ls : List Lx} (h : Lanes w v ls) (hp : Pure w w') : Lanes w' v ls := by
  obtain ⟨A, c, h1, h2, h3, h4⟩ := h
  refine ⟨A, c, h1, h2, h3, fun hn => ?_⟩
  obtain ⟨b, o, e, hb, hc⟩ := h4 hn
  refine ⟨b, o, e, Nat.lt_of_lt_of_le hb hp.size, fun k hk => ?_⟩
  obtain ⟨R, T, h⟩ := hc k hk
  exact ⟨R, T, h.keep hp⟩
theorem Lanes.form {w : World} {v : Value} {ls : List Lx} (h : Lanes w v ls) : ∃ A c, v = .slice A ls.length c ∧ ls.length ≤ c ∧ c ≤ 9223372036854775807 := by
  obtain ⟨A, c, h, h1, h2, _⟩ := h
  exact ⟨A, c, h, h1, h2⟩
theorem Lanes.at_ {w : World} {A : Option Addr} {n c : Nat} {ls : List Lx} (h : Lanes w (.slice A n c) ls) {k : Nat} (hk : k < ls.length) : ∃ b o, A = some ⟨b, o, none⟩ ∧ b < w.heap.size ∧ ∃ R T, LnAt w b (o + k * 4) (ls.getD k default) R T := by
  obtain ⟨A', c', hv, _, _, h4⟩ := h
  injection hv with e1 e2 e3
  subst e1
  obtain ⟨b, o, rfl, hb, hc⟩ := h4 (by omega)
  exact ⟨b, o, rfl, hb, hc k hk⟩
def Crowd (w : World) (v : Value) (c : Cx) : Prop := ∃ vl vm, v = .agg #[vl, vm] ∧ Lanes w vl c.ls ∧ Ints w vm c.mem
theorem Crowd.keep {w w' : World} {v : Value} {c : Cx} (h : Crowd w v c) (hp : Pure w w') : Crowd w' v c := by
  obtain ⟨vl, vm, e, h1, h2⟩ := h
  exact ⟨vl, vm, e, h1.keep hp, h2.keep hp⟩
def lnVX (R : Value) (a : Int) (T : Value) (b : Bool) : Value := .agg #[R, .int .i64 a, T, .bool b]

set_option maxHeartbeats 400000 in
theorem szLane_any (R T : Value) (l : Lx) (left : Int) (w : World) (hr : Ints w R l.rs) (ht : Ints w T l.ts) (hl0 : 0 ≤ left) (hl1 : left ≤ 1048576) :
    Calls Try.prog 77 #[lnVX R l.at_ T l.wt, .int .i64 left] w fun e w' => (∃ r : Int, e = .returned (.int .i64 r) ∧ -1 ≤ r ∧ r ≤ left ∧ (0 ≤ r → l.rs.length ≤ left ∧ l.ts.length ≤ left)) ∧ Pure w w' := by
  unfold lnVX
  have HR := Lib.hid hr
  have HT := Lib.hid ht
  obtain ⟨Ar, cr, rfl⟩ := hr.form
  obtain ⟨At, ct, rfl⟩ := ht.form
  clear hr ht
  by_cases h1 : left < l.rs.length
  · go_enter Try.func77, Try.ntmps77
    go_wp2_with fail
    refine (szIntS_any _ _ _ _ (HR.out.keep (by exact (by repeat (first | assumption | exact Pure.refl _ | refine Pure.drewN ?_ _ | refine Pure.drew ?_ | refine Pure.alloc ?_ _ | refine Pure.setCell ?_ (by simp <;> omega) _)))) hl0 hl1).mono ?_
    rw [if_pos h1]
    rintro e w1 ⟨rfl, rfl⟩
    go_wp2
    go_ret
    exact ⟨⟨_, rfl, by omega, by omega, fun h => absurd h (by omega)⟩, (by repeat (first | assumption | exact Pure.refl _ | refine Pure.drewN ?_ _ | refine Pure.drew ?_ | refine Pure.alloc ?_ _ | refine Pure.setCell ?_ (by simp <;> omega) _))⟩
  · by_cases h2 : left - l.rs.length < l.ts.length
    · go_enter Try.func77, Try.ntmps77
      go_wp2_with fail
      refine (szIntS_any _ _ _ _ (HR.out.keep (by exact (by repeat (first | assumption | exact Pure.refl _ | refine Pure.drewN ?_ _ | refine Pure.drew ?_ | refine Pure.alloc ?_ _ | refine Pure.setCell ?_ (by simp <;> omega) _)))) hl0 hl1).mono ?_
      rw [if_neg (by omega)]
      rintro e w1 ⟨rfl, rfl⟩
      go_wp2_with fail
      refine (szIntS_any _ _ _ _ (HT.out.keep (by exact (by repeat (first | assumption | exact Pure.refl _ | refine Pure.drewN ?_ _ | refine Pure.drew ?_ | refine Pure.alloc ?_ _ | refine Pure.setCell ?_ (by simp <;> omega) _)))) (by omega) (by omega)).mono ?_
      rw [if_pos h2]
      rintro e w1 ⟨rfl, rfl⟩
      go_wp2
      go_ret
      exact ⟨⟨_, rfl, by omega, by omega, fun h => absurd h (by omega)⟩, (by repeat (first | assumption | exact Pure.refl _ | refine Pure.drewN ?_ _ | refine Pure.drew ?_ | refine Pure.alloc ?_ _ | refine Pure.setCell ?_ (by simp <;> omega) _))⟩
    · go_enter Try.func77, Try.ntmps77
      go_wp2_with fail
      refine (szIntS_any _ _ _ _ (HR.out.keep (by exact (by repeat (first | assumption | exact Pure.refl _ | refine Pure.drewN ?_ _ | refine Pure.drew ?_ | refine Pure.alloc ?_ _ | refine Pure.setCell ?_ (by simp <;> omega) _)))) hl0 hl1).mono ?_
      rw [if_neg (by omega)]
      rintro e w1 ⟨rfl, rfl⟩
      go_wp2_with fail
      refine (szIntS_any _ _ _ _ (HT.out.keep (by exact (by repeat (first | assumption | exact Pure.refl _ | refine Pure.drewN ?_ _ | refine Pure.drew ?_ | refine Pure.alloc ?_ _ | refine Pure.setCell ?_ (by simp <;> omega) _)))) (by omega) (by omega)).mono ?_
      rw [if_neg (by omega)]
      rintro e w1 ⟨rfl, rfl⟩
      go_wp2
      go_ret
      exact ⟨⟨_, rfl, by omega, by omega, fun h => by omega⟩, (by repeat (first | assumption | exact Pure.refl _ | refine Pure.drewN ?_ _ | refine Pure.drew ?_ | refine Pure.alloc ?_ _ | refine Pure.setCell ?_ (by simp <;> omega) _))⟩

def SzL (ls : List Lx) (left : Int) (w : World) (e : Ending) (w' : World) : Prop :=
  (∃ r : Int, e = .returned (.int .i64 r) ∧ -1 ≤ r ∧ r ≤ left ∧ (0 ≤ r → ls.length ≤ left ∧ ∀ k, k < ls.length → (ls.getD k default).rs.length ≤ left ∧ (ls.getD k default).ts.length ≤ left)) ∧ Pure w w'
set_option maxHeartbeats 400000 in
theorem szLaneS_any (v : Value) (ls : List Lx) (left : Int) (w : World) (h : Lanes w v ls) (hl0 : 0 ≤ left) (hl1 : left ≤ 1048576) :
    Calls Try.prog 48 #[v, .int .i64 left] w (SzL ls left w) := by
  have H := Lib.hid h
  obtain ⟨A, c, rfl, hnc, hcm⟩ := h.form
  clear h
  by_cases hl : left < ls.length
  · go_enter Try.func48, Try.ntmps48
    go_wp2
    go_ret
    exact ⟨⟨_, rfl, by omega, by omega, fun h => absurd h (by omega)⟩, (by repeat (first | assumption | exact Pure.refl _ | refine Pure.drewN ?_ _ | refine Pure.drew ?_ | refine Pure.alloc ?_ _ | refine Pure.setCell ?_ (by simp <;> omega) _))⟩
  · go_enter Try.func48, Try.ntmps48
    go_wp2
    go_loopg [1, 5] ls.length (fun gk l i wr => ∃ (k : Nat) (z : Int), gk + k = ls.length ∧ i = .int .i64 k ∧ l = .int .i64 z ∧ 0 ≤ z ∧ z ≤ left ∧ Pure w wr ∧ ∀ j, j < k → (ls.getD j default).rs.length ≤ left ∧ (ls.getD j default).ts.length ≤ left)
    case atStart => exact ⟨0, _, rfl, rfl, rfl, by omega, by omega, (by repeat (first | assumption | exact Pure.refl _ | refine Pure.drewN ?_ _ | refine Pure.drew ?_ | refine Pure.alloc ?_ _ | refine Pure.setCell ?_ (by simp <;> omega) _)), fun j hj => absurd hj (by omega)⟩
    case round =>
      obtain ⟨k, z, hgk, rfl, rfl, hz0, hz1, hp, hall⟩ := hrel
      have Hgk := Lib.hid hgk
      have Hall := Lib.hid hall
      have HP := Lib.hid hp
      have hk : k ≤ ls.length := by omega
      clear hall hgk hp
      by_cases hlt : k < ls.length
      · obtain ⟨b, o, rfl, hb, R, T, hx⟩ := (H.out.keep HP.out).at_ hlt
        obtain ⟨x, Hx⟩ : ∃ x, Hid (ls.getD k default = x) := ⟨_, Lib.hid rfl⟩
        rw [Hx.out] at hx
        have HX := Lib.hid hx
        obtain ⟨c0, c1, c2, c3, hr, ht⟩ := hx
        clear hr ht
        go_wp2_with fail
        refine (szLane_any R T x z _ HX.out.r HX.out.t hz0 (by omega)).mono ?_
        rintro e w1 ⟨⟨r, rfl, hr0, hr1, hr2⟩, hp1⟩
        have HR2 := Lib.hid hr2
        have HP1 := Lib.hid (HP.out.trans hp1)
        clear hr2 hp1
        by_cases hr : r < 0
        · go_wp2
          go_ret
          exact ⟨⟨_, rfl, by omega, by omega, fun h => absurd h (by omega)⟩, HP1.out⟩
        · go_wp2
          go_roundg (ls.length - (k + 1))
          case measure => have := Hgk.out; omega
          case rel => exact ⟨k + 1, r, by have := Hgk.out; omega, by go_num, rfl, by omega, by omega, HP1.out, fun j hj => by
            by_cases hjk : j = k
            · subst hjk; rw [Hx.out]; have := HR2.out (by omega); omega
            · exact Hall.out j (by omega)⟩
      · have hkl : k = ls.length := by omega
        go_wp2
        go_ret
        exact ⟨⟨_, rfl, by omega, by omega, fun _ => ⟨by omega, fun j hj => Hall.out j (by omega)⟩⟩, HP.out⟩

end Go.Proofs.Ytajaonejpggcbaa

namespace Go.Proofs.Ytajaonejpggcbaa
open Go.RowKit

theorem PValid.stk {cs : List Cd} (h : PValid cs) : ∀ {k : Nat}, k ≤ cs.length → ∃ st, sscan (cs.take k) 0 [] = some st ∧ Stk cs k st
  | 0, _ => ⟨[], by simp [sscan], Stk.nil cs⟩
  | k + 1, hk => by
    obtain ⟨st, h1, h2⟩ := PValid.stk h (k := k) (by omega)
    have h3 := sscan_take (show k < cs.length by omega) h1
    cases hs : sstep st k (cs.getD k default) with
    | none =>
      rw [hs] at h3
      have := sscan_none h3
      rw [h.2.2] at this; cases this
    | some st' => exact ⟨st', h3.trans hs, h2.step (by omega) hs⟩
/-- The innermost of the blocks around a place. -/
theorem stk_top {cs : List Cd} (h : PValid cs) {k : Nat} (hk : k < cs.length) : ((stkPos cs k).length = 0 ∧ aroundAt cs k = -1) ∨
    (0 < (stkPos cs k).length ∧ (((stkPos cs k).getD ((stkPos cs k).length - 1) 0 : Nat) : Int) = aroundAt cs k ∧ (stkPos cs k).getD ((stkPos cs k).length - 1) 0 < cs.length ∧ Opens (cs.getD ((stkPos cs k).getD ((stkPos cs k).length - 1) 0) default)) := by
  obtain ⟨st, h1, h2⟩ := h.stk (Nat.le_of_lt hk)
  have e : stkPos cs k = (st.map (·.1)).reverse := by unfold stkPos; rw [h1]; rfl
  have ha := h2.around 0
  cases st with
  | nil => left; rw [e]; exact ⟨rfl, ha⟩
  | cons x r =>
    right
    have hl : (stkPos cs k).length = r.length + 1 := by rw [e]; simp
    have hg : (stkPos cs k).getD ((stkPos cs k).length - 1) 0 = x.1 := by
      rw [hl, e]
      simp [List.getD_eq_getElem?_getD]
    rw [hg]
    have hlt := h2.lt 0 (by simp)
    obtain ⟨o, _, he⟩ := h2.ends 0 (by simp)
    simp only [List.getElem_cons_zero] at hlt he
    refine ⟨by omega, ha.symm, by omega, ?_⟩
    rcases he with he | he | he
    · exact .inl he.2.1
    · exact .inl he.2.1
    · exact .inr he.2.1

open Classical in
noncomputable def aroundA (cs : List Cd) (p : Int) : Int := if PValid cs ∧ 0 ≤ p ∧ p ≤ (cs.length : Int) - 1 then aroundAt cs p.toNat else -1

end Go.Proofs.Ytajaonejpggcbaa

namespace Go.Proofs.Ytajaonejpggcbaa

/-- Below a place of the stack lies the stack of that place. -/
theorem stk_drop {cs : List Cd} : ∀ k, k ≤ cs.length → ∀ st, sscan (cs.take k) 0 [] = some st → ∀ i (h : i < st.length), sscan (cs.take st[i].1) 0 [] = some (st.drop (i + 1))
  | 0, _, st, h, i, hi => by
    simp [sscan] at h
    subst h
    simp at hi
  | k + 1, hk, st', h, i, hi => by
    cases hq : sscan (cs.take k) 0 [] with
    | none =>
      have h3 := sscan_append (cs.take k) [cs.getD k default] 0 []
      have : cs.take (k + 1) = cs.take k ++ [cs.getD k default] := by
        rw [List.take_succ_eq_append_getElem (show k < cs.length by omega)]
        simp [List.getD_eq_getElem?_getD, show k < cs.length by omega]
      rw [this, h3, hq] at h
      cases h
    | some st =>
      have ih := stk_drop k (by omega) st hq
      rw [sscan_take (show k < cs.length by omega) hq] at h
      unfold sstep at h
      split at h
      · split at h
        · injection h with h
          subst h
          cases i with
          | zero => simpa using hq
          | succ i => simpa using ih i (by simpa using hi)
        · cases h
      · split at h
        · match st, ih, h with
          | (p, m) :: r, ih, h =>
            simp only at h
            split at h
            · injection h with h
              subst h
              cases i with
              | zero => exact ih 0 (by simp)
              | succ i => exact ih (i + 1) (by simpa using hi)
            · cases h
          | [], _, h => cases h
        · split at h
          · match st, ih, h with
            | x :: r, ih, h =>
              injection h with h
              subst h
              exact ih (i + 1) (by simpa using hi)
            | [], _, h => cases h
          · injection h with h
            subst h
            exact ih i hi
/-- The stack of a place. -/
def stkOf (cs : List Cd) (k : Nat) : List Nat := (((sscan (cs.take k) 0 []).getD []).map (·.1))
theorem stkOf_pos (cs : List Cd) (k : Nat) : stkPos cs k = (stkOf cs k).reverse := rfl
theorem stkOf_end {cs : List Cd} (h : PValid cs) : stkOf cs cs.length = [] := by
  unfold stkOf; rw [List.take_length, h.2.2]; rfl
theorem stkOf_len {cs : List Cd} (h : PValid cs) {k : Nat} (hk : k ≤ cs.length) : (stkOf cs k).length ≤ 3 := by
  obtain ⟨st, h1, h2⟩ := h.stk hk
  unfold stkOf; rw [h1]; simpa using h2.len
theorem stkOf_lt {cs : List Cd} (h : PValid cs) {k : Nat} (hk : k ≤ cs.length) {i : Nat} (hi : i < (stkOf cs k).length) : (stkOf cs k).getD i 0 < k := by
  obtain ⟨st, h1, h2⟩ := h.stk hk
  unfold stkOf at hi ⊢
  rw [h1] at hi ⊢
  simp only [Option.getD_some, List.length_map] at hi ⊢
  have := h2.lt i hi
  simpa [List.getD_eq_getElem?_getD, hi] using this
theorem stkOf_first {cs : List Cd} (h : PValid cs) {k : Nat} (hk : k ≤ cs.length) : aroundAt cs k = if 0 < (stkOf cs k).length then (((stkOf cs k).getD 0 0 : Nat) : Int) else -1 := by
  obtain ⟨st, h1, h2⟩ := h.stk hk
  have ha := h2.around 0
  unfold aroundAt
  rw [ha]
  unfold stkOf
  rw [h1]
  cases st with
  | nil => rfl
  | cons x r => simp
theorem stkOf_next {cs : List Cd} (h : PValid cs) {k : Nat} (hk : k ≤ cs.length) {i : Nat} (hi : i < (stkOf cs k).length) : aroundAt cs ((stkOf cs k).getD i 0) = if i + 1 < (stkOf cs k).length then (((stkOf cs k).getD (i + 1) 0 : Nat) : Int) else -1 := by
  have hlt := stkOf_lt h hk hi
  obtain ⟨st, h1, h2⟩ := h.stk hk
  have hl : (stkOf cs k).length = st.length := by unfold stkOf; rw [h1]; simp
  have hi' : i < st.length := by omega
  have h3 := stk_drop k hk st h1 i hi'
  have he : (stkOf cs k).getD i 0 = st[i].1 := by unfold stkOf; rw [h1]; simp [List.getD_eq_getElem?_getD, hi']
  have hf := stkOf_first h (k := (stkOf cs k).getD i 0) (by omega)
  have hs : stkOf cs ((stkOf cs k).getD i 0) = (stkOf cs k).drop (i + 1) := by
    rw [he]
    unfold stkOf
    rw [h3, h1]
    simp
  rw [hf, hs]
  simp only [List.length_drop]
  by_cases hj : i + 1 < (stkOf cs k).length
  · rw [if_pos (by omega), if_pos hj]
    simp [List.getD_eq_getElem?_getD]
  · rw [if_neg (by omega), if_neg hj]
/-- The loops among the first of a stack, the outermost one first. -/
def lpsTo (cs : List Cd) (k : Nat) : Nat → List Nat
  | 0 => []
  | i + 1 => if (cs.getD ((stkOf cs k).getD i 0) default).op = 13 then (stkOf cs k).getD i 0 :: lpsTo cs k i else lpsTo cs k i
def lps (cs : List Cd) (k : Nat) : List Nat := lpsTo cs k (stkOf cs k).length
theorem lpsTo_len (cs : List Cd) (k : Nat) : ∀ i, (lpsTo cs k i).length ≤ i
  | 0 => by simp [lpsTo]
  | i + 1 => by
    have := lpsTo_len cs k i
    unfold lpsTo
    split
    · simp; omega
    · omega
theorem lpsTo_lt {cs : List Cd} (h : PValid cs) {k : Nat} (hk : k ≤ cs.length) : ∀ i, i ≤ (stkOf cs k).length → ∀ x ∈ lpsTo cs k i, x < k
  | 0, _, x, hx => by simp [lpsTo] at hx
  | i + 1, hi, x, hx => by
    unfold lpsTo at hx
    split at hx
    · rcases List.mem_cons.1 hx with rfl | hx
      · exact stkOf_lt h hk (by omega)
      · exact lpsTo_lt h hk i (by omega) x hx
    · exact lpsTo_lt h hk i (by omega) x hx

/-- A lane that is valid for a program. -/
structure LaneOk (cs : List Cd) (l : Lx) : Prop where
  p : PValid cs
  n : l.rs.length = 4
  a0 : 0 ≤ l.at_
  a1 : l.at_ ≤ cs.length
  w : ∀ x ∈ l.rs, Word x
  tl : (lps cs l.at_.toNat).length = l.ts.length
  t : ∀ k, k < l.ts.length → 0 ≤ l.ts.getD k 0 ∧ l.ts.getD k 0 ≤ (cs.getD ((lps cs l.at_.toNat).getD k 0) default).b - 1
  b : l.wt = true → 0 < l.at_ ∧ (cs.getD (l.at_.toNat - 1) default).op = 10

end Go.Proofs.Ytajaonejpggcbaa

namespace Go.Proofs.Ytajaonejpggcbaa
open Go.RowKit

theorem ownO_lit {w : World} {B : Nat} (x : Int) (hB : B ≤ w.heap.size) : OwnO (w.alloc (.cells #[.int .i64 x] 3)) B 3 1 (.slice (some ⟨w.heap.size, 0, none⟩) 1 1) 1 [.int .i64 x] :=
  ⟨rfl, .inr ⟨w.heap.size, 0, 1, #[.int .i64 x], rfl, hB, heap_alloc_new w _, by omega, by omega, by simp, fun j u hu => by simpa using hu⟩⟩
def natI (xs : List Nat) : List Value := xs.map fun x => .int .i64 (x : Nat)

set_option maxHeartbeats 1000000 in
set_option maxRecDepth 100000 in
theorem l6loops_any (v : Value) (cs : List Cd) (k : Nat) (w : World) (h : Codes w v cs) (hv : PValid cs) (hk : k ≤ cs.length) :
    Calls Try.prog 119 #[v, .int .i64 (k : Nat)] w fun e w' => ∃ r, e = .returned r ∧ OwnO w' w.heap.size 3 1 r (lps cs k).length (natI (lps cs k)) ∧ Pure w w' := by
  have H := Lib.hid h
  have HV := Lib.hid hv
  have h40 := hv.2.1
  obtain ⟨A, c, rfl, hnc, hcm⟩ := h.form
  clear h
  have HF := Lib.hid (stkOf_first hv hk)
  have HL := Lib.hid (stkOf_len hv hk)
  clear hv
  go_enter Try.func119, Try.ntmps119
  go_wp2_with fail
  refine (l4Around_any _ cs k (aroundAt cs k) _ (H.out.keep (by exact (by repeat (first | assumption | exact Pure.refl _ | refine Pure.drewN ?_ _ | refine Pure.drew ?_ | refine Pure.alloc ?_ _ | refine Pure.setCell ?_ (by simp <;> omega) _)))) (by omega) hk rfl).mono ?_
  rintro e w1 ⟨rfl, hp1⟩
  have HP1 : Hid (Pure w w1) := Lib.hid (Pure.trans (show Pure w (w.alloc (.cells #[] 3)) from (by repeat (first | assumption | exact Pure.refl _ | refine Pure.drewN ?_ _ | refine Pure.drew ?_ | refine Pure.alloc ?_ _ | refine Pure.setCell ?_ (by simp <;> omega) _))) hp1)
  have HO1 : Hid (OwnO w1 w.heap.size 3 1 (.slice (some ⟨w.heap.size, 0, none⟩) 0 0) 0 []) := Lib.hid (OwnO.pure ⟨rfl, .inr ⟨w.heap.size, 0, 0, #[], rfl, Nat.le_refl _, heap_alloc_new w _, by omega, by omega, by simp, fun j u hu => by simp at hu⟩⟩ hp1)
  rw [HF.out]
  obtain ⟨z0, Hz0⟩ : ∃ z0, Hid ((if 0 < (stkOf cs k).length then (((stkOf cs k).getD 0 0 : Nat) : Int) else -1) = z0) := ⟨_, Lib.hid rfl⟩
  rw [Hz0.out]
  clear hp1
  go_wp2
  go_loopg [5, 6] (stkOf cs k).length (fun gk out p wr => ∃ (i : Nat) (z : Int), gk + i = (stkOf cs k).length ∧ p = .int .i64 z ∧ z = (if i < (stkOf cs k).length then (((stkOf cs k).getD i 0 : Nat) : Int) else -1) ∧ Pure w wr ∧ OwnO wr w.heap.size 3 1 out (lpsTo cs k i).length (natI (lpsTo cs k i)))
  case atStart => exact ⟨0, _, rfl, rfl, Hz0.out.symm, HP1.out, HO1.out⟩
  case round =>
    clear HP1 HO1
    obtain ⟨i, z, hgk, rfl, hz, hp, hown⟩ := hrel
    have Hgk := Lib.hid hgk
    have HP := Lib.hid hp
    have HOW := Lib.hid hown
    obtain ⟨Ao, co, rfl⟩ := hown.form
    have hli := lpsTo_len cs k i
    obtain ⟨L, HLL⟩ : ∃ L, Hid (lpsTo cs k i = L) := ⟨_, Lib.hid rfl⟩
    rw [HLL.out] at HOW hli
    have hi : i ≤ (stkOf cs k).length := by omega
    have hi3 : i ≤ 3 := by have := HL.out; omega
    rw [HLL.out]
    clear hgk hp hown
    by_cases hlt : i < (stkOf cs k).length
    · have HNX := Lib.hid (stkOf_next HV.out hk hlt)
      have hpk := stkOf_lt HV.out hk hlt
      have HNL : Hid (lpsTo cs k (i + 1) = if (cs.getD ((stkOf cs k).getD i 0) default).op = 13 then (stkOf cs k).getD i 0 :: lpsTo cs k i else lpsTo cs k i) := Lib.hid rfl
      rw [if_pos hlt] at hz
      obtain ⟨p, Hp⟩ : ∃ p, Hid ((stkOf cs k).getD i 0 = p) := ⟨_, Lib.hid rfl⟩
      rw [Hp.out] at HNX HNL hpk hz
      subst hz
      have hpc : p < cs.length := by omega
      obtain ⟨b, o, rfl, hb, hcd⟩ := H.out.at_ hpc
      obtain ⟨cd, Hcd⟩ : ∃ cd, Hid (cs.getD p default = cd) := ⟨_, Lib.hid rfl⟩
      rw [Hcd.out] at hcd HNL
      obtain ⟨q0, q1, q2, q3⟩ := hcd.keep HP.out hb
      clear hcd
      obtain ⟨op, ca, cb, cc⟩ := cd
      by_cases h13 : op = 13
      · subst h13
        rw [if_pos rfl, HLL.out] at HNL
        have HCL := Lib.hid (Cells.of_ownO (f := fun j => (natI L).getD j undef) (HOW.out.pure (show Pure wr (wr.alloc (.cells #[.int .i64 (p : Nat)] 3)) from (by repeat (first | assumption | exact Pure.refl _ | refine Pure.drewN ?_ _ | refine Pure.drew ?_ | refine Pure.alloc ?_ _ | refine Pure.setCell ?_ (by simp <;> omega) _)))) (fun j hj => by
          have : j < (natI L).length := by simpa [natI] using hj
          simp [List.getD_eq_getElem?_getD, this]))
        have HLT := Lib.hid (ownO_lit (w := wr) (p : Nat) HP.out.size)
        have HON : Hid (∀ j, j < L.length * 1 → ((natI L).getD j undef).oneCell' = true) := Lib.hid (fun j hj => by
          have : j < L.length := by omega
          simp [natI, List.getD_eq_getElem?_getD, this, Value.oneCell'])
        have HSZ : Hid (w.heap.size ≤ (wr.alloc (.cells #[.int .i64 (p : Nat)] 3)).heap.size) := Lib.hid (by have := HP.out.size; simp; omega)
        go_wp2_with (at_builtin; go_must (refine wl_appendC elInt rfl _ _ rfl w.heap.size _ 1 _ rfl HLT.out (by omega) _ rfl (fun j => (natI L).getD j undef) L.length HCL.out HON.out (by omega) (by omega) HSZ.out ?_); intro v5 w5 hown5 hg5; go_must (have HO5 := Lib.hid hown5; have HP5 : Hid (Pure w w5) := Lib.hid (Pure.grown (Pure.trans HP.out (show Pure wr (wr.alloc _) from (by repeat (first | assumption | exact Pure.refl _ | refine Pure.drewN ?_ _ | refine Pure.drew ?_ | refine Pure.alloc ?_ _ | refine Pure.setCell ?_ (by simp <;> omega) _)))) hg5 (fun g hg => (HLT.out.lt g hg).1)); clear hown5 hg5))
        refine (l4Around_any _ cs p (aroundAt cs p) _ (H.out.keep HP5.out) (by omega) (by omega) rfl).mono ?_
        rintro e w2 ⟨rfl, hp2⟩
        obtain ⟨z2, Hz2⟩ : ∃ z2, Hid (aroundAt cs p = z2) := ⟨_, Lib.hid rfl⟩
        rw [Hz2.out]
        go_wp2
        go_roundg ((stkOf cs k).length - (i + 1))
        case measure => have := Hgk.out; omega
        case rel => exact ⟨i + 1, z2, by have := Hgk.out; omega, rfl, Hz2.out.symm.trans HNX.out, HP5.out.trans hp2, by
          rw [HNL.out]
          have := HO5.out.pure hp2
          have e1 : (p :: L).length = 1 + L.length := by simp; omega
          have e2 : natI (p :: L) = [.int .i64 (p : Nat)] ++ (List.range (L.length * 1)).map (fun j => (natI L).getD j undef) := by
            have e3 : (natI L).length = L.length := by simp [natI]
            rw [← e3, range_getD]; rfl
          rw [e1, e2]; exact this⟩
      · rw [if_neg h13, HLL.out] at HNL
        have d13 : (op == 13) = false := by rw [beq_eq_false_iff_ne]; exact h13
        go_wp2_with fail
        refine (l4Around_any _ cs p (aroundAt cs p) _ (H.out.keep HP.out) (by omega) (by omega) rfl).mono ?_
        rintro e w2 ⟨rfl, hp2⟩
        obtain ⟨z2, Hz2⟩ : ∃ z2, Hid (aroundAt cs p = z2) := ⟨_, Lib.hid rfl⟩
        rw [Hz2.out]
        go_wp2
        go_roundg ((stkOf cs k).length - (i + 1))
        case measure => have := Hgk.out; omega
        case rel => exact ⟨i + 1, z2, by have := Hgk.out; omega, rfl, Hz2.out.symm.trans HNX.out, HP.out.trans hp2, by rw [HNL.out]; exact HOW.out.pure hp2⟩
    · have hik : i = (stkOf cs k).length := by omega
      rw [if_neg hlt] at hz
      subst hz
      go_wp2
      go_ret
      exact ⟨_, rfl, by unfold lps; rw [← hik, HLL.out]; exact HOW.out, HP.out⟩

end Go.Proofs.Ytajaonejpggcbaa

namespace Go.Proofs.Ytajaonejpggcbaa
open Go.RowKit

theorem row_pure {w w1 : World} {b : Nat} {row : Array Value} {t : TypeId} (hp : Pure w w1) (h : w.heap[b]? = some (.cells row t (0, 0))) (i : Nat) : w1.cell? ⟨b, i, none⟩ = row[i]? ∧ w1.frozen? ⟨b, i, none⟩ = false := by
  have hb : b < w.heap.size := (Array.getElem?_eq_some_iff.1 h).1
  exact ⟨(hp.cell b i hb).trans (cell_of_row _ _ i _ _ _ h), (hp.frozen b i hb).trans (frozen_of_row _ _ i _ _ h)⟩

set_option maxHeartbeats 400000 in
theorem szCrowd_any (vl vm : Value) (c : Cx) (left : Int) (w : World) (hl : Lanes w vl c.ls) (hm : Ints w vm c.mem) (hl0 : 0 ≤ left) (hl1 : left ≤ 1048576) :
    Calls Try.prog 13 #[.agg #[vl, vm], .int .i64 left] w fun e w' => (∃ r : Int, e = .returned (.int .i64 r) ∧ -1 ≤ r ∧ r ≤ left ∧ (0 ≤ r → c.mem.length ≤ left ∧ c.ls.length ≤ left ∧ ∀ k, k < c.ls.length → (c.ls.getD k default).rs.length ≤ left ∧ (c.ls.getD k default).ts.length ≤ left)) ∧ Pure w w' := by
  have HL := Lib.hid hl
  have HM := Lib.hid hm
  obtain ⟨Al, cl, rfl, _⟩ := hl.form
  obtain ⟨Am, cm, rfl⟩ := hm.form
  clear hl hm
  go_enter Try.func13, Try.ntmps13
  go_wp2_with fail
  refine (szLaneS_any _ c.ls left _ (HL.out.keep (by exact (by repeat (first | assumption | exact Pure.refl _ | refine Pure.drewN ?_ _ | refine Pure.drew ?_ | refine Pure.alloc ?_ _ | refine Pure.setCell ?_ (by simp <;> omega) _)))) hl0 hl1).mono ?_
  rintro e w1 ⟨⟨r, rfl, hr0, hr1, hr2⟩, hp1⟩
  have HR2 := Lib.hid hr2
  have HP1 := Lib.hid (Pure.trans (b := _) (show Pure w _ from (by repeat (first | assumption | exact Pure.refl _ | refine Pure.drewN ?_ _ | refine Pure.drew ?_ | refine Pure.alloc ?_ _ | refine Pure.setCell ?_ (by simp <;> omega) _))) hp1)
  obtain ⟨k0, _⟩ := row_pure hp1 (heap_alloc_new w _) 0
  obtain ⟨k1, _⟩ := row_pure hp1 (heap_alloc_new w _) 1
  simp only [List.getElem?_toArray, List.getElem?_cons_zero, List.getElem?_cons_succ] at k0 k1
  clear hr2 hp1
  by_cases hr : r < 0
  · go_wp2
    go_ret
    exact ⟨⟨_, rfl, by omega, by omega, fun h => absurd h (by omega)⟩, HP1.out⟩
  · by_cases h2 : r < c.mem.length
    · go_wp2_with fail
      refine (szIntS_any _ _ _ _ (HM.out.keep HP1.out) (by omega) (by omega)).mono ?_
      rw [if_pos (by omega)]
      rintro e w2 ⟨rfl, rfl⟩
      go_wp2
      go_ret
      exact ⟨⟨_, rfl, by omega, by omega, fun h => absurd h (by omega)⟩, HP1.out⟩
    · go_wp2_with fail
      refine (szIntS_any _ _ _ _ (HM.out.keep HP1.out) (by omega) (by omega)).mono ?_
      rw [if_neg (by omega)]
      rintro e w2 ⟨rfl, rfl⟩
      go_wp2
      go_ret
      exact ⟨⟨_, rfl, by omega, by omega, fun _ => by have := HR2.out (by omega); exact ⟨by omega, this⟩⟩, HP1.out⟩

/-- A lane's copy: rows of its own. -/
def ToL (l : Lx) (w : World) (e : Ending) (w' : World) : Prop :=
  ∃ R T, e = .returned (lnVX R l.at_ T l.wt) ∧ OwnO w' (w.heap.size + 3) 3 1 R l.rs.length (l.rs.map (.int .i64)) ∧ OwnO w' (w.heap.size + 3) 3 1 T l.ts.length (l.ts.map (.int .i64)) ∧ Pure w w'
theorem heap_alloc3 (w : World) (a b c : Obj) : ((w.alloc a).alloc b |>.alloc c).heap[w.heap.size]? = some a ∧ ((w.alloc a).alloc b |>.alloc c).heap[w.heap.size + 1]? = some b ∧ ((w.alloc a).alloc b |>.alloc c).heap[w.heap.size + 1 + 1]? = some c := by
  have h1 : (w.alloc a).heap.size = w.heap.size + 1 := by simp
  have h2 : ((w.alloc a).alloc b).heap.size = w.heap.size + 1 + 1 := by simp
  refine ⟨?_, ?_, ?_⟩
  · exact ((Chg.of_pure (S := fun _ => False) ((Pure.refl (w.alloc a)).alloc b |>.alloc c)).heap (heap_alloc_new w a) id)
  · have := heap_alloc_new (w.alloc a) b
    rw [h1] at this
    exact ((Chg.of_pure (S := fun _ => False) ((Pure.refl ((w.alloc a).alloc b)).alloc c)).heap this id)
  · have := heap_alloc_new ((w.alloc a).alloc b) c
    rw [h2] at this
    exact this
set_option maxHeartbeats 400000 in
theorem toLane_any (R T : Value) (l : Lx) (w : World) (hr : Ints w R l.rs) (ht : Ints w T l.ts) (h1 : l.rs.length ≤ 1048576) (h2 : l.ts.length ≤ 1048576) :
    Calls Try.prog 80 #[lnVX R l.at_ T l.wt] w (ToL l w) := by
  unfold lnVX
  have HR := Lib.hid hr
  have HT := Lib.hid ht
  obtain ⟨Ar, cr, rfl⟩ := hr.form
  obtain ⟨At, ct, rfl⟩ := ht.form
  clear hr ht
  obtain ⟨wz, Hwz⟩ : ∃ wz, Hid (((w.alloc (.cells #[.slice Ar l.rs.length cr, .int .i64 l.at_, .slice At l.ts.length ct, .bool l.wt] 108)).alloc (.cells #[.slice none 0 0, .int .i64 0, .slice none 0 0, .bool false] 55)).alloc (.cells #[.slice none 0 0, .int .i64 0, .slice none 0 0, .bool false] 55) = wz) := ⟨_, Lib.hid rfl⟩
  have HPZ : Hid (Pure w wz) := Lib.hid (by rw [← Hwz.out]; exact (by repeat (first | assumption | exact Pure.refl _ | refine Pure.drewN ?_ _ | refine Pure.drew ?_ | refine Pure.alloc ?_ _ | refine Pure.setCell ?_ (by simp <;> omega) _)))
  have HZ := Lib.hid (Hwz.out ▸ heap_alloc3 w _ _ _)
  have HZS : Hid (wz.heap.size = w.heap.size + 3) := Lib.hid (by rw [← Hwz.out]; simp)
  go_enter Try.func80, Try.ntmps80
  go_wp2_with fail
  rw [Hwz.out]
  refine (toIntS_any _ l.rs _ (HR.out.keep HPZ.out) (by omega)).mono ?_
  rintro e w1 ⟨v1, rfl, ho1, hp1⟩
  have HO1 := Lib.hid ho1
  obtain ⟨A1, c1, rfl⟩ := (Ints.of_map ho1).form
  obtain ⟨a0, _⟩ := row_pure hp1 HZ.out.1 0
  obtain ⟨a1, _⟩ := row_pure hp1 HZ.out.1 1
  obtain ⟨a2, _⟩ := row_pure hp1 HZ.out.1 2
  obtain ⟨a3, _⟩ := row_pure hp1 HZ.out.1 3
  obtain ⟨b0, f0⟩ := row_pure hp1 HZ.out.2.1 0
  obtain ⟨b1, f1⟩ := row_pure hp1 HZ.out.2.1 1
  obtain ⟨b2, f2⟩ := row_pure hp1 HZ.out.2.1 2
  obtain ⟨b3, f3⟩ := row_pure hp1 HZ.out.2.1 3
  obtain ⟨d0, g0⟩ := row_pure hp1 HZ.out.2.2 0
  obtain ⟨d1, g1⟩ := row_pure hp1 HZ.out.2.2 1
  obtain ⟨d2, g2⟩ := row_pure hp1 HZ.out.2.2 2
  obtain ⟨d3, g3⟩ := row_pure hp1 HZ.out.2.2 3
  simp only [List.getElem?_toArray, List.getElem?_cons_zero, List.getElem?_cons_succ] at a0 a1 a2 a3 b0 b1 b2 b3 d0 d1 d2 d3
  have HP1 := Lib.hid hp1
  have hw1 : w.heap.size + 3 ≤ w1.heap.size := by have := HZS.out; have := hp1.size; omega
  obtain ⟨wy, Hwy⟩ : ∃ wy, Hid ((w1.setCell ⟨w.heap.size + 1 + 1, 0, none⟩ (.slice A1 l.rs.length c1)).setCell ⟨w.heap.size + 1 + 1, 1, none⟩ (.int .i64 l.at_) = wy) := ⟨_, Lib.hid rfl⟩
  have hcy : Chg (fun b => b = w.heap.size + 1 + 1) w1 wy := by rw [← Hwy.out]; exact Chg.trans (Chg.of_set w1 _ _ _ (by rfl)) (Chg.of_set _ _ _ _ (by rfl))
  have Z0 := (Chg.of_pure (S := fun _ => False) hp1).heap HZ.out.1 id
  have Z1 := (Chg.of_pure (S := fun _ => False) hp1).heap HZ.out.2.1 id
  have Z2 := (Chg.of_pure (S := fun _ => False) hp1).heap HZ.out.2.2 id
  have Y0 := hcy.heap Z0 (by omega)
  have Y1 := hcy.heap Z1 (by omega)
  have Y2 : wy.heap[w.heap.size + 1 + 1]? = some (.cells #[.slice A1 l.rs.length c1, .int .i64 l.at_, .slice none 0 0, .bool false] 55 (0, 0)) := by rw [← Hwy.out, heap_setCell_same _ _ 1 _ _ _ (heap_setCell_same w1 _ 0 _ _ _ Z2)]; rfl
  have HY0 := Lib.hid Y0
  have HY1 := Lib.hid Y1
  have HY2 := Lib.hid Y2
  have HPY : Hid (Pure w wy) := Lib.hid (by rw [← Hwy.out]; exact ((HPZ.out.trans hp1).setCell (show _ ≤ w.heap.size + 1 + 1 by omega) _).setCell (show _ ≤ w.heap.size + 1 + 1 by omega) _)
  have HOY : Hid (OwnO wy (w.heap.size + 3) 3 1 (.slice A1 l.rs.length c1) l.rs.length (l.rs.map (.int .i64))) := Lib.hid ((OwnO.base' (OwnO.of_own ho1) (by have := HZS.out; omega)).chg hcy (fun g hg => by have := own_lt ho1 g hg; have := HZS.out; omega))
  clear ho1 hp1 hcy Z0 Z1 Z2 Y0 Y1 Y2
  go_wp2_with fail
  rw [Hwy.out]
  refine (toIntS_any _ l.ts _ (HT.out.keep HPY.out) (by omega)).mono ?_
  rintro e w2 ⟨v2, rfl, ho2, hp2⟩
  have HO2 := Lib.hid ho2
  obtain ⟨A2, c2, rfl⟩ := (Ints.of_map ho2).form
  obtain ⟨x3, _⟩ := row_pure hp2 HY0.out 3
  obtain ⟨y0, p0⟩ := row_pure hp2 HY1.out 0
  obtain ⟨y1, p1⟩ := row_pure hp2 HY1.out 1
  obtain ⟨y2, p2⟩ := row_pure hp2 HY1.out 2
  obtain ⟨y3, p3⟩ := row_pure hp2 HY1.out 3
  obtain ⟨z0, q0⟩ := row_pure hp2 HY2.out 0
  obtain ⟨z1, q1⟩ := row_pure hp2 HY2.out 1
  obtain ⟨z2, q2⟩ := row_pure hp2 HY2.out 2
  obtain ⟨z3, q3⟩ := row_pure hp2 HY2.out 3
  simp only [List.getElem?_toArray, List.getElem?_cons_zero, List.getElem?_cons_succ] at x3 y0 y1 y2 y3 z0 z1 z2 z3
  have HP2 := Lib.hid hp2
  have hys : wy.heap.size ≤ w2.heap.size := hp2.size
  have hys2 : w1.heap.size = wy.heap.size := by rw [← Hwy.out]; simp [World.setCell]
  have HSZ : Hid (w.heap.size + 3 ≤ wy.heap.size) := Lib.hid (by omega)
  clear ho2 hp2 a0 a1 a2 a3 b0 b1 b2 b3 d0 d1 d2 d3 f0 f1 f2 f3 g0 g1 g2 g3
  go_wp2_with fail
  refine bodyPost_ret (v := lnVX (.slice A1 l.rs.length c1) l.at_ (.slice A2 l.ts.length c2) l.wt) (by simp [results, Try.results80, lnVX, go_sem, y0, y1, y2, y3]) rfl ?_
  obtain ⟨w3, Hw3⟩ : ∃ w3, Hid ((((((w2.setCell ⟨w.heap.size + 1 + 1, 2, none⟩ (.slice A2 l.ts.length c2)).setCell ⟨w.heap.size + 1 + 1, 3, none⟩ (.bool l.wt)).setCell ⟨w.heap.size + 1, 0, none⟩ (.slice A1 l.rs.length c1)).setCell ⟨w.heap.size + 1, 1, none⟩ (.int .i64 l.at_)).setCell ⟨w.heap.size + 1, 2, none⟩ (.slice A2 l.ts.length c2)).setCell ⟨w.heap.size + 1, 3, none⟩ (.bool l.wt) = w3) := ⟨_, Lib.hid rfl⟩
  have hc3 : Chg (fun b => b = w.heap.size + 1 ∨ b = w.heap.size + 1 + 1) w2 w3 := by
    rw [← Hw3.out]
    repeat (first | refine Chg.trans ?_ (Chg.of_set _ _ _ _ (by show _ ∨ _; omega)))
    exact Chg.refl _ _
  rw [Hw3.out]
  refine ⟨_, _, rfl, (HOY.out.pure HP2.out).chg hc3 (fun g hg => ?_), (OwnO.base' (OwnO.of_own HO2.out) HSZ.out).chg hc3 (fun g hg => ?_), Chg.pure (HPY.out.trans HP2.out) hc3 (fun k hk => by omega)⟩
  · have := HOY.out.lt g hg; omega
  · have := own_lt HO2.out g hg; have := HSZ.out; omega

end Go.Proofs.Ytajaonejpggcbaa

namespace Go.Proofs.Ytajaonejpggcbaa
open Go.RowKit

theorem b_no {B : Bool} {P : Prop} (hB : B = true ↔ P) (h : ¬ P) : B = false := by
  cases B
  · rfl
  · exact absurd (hB.1 rfl) h
theorem getD_in {xs : List Int} {k : Nat} (h : k < xs.length) : xs.getD k 0 ∈ xs := by simp [List.getD_eq_getElem?_getD, h]
theorem all_word {xs : List Int} (h : ∀ k, k < xs.length → Word (xs.getD k 0)) : ∀ x ∈ xs, Word x := by
  intro x hx
  obtain ⟨k, hk, rfl⟩ := List.getElem_of_mem hx
  have := h k hk
  simpa [List.getD_eq_getElem?_getD, hk] using this

theorem lpsTo_op {cs : List Cd} {k : Nat} : ∀ i, ∀ x ∈ lpsTo cs k i, (cs.getD x default).op = 13
  | 0, x, hx => by simp [lpsTo] at hx
  | i + 1, x, hx => by
    unfold lpsTo at hx
    split at hx
    · rename_i h
      rcases List.mem_cons.1 hx with rfl | hx
      · exact h
      · exact lpsTo_op i x hx
    · exact lpsTo_op i x hx
theorem lps_in {cs : List Cd} (h : PValid cs) {k : Nat} (hk : k ≤ cs.length) : ∀ j, j < (lps cs k).length → (lps cs k).getD j 0 < cs.length ∧ ∃ a b c, cs.getD ((lps cs k).getD j 0) default = ⟨13, a, b, c⟩ ∧ 0 ≤ b ∧ b ≤ 255 := by
  intro j hj
  have hm : (lps cs k).getD j 0 ∈ lps cs k := by simp [List.getD_eq_getElem?_getD, hj]
  have h1 : (lps cs k).getD j 0 < k := lpsTo_lt h hk _ (Nat.le_refl _) _ hm
  have h2 : (cs.getD ((lps cs k).getD j 0) default).op = 13 := lpsTo_op _ _ hm
  have h3 := h.1 _ (cdOk_mem (show (lps cs k).getD j 0 < cs.length by omega))
  refine ⟨by omega, ?_⟩
  generalize cs.getD ((lps cs k).getD j 0) default = cd at h2 h3
  obtain ⟨op, a, b, c⟩ := cd
  obtain rfl : op = 13 := h2
  unfold CdOk Reg at h3
  simp only at h3
  exact ⟨a, b, c, rfl, by omega, by omega⟩

theorem ints_at {w : World} {A : Option Addr} {n c : Nat} {xs : List Int} (h : Ints w (.slice A n c) xs) {k : Nat} (hk : k < xs.length) : ∃ b o, A = some ⟨b, o, none⟩ ∧ b < w.heap.size ∧ w.cell? ⟨b, o + k, none⟩ = some (.int .i64 (xs.getD k 0)) := by
  obtain ⟨A', c', hv, _, _, h4⟩ := h
  injection hv with e1 e2 e3
  subst e1
  obtain ⟨b, o, rfl, hb, hc⟩ := h4 (by omega)
  exact ⟨b, o, rfl, hb, hc k (by omega)⟩

set_option maxHeartbeats 2000000 in
set_option maxRecDepth 100000 in
theorem slv_any (R T v : Value) (l : Lx) (cs : List Cd) (w : World) (hr : Ints w R l.rs) (ht : Ints w T l.ts) (h : Codes w v cs) (hs : cs.length ≤ 1048576) (B : Bool) (hB : B = true ↔ LaneOk cs l) :
    Calls Try.prog 78 #[lnVX R l.at_ T l.wt, v] w fun e w' => e = .returned (.bool B) ∧ Pure w w' := by
  unfold lnVX
  have HB := Lib.hid hB
  have H := Lib.hid h
  have HR := Lib.hid hr
  have HT := Lib.hid ht
  obtain ⟨A, c, rfl, hnc, hcm⟩ := h.form
  obtain ⟨Ar, cr, rfl⟩ := hr.form
  obtain ⟨At, ct, rfl⟩ := ht.form
  clear h hr ht hB
  obtain ⟨wz, Hwz⟩ : ∃ wz, Hid (w.alloc (.cells #[.slice Ar l.rs.length cr, .int .i64 l.at_, .slice At l.ts.length ct, .bool l.wt] 55) = wz) := ⟨_, Lib.hid rfl⟩
  have HPZ : Hid (Pure w wz) := Lib.hid (by rw [← Hwz.out]; exact (by repeat (first | assumption | exact Pure.refl _ | refine Pure.drewN ?_ _ | refine Pure.drew ?_ | refine Pure.alloc ?_ _ | refine Pure.setCell ?_ (by simp <;> omega) _)))
  have HZ : Hid (wz.heap[w.heap.size]? = some (.cells #[.slice Ar l.rs.length cr, .int .i64 l.at_, .slice At l.ts.length ct, .bool l.wt] 55 (0, 0))) := Lib.hid (by rw [← Hwz.out]; exact heap_alloc_new w _)
  by_cases hv : PValid cs
  · have HV := Lib.hid hv
    have h40 := hv.2.1
    clear hv
    by_cases hn : l.rs.length = 4
    · have HN := Lib.hid hn
      have hn4 : ((l.rs.length : Int) != 4) = false := by simp [hn]
      clear hn
      by_cases ha : 0 ≤ l.at_ ∧ l.at_ ≤ (cs.length : Int)
      · obtain ⟨ha0, ha1⟩ := ha
        have HA0 := Lib.hid ha0
        obtain ⟨at_, Hat⟩ : ∃ at_ : Nat, Hid (l.at_ = (at_ : Int)) := ⟨l.at_.toNat, Lib.hid (by omega)⟩
        have hatl : at_ ≤ cs.length := by have := Hat.out; omega
        have HTN : Hid (l.at_.toNat = at_) := Lib.hid (by have := Hat.out; omega)
        go_enter Try.func78, Try.ntmps78
        go_wp2_with fail
        rw [Hwz.out]
        refine (spv_any _ cs _ (H.out.keep HPZ.out) hs true (by simp only [true_iff]; exact HV.out)).mono ?_
        rintro e w1 ⟨rfl, hp1⟩
        obtain ⟨k0, _⟩ := row_pure hp1 HZ.out 0
        obtain ⟨k1, _⟩ := row_pure hp1 HZ.out 1
        have HZ1 := Lib.hid ((Chg.of_pure (S := fun _ => False) hp1).heap HZ.out id)
        simp only [List.getElem?_toArray, List.getElem?_cons_zero, List.getElem?_cons_succ] at k0 k1
        have HP1 := Lib.hid (HPZ.out.trans hp1)
        clear hp1
        go_wp2_with fail
        refine (l1In_any _ _ _ _ true (by simp only [true_iff]; exact ⟨HA0.out, ha1⟩)).mono ?_
        rintro e w2 ⟨rfl, rfl⟩
        clear k0 k1
        go_wp2_with fail
        go_loopg [5] 4 (fun gk i wr => ∃ j : Nat, gk + j = 4 ∧ i = .int .i64 j ∧ Pure w1 wr ∧ ∀ x, x < j → Word (l.rs.getD x 0))
        case atStart => exact ⟨0, rfl, rfl, Pure.refl _, fun x hx => absurd hx (by omega)⟩
        case round =>
          obtain ⟨j, hgk, rfl, hp, hwd⟩ := hrel
          have Hgk := Lib.hid hgk
          have HP := Lib.hid hp
          have HWD := Lib.hid hwd
          have hj4 : j ≤ 4 := by omega
          obtain ⟨k0, _⟩ := row_pure hp HZ1.out 0
          obtain ⟨k1, _⟩ := row_pure hp HZ1.out 1
          obtain ⟨k2, _⟩ := row_pure hp HZ1.out 2
          obtain ⟨k3, _⟩ := row_pure hp HZ1.out 3
          simp only [List.getElem?_toArray, List.getElem?_cons_zero, List.getElem?_cons_succ] at k0 k1 k2 k3
          clear hgk hp hwd
          by_cases hj : j < 4
          · obtain ⟨b, o, rfl, hb, hx⟩ := ints_at (HR.out.keep (HP1.out.trans HP.out)) (show j < l.rs.length by rw [HN.out]; exact hj)
            have hjr : j < l.rs.length := by rw [HN.out]; exact hj
            obtain ⟨x, Hx⟩ : ∃ x, Hid (l.rs.getD j 0 = x) := ⟨_, Lib.hid rfl⟩
            rw [Hx.out] at hx
            obtain ⟨bw, hbw⟩ := wordB x
            have HBW := Lib.hid hbw
            clear hbw
            go_wp2_with fail
            refine (l2Word_any _ _ bw HBW.out).mono ?_
            rintro e w2 ⟨rfl, rfl⟩
            cases bw
            · have HBF := Lib.hid (b_no HB.out (fun q => by have h1 := q.w _ (getD_in hjr); rw [Hx.out] at h1; have := HBW.out.2 h1; cases this))
              go_wp2
              go_ret
              exact ⟨by rw [HBF.out]; rfl, HP1.out.trans HP.out⟩
            · go_wp2
              go_roundg (4 - (j + 1))
              case measure => have := Hgk.out; omega
              case rel => exact ⟨j + 1, by have := Hgk.out; omega, by go_num, HP.out, fun y hy => by
                by_cases e : y = j
                · subst e; rw [Hx.out]; exact HBW.out.1 (by trivial)
                · exact HWD.out y (by omega)⟩
          · have hj4' : j = 4 := by omega
            subst hj4'
            have hlp := l6loops_any (.slice A cs.length c) cs at_ _ (H.out.keep (HP1.out.trans HP.out)) HV.out hatl
            rw [← Hat.out] at hlp
            have HLP := Lib.hid hlp
            clear hlp
            obtain ⟨L, HLL⟩ : ∃ L, Hid (lps cs at_ = L) := ⟨_, Lib.hid rfl⟩
            have HLI : Hid (∀ j, j < L.length → L.getD j 0 < cs.length ∧ ∃ a b c, cs.getD (L.getD j 0) default = ⟨13, a, b, c⟩ ∧ 0 ≤ b ∧ b ≤ 255) := Lib.hid (by rw [← HLL.out]; exact lps_in HV.out hatl)
            go_wp2_with fail
            refine HLP.out.mono ?_
            rintro e w2 ⟨r, rfl, ho2, hp2⟩
            rw [HLL.out] at ho2
            obtain ⟨Al, cl, rfl⟩ := ho2.form
            have HO2 := Lib.hid ho2
            have HZ2 := Lib.hid ((Chg.of_pure (S := fun _ => False) (HP.out.trans hp2)).heap HZ1.out id)
            obtain ⟨k0, _⟩ := row_pure (Pure.refl _) HZ2.out 0
            obtain ⟨k1, _⟩ := row_pure (Pure.refl _) HZ2.out 1
            obtain ⟨k2, _⟩ := row_pure (Pure.refl _) HZ2.out 2
            obtain ⟨k3, _⟩ := row_pure (Pure.refl _) HZ2.out 3
            simp only [List.getElem?_toArray, List.getElem?_cons_zero, List.getElem?_cons_succ] at k0 k1 k2 k3
            have HP2 := Lib.hid ((HP1.out.trans HP.out).trans hp2)
            clear ho2 hp2
            by_cases htl : L.length = l.ts.length
            · have HTL := Lib.hid htl
              have htl2 : ((L.length : Int) != l.ts.length) = false := by simp [htl]
              clear htl
              go_wp2_with fail
              clear k0 k1 k2 k3
              go_loopg [7] L.length (fun gk i wr => ∃ j : Nat, gk + j = L.length ∧ i = .int .i64 j ∧ Pure w2 wr ∧ ∀ x, x < j → 0 ≤ l.ts.getD x 0 ∧ l.ts.getD x 0 ≤ (cs.getD (L.getD x 0) default).b - 1)
              case atStart => exact ⟨0, rfl, rfl, Pure.refl _, fun x hx => absurd hx (by omega)⟩
              case round =>
                obtain ⟨j, hgk, rfl, hp3, htn⟩ := hrel
                have Hgk2 := Lib.hid hgk
                have HP3 := Lib.hid hp3
                have HTT := Lib.hid htn
                have hjL : j ≤ L.length := by omega
                obtain ⟨k0, _⟩ := row_pure hp3 HZ2.out 0
                obtain ⟨k1, _⟩ := row_pure hp3 HZ2.out 1
                obtain ⟨k2, _⟩ := row_pure hp3 HZ2.out 2
                obtain ⟨k3, _⟩ := row_pure hp3 HZ2.out 3
                simp only [List.getElem?_toArray, List.getElem?_cons_zero, List.getElem?_cons_succ] at k0 k1 k2 k3
                clear hgk hp3 htn
                by_cases hj2 : j < L.length
                · obtain ⟨bt, ot, rfl, hbt, hxt⟩ := ints_at (HT.out.keep (HP2.out.trans HP3.out)) (show j < l.ts.length by rw [← HTL.out]; exact hj2)
                  obtain ⟨x, Hx⟩ : ∃ x, Hid (l.ts.getD j 0 = x) := ⟨_, Lib.hid rfl⟩
                  rw [Hx.out] at hxt
                  have hjt : j < l.ts.length := by rw [← HTL.out]; exact hj2
                  obtain ⟨hpc, ca, cb, cc, hcd, hcb0, hcb1⟩ := HLI.out j hj2
                  obtain ⟨g, off, c', hv, _, _, _, hgl⟩ := (HO2.out.pure HP3.out).formSome (by omega)
                  injection hv with e1 e2 e3
                  subst e1 e3
                  have hxl := (HO2.out.pure HP3.out).cell j (by omega)
                  have hxl2 : (natI L)[j]? = some (.int .i64 (L.getD j 0 : Nat)) := by simp [natI, List.getD_eq_getElem?_getD, hj2]
                  rw [hxl2] at hxl
                  obtain ⟨p, Hp⟩ : ∃ p, Hid (L.getD j 0 = p) := ⟨_, Lib.hid rfl⟩
                  rw [Hp.out] at hxl hpc hcd
                  obtain ⟨b, o, rfl, hb, hca⟩ := H.out.at_ hpc
                  rw [hcd] at hca
                  obtain ⟨q0, q1, q2, q3⟩ := hca.keep (HP2.out.trans HP3.out) hb
                  have hpi : (p : Int) < cs.length := by omega
                  have hji : (j : Int) < L.length := by omega
                  have hjti : (j : Int) < l.ts.length := by omega
                  obtain ⟨bw, hbw⟩ : ∃ bw : Bool, bw = true ↔ (0 ≤ x ∧ x ≤ cb - 1) := ⟨decide (0 ≤ x ∧ x ≤ cb - 1), by simp⟩
                  have HBW := Lib.hid hbw
                  have HI : Hid (∀ u : World, Calls Try.prog 79 #[.int .i64 x, .int .i64 0, .int .i64 (cb - 1)] u fun e w' => e = .returned (.bool bw) ∧ w' = u) := Lib.hid fun u => (l1In_any _ _ _ u bw HBW.out).mono (by rintro e w' ⟨rfl, rfl⟩; exact ⟨rfl, rfl⟩)
                  have HCD := Lib.hid hcd
                  clear hbw hca hcd hxl2
                  go_wp2_with fail
                  go_quiet ((go_at_call 79; refine Calls.quiet_of_same (HI.out _)))
                  cases bw
                  · have HBF := Lib.hid (b_no HB.out (fun q => by
                      have h1 := q.t j hjt
                      rw [HTN.out, HLL.out, Hx.out, Hp.out, HCD.out] at h1
                      have := HBW.out.2 h1; cases this))
                    go_wp2
                    go_ret
                    exact ⟨by rw [HBF.out]; rfl, Pure.drewN (HP2.out.trans HP3.out) _⟩
                  · go_wp2
                    go_roundg (L.length - (j + 1))
                    case measure => have := Hgk2.out; omega
                    case rel => exact ⟨j + 1, by have := Hgk2.out; omega, by go_num, Pure.drewN HP3.out _, fun y hy => by
                      by_cases e : y = j
                      · subst e; rw [Hx.out, Hp.out, HCD.out]; exact HBW.out.1 (by trivial)
                      · exact HTT.out y (by omega)⟩
                · have hjL' : j = L.length := by omega
                  have HFULL : Hid ((l.wt = true → 0 < l.at_ ∧ (cs.getD (at_ - 1) default).op = 10) → LaneOk cs l) := Lib.hid (fun hb => ⟨HV.out, HN.out, HA0.out, ha1, all_word (fun k hk => HWD.out k (by have := HN.out; omega)), by rw [HTN.out, HLL.out]; exact HTL.out, fun k hk => by
                    rw [HTN.out, HLL.out]
                    exact HTT.out k (by have := HTL.out; omega), fun hw => by rw [HTN.out]; exact hb hw⟩)
                  have HPX := Lib.hid (HP2.out.trans HP3.out)
                  subst hjL'
                  cases hw : l.wt
                  · have HBT : Hid (B = true) := Lib.hid (HB.out.2 (HFULL.out (fun h => by rw [hw] at h; cases h)))
                    rw [hw] at k3
                    have HW := Lib.hid hw
                    clear hw
                    go_wp2_with fail
                    go_ret
                    exact ⟨by rw [HBT.out]; rfl, HPX.out⟩
                  · rw [hw] at k3
                    rw [Hat.out] at k1
                    have HW := Lib.hid hw
                    clear hw
                    by_cases h0 : at_ = 0
                    · have HBF := Lib.hid (b_no HB.out (fun q => by have := (q.b HW.out).1; have := Hat.out; omega))
                      subst h0
                      go_wp2_with fail
                      go_ret
                      exact ⟨by rw [HBF.out]; rfl, HPX.out⟩
                    · obtain ⟨a1, rfl⟩ : ∃ a1, at_ = a1 + 1 := ⟨at_ - 1, by omega⟩
                      have ha1c : a1 < cs.length := by omega
                      obtain ⟨b, o, rfl, hb, hca⟩ := H.out.at_ ha1c
                      obtain ⟨cd, Hcd⟩ : ∃ cd, Hid (cs.getD a1 default = cd) := ⟨_, Lib.hid rfl⟩
                      rw [Hcd.out] at hca
                      obtain ⟨q0, q1, q2, q3⟩ := hca.keep HPX.out hb
                      have hai : (a1 : Int) < cs.length := by omega
                      have hk1 : ((a1 + 1 : Nat) : Int) = (a1 : Int) + 1 := by omega
                      rw [hk1] at k1
                      clear hca hk1
                      obtain ⟨op, ca, cb, cc⟩ := cd
                      by_cases h10 : op = 10
                      · subst h10
                        have HBT : Hid (B = true) := Lib.hid (HB.out.2 (HFULL.out (fun _ => ⟨by have := Hat.out; omega, by show (cs.getD (a1 + 1 - 1) default).op = 10; rw [Nat.add_sub_cancel, Hcd.out]⟩)))
                        go_wp2_with fail
                        go_ret
                        exact ⟨by rw [HBT.out]; rfl, HPX.out⟩
                      · have HBF := Lib.hid (b_no HB.out (fun q => by
                          have h1 := (q.b HW.out).2
                          rw [HTN.out, Nat.add_sub_cancel, Hcd.out] at h1
                          exact h10 h1))
                        have d10 : (op == 10) = false := by rw [beq_eq_false_iff_ne]; exact h10
                        go_wp2_with fail
                        go_ret
                        exact ⟨by rw [HBF.out]; rfl, HPX.out⟩
            · have HBF := Lib.hid (b_no HB.out (fun q => by have h1 := q.tl; rw [HTN.out, HLL.out] at h1; exact htl h1))
              have htl2 : ((L.length : Int) != l.ts.length) = true := by rw [bne_iff_ne]; omega
              go_wp2
              go_ret
              exact ⟨by rw [HBF.out]; rfl, HP2.out⟩
      · have HBF := Lib.hid (b_no HB.out (fun q => ha ⟨q.a0, q.a1⟩))
        have HA := Lib.hid ha
        clear ha
        go_enter Try.func78, Try.ntmps78
        go_wp2_with fail
        rw [Hwz.out]
        refine (spv_any _ cs _ (H.out.keep HPZ.out) hs true (by simp only [true_iff]; exact HV.out)).mono ?_
        rintro e w1 ⟨rfl, hp1⟩
        obtain ⟨k0, _⟩ := row_pure hp1 HZ.out 0
        obtain ⟨k1, _⟩ := row_pure hp1 HZ.out 1
        simp only [List.getElem?_toArray, List.getElem?_cons_zero, List.getElem?_cons_succ] at k0 k1
        have HP1 := Lib.hid (HPZ.out.trans hp1)
        clear hp1
        go_wp2_with fail
        refine (l1In_any _ _ _ _ false (by simp only [Bool.false_eq_true, false_iff]; exact HA.out)).mono ?_
        rintro e w2 ⟨rfl, rfl⟩
        go_wp2
        go_ret
        exact ⟨by rw [HBF.out]; rfl, HP1.out⟩
    · have HBF := Lib.hid (b_no HB.out (fun q => hn q.n))
      have hn4 : ((l.rs.length : Int) != 4) = true := by rw [bne_iff_ne]; omega
      go_enter Try.func78, Try.ntmps78
      go_wp2_with fail
      rw [Hwz.out]
      refine (spv_any _ cs _ (H.out.keep HPZ.out) hs true (by simp only [true_iff]; exact HV.out)).mono ?_
      rintro e w1 ⟨rfl, hp1⟩
      obtain ⟨k0, _⟩ := row_pure hp1 HZ.out 0
      simp only [List.getElem?_toArray, List.getElem?_cons_zero] at k0
      have HP1 := Lib.hid (HPZ.out.trans hp1)
      clear hp1
      go_wp2
      go_ret
      exact ⟨by rw [HBF.out]; rfl, HP1.out⟩
  · have HBF := Lib.hid (b_no HB.out (fun q => hv q.p))
    have HV := Lib.hid hv
    clear hv
    go_enter Try.func78, Try.ntmps78
    go_wp2_with fail
    rw [Hwz.out]
    refine (spv_any _ cs _ (H.out.keep HPZ.out) hs false (by simp only [Bool.false_eq_true, false_iff]; exact HV.out)).mono ?_
    rintro e w1 ⟨rfl, hp1⟩
    have HP1 := Lib.hid (HPZ.out.trans hp1)
    clear hp1
    go_wp2
    go_ret
    exact ⟨by rw [HBF.out]; rfl, HP1.out⟩

end Go.Proofs.Ytajaonejpggcbaa
