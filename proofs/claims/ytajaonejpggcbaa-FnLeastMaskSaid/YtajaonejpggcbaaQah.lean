/- Which programs are valid, where blocks open, and the graph of a program, as the program finds it. Which arguments a run takes: the number of lanes, the memory. The block around a place, as the program finds it. Valid lanes and crowds, plainly: the loops around a place, by the stack and by the chain of the blocks. append of all that a slice holds (it may be nil) to a slice of the call's own; two equal rows of numbers, compared. Which lanes and crowds are valid, as the reference finds it. Crowds that came in: copies of lanes and of crowds, and their size. Which lanes are valid, as the reference finds it. No condition. -/
import Derived.Test.YtajaonejpggcbaaQaa
import Derived.Test.YtajaonejpggcbaaQab
import Derived.Test.YtajaonejpggcbaaQac
import Derived.Test.YtajaonejpggcbaaQad
import Derived.Test.YtajaonejpggcbaaQae
import Derived.Test.YtajaonejpggcbaaQaf
import Derived.Test.YtajaonejpggcbaaQag

namespace Go.Proofs.Ytajaonejpggcbaa
open Go.RowKit

set_option maxHeartbeats 1000000 in
set_option maxRecDepth 100000 in
theorem ipv_any (v : Value) (cs : List Cd) (w : World) (h : Codes w v cs) (hsmall : cs.length ≤ 1048576) (B : Bool) (hB : B = true ↔ PValid cs) :
    Calls Try.prog 82 #[v] w fun e w' => e = .returned (.bool B) ∧ Pure w w' := by
  have H := Lib.hid h
  have HB := Lib.hid hB
  obtain ⟨A, c, rfl, hnc, hcm⟩ := h.form
  clear h hB
  have HBF : Hid (¬ PValid cs → false = B) := fun h => by
    cases hb : B
    · rfl
    · exact absurd (HB.out.1 hb) h
  by_cases h40 : 40 < cs.length
  · go_enter Try.func82, Try.ntmps82
    go_wp2
    go_ret
    exact ⟨ret_bool (HBF.out (fun h => by have := h.2.1; omega)), Pure.refl _⟩
  · have h40' : cs.length ≤ 40 := by omega
    clear h40
    go_enter Try.func82, Try.ntmps82
    go_wp2
    go_loopg [13] cs.length (fun gk i wr => ∃ k : Nat, gk + k = cs.length ∧ i = .int .i64 k ∧ Pure w wr ∧ ∀ j, j < k → CdOk (cs.getD j default))
    case atStart => exact ⟨0, rfl, rfl, Pure.refl _, fun j hj => absurd hj (by omega)⟩
    case round =>
      obtain ⟨k, hgk, rfl, hp, hall⟩ := hrel
      have Hgk := Lib.hid hgk
      have Hall := Lib.hid hall
      have hkn : k ≤ cs.length := by omega
      clear hgk hall
      by_cases hlt : k < cs.length
      · obtain ⟨b, o, rfl, hb, hc⟩ := H.out.at_ hlt
        obtain ⟨cd, Hcd⟩ : ∃ cd, Hid (cs.getD k default = cd) := ⟨_, rfl⟩
        have hat := hc.keep hp hb
        rw [Hcd.out] at hat
        obtain ⟨q0, q1, q2, q3⟩ := hat
        clear hc
        have hpA := Lib.hid (Pure.alloc hp (.cells #[.int .i64 cd.op, .int .i64 cd.a, .int .i64 cd.b, .int .i64 cd.c] 68))
        by_cases hok : CdOk cd
        · have Hok := Lib.hid hok; clear hok
          have Hnext : Hid (∀ j, j < k + 1 → CdOk (cs.getD j default)) := fun j hj => by
            by_cases e : j = k
            · rw [e, Hcd.out]; exact Hok.out
            · exact Hall.out j (by omega)
          go_wp2_with fail
          refine (icv_any cd _ true (by simp [Hok.out])).mono ?_
          rintro e w1 ⟨rfl, hp1⟩
          have hp2 := Lib.hid (hpA.out.trans hp1)
          go_wp2
          go_roundg (cs.length - (k + 1))
          case measure => have := Hgk.out; omega
          case rel => exact ⟨k + 1, by have := Hgk.out; omega, by go_num, hp2.out, Hnext.out⟩
        · have Hok := Lib.hid hok; clear hok
          have hbad : ¬ PValid cs := fun h => Hok.out (by rw [← Hcd.out]; exact h.1 _ (cdOk_mem hlt))
          have Hbad := Lib.hid hbad
          clear hbad
          go_wp2_with fail
          refine (icv_any cd _ false (by simp [Hok.out])).mono ?_
          rintro e w1 ⟨rfl, hp1⟩
          have hp2 := Lib.hid (hpA.out.trans hp1)
          go_wp2
          go_ret
          exact ⟨ret_bool (HBF.out Hbad.out), hp2.out⟩
      · have hkl : k = cs.length := by omega
        subst hkl
        have Hcd : Hid (∀ c ∈ cs, CdOk c) := cdOk_all Hall.out
        go_wp2_with fail
        refine (blocks_any _ cs _ (H.out.keep hp) h40').mono ?_
        rintro e w2 ⟨hp2, hm⟩
        have hp3 := Lib.hid (hp.trans hp2)
        cases hs : sscan cs 0 [] with
        | none =>
          rw [hs] at hm
          subst hm
          have Hs := Lib.hid hs
          clear hs
          go_wp2
          go_ret
          exact ⟨ret_bool (HBF.out (fun h => by have := h.2.2; rw [Hs.out] at this; cases this)), hp3.out⟩
        | some st =>
          rw [hs] at hm
          obtain ⟨va, vo, rfl, ht⟩ := hm
          have Hs := Lib.hid hs
          have Ht := Lib.hid ht
          clear hs ht
          obtain ⟨D, HD⟩ : ∃ D, Hid (decide (st.length = 0) = D) := ⟨_, rfl⟩
          rw [HD.out]
          have hDB : D = B := by
            have h1 := HD.out
            have h2 := HB.out
            cases D
            · refine HBF.out fun h => ?_
              have := h.2.2
              rw [Hs.out] at this
              injection this with this
              simp [this] at h1
            · simp at h1
              subst h1
              exact (h2.2 ⟨Hcd.out, h40', Hs.out⟩).symm
          subst hDB
          clear HD
          go_wp2
          go_ret
          exact ⟨rfl, hp3.out⟩

end Go.Proofs.Ytajaonejpggcbaa

namespace Go.Proofs.Ytajaonejpggcbaa
open Go.RowKit

def LanesOk (a : Int) : Prop := 1 ≤ a ∧ a ≤ 8
theorem memB_len {mem : List Int} {B : Bool} (h : B = true ↔ MemOk mem) (hw : ∀ x ∈ mem, Word x) : B = true ↔ (1 ≤ (mem.length : Int) ∧ (mem.length : Int) ≤ 32) := by
  rw [h]
  constructor
  · intro h; have h1 := h.1.1; have h2 := h.1.2; omega
  · intro h; exact ⟨⟨by omega, by omega⟩, hw⟩
theorem getD_mem {mem : List Int} {k : Nat} (h : k < mem.length) : mem.getD k 0 ∈ mem := by simp [List.getD_eq_getElem?_getD, h]
theorem words_of {mem : List Int} (h : ∀ j, j < mem.length → Word (mem.getD j 0)) : ∀ x ∈ mem, Word x := by
  intro x hx
  obtain ⟨j, hj, rfl⟩ := List.getElem_of_mem hx
  have := h j hj
  simpa [List.getD_eq_getElem?_getD, hj] using this

set_option maxHeartbeats 1000000 in
set_option maxRecDepth 100000 in
theorem smem_any (v : Value) (mem : List Int) (w : World) (h : Ints w v mem) (hsmall : mem.length ≤ 1099511627776) (B : Bool) (hB : B = true ↔ MemOk mem) :
    Calls Try.prog 69 #[v] w fun e w' => e = .returned (.bool B) ∧ Pure w w' := by
  have HB := Lib.hid hB
  obtain ⟨A, c, rfl, hnc, hcm, hread⟩ := h
  have HRD := Lib.hid hread
  clear hB hread
  have HBF : Hid (¬ MemOk mem → false = B) := Lib.hid fun h => by
    cases hb : B
    · rfl
    · exact absurd (HB.out.1 hb) h
  go_enter Try.func69, Try.ntmps69
  go_wp2
  go_loopg [3] mem.length (fun gk i wr => ∃ k : Nat, gk + k = mem.length ∧ i = .int .i64 k ∧ Pure w wr ∧ ∀ j, j < k → Word (mem.getD j 0))
  case atStart => exact ⟨0, rfl, rfl, Pure.refl _, fun j hj => absurd hj (by omega)⟩
  case round =>
    obtain ⟨k, hgk, rfl, hp, hall⟩ := hrel
    have Hgk := Lib.hid hgk
    have Hall := Lib.hid hall
    have hkn : k ≤ mem.length := by omega
    clear hgk hall
    by_cases hlt : k < mem.length
    · obtain ⟨b, o, rfl, hb, hc⟩ := HRD.out (by omega)
      obtain ⟨x, Hx⟩ : ∃ x, Hid (mem.getD k 0 = x) := ⟨_, rfl⟩
      have hx := (hp.cell b (o + k) hb).trans (hc k (by omega))
      try simp only [Nat.mod_one, Nat.div_one] at hx
      rw [Hx.out] at hx
      clear hc
      by_cases hok : Word x
      · have Hok := Lib.hid hok; clear hok
        have Hnext : Hid (∀ j, j < k + 1 → Word (mem.getD j 0)) := Lib.hid fun j hj => by
          by_cases e : j = k
          · rw [e, Hx.out]; exact Hok.out
          · exact Hall.out j (by omega)
        go_wp2_with fail
        refine (l2Word_any x _ true (by simp [Hok.out])).mono ?_
        rintro e w1 ⟨rfl, rfl⟩
        go_wp2
        go_roundg (mem.length - (k + 1))
        case measure => have := Hgk.out; omega
        case rel => exact ⟨k + 1, by have := Hgk.out; omega, by go_num, hp, Hnext.out⟩
      · have Hok := Lib.hid hok; clear hok
        have hbad : ¬ MemOk mem := fun h => Hok.out (by rw [← Hx.out]; exact h.2 _ (getD_mem hlt))
        have HR := Lib.hid (HBF.out hbad)
        clear hbad
        go_wp2_with fail
        refine (l2Word_any x _ false (by simp [Hok.out])).mono ?_
        rintro e w1 ⟨rfl, rfl⟩
        go_wp2
        go_ret
        exact ⟨ret_bool HR.out, hp⟩
    · have hkl : k = mem.length := by omega
      have hw : Hid (∀ x ∈ mem, Word x) := Lib.hid (words_of fun j hj => Hall.out j (by omega))
      go_wp2_with fail
      refine (l1In_any _ _ _ _ B (memB_len HB.out hw.out)).mono ?_
      rintro e w1 ⟨rfl, rfl⟩
      go_wp2
      go_ret
      exact ⟨rfl, hp⟩

set_option maxHeartbeats 400000 in
theorem imem1_any (x : Int) (w : World) (B : Bool) (hB : B = true ↔ Word x) :
    Calls Try.prog 121 #[.int .i64 x] w fun e w' => e = .returned (.bool (!B)) ∧ w = w' := by
  have HB := Lib.hid hB; clear hB
  go_enter Try.func121, Try.ntmps121
  go_wp2_with fail
  refine (isWord_any _ _ B HB.out).mono ?_
  rintro e w' ⟨rfl, rfl⟩
  go_wp2
  go_ret
  exact ⟨rfl, rfl⟩

def memBadAt (mem : List Int) (_k : Nat) (v : Int) : Prop := (∃ j, j < mem.length ∧ v = (j : Nat) ∧ ¬ Word (mem.getD j 0)) ∨ (v = -1 ∧ ∀ j, j < mem.length → Word (mem.getD j 0))

set_option maxHeartbeats 1000000 in
set_option maxRecDepth 100000 in
theorem imemix_any (v : Value) (mem : List Int) (w : World) (h : Ints w v mem) (hsmall : mem.length ≤ 1099511627776) :
    Calls Try.prog 146 #[v, .func (.func 121) #[] #[]] w fun e w' => ∃ r, e = .returned (.int .i64 r) ∧ memBadAt mem 0 r ∧ Pure w w' := by
  obtain ⟨A, c, rfl, hnc, hcm, hread⟩ := h
  have HRD := Lib.hid hread
  clear hread
  go_enter Try.func146, Try.ntmps146
  go_wp2
  go_loopg [8] mem.length (fun gk i wr => ∃ k : Nat, gk + k = mem.length ∧ i = .int .i64 k ∧ Pure w wr ∧ ∀ j, j < k → Word (mem.getD j 0))
  case atStart => exact ⟨0, rfl, rfl, Pure.refl _, fun j hj => absurd hj (by omega)⟩
  case round =>
    obtain ⟨k, hgk, rfl, hp, hall⟩ := hrel
    have Hgk := Lib.hid hgk
    have Hall := Lib.hid hall
    have hkn : k ≤ mem.length := by omega
    clear hgk hall
    by_cases hlt : k < mem.length
    · obtain ⟨b, o, rfl, hb, hc⟩ := HRD.out (by omega)
      obtain ⟨x, Hx⟩ : ∃ x, Hid (mem.getD k 0 = x) := ⟨_, rfl⟩
      have hx := (hp.cell b (o + k) hb).trans (hc k (by omega))
      try simp only [Nat.mod_one, Nat.div_one] at hx
      rw [Hx.out] at hx
      clear hc
      by_cases hok : Word x
      · have Hok := Lib.hid hok; clear hok
        have Hnext : Hid (∀ j, j < k + 1 → Word (mem.getD j 0)) := Lib.hid fun j hj => by
          by_cases e : j = k
          · rw [e, Hx.out]; exact Hok.out
          · exact Hall.out j (by omega)
        go_wp2_with fail
        refine (imem1_any x _ true (by simp [Hok.out])).mono ?_
        rintro e w1 ⟨rfl, rfl⟩
        go_wp2
        go_roundg (mem.length - (k + 1))
        case measure => have := Hgk.out; omega
        case rel => exact ⟨k + 1, by have := Hgk.out; omega, by go_num, hp, Hnext.out⟩
      · have Hok := Lib.hid hok; clear hok
        have Hbad : Hid (memBadAt mem 0 (k : Nat)) := Lib.hid (.inl ⟨k, hlt, rfl, by rw [Hx.out]; exact Hok.out⟩)
        go_wp2_with fail
        refine (imem1_any x _ false (by simp [Hok.out])).mono ?_
        rintro e w1 ⟨rfl, rfl⟩
        go_wp2
        go_ret
        exact ⟨_, rfl, Hbad.out, hp⟩
    · have hw : Hid (memBadAt mem 0 (-1)) := Lib.hid (.inr ⟨rfl, fun j hj => Hall.out j (by omega)⟩)
      go_wp2
      go_ret
      exact ⟨_, rfl, hw.out, hp⟩

set_option maxHeartbeats 1000000 in
set_option maxRecDepth 100000 in
theorem imemcf_any (v : Value) (mem : List Int) (w : World) (h : Ints w v mem) (hsmall : mem.length ≤ 1099511627776) (B : Bool) (hB : B = true ↔ ∀ x ∈ mem, Word x) :
    Calls Try.prog 112 #[v, .func (.func 121) #[] #[]] w fun e w' => e = .returned (.bool (!B)) ∧ Pure w w' := by
  have H := Lib.hid h
  have HB := Lib.hid hB
  obtain ⟨A, c, rfl⟩ := h.form
  clear h hB
  go_enter Try.func112, Try.ntmps112
  go_wp2_with fail
  refine (imemix_any _ mem _ H.out hsmall).mono ?_
  rintro e w1 ⟨r, rfl, hr, hp⟩
  rcases hr with ⟨j, hj, rfl, hbad⟩ | ⟨rfl, hall⟩
  · have hf : B = false := by
      cases hb : B
      · rfl
      · exact absurd (HB.out.1 hb _ (getD_mem hj)) hbad
    subst hf
    clear hbad
    go_wp2
    go_ret
    exact ⟨rfl, hp⟩
  · have ht : B = true := HB.out.2 (words_of hall)
    subst ht
    clear hall
    go_wp2
    go_ret
    exact ⟨rfl, hp⟩

set_option maxHeartbeats 1000000 in
set_option maxRecDepth 100000 in
theorem imem_any (v : Value) (mem : List Int) (w : World) (h : Ints w v mem) (hsmall : mem.length ≤ 1099511627776) (B : Bool) (hB : B = true ↔ MemOk mem) :
    Calls Try.prog 83 #[v] w fun e w' => e = .returned (.bool B) ∧ Pure w w' := by
  have H := Lib.hid h
  have HB := Lib.hid hB
  obtain ⟨A, c, rfl, hnc, hcm, _⟩ := h
  clear hB
  by_cases hl : 1 ≤ (mem.length : Int) ∧ (mem.length : Int) ≤ 32
  · have hl' := Lib.hid hl
    have hq : Hid (B = true ↔ ∀ x ∈ mem, Word x) := Lib.hid (by rw [HB.out]; unfold MemOk; have := hl'.out; exact ⟨fun h => h.2, fun h => ⟨by omega, h⟩⟩)
    clear hl
    go_enter Try.func83, Try.ntmps83
    go_wp2_with fail
    refine (within_any _ _ _ _ true (by simp only [true_iff]; exact hl'.out)).mono ?_
    rintro e w1 ⟨rfl, rfl⟩
    go_wp2_with fail
    refine (imemcf_any _ mem _ H.out hsmall B hq.out).mono ?_
    rintro e w1 ⟨rfl, hp⟩
    go_wp2
    go_ret
    exact ⟨ret_bool (by simp), hp⟩
  · have hl' := Lib.hid hl
    have hf : B = false := by
      cases hb : B
      · rfl
      · have := (HB.out.1 hb).1; omega
    subst hf
    clear hl
    go_enter Try.func83, Try.ntmps83
    go_wp2_with fail
    refine (within_any _ _ _ _ false (by simp only [Bool.false_eq_true, false_iff]; exact hl'.out)).mono ?_
    rintro e w1 ⟨rfl, rfl⟩
    go_wp2
    go_ret
    exact ⟨rfl, Pure.refl _⟩

set_option maxHeartbeats 400000 in
theorem ilanesok_any (a : Int) (w : World) (B : Bool) (hB : B = true ↔ LanesOk a) :
    Calls Try.prog 81 #[.int .i64 a] w fun e w' => e = .returned (.bool B) ∧ w = w' := by
  have HB := Lib.hid hB; clear hB
  go_enter Try.func81, Try.ntmps81
  go_wp2_with fail
  refine (within_any _ _ _ _ B HB.out).mono ?_
  rintro e w' ⟨rfl, rfl⟩
  go_wp2
  go_ret
  exact ⟨rfl, rfl⟩

theorem runB (cs : List Cd) : ∃ B : Bool, B = true ↔ PValid cs := by classical exact ⟨decide (PValid cs), by simp⟩
end Go.Proofs.Ytajaonejpggcbaa

namespace Go.Proofs.Ytajaonejpggcbaa
open Go.RowKit

theorem PValid.stk {cs : List Cd} (h : PValid cs) : ∀ {k : Nat}, k ≤ cs.length → ∃ st, sscan (cs.take k) 0 [] = some st ∧ Stk cs k st
  | 0, _ => ⟨[], by simp [sscan], Stk.nil cs⟩
  | k + 1, hk => by
    obtain ⟨st, h1, h2⟩ := PValid.stk h (k := k) (by omega)
    have h3 := sscan_take (show k < cs.length by omega) h1
    cases hs : sstep st k (cs.getD k default) with
    | none =>
      rw [hs] at h3
      have := sscan_none h3
      rw [h.2.2] at this; cases this
    | some st' => exact ⟨st', h3.trans hs, h2.step (by omega) hs⟩
end Go.Proofs.Ytajaonejpggcbaa

namespace Go.Proofs.Ytajaonejpggcbaa

/-- Below a place of the stack lies the stack of that place. -/
theorem stk_drop {cs : List Cd} : ∀ k, k ≤ cs.length → ∀ st, sscan (cs.take k) 0 [] = some st → ∀ i (h : i < st.length), sscan (cs.take st[i].1) 0 [] = some (st.drop (i + 1))
  | 0, _, st, h, i, hi => by
    simp [sscan] at h
    subst h
    simp at hi
  | k + 1, hk, st', h, i, hi => by
    cases hq : sscan (cs.take k) 0 [] with
    | none =>
      have h3 := sscan_append (cs.take k) [cs.getD k default] 0 []
      have : cs.take (k + 1) = cs.take k ++ [cs.getD k default] := by
        rw [List.take_succ_eq_append_getElem (show k < cs.length by omega)]
        simp [List.getD_eq_getElem?_getD, show k < cs.length by omega]
      rw [this, h3, hq] at h
      cases h
    | some st =>
      have ih := stk_drop k (by omega) st hq
      rw [sscan_take (show k < cs.length by omega) hq] at h
      unfold sstep at h
      split at h
      · split at h
        · injection h with h
          subst h
          cases i with
          | zero => simpa using hq
          | succ i => simpa using ih i (by simpa using hi)
        · cases h
      · split at h
        · match st, ih, h with
          | (p, m) :: r, ih, h =>
            simp only at h
            split at h
            · injection h with h
              subst h
              cases i with
              | zero => exact ih 0 (by simp)
              | succ i => exact ih (i + 1) (by simpa using hi)
            · cases h
          | [], _, h => cases h
        · split at h
          · match st, ih, h with
            | x :: r, ih, h =>
              injection h with h
              subst h
              exact ih (i + 1) (by simpa using hi)
            | [], _, h => cases h
          · injection h with h
            subst h
            exact ih i hi
/-- The stack of a place. -/
def stkOf (cs : List Cd) (k : Nat) : List Nat := (((sscan (cs.take k) 0 []).getD []).map (·.1))
theorem stkOf_pos (cs : List Cd) (k : Nat) : stkPos cs k = (stkOf cs k).reverse := rfl
theorem stkOf_end {cs : List Cd} (h : PValid cs) : stkOf cs cs.length = [] := by
  unfold stkOf; rw [List.take_length, h.2.2]; rfl
theorem stkOf_len {cs : List Cd} (h : PValid cs) {k : Nat} (hk : k ≤ cs.length) : (stkOf cs k).length ≤ 3 := by
  obtain ⟨st, h1, h2⟩ := h.stk hk
  unfold stkOf; rw [h1]; simpa using h2.len
theorem stkOf_lt {cs : List Cd} (h : PValid cs) {k : Nat} (hk : k ≤ cs.length) {i : Nat} (hi : i < (stkOf cs k).length) : (stkOf cs k).getD i 0 < k := by
  obtain ⟨st, h1, h2⟩ := h.stk hk
  unfold stkOf at hi ⊢
  rw [h1] at hi ⊢
  simp only [Option.getD_some, List.length_map] at hi ⊢
  have := h2.lt i hi
  simpa [List.getD_eq_getElem?_getD, hi] using this
theorem stkOf_first {cs : List Cd} (h : PValid cs) {k : Nat} (hk : k ≤ cs.length) : aroundAt cs k = if 0 < (stkOf cs k).length then (((stkOf cs k).getD 0 0 : Nat) : Int) else -1 := by
  obtain ⟨st, h1, h2⟩ := h.stk hk
  have ha := h2.around 0
  unfold aroundAt
  rw [ha]
  unfold stkOf
  rw [h1]
  cases st with
  | nil => rfl
  | cons x r => simp
theorem stkOf_next {cs : List Cd} (h : PValid cs) {k : Nat} (hk : k ≤ cs.length) {i : Nat} (hi : i < (stkOf cs k).length) : aroundAt cs ((stkOf cs k).getD i 0) = if i + 1 < (stkOf cs k).length then (((stkOf cs k).getD (i + 1) 0 : Nat) : Int) else -1 := by
  have hlt := stkOf_lt h hk hi
  obtain ⟨st, h1, h2⟩ := h.stk hk
  have hl : (stkOf cs k).length = st.length := by unfold stkOf; rw [h1]; simp
  have hi' : i < st.length := by omega
  have h3 := stk_drop k hk st h1 i hi'
  have he : (stkOf cs k).getD i 0 = st[i].1 := by unfold stkOf; rw [h1]; simp [List.getD_eq_getElem?_getD, hi']
  have hf := stkOf_first h (k := (stkOf cs k).getD i 0) (by omega)
  have hs : stkOf cs ((stkOf cs k).getD i 0) = (stkOf cs k).drop (i + 1) := by
    rw [he]
    unfold stkOf
    rw [h3, h1]
    simp
  rw [hf, hs]
  simp only [List.length_drop]
  by_cases hj : i + 1 < (stkOf cs k).length
  · rw [if_pos (by omega), if_pos hj]
    simp [List.getD_eq_getElem?_getD]
  · rw [if_neg (by omega), if_neg hj]
/-- The loops among the first of a stack, the outermost one first. -/
def lpsTo (cs : List Cd) (k : Nat) : Nat → List Nat
  | 0 => []
  | i + 1 => if (cs.getD ((stkOf cs k).getD i 0) default).op = 13 then (stkOf cs k).getD i 0 :: lpsTo cs k i else lpsTo cs k i
def lps (cs : List Cd) (k : Nat) : List Nat := lpsTo cs k (stkOf cs k).length
theorem lpsTo_len (cs : List Cd) (k : Nat) : ∀ i, (lpsTo cs k i).length ≤ i
  | 0 => by simp [lpsTo]
  | i + 1 => by
    have := lpsTo_len cs k i
    unfold lpsTo
    split
    · simp; omega
    · omega
theorem lpsTo_lt {cs : List Cd} (h : PValid cs) {k : Nat} (hk : k ≤ cs.length) : ∀ i, i ≤ (stkOf cs k).length → ∀ x ∈ lpsTo cs k i, x < k
  | 0, _, x, hx => by simp [lpsTo] at hx
  | i + 1, hi, x, hx => by
    unfold lpsTo at hx
    split at hx
    · rcases List.mem_cons.1 hx with rfl | hx
      · exact stkOf_lt h hk (by omega)
      · exact lpsTo_lt h hk i (by omega) x hx
    · exact lpsTo_lt h hk i (by omega) x hx

/-- A lane that is valid for a program. -/
structure LaneOk (cs : List Cd) (l : Lx) : Prop where
  p : PValid cs
  n : l.rs.length = 4
  a0 : 0 ≤ l.at_
  a1 : l.at_ ≤ cs.length
  w : ∀ x ∈ l.rs, Word x
  tl : (lps cs l.at_.toNat).length = l.ts.length
  t : ∀ k, k < l.ts.length → 0 ≤ l.ts.getD k 0 ∧ l.ts.getD k 0 ≤ (cs.getD ((lps cs l.at_.toNat).getD k 0) default).b - 1
  b : l.wt = true → 0 < l.at_ ∧ (cs.getD (l.at_.toNat - 1) default).op = 10

end Go.Proofs.Ytajaonejpggcbaa

namespace Go.Proofs.Ytajaonejpggcbaa
open Go.RowKit

section
variable {P : Program} {t e : TypeId} {s : Nat} {z : List Value} {bytes : Nat}
theorem wl_appendC (E : ElT P t e s z bytes) {w : World} {ops : Array Oper} {rest : List Oper} {o : Oper} {a : Act} {Q : Exit → Act → World → Prop}
    (hgd : o.guard = none) (sl x : Operand) (ho : o.op = .call { callee := .builtin .append, args := #[sl, x], argTypes := #[t, t] })
    (B : Nat) (v : Value) (n : Nat) (xs : List Value) (hs : a.eval sl = v) (hown : OwnO w B e s v n xs) (hpos : 0 < n) (vx : Value) (hx : a.eval x = vx) (f : Nat → Value) (m : Nat) (hc : Cells w vx m s f) (h1 : ∀ j, j < m * s → (f j).oneCell' = true)
    (hby : bytes ≤ 128) (hn : n + m ≤ 1099511627776) (hB : B ≤ w.heap.size)
    (h : ∀ v' w', OwnO w' B e s v' (n + m) (xs ++ (List.range (m * s)).map f) → w.grownBy w' v.ownBlock → wpList P ops Q rest (a.put o.dst v') w') : wpList P ops Q (o :: rest) a w := by
  obtain ⟨g0, off0, c0, rfl, hnc0, hc00, hgB, hgl⟩ := hown.formSome hpos
  obtain ⟨A, c, rfl, hmc, hcm, hrd⟩ := hc
  rcases A with _ | ⟨b, off, sp⟩
  · have hm0 : m = 0 := by
      rcases Nat.eq_zero_or_pos m with h0 | h0
      · exact h0
      · obtain ⟨_, _, h, _⟩ := hrd h0; cases h
    subst hm0
    obtain ⟨i, zv, h2, h3, h4, h5, h6, h7⟩ := E.parts
    refine wpList_plain hgd fun K hK' => ?_
    have hrun : (Builtin.append_ #[t, t] o.type #[.slice (some ⟨g0, off0, none⟩) n c0, .slice none 0 c]).run P w = .ok (.slice (some ⟨g0, off0, none⟩) n c0) w := by
      simp [Builtin.append_, run_underlying E.ht, sizeOf, typeInfo, h2, Builtin.lenOf, Builtin.firstCells, storeCells, hnc0]
    unfold Oper.wp execOp
    simp only [ho, resolve, invoke, builtin, Sem.run_bind, Sem.run_pure, Result.andThen_ok, List.map_toArray, List.map_cons, List.map_nil, hs, hx, hrun]
    exact hK' _ _ (h _ _ (by simpa using hown) ((Pure.refl _).grownBy _))
  · rcases Nat.eq_zero_or_pos m with h0 | h0
    · subst h0
      obtain ⟨i, zv, h2, h3, h4, h5, h6, h7⟩ := E.parts
      refine wpList_plain hgd fun K hK' => ?_
      have hrun : (Builtin.append_ #[t, t] o.type #[.slice (some ⟨g0, off0, none⟩) n c0, .slice (some ⟨b, off, sp⟩) 0 c]).run P w = .ok (.slice (some ⟨g0, off0, none⟩) n c0) w := by
        simp [Builtin.append_, run_underlying E.ht, sizeOf, typeInfo, h2, Builtin.lenOf, Builtin.firstCells, storeCells, loadCells, loadCellsFrom, hnc0]
      unfold Oper.wp execOp
      simp only [ho, resolve, invoke, builtin, Sem.run_bind, Sem.run_pure, Result.andThen_ok, List.map_toArray, List.map_cons, List.map_nil, hs, hx, hrun]
      exact hK' _ _ (h _ _ (by simpa using hown) ((Pure.refl _).grownBy _))
    · obtain ⟨b', o', he, hbl, hcc⟩ := hrd h0
      injection he with he
      injection he with e1 e2 e3
      subst e1 e2 e3
      have hmul : (n + m) * bytes ≤ 1099511627776 * 128 := Nat.mul_le_mul hn hby
      refine wl_appendF E hgd sl x ho B _ n xs hs hown b off m c ((List.range (m * s)).map f) hx (by simp) (fun j u hu => ?_) (fun u hu => ?_) (by omega) (by omega) hB
        (fun v' w' r1 r2 _ => h v' w' r1 r2)
      · have hj : j < m * s := by
          rcases Nat.lt_or_ge j (m * s) with h | h
          · exact h
          · rw [List.getElem?_eq_none (by simpa using h)] at hu; cases hu
        rw [hcc j hj, ← hu]
        simp [hj]
      · obtain ⟨j, hj, rfl⟩ := List.mem_map.1 hu
        exact h1 j (by simpa using hj)
end

end Go.Proofs.Ytajaonejpggcbaa

namespace Go.Proofs.Ytajaonejpggcbaa
open Go.RowKit

theorem ownO_lit {w : World} {B : Nat} (x : Int) (hB : B ≤ w.heap.size) : OwnO (w.alloc (.cells #[.int .i64 x] 3)) B 3 1 (.slice (some ⟨w.heap.size, 0, none⟩) 1 1) 1 [.int .i64 x] :=
  ⟨rfl, .inr ⟨w.heap.size, 0, 1, #[.int .i64 x], rfl, hB, heap_alloc_new w _, by omega, by omega, by simp, fun j u hu => by simpa using hu⟩⟩
def natI (xs : List Nat) : List Value := xs.map fun x => .int .i64 (x : Nat)

set_option maxHeartbeats 1000000 in
set_option maxRecDepth 100000 in
theorem l6loops_any (v : Value) (cs : List Cd) (k : Nat) (w : World) (h : Codes w v cs) (hv : PValid cs) (hk : k ≤ cs.length) :
    Calls Try.prog 119 #[v, .int .i64 (k : Nat)] w fun e w' => ∃ r, e = .returned r ∧ OwnO w' w.heap.size 3 1 r (lps cs k).length (natI (lps cs k)) ∧ Pure w w' := by
  have H := Lib.hid h
  have HV := Lib.hid hv
  have h40 := hv.2.1
  obtain ⟨A, c, rfl, hnc, hcm⟩ := h.form
  clear h
  have HF := Lib.hid (stkOf_first hv hk)
  have HL := Lib.hid (stkOf_len hv hk)
  clear hv
  go_enter Try.func119, Try.ntmps119
  go_wp2_with fail
  refine (l4Around_any _ cs k (aroundAt cs k) _ (H.out.keep (by exact (by repeat (first | assumption | exact Pure.refl _ | refine Pure.drewN ?_ _ | refine Pure.drew ?_ | refine Pure.alloc ?_ _ | refine Pure.setCell ?_ (by simp <;> omega) _)))) (by omega) hk rfl).mono ?_
  rintro e w1 ⟨rfl, hp1⟩
  have HP1 : Hid (Pure w w1) := Lib.hid (Pure.trans (show Pure w (w.alloc (.cells #[] 3)) from (by repeat (first | assumption | exact Pure.refl _ | refine Pure.drewN ?_ _ | refine Pure.drew ?_ | refine Pure.alloc ?_ _ | refine Pure.setCell ?_ (by simp <;> omega) _))) hp1)
  have HO1 : Hid (OwnO w1 w.heap.size 3 1 (.slice (some ⟨w.heap.size, 0, none⟩) 0 0) 0 []) := Lib.hid (OwnO.pure ⟨rfl, .inr ⟨w.heap.size, 0, 0, #[], rfl, Nat.le_refl _, heap_alloc_new w _, by omega, by omega, by simp, fun j u hu => by simp at hu⟩⟩ hp1)
  rw [HF.out]
  obtain ⟨z0, Hz0⟩ : ∃ z0, Hid ((if 0 < (stkOf cs k).length then (((stkOf cs k).getD 0 0 : Nat) : Int) else -1) = z0) := ⟨_, Lib.hid rfl⟩
  rw [Hz0.out]
  clear hp1
  go_wp2
  go_loopg [5, 6] (stkOf cs k).length (fun gk out p wr => ∃ (i : Nat) (z : Int), gk + i = (stkOf cs k).length ∧ p = .int .i64 z ∧ z = (if i < (stkOf cs k).length then (((stkOf cs k).getD i 0 : Nat) : Int) else -1) ∧ Pure w wr ∧ OwnO wr w.heap.size 3 1 out (lpsTo cs k i).length (natI (lpsTo cs k i)))
  case atStart => exact ⟨0, _, rfl, rfl, Hz0.out.symm, HP1.out, HO1.out⟩
  case round =>
    clear HP1 HO1
    obtain ⟨i, z, hgk, rfl, hz, hp, hown⟩ := hrel
    have Hgk := Lib.hid hgk
    have HP := Lib.hid hp
    have HOW := Lib.hid hown
    obtain ⟨Ao, co, rfl⟩ := hown.form
    have hli := lpsTo_len cs k i
    obtain ⟨L, HLL⟩ : ∃ L, Hid (lpsTo cs k i = L) := ⟨_, Lib.hid rfl⟩
    rw [HLL.out] at HOW hli
    have hi : i ≤ (stkOf cs k).length := by omega
    have hi3 : i ≤ 3 := by have := HL.out; omega
    rw [HLL.out]
    clear hgk hp hown
    by_cases hlt : i < (stkOf cs k).length
    · have HNX := Lib.hid (stkOf_next HV.out hk hlt)
      have hpk := stkOf_lt HV.out hk hlt
      have HNL : Hid (lpsTo cs k (i + 1) = if (cs.getD ((stkOf cs k).getD i 0) default).op = 13 then (stkOf cs k).getD i 0 :: lpsTo cs k i else lpsTo cs k i) := Lib.hid rfl
      rw [if_pos hlt] at hz
      obtain ⟨p, Hp⟩ : ∃ p, Hid ((stkOf cs k).getD i 0 = p) := ⟨_, Lib.hid rfl⟩
      rw [Hp.out] at HNX HNL hpk hz
      subst hz
      have hpc : p < cs.length := by omega
      obtain ⟨b, o, rfl, hb, hcd⟩ := H.out.at_ hpc
      obtain ⟨cd, Hcd⟩ : ∃ cd, Hid (cs.getD p default = cd) := ⟨_, Lib.hid rfl⟩
      rw [Hcd.out] at hcd HNL
      obtain ⟨q0, q1, q2, q3⟩ := hcd.keep HP.out hb
      clear hcd
      obtain ⟨op, ca, cb, cc⟩ := cd
      by_cases h13 : op = 13
      · subst h13
        rw [if_pos rfl, HLL.out] at HNL
        have HCL := Lib.hid (Cells.of_ownO (f := fun j => (natI L).getD j undef) (HOW.out.pure (show Pure wr (wr.alloc (.cells #[.int .i64 (p : Nat)] 3)) from (by repeat (first | assumption | exact Pure.refl _ | refine Pure.drewN ?_ _ | refine Pure.drew ?_ | refine Pure.alloc ?_ _ | refine Pure.setCell ?_ (by simp <;> omega) _)))) (fun j hj => by
          have : j < (natI L).length := by simpa [natI] using hj
          simp [List.getD_eq_getElem?_getD, this]))
        have HLT := Lib.hid (ownO_lit (w := wr) (p : Nat) HP.out.size)
        have HON : Hid (∀ j, j < L.length * 1 → ((natI L).getD j undef).oneCell' = true) := Lib.hid (fun j hj => by
          have : j < L.length := by omega
          simp [natI, List.getD_eq_getElem?_getD, this, Value.oneCell'])
        have HSZ : Hid (w.heap.size ≤ (wr.alloc (.cells #[.int .i64 (p : Nat)] 3)).heap.size) := Lib.hid (by have := HP.out.size; simp; omega)
        go_wp2_with (at_builtin; go_must (refine wl_appendC elInt rfl _ _ rfl w.heap.size _ 1 _ rfl HLT.out (by omega) _ rfl (fun j => (natI L).getD j undef) L.length HCL.out HON.out (by omega) (by omega) HSZ.out ?_); intro v5 w5 hown5 hg5; go_must (have HO5 := Lib.hid hown5; have HP5 : Hid (Pure w w5) := Lib.hid (Pure.grown (Pure.trans HP.out (show Pure wr (wr.alloc _) from (by repeat (first | assumption | exact Pure.refl _ | refine Pure.drewN ?_ _ | refine Pure.drew ?_ | refine Pure.alloc ?_ _ | refine Pure.setCell ?_ (by simp <;> omega) _)))) hg5 (fun g hg => (HLT.out.lt g hg).1)); clear hown5 hg5))
        refine (l4Around_any _ cs p (aroundAt cs p) _ (H.out.keep HP5.out) (by omega) (by omega) rfl).mono ?_
        rintro e w2 ⟨rfl, hp2⟩
        obtain ⟨z2, Hz2⟩ : ∃ z2, Hid (aroundAt cs p = z2) := ⟨_, Lib.hid rfl⟩
        rw [Hz2.out]
        go_wp2
        go_roundg ((stkOf cs k).length - (i + 1))
        case measure => have := Hgk.out; omega
        case rel => exact ⟨i + 1, z2, by have := Hgk.out; omega, rfl, Hz2.out.symm.trans HNX.out, HP5.out.trans hp2, by
          rw [HNL.out]
          have := HO5.out.pure hp2
          have e1 : (p :: L).length = 1 + L.length := by simp; omega
          have e2 : natI (p :: L) = [.int .i64 (p : Nat)] ++ (List.range (L.length * 1)).map (fun j => (natI L).getD j undef) := by
            have e3 : (natI L).length = L.length := by simp [natI]
            rw [← e3, range_getD]; rfl
          rw [e1, e2]; exact this⟩
      · rw [if_neg h13, HLL.out] at HNL
        have d13 : (op == 13) = false := by rw [beq_eq_false_iff_ne]; exact h13
        go_wp2_with fail
        refine (l4Around_any _ cs p (aroundAt cs p) _ (H.out.keep HP.out) (by omega) (by omega) rfl).mono ?_
        rintro e w2 ⟨rfl, hp2⟩
        obtain ⟨z2, Hz2⟩ : ∃ z2, Hid (aroundAt cs p = z2) := ⟨_, Lib.hid rfl⟩
        rw [Hz2.out]
        go_wp2
        go_roundg ((stkOf cs k).length - (i + 1))
        case measure => have := Hgk.out; omega
        case rel => exact ⟨i + 1, z2, by have := Hgk.out; omega, rfl, Hz2.out.symm.trans HNX.out, HP.out.trans hp2, by rw [HNL.out]; exact HOW.out.pure hp2⟩
    · have hik : i = (stkOf cs k).length := by omega
      rw [if_neg hlt] at hz
      subst hz
      go_wp2
      go_ret
      exact ⟨_, rfl, by unfold lps; rw [← hik, HLL.out]; exact HOW.out, HP.out⟩

end Go.Proofs.Ytajaonejpggcbaa

namespace Go.Proofs.Ytajaonejpggcbaa
open Go.RowKit

theorem row_pure {w w1 : World} {b : Nat} {row : Array Value} {t : TypeId} (hp : Pure w w1) (h : w.heap[b]? = some (.cells row t (0, 0))) (i : Nat) : w1.cell? ⟨b, i, none⟩ = row[i]? ∧ w1.frozen? ⟨b, i, none⟩ = false := by
  have hb : b < w.heap.size := (Array.getElem?_eq_some_iff.1 h).1
  exact ⟨(hp.cell b i hb).trans (cell_of_row _ _ i _ _ _ h), (hp.frozen b i hb).trans (frozen_of_row _ _ i _ _ h)⟩

end Go.Proofs.Ytajaonejpggcbaa

namespace Go.Proofs.Ytajaonejpggcbaa
open Go.RowKit

theorem b_no {B : Bool} {P : Prop} (hB : B = true ↔ P) (h : ¬ P) : B = false := by
  cases B
  · rfl
  · exact absurd (hB.1 rfl) h
theorem getD_inX {xs : List Int} {k : Nat} (h : k < xs.length) : xs.getD k 0 ∈ xs := by simp [List.getD_eq_getElem?_getD, h]
theorem all_word {xs : List Int} (h : ∀ k, k < xs.length → Word (xs.getD k 0)) : ∀ x ∈ xs, Word x := by
  intro x hx
  obtain ⟨k, hk, rfl⟩ := List.getElem_of_mem hx
  have := h k hk
  simpa [List.getD_eq_getElem?_getD, hk] using this

theorem lpsTo_op {cs : List Cd} {k : Nat} : ∀ i, ∀ x ∈ lpsTo cs k i, (cs.getD x default).op = 13
  | 0, x, hx => by simp [lpsTo] at hx
  | i + 1, x, hx => by
    unfold lpsTo at hx
    split at hx
    · rename_i h
      rcases List.mem_cons.1 hx with rfl | hx
      · exact h
      · exact lpsTo_op i x hx
    · exact lpsTo_op i x hx
theorem lps_in {cs : List Cd} (h : PValid cs) {k : Nat} (hk : k ≤ cs.length) : ∀ j, j < (lps cs k).length → (lps cs k).getD j 0 < cs.length ∧ ∃ a b c, cs.getD ((lps cs k).getD j 0) default = ⟨13, a, b, c⟩ ∧ 0 ≤ b ∧ b ≤ 255 := by
  intro j hj
  have hm : (lps cs k).getD j 0 ∈ lps cs k := by simp [List.getD_eq_getElem?_getD, hj]
  have h1 : (lps cs k).getD j 0 < k := lpsTo_lt h hk _ (Nat.le_refl _) _ hm
  have h2 : (cs.getD ((lps cs k).getD j 0) default).op = 13 := lpsTo_op _ _ hm
  have h3 := h.1 _ (cdOk_mem (show (lps cs k).getD j 0 < cs.length by omega))
  refine ⟨by omega, ?_⟩
  generalize cs.getD ((lps cs k).getD j 0) default = cd at h2 h3
  obtain ⟨op, a, b, c⟩ := cd
  obtain rfl : op = 13 := h2
  unfold CdOk Reg at h3
  simp only at h3
  exact ⟨a, b, c, rfl, by omega, by omega⟩

theorem ints_at {w : World} {A : Option Addr} {n c : Nat} {xs : List Int} (h : Ints w (.slice A n c) xs) {k : Nat} (hk : k < xs.length) : ∃ b o, A = some ⟨b, o, none⟩ ∧ b < w.heap.size ∧ w.cell? ⟨b, o + k, none⟩ = some (.int .i64 (xs.getD k 0)) := by
  obtain ⟨A', c', hv, _, _, h4⟩ := h
  injection hv with e1 e2 e3
  subst e1
  obtain ⟨b, o, rfl, hb, hc⟩ := h4 (by omega)
  exact ⟨b, o, rfl, hb, hc k (by omega)⟩

set_option maxHeartbeats 2000000 in
set_option maxRecDepth 100000 in
theorem slv_any (R T v : Value) (l : Lx) (cs : List Cd) (w : World) (hr : Ints w R l.rs) (ht : Ints w T l.ts) (h : Codes w v cs) (hs : cs.length ≤ 1048576) (B : Bool) (hB : B = true ↔ LaneOk cs l) :
    Calls Try.prog 78 #[lnVX R l.at_ T l.wt, v] w fun e w' => e = .returned (.bool B) ∧ Pure w w' := by
  unfold lnVX
  have HB := Lib.hid hB
  have H := Lib.hid h
  have HR := Lib.hid hr
  have HT := Lib.hid ht
  obtain ⟨A, c, rfl, hnc, hcm⟩ := h.form
  obtain ⟨Ar, cr, rfl⟩ := hr.form
  obtain ⟨At, ct, rfl⟩ := ht.form
  clear h hr ht hB
  obtain ⟨wz, Hwz⟩ : ∃ wz, Hid (w.alloc (.cells #[.slice Ar l.rs.length cr, .int .i64 l.at_, .slice At l.ts.length ct, .bool l.wt] 55) = wz) := ⟨_, Lib.hid rfl⟩
  have HPZ : Hid (Pure w wz) := Lib.hid (by rw [← Hwz.out]; exact (by repeat (first | assumption | exact Pure.refl _ | refine Pure.drewN ?_ _ | refine Pure.drew ?_ | refine Pure.alloc ?_ _ | refine Pure.setCell ?_ (by simp <;> omega) _)))
  have HZ : Hid (wz.heap[w.heap.size]? = some (.cells #[.slice Ar l.rs.length cr, .int .i64 l.at_, .slice At l.ts.length ct, .bool l.wt] 55 (0, 0))) := Lib.hid (by rw [← Hwz.out]; exact heap_alloc_new w _)
  by_cases hv : PValid cs
  · have HV := Lib.hid hv
    have h40 := hv.2.1
    clear hv
    by_cases hn : l.rs.length = 4
    · have HN := Lib.hid hn
      have hn4 : ((l.rs.length : Int) != 4) = false := by simp [hn]
      clear hn
      by_cases ha : 0 ≤ l.at_ ∧ l.at_ ≤ (cs.length : Int)
      · obtain ⟨ha0, ha1⟩ := ha
        have HA0 := Lib.hid ha0
        obtain ⟨at_, Hat⟩ : ∃ at_ : Nat, Hid (l.at_ = (at_ : Int)) := ⟨l.at_.toNat, Lib.hid (by omega)⟩
        have hatl : at_ ≤ cs.length := by have := Hat.out; omega
        have HTN : Hid (l.at_.toNat = at_) := Lib.hid (by have := Hat.out; omega)
        go_enter Try.func78, Try.ntmps78
        go_wp2_with fail
        rw [Hwz.out]
        refine (spv_any _ cs _ (H.out.keep HPZ.out) hs true (by simp only [true_iff]; exact HV.out)).mono ?_
        rintro e w1 ⟨rfl, hp1⟩
        obtain ⟨k0, _⟩ := row_pure hp1 HZ.out 0
        obtain ⟨k1, _⟩ := row_pure hp1 HZ.out 1
        have HZ1 := Lib.hid ((Chg.of_pure (S := fun _ => False) hp1).heap HZ.out id)
        simp only [List.getElem?_toArray, List.getElem?_cons_zero, List.getElem?_cons_succ] at k0 k1
        have HP1 := Lib.hid (HPZ.out.trans hp1)
        clear hp1
        go_wp2_with fail
        refine (l1In_any _ _ _ _ true (by simp only [true_iff]; exact ⟨HA0.out, ha1⟩)).mono ?_
        rintro e w2 ⟨rfl, rfl⟩
        clear k0 k1
        go_wp2_with fail
        go_loopg [5] 4 (fun gk i wr => ∃ j : Nat, gk + j = 4 ∧ i = .int .i64 j ∧ Pure w1 wr ∧ ∀ x, x < j → Word (l.rs.getD x 0))
        case atStart => exact ⟨0, rfl, rfl, Pure.refl _, fun x hx => absurd hx (by omega)⟩
        case round =>
          obtain ⟨j, hgk, rfl, hp, hwd⟩ := hrel
          have Hgk := Lib.hid hgk
          have HP := Lib.hid hp
          have HWD := Lib.hid hwd
          have hj4 : j ≤ 4 := by omega
          obtain ⟨k0, _⟩ := row_pure hp HZ1.out 0
          obtain ⟨k1, _⟩ := row_pure hp HZ1.out 1
          obtain ⟨k2, _⟩ := row_pure hp HZ1.out 2
          obtain ⟨k3, _⟩ := row_pure hp HZ1.out 3
          simp only [List.getElem?_toArray, List.getElem?_cons_zero, List.getElem?_cons_succ] at k0 k1 k2 k3
          clear hgk hp hwd
          by_cases hj : j < 4
          · obtain ⟨b, o, rfl, hb, hx⟩ := ints_at (HR.out.keep (HP1.out.trans HP.out)) (show j < l.rs.length by rw [HN.out]; exact hj)
            have hjr : j < l.rs.length := by rw [HN.out]; exact hj
            obtain ⟨x, Hx⟩ : ∃ x, Hid (l.rs.getD j 0 = x) := ⟨_, Lib.hid rfl⟩
            rw [Hx.out] at hx
            obtain ⟨bw, hbw⟩ := wordB x
            have HBW := Lib.hid hbw
            clear hbw
            go_wp2_with fail
            refine (l2Word_any _ _ bw HBW.out).mono ?_
            rintro e w2 ⟨rfl, rfl⟩
            cases bw
            · have HBF := Lib.hid (b_no HB.out (fun q => by have h1 := q.w _ (getD_inX hjr); rw [Hx.out] at h1; have := HBW.out.2 h1; cases this))
              go_wp2
              go_ret
              exact ⟨by rw [HBF.out]; rfl, HP1.out.trans HP.out⟩
            · go_wp2
              go_roundg (4 - (j + 1))
              case measure => have := Hgk.out; omega
              case rel => exact ⟨j + 1, by have := Hgk.out; omega, by go_num, HP.out, fun y hy => by
                by_cases e : y = j
                · subst e; rw [Hx.out]; exact HBW.out.1 (by trivial)
                · exact HWD.out y (by omega)⟩
          · have hj4' : j = 4 := by omega
            subst hj4'
            have hlp := l6loops_any (.slice A cs.length c) cs at_ _ (H.out.keep (HP1.out.trans HP.out)) HV.out hatl
            rw [← Hat.out] at hlp
            have HLP := Lib.hid hlp
            clear hlp
            obtain ⟨L, HLL⟩ : ∃ L, Hid (lps cs at_ = L) := ⟨_, Lib.hid rfl⟩
            have HLI : Hid (∀ j, j < L.length → L.getD j 0 < cs.length ∧ ∃ a b c, cs.getD (L.getD j 0) default = ⟨13, a, b, c⟩ ∧ 0 ≤ b ∧ b ≤ 255) := Lib.hid (by rw [← HLL.out]; exact lps_in HV.out hatl)
            go_wp2_with fail
            refine HLP.out.mono ?_
            rintro e w2 ⟨r, rfl, ho2, hp2⟩
            rw [HLL.out] at ho2
            obtain ⟨Al, cl, rfl⟩ := ho2.form
            have HO2 := Lib.hid ho2
            have HZ2 := Lib.hid ((Chg.of_pure (S := fun _ => False) (HP.out.trans hp2)).heap HZ1.out id)
            obtain ⟨k0, _⟩ := row_pure (Pure.refl _) HZ2.out 0
            obtain ⟨k1, _⟩ := row_pure (Pure.refl _) HZ2.out 1
            obtain ⟨k2, _⟩ := row_pure (Pure.refl _) HZ2.out 2
            obtain ⟨k3, _⟩ := row_pure (Pure.refl _) HZ2.out 3
            simp only [List.getElem?_toArray, List.getElem?_cons_zero, List.getElem?_cons_succ] at k0 k1 k2 k3
            have HP2 := Lib.hid ((HP1.out.trans HP.out).trans hp2)
            clear ho2 hp2
            by_cases htl : L.length = l.ts.length
            · have HTL := Lib.hid htl
              have htl2 : ((L.length : Int) != l.ts.length) = false := by simp [htl]
              clear htl
              go_wp2_with fail
              clear k0 k1 k2 k3
              go_loopg [7] L.length (fun gk i wr => ∃ j : Nat, gk + j = L.length ∧ i = .int .i64 j ∧ Pure w2 wr ∧ ∀ x, x < j → 0 ≤ l.ts.getD x 0 ∧ l.ts.getD x 0 ≤ (cs.getD (L.getD x 0) default).b - 1)
              case atStart => exact ⟨0, rfl, rfl, Pure.refl _, fun x hx => absurd hx (by omega)⟩
              case round =>
                obtain ⟨j, hgk, rfl, hp3, htn⟩ := hrel
                have Hgk2 := Lib.hid hgk
                have HP3 := Lib.hid hp3
                have HTT := Lib.hid htn
                have hjL : j ≤ L.length := by omega
                obtain ⟨k0, _⟩ := row_pure hp3 HZ2.out 0
                obtain ⟨k1, _⟩ := row_pure hp3 HZ2.out 1
                obtain ⟨k2, _⟩ := row_pure hp3 HZ2.out 2
                obtain ⟨k3, _⟩ := row_pure hp3 HZ2.out 3
                simp only [List.getElem?_toArray, List.getElem?_cons_zero, List.getElem?_cons_succ] at k0 k1 k2 k3
                clear hgk hp3 htn
                by_cases hj2 : j < L.length
                · obtain ⟨bt, ot, rfl, hbt, hxt⟩ := ints_at (HT.out.keep (HP2.out.trans HP3.out)) (show j < l.ts.length by rw [← HTL.out]; exact hj2)
                  obtain ⟨x, Hx⟩ : ∃ x, Hid (l.ts.getD j 0 = x) := ⟨_, Lib.hid rfl⟩
                  rw [Hx.out] at hxt
                  have hjt : j < l.ts.length := by rw [← HTL.out]; exact hj2
                  obtain ⟨hpc, ca, cb, cc, hcd, hcb0, hcb1⟩ := HLI.out j hj2
                  obtain ⟨g, off, c', hv, _, _, _, hgl⟩ := (HO2.out.pure HP3.out).formSome (by omega)
                  injection hv with e1 e2 e3
                  subst e1 e3
                  have hxl := (HO2.out.pure HP3.out).cell j (by omega)
                  have hxl2 : (natI L)[j]? = some (.int .i64 (L.getD j 0 : Nat)) := by simp [natI, List.getD_eq_getElem?_getD, hj2]
                  rw [hxl2] at hxl
                  obtain ⟨p, Hp⟩ : ∃ p, Hid (L.getD j 0 = p) := ⟨_, Lib.hid rfl⟩
                  rw [Hp.out] at hxl hpc hcd
                  obtain ⟨b, o, rfl, hb, hca⟩ := H.out.at_ hpc
                  rw [hcd] at hca
                  obtain ⟨q0, q1, q2, q3⟩ := hca.keep (HP2.out.trans HP3.out) hb
                  have hpi : (p : Int) < cs.length := by omega
                  have hji : (j : Int) < L.length := by omega
                  have hjti : (j : Int) < l.ts.length := by omega
                  obtain ⟨bw, hbw⟩ : ∃ bw : Bool, bw = true ↔ (0 ≤ x ∧ x ≤ cb - 1) := ⟨decide (0 ≤ x ∧ x ≤ cb - 1), by simp⟩
                  have HBW := Lib.hid hbw
                  have HI : Hid (∀ u : World, Calls Try.prog 79 #[.int .i64 x, .int .i64 0, .int .i64 (cb - 1)] u fun e w' => e = .returned (.bool bw) ∧ w' = u) := Lib.hid fun u => (l1In_any _ _ _ u bw HBW.out).mono (by rintro e w' ⟨rfl, rfl⟩; exact ⟨rfl, rfl⟩)
                  have HCD := Lib.hid hcd
                  clear hbw hca hcd hxl2
                  go_wp2_with fail
                  go_quiet ((go_at_call 79; refine Calls.quiet_of_same (HI.out _)))
                  cases bw
                  · have HBF := Lib.hid (b_no HB.out (fun q => by
                      have h1 := q.t j hjt
                      rw [HTN.out, HLL.out, Hx.out, Hp.out, HCD.out] at h1
                      have := HBW.out.2 h1; cases this))
                    go_wp2
                    go_ret
                    exact ⟨by rw [HBF.out]; rfl, Pure.drewN (HP2.out.trans HP3.out) _⟩
                  · go_wp2
                    go_roundg (L.length - (j + 1))
                    case measure => have := Hgk2.out; omega
                    case rel => exact ⟨j + 1, by have := Hgk2.out; omega, by go_num, Pure.drewN HP3.out _, fun y hy => by
                      by_cases e : y = j
                      · subst e; rw [Hx.out, Hp.out, HCD.out]; exact HBW.out.1 (by trivial)
                      · exact HTT.out y (by omega)⟩
                · have hjL' : j = L.length := by omega
                  have HFULL : Hid ((l.wt = true → 0 < l.at_ ∧ (cs.getD (at_ - 1) default).op = 10) → LaneOk cs l) := Lib.hid (fun hb => ⟨HV.out, HN.out, HA0.out, ha1, all_word (fun k hk => HWD.out k (by have := HN.out; omega)), by rw [HTN.out, HLL.out]; exact HTL.out, fun k hk => by
                    rw [HTN.out, HLL.out]
                    exact HTT.out k (by have := HTL.out; omega), fun hw => by rw [HTN.out]; exact hb hw⟩)
                  have HPX := Lib.hid (HP2.out.trans HP3.out)
                  subst hjL'
                  cases hw : l.wt
                  · have HBT : Hid (B = true) := Lib.hid (HB.out.2 (HFULL.out (fun h => by rw [hw] at h; cases h)))
                    rw [hw] at k3
                    have HW := Lib.hid hw
                    clear hw
                    go_wp2_with fail
                    go_ret
                    exact ⟨by rw [HBT.out]; rfl, HPX.out⟩
                  · rw [hw] at k3
                    rw [Hat.out] at k1
                    have HW := Lib.hid hw
                    clear hw
                    by_cases h0 : at_ = 0
                    · have HBF := Lib.hid (b_no HB.out (fun q => by have := (q.b HW.out).1; have := Hat.out; omega))
                      subst h0
                      go_wp2_with fail
                      go_ret
                      exact ⟨by rw [HBF.out]; rfl, HPX.out⟩
                    · obtain ⟨a1, rfl⟩ : ∃ a1, at_ = a1 + 1 := ⟨at_ - 1, by omega⟩
                      have ha1c : a1 < cs.length := by omega
                      obtain ⟨b, o, rfl, hb, hca⟩ := H.out.at_ ha1c
                      obtain ⟨cd, Hcd⟩ : ∃ cd, Hid (cs.getD a1 default = cd) := ⟨_, Lib.hid rfl⟩
                      rw [Hcd.out] at hca
                      obtain ⟨q0, q1, q2, q3⟩ := hca.keep HPX.out hb
                      have hai : (a1 : Int) < cs.length := by omega
                      have hk1 : ((a1 + 1 : Nat) : Int) = (a1 : Int) + 1 := by omega
                      rw [hk1] at k1
                      clear hca hk1
                      obtain ⟨op, ca, cb, cc⟩ := cd
                      by_cases h10 : op = 10
                      · subst h10
                        have HBT : Hid (B = true) := Lib.hid (HB.out.2 (HFULL.out (fun _ => ⟨by have := Hat.out; omega, by show (cs.getD (a1 + 1 - 1) default).op = 10; rw [Nat.add_sub_cancel, Hcd.out]⟩)))
                        go_wp2_with fail
                        go_ret
                        exact ⟨by rw [HBT.out]; rfl, HPX.out⟩
                      · have HBF := Lib.hid (b_no HB.out (fun q => by
                          have h1 := (q.b HW.out).2
                          rw [HTN.out, Nat.add_sub_cancel, Hcd.out] at h1
                          exact h10 h1))
                        have d10 : (op == 10) = false := by rw [beq_eq_false_iff_ne]; exact h10
                        go_wp2_with fail
                        go_ret
                        exact ⟨by rw [HBF.out]; rfl, HPX.out⟩
            · have HBF := Lib.hid (b_no HB.out (fun q => by have h1 := q.tl; rw [HTN.out, HLL.out] at h1; exact htl h1))
              have htl2 : ((L.length : Int) != l.ts.length) = true := by rw [bne_iff_ne]; omega
              go_wp2
              go_ret
              exact ⟨by rw [HBF.out]; rfl, HP2.out⟩
      · have HBF := Lib.hid (b_no HB.out (fun q => ha ⟨q.a0, q.a1⟩))
        have HA := Lib.hid ha
        clear ha
        go_enter Try.func78, Try.ntmps78
        go_wp2_with fail
        rw [Hwz.out]
        refine (spv_any _ cs _ (H.out.keep HPZ.out) hs true (by simp only [true_iff]; exact HV.out)).mono ?_
        rintro e w1 ⟨rfl, hp1⟩
        obtain ⟨k0, _⟩ := row_pure hp1 HZ.out 0
        obtain ⟨k1, _⟩ := row_pure hp1 HZ.out 1
        simp only [List.getElem?_toArray, List.getElem?_cons_zero, List.getElem?_cons_succ] at k0 k1
        have HP1 := Lib.hid (HPZ.out.trans hp1)
        clear hp1
        go_wp2_with fail
        refine (l1In_any _ _ _ _ false (by simp only [Bool.false_eq_true, false_iff]; exact HA.out)).mono ?_
        rintro e w2 ⟨rfl, rfl⟩
        go_wp2
        go_ret
        exact ⟨by rw [HBF.out]; rfl, HP1.out⟩
    · have HBF := Lib.hid (b_no HB.out (fun q => hn q.n))
      have hn4 : ((l.rs.length : Int) != 4) = true := by rw [bne_iff_ne]; omega
      go_enter Try.func78, Try.ntmps78
      go_wp2_with fail
      rw [Hwz.out]
      refine (spv_any _ cs _ (H.out.keep HPZ.out) hs true (by simp only [true_iff]; exact HV.out)).mono ?_
      rintro e w1 ⟨rfl, hp1⟩
      obtain ⟨k0, _⟩ := row_pure hp1 HZ.out 0
      simp only [List.getElem?_toArray, List.getElem?_cons_zero] at k0
      have HP1 := Lib.hid (HPZ.out.trans hp1)
      clear hp1
      go_wp2
      go_ret
      exact ⟨by rw [HBF.out]; rfl, HP1.out⟩
  · have HBF := Lib.hid (b_no HB.out (fun q => hv q.p))
    have HV := Lib.hid hv
    clear hv
    go_enter Try.func78, Try.ntmps78
    go_wp2_with fail
    rw [Hwz.out]
    refine (spv_any _ cs _ (H.out.keep HPZ.out) hs false (by simp only [Bool.false_eq_true, false_iff]; exact HV.out)).mono ?_
    rintro e w1 ⟨rfl, hp1⟩
    have HP1 := Lib.hid (HPZ.out.trans hp1)
    clear hp1
    go_wp2
    go_ret
    exact ⟨by rw [HBF.out]; rfl, HP1.out⟩

end Go.Proofs.Ytajaonejpggcbaa
