/- The graph of a program, as the reference makes it. Which programs are valid, where blocks open, and the graph of a program, as the program finds it. Which arguments a run takes: the number of lanes, the memory. Where the steps of a run lie, and by which lanes; what they cost. No program in sight. What an instruction costs. No condition. -/
import Derived.Test.YtokdfgodmhekmaaKad
import Derived.Test.YtokdfgodmhekmaaKae
import Derived.Test.YtokdfgodmhekmaaKaf
import Derived.Test.YtokdfgodmhekmaaKah
import Derived.Test.YtokdfgodmhekmaaKai

namespace Go.Proofs.Ytokdfgodmhekmaa
open Go.RowKit

/-- A table of rows of numbers, all of the call's own. -/
def RowsO (w : World) (B : Nat) (q : Value) (n : Nat) (S : Nat → List Int) (vs : List Value) : Prop :=
  OwnO w B 23 1 q n vs ∧ ∀ j, j < n → ∃ r, vs[j]? = some r ∧ OwnO w B 3 1 r (S j).length ((S j).map (.int .i64))
theorem RowsO.pure {w w' : World} {B n : Nat} {q : Value} {S : Nat → List Int} {vs : List Value} (h : RowsO w B q n S vs) (hp : Pure w w') : RowsO w' B q n S vs :=
  ⟨h.1.pure hp, fun j hj => let ⟨r, a, b⟩ := h.2 j hj; ⟨r, a, b.pure hp⟩⟩
theorem RowsO.push {w w' : World} {B n : Nat} {q q' r : Value} {S : Nat → List Int} {vs : List Value} (h : RowsO w B q n S vs) (hr : OwnO w B 3 1 r (S n).length ((S n).map (.int .i64))) (hq : OwnO w' B 23 1 q' (n + 1) (vs ++ [r])) (hg : w.grownBy w' q.ownBlock) :
    RowsO w' B q' (n + 1) S (vs ++ [r]) := by
  refine ⟨hq, fun j hj => ?_⟩
  have hl : vs.length = n := by have := h.1.1; omega
  by_cases e : j = n
  · subst e
    exact ⟨r, by rw [List.getElem?_append_right (by omega), hl]; simp, hr.kept hg (fun g hg2 => hr.ne h.1 (by decide) g hg2)⟩
  · obtain ⟨r', a, b⟩ := h.2 j (by omega)
    exact ⟨r', by rw [List.getElem?_append_left (by omega)]; exact a, b.kept hg (fun g hg2 => b.ne h.1 (by decide) g hg2)⟩
theorem Ints.of_ownO {w : World} {B e : Nat} {v : Value} {ys : List Int} (h : OwnO w B e 1 v ys.length (ys.map (.int .i64))) : Ints w v ys := by
  unfold Ints
  refine Cells.of_ownO h fun j hj => ?_
  have : j < ys.length := by omega
  simp [List.getD_eq_getElem?_getD, this]
theorem RowsO.rows {w : World} {B n : Nat} {q : Value} {S : Nat → List Int} {vs : List Value} (h : RowsO w B q n S vs) : IntRows w q ((List.range n).map S) := by
  have hl : ((List.range n).map S).length = n := by simp
  obtain ⟨A, c, rfl⟩ := h.1.form
  have hc := Cells.of_ownO (f := fun j => vs.getD j undef) h.1 (fun j hj => by
    obtain ⟨r, a, _⟩ := h.2 j (by omega)
    simp [List.getD_eq_getElem?_getD, a])
  obtain ⟨A', c', hv, h1, h2, h3⟩ := hc
  injection hv with e1 e2 e3
  subst e1 e3
  refine ⟨A, c, by rw [hl], by omega, h2, fun hn => ?_⟩
  rw [hl] at hn
  obtain ⟨b, o, e, hb, hc⟩ := h3 hn
  refine ⟨b, o, e, hb, fun k hk => ?_⟩
  rw [hl] at hk
  obtain ⟨r, a, b2⟩ := h.2 k hk
  refine ⟨r, ?_, ?_⟩
  · rw [hc k (by omega)]; simp [List.getD_eq_getElem?_getD, a]
  · have : ((List.range n).map S).getD k [] = S k := by simp [List.getD_eq_getElem?_getD, hk]
    rw [this]
    exact Ints.of_ownO b2

/-- The rows of a program's graph, the end's among them. -/
def gRow (cs : List Cd) (j : Nat) : List Int := if j < cs.length then succs cs j else []
theorem graph_rows (cs : List Cd) : (List.range (cs.length + 1)).map (gRow cs) = graph cs := by
  unfold graph
  rw [List.range_succ, List.map_append]
  congr 1
  · refine List.map_congr_left fun j hj => ?_
    unfold gRow; rw [if_pos (by simpa using hj)]
  · simp [gRow]

def GPost (cs : List Cd) (w : World) (e : Ending) (w' : World) : Prop := ∃ v, e = .returned v ∧ IntRows w' v (graph cs) ∧ Pure w w'

end Go.Proofs.Ytokdfgodmhekmaa

namespace Go.Proofs.Ytokdfgodmhekmaa
open Go.RowKit

set_option maxHeartbeats 1000000 in
set_option maxRecDepth 100000 in
theorem ipv_any (v : Value) (cs : List Cd) (w : World) (h : Codes w v cs) (hsmall : cs.length ≤ 1048576) (B : Bool) (hB : B = true ↔ PValid cs) :
    Calls Try.prog 98 #[v] w fun e w' => e = .returned (.bool B) ∧ Pure w w' := by
  have H := Lib.hid h
  have HB := Lib.hid hB
  obtain ⟨A, c, rfl, hnc, hcm⟩ := h.form
  clear h hB
  have HBF : Hid (¬ PValid cs → false = B) := fun h => by
    cases hb : B
    · rfl
    · exact absurd (HB.out.1 hb) h
  by_cases h40 : 40 < cs.length
  · go_enter Try.func98, Try.ntmps98
    go_wp2
    go_ret
    exact ⟨ret_bool (HBF.out (fun h => by have := h.2.1; omega)), Pure.refl _⟩
  · have h40' : cs.length ≤ 40 := by omega
    clear h40
    go_enter Try.func98, Try.ntmps98
    go_wp2
    go_loopg [13] cs.length (fun gk i wr => ∃ k : Nat, gk + k = cs.length ∧ i = .int .i64 k ∧ Pure w wr ∧ ∀ j, j < k → CdOk (cs.getD j default))
    case atStart => exact ⟨0, rfl, rfl, Pure.refl _, fun j hj => absurd hj (by omega)⟩
    case round =>
      obtain ⟨k, hgk, rfl, hp, hall⟩ := hrel
      have Hgk := Lib.hid hgk
      have Hall := Lib.hid hall
      have hkn : k ≤ cs.length := by omega
      clear hgk hall
      by_cases hlt : k < cs.length
      · obtain ⟨b, o, rfl, hb, hc⟩ := H.out.at_ hlt
        obtain ⟨cd, Hcd⟩ : ∃ cd, Hid (cs.getD k default = cd) := ⟨_, rfl⟩
        have hat := hc.keep hp hb
        rw [Hcd.out] at hat
        obtain ⟨q0, q1, q2, q3⟩ := hat
        clear hc
        have hpA := Lib.hid (Pure.alloc hp (.cells #[.int .i64 cd.op, .int .i64 cd.a, .int .i64 cd.b, .int .i64 cd.c] 61))
        by_cases hok : CdOk cd
        · have Hok := Lib.hid hok; clear hok
          have Hnext : Hid (∀ j, j < k + 1 → CdOk (cs.getD j default)) := fun j hj => by
            by_cases e : j = k
            · rw [e, Hcd.out]; exact Hok.out
            · exact Hall.out j (by omega)
          go_wp2_with fail
          refine (icv_any cd _ true (by simp [Hok.out])).mono ?_
          rintro e w1 ⟨rfl, hp1⟩
          have hp2 := Lib.hid (hpA.out.trans hp1)
          go_wp2
          go_roundg (cs.length - (k + 1))
          case measure => have := Hgk.out; omega
          case rel => exact ⟨k + 1, by have := Hgk.out; omega, by go_num, hp2.out, Hnext.out⟩
        · have Hok := Lib.hid hok; clear hok
          have hbad : ¬ PValid cs := fun h => Hok.out (by rw [← Hcd.out]; exact h.1 _ (cdOk_mem hlt))
          have Hbad := Lib.hid hbad
          clear hbad
          go_wp2_with fail
          refine (icv_any cd _ false (by simp [Hok.out])).mono ?_
          rintro e w1 ⟨rfl, hp1⟩
          have hp2 := Lib.hid (hpA.out.trans hp1)
          go_wp2
          go_ret
          exact ⟨ret_bool (HBF.out Hbad.out), hp2.out⟩
      · have hkl : k = cs.length := by omega
        subst hkl
        have Hcd : Hid (∀ c ∈ cs, CdOk c) := cdOk_all Hall.out
        go_wp2_with fail
        refine (blocks_any _ cs _ (H.out.keep hp) h40').mono ?_
        rintro e w2 ⟨hp2, hm⟩
        have hp3 := Lib.hid (hp.trans hp2)
        cases hs : sscan cs 0 [] with
        | none =>
          rw [hs] at hm
          subst hm
          have Hs := Lib.hid hs
          clear hs
          go_wp2
          go_ret
          exact ⟨ret_bool (HBF.out (fun h => by have := h.2.2; rw [Hs.out] at this; cases this)), hp3.out⟩
        | some st =>
          rw [hs] at hm
          obtain ⟨va, vo, rfl, ht⟩ := hm
          have Hs := Lib.hid hs
          have Ht := Lib.hid ht
          clear hs ht
          obtain ⟨D, HD⟩ : ∃ D, Hid (decide (st.length = 0) = D) := ⟨_, rfl⟩
          rw [HD.out]
          have hDB : D = B := by
            have h1 := HD.out
            have h2 := HB.out
            cases D
            · refine HBF.out fun h => ?_
              have := h.2.2
              rw [Hs.out] at this
              injection this with this
              simp [this] at h1
            · simp at h1
              subst h1
              exact (h2.2 ⟨Hcd.out, h40', Hs.out⟩).symm
          subst hDB
          clear HD
          go_wp2
          go_ret
          exact ⟨rfl, hp3.out⟩

end Go.Proofs.Ytokdfgodmhekmaa

namespace Go.Proofs.Ytokdfgodmhekmaa
open Go.RowKit

def LanesOk (a : Int) : Prop := 1 ≤ a ∧ a ≤ 8
def RunOk (cs : List Cd) (a : Int) (mem : List Int) : Prop := PValid cs ∧ LanesOk a ∧ MemOk mem
theorem memB_len {mem : List Int} {B : Bool} (h : B = true ↔ MemOk mem) (hw : ∀ x ∈ mem, Word x) : B = true ↔ (1 ≤ (mem.length : Int) ∧ (mem.length : Int) ≤ 32) := by
  rw [h]
  constructor
  · intro h; have h1 := h.1.1; have h2 := h.1.2; omega
  · intro h; exact ⟨⟨by omega, by omega⟩, hw⟩
theorem getD_mem {mem : List Int} {k : Nat} (h : k < mem.length) : mem.getD k 0 ∈ mem := by simp [List.getD_eq_getElem?_getD, h]
theorem words_of {mem : List Int} (h : ∀ j, j < mem.length → Word (mem.getD j 0)) : ∀ x ∈ mem, Word x := by
  intro x hx
  obtain ⟨j, hj, rfl⟩ := List.getElem_of_mem hx
  have := h j hj
  simpa [List.getD_eq_getElem?_getD, hj] using this

set_option maxHeartbeats 1000000 in
set_option maxRecDepth 100000 in
theorem smem_any (v : Value) (mem : List Int) (w : World) (h : Ints w v mem) (hsmall : mem.length ≤ 1099511627776) (B : Bool) (hB : B = true ↔ MemOk mem) :
    Calls Try.prog 80 #[v] w fun e w' => e = .returned (.bool B) ∧ Pure w w' := by
  have HB := Lib.hid hB
  obtain ⟨A, c, rfl, hnc, hcm, hread⟩ := h
  have HRD := Lib.hid hread
  clear hB hread
  have HBF : Hid (¬ MemOk mem → false = B) := Lib.hid fun h => by
    cases hb : B
    · rfl
    · exact absurd (HB.out.1 hb) h
  go_enter Try.func80, Try.ntmps80
  go_wp2
  go_loopg [3] mem.length (fun gk i wr => ∃ k : Nat, gk + k = mem.length ∧ i = .int .i64 k ∧ Pure w wr ∧ ∀ j, j < k → Word (mem.getD j 0))
  case atStart => exact ⟨0, rfl, rfl, Pure.refl _, fun j hj => absurd hj (by omega)⟩
  case round =>
    obtain ⟨k, hgk, rfl, hp, hall⟩ := hrel
    have Hgk := Lib.hid hgk
    have Hall := Lib.hid hall
    have hkn : k ≤ mem.length := by omega
    clear hgk hall
    by_cases hlt : k < mem.length
    · obtain ⟨b, o, rfl, hb, hc⟩ := HRD.out (by omega)
      obtain ⟨x, Hx⟩ : ∃ x, Hid (mem.getD k 0 = x) := ⟨_, rfl⟩
      have hx := (hp.cell b (o + k) hb).trans (hc k (by omega))
      try simp only [Nat.mod_one, Nat.div_one] at hx
      rw [Hx.out] at hx
      clear hc
      by_cases hok : Word x
      · have Hok := Lib.hid hok; clear hok
        have Hnext : Hid (∀ j, j < k + 1 → Word (mem.getD j 0)) := Lib.hid fun j hj => by
          by_cases e : j = k
          · rw [e, Hx.out]; exact Hok.out
          · exact Hall.out j (by omega)
        go_wp2_with fail
        refine (l2Word_any x _ true (by simp [Hok.out])).mono ?_
        rintro e w1 ⟨rfl, rfl⟩
        go_wp2
        go_roundg (mem.length - (k + 1))
        case measure => have := Hgk.out; omega
        case rel => exact ⟨k + 1, by have := Hgk.out; omega, by go_num, hp, Hnext.out⟩
      · have Hok := Lib.hid hok; clear hok
        have hbad : ¬ MemOk mem := fun h => Hok.out (by rw [← Hx.out]; exact h.2 _ (getD_mem hlt))
        have HR := Lib.hid (HBF.out hbad)
        clear hbad
        go_wp2_with fail
        refine (l2Word_any x _ false (by simp [Hok.out])).mono ?_
        rintro e w1 ⟨rfl, rfl⟩
        go_wp2
        go_ret
        exact ⟨ret_bool HR.out, hp⟩
    · have hkl : k = mem.length := by omega
      have hw : Hid (∀ x ∈ mem, Word x) := Lib.hid (words_of fun j hj => Hall.out j (by omega))
      go_wp2_with fail
      refine (l1In_any _ _ _ _ B (memB_len HB.out hw.out)).mono ?_
      rintro e w1 ⟨rfl, rfl⟩
      go_wp2
      go_ret
      exact ⟨rfl, hp⟩

set_option maxHeartbeats 400000 in
theorem imem1_any (x : Int) (w : World) (B : Bool) (hB : B = true ↔ Word x) :
    Calls Try.prog 113 #[.int .i64 x] w fun e w' => e = .returned (.bool (!B)) ∧ w = w' := by
  have HB := Lib.hid hB; clear hB
  go_enter Try.func113, Try.ntmps113
  go_wp2_with fail
  refine (isWord_any _ _ B HB.out).mono ?_
  rintro e w' ⟨rfl, rfl⟩
  go_wp2
  go_ret
  exact ⟨rfl, rfl⟩

def memBadAt (mem : List Int) (k : Nat) (v : Int) : Prop := (∃ j, j < mem.length ∧ v = (j : Nat) ∧ ¬ Word (mem.getD j 0)) ∨ (v = -1 ∧ ∀ j, j < mem.length → Word (mem.getD j 0))

set_option maxHeartbeats 1000000 in
set_option maxRecDepth 100000 in
theorem imemix_any (v : Value) (mem : List Int) (w : World) (h : Ints w v mem) (hsmall : mem.length ≤ 1099511627776) :
    Calls Try.prog 124 #[v, .func (.func 113) #[] #[]] w fun e w' => ∃ r, e = .returned (.int .i64 r) ∧ memBadAt mem 0 r ∧ Pure w w' := by
  obtain ⟨A, c, rfl, hnc, hcm, hread⟩ := h
  have HRD := Lib.hid hread
  clear hread
  go_enter Try.func124, Try.ntmps124
  go_wp2
  go_loopg [8] mem.length (fun gk i wr => ∃ k : Nat, gk + k = mem.length ∧ i = .int .i64 k ∧ Pure w wr ∧ ∀ j, j < k → Word (mem.getD j 0))
  case atStart => exact ⟨0, rfl, rfl, Pure.refl _, fun j hj => absurd hj (by omega)⟩
  case round =>
    obtain ⟨k, hgk, rfl, hp, hall⟩ := hrel
    have Hgk := Lib.hid hgk
    have Hall := Lib.hid hall
    have hkn : k ≤ mem.length := by omega
    clear hgk hall
    by_cases hlt : k < mem.length
    · obtain ⟨b, o, rfl, hb, hc⟩ := HRD.out (by omega)
      obtain ⟨x, Hx⟩ : ∃ x, Hid (mem.getD k 0 = x) := ⟨_, rfl⟩
      have hx := (hp.cell b (o + k) hb).trans (hc k (by omega))
      try simp only [Nat.mod_one, Nat.div_one] at hx
      rw [Hx.out] at hx
      clear hc
      by_cases hok : Word x
      · have Hok := Lib.hid hok; clear hok
        have Hnext : Hid (∀ j, j < k + 1 → Word (mem.getD j 0)) := Lib.hid fun j hj => by
          by_cases e : j = k
          · rw [e, Hx.out]; exact Hok.out
          · exact Hall.out j (by omega)
        go_wp2_with fail
        refine (imem1_any x _ true (by simp [Hok.out])).mono ?_
        rintro e w1 ⟨rfl, rfl⟩
        go_wp2
        go_roundg (mem.length - (k + 1))
        case measure => have := Hgk.out; omega
        case rel => exact ⟨k + 1, by have := Hgk.out; omega, by go_num, hp, Hnext.out⟩
      · have Hok := Lib.hid hok; clear hok
        have Hbad : Hid (memBadAt mem 0 (k : Nat)) := Lib.hid (.inl ⟨k, hlt, rfl, by rw [Hx.out]; exact Hok.out⟩)
        go_wp2_with fail
        refine (imem1_any x _ false (by simp [Hok.out])).mono ?_
        rintro e w1 ⟨rfl, rfl⟩
        go_wp2
        go_ret
        exact ⟨_, rfl, Hbad.out, hp⟩
    · have hw : Hid (memBadAt mem 0 (-1)) := Lib.hid (.inr ⟨rfl, fun j hj => Hall.out j (by omega)⟩)
      go_wp2
      go_ret
      exact ⟨_, rfl, hw.out, hp⟩

set_option maxHeartbeats 1000000 in
set_option maxRecDepth 100000 in
theorem imemcf_any (v : Value) (mem : List Int) (w : World) (h : Ints w v mem) (hsmall : mem.length ≤ 1099511627776) (B : Bool) (hB : B = true ↔ ∀ x ∈ mem, Word x) :
    Calls Try.prog 112 #[v, .func (.func 113) #[] #[]] w fun e w' => e = .returned (.bool (!B)) ∧ Pure w w' := by
  have H := Lib.hid h
  have HB := Lib.hid hB
  obtain ⟨A, c, rfl⟩ := h.form
  clear h hB
  go_enter Try.func112, Try.ntmps112
  go_wp2_with fail
  refine (imemix_any _ mem _ H.out hsmall).mono ?_
  rintro e w1 ⟨r, rfl, hr, hp⟩
  rcases hr with ⟨j, hj, rfl, hbad⟩ | ⟨rfl, hall⟩
  · have hf : B = false := by
      cases hb : B
      · rfl
      · exact absurd (HB.out.1 hb _ (getD_mem hj)) hbad
    subst hf
    clear hbad
    go_wp2
    go_ret
    exact ⟨rfl, hp⟩
  · have ht : B = true := HB.out.2 (words_of hall)
    subst ht
    clear hall
    go_wp2
    go_ret
    exact ⟨rfl, hp⟩

set_option maxHeartbeats 1000000 in
set_option maxRecDepth 100000 in
theorem imem_any (v : Value) (mem : List Int) (w : World) (h : Ints w v mem) (hsmall : mem.length ≤ 1099511627776) (B : Bool) (hB : B = true ↔ MemOk mem) :
    Calls Try.prog 99 #[v] w fun e w' => e = .returned (.bool B) ∧ Pure w w' := by
  have H := Lib.hid h
  have HB := Lib.hid hB
  obtain ⟨A, c, rfl, hnc, hcm, _⟩ := h
  clear hB
  by_cases hl : 1 ≤ (mem.length : Int) ∧ (mem.length : Int) ≤ 32
  · have hl' := Lib.hid hl
    have hq : Hid (B = true ↔ ∀ x ∈ mem, Word x) := Lib.hid (by rw [HB.out]; unfold MemOk; have := hl'.out; exact ⟨fun h => h.2, fun h => ⟨by omega, h⟩⟩)
    clear hl
    go_enter Try.func99, Try.ntmps99
    go_wp2_with fail
    refine (within_any _ _ _ _ true (by simp only [true_iff]; exact hl'.out)).mono ?_
    rintro e w1 ⟨rfl, rfl⟩
    go_wp2_with fail
    refine (imemcf_any _ mem _ H.out hsmall B hq.out).mono ?_
    rintro e w1 ⟨rfl, hp⟩
    go_wp2
    go_ret
    exact ⟨ret_bool (by simp), hp⟩
  · have hl' := Lib.hid hl
    have hf : B = false := by
      cases hb : B
      · rfl
      · have := (HB.out.1 hb).1; omega
    subst hf
    clear hl
    go_enter Try.func99, Try.ntmps99
    go_wp2_with fail
    refine (within_any _ _ _ _ false (by simp only [Bool.false_eq_true, false_iff]; exact hl'.out)).mono ?_
    rintro e w1 ⟨rfl, rfl⟩
    go_wp2
    go_ret
    exact ⟨rfl, Pure.refl _⟩

set_option maxHeartbeats 400000 in
theorem ilanesok_any (a : Int) (w : World) (B : Bool) (hB : B = true ↔ LanesOk a) :
    Calls Try.prog 89 #[.int .i64 a] w fun e w' => e = .returned (.bool B) ∧ w = w' := by
  have HB := Lib.hid hB; clear hB
  go_enter Try.func89, Try.ntmps89
  go_wp2_with fail
  refine (within_any _ _ _ _ B HB.out).mono ?_
  rintro e w' ⟨rfl, rfl⟩
  go_wp2
  go_ret
  exact ⟨rfl, rfl⟩

theorem runB (cs : List Cd) : ∃ B : Bool, B = true ↔ PValid cs := by classical exact ⟨decide (PValid cs), by simp⟩
theorem memB (mem : List Int) : ∃ B : Bool, B = true ↔ MemOk mem := by classical exact ⟨decide (MemOk mem), by simp⟩
theorem lanB (a : Int) : ∃ B : Bool, B = true ↔ LanesOk a := by classical exact ⟨decide (LanesOk a), by simp⟩
theorem runB_of {cs : List Cd} {a : Int} {mem : List Int} {B B1 B2 B3 : Bool} (h : B = true ↔ RunOk cs a mem) (h1 : B1 = true ↔ PValid cs) (h2 : B2 = true ↔ LanesOk a) (h3 : B3 = true ↔ MemOk mem) : B = (B1 && (B2 && B3)) := by
  rw [Bool.eq_iff_iff, h]; unfold RunOk; rw [← h1, ← h2, ← h3]; simp

set_option maxHeartbeats 1000000 in
set_option maxRecDepth 100000 in
theorem icanrun_any (vl vm : Value) (cs : List Cd) (a : Int) (mem : List Int) (w : World) (h : Codes w vl cs) (hm : Ints w vm mem) (hs1 : cs.length ≤ 1048576) (hs2 : mem.length ≤ 1048576) (B : Bool) (hB : B = true ↔ RunOk cs a mem) :
    Calls Try.prog 75 #[vl, .int .i64 a, vm] w fun e w' => e = .returned (.bool B) ∧ Pure w w' := by
  obtain ⟨B1, h1⟩ := runB cs
  obtain ⟨B2, h2⟩ := lanB a
  obtain ⟨B3, h3⟩ := memB mem
  obtain rfl := runB_of hB h1 h2 h3
  have H := Lib.hid h
  have HM := Lib.hid hm
  have H1 := Lib.hid h1
  have H2 := Lib.hid h2
  have H3 := Lib.hid h3
  obtain ⟨A, c, rfl, hnc, hcm⟩ := h.form
  obtain ⟨Am, cm, rfl⟩ := hm.form
  clear h hm h1 h2 h3 hB
  go_enter Try.func75, Try.ntmps75
  go_wp2_with fail
  refine (ipv_any _ cs _ H.out hs1 B1 H1.out).mono ?_
  rintro e w1 ⟨rfl, hp1⟩
  cases B1
  · go_wp2
    go_ret
    exact ⟨rfl, hp1⟩
  go_wp2_with fail
  refine (ilanesok_any a _ B2 H2.out).mono ?_
  rintro e w2 ⟨rfl, rfl⟩
  cases B2
  · go_wp2
    go_ret
    exact ⟨rfl, hp1⟩
  go_wp2_with fail
  refine (imem_any _ mem _ (HM.out.keep hp1) (by omega) B3 H3.out).mono ?_
  rintro e w3 ⟨rfl, hp3⟩
  go_wp2
  go_ret
  exact ⟨ret_bool (by simp), hp1.trans hp3⟩

set_option maxHeartbeats 1000000 in
set_option maxRecDepth 100000 in
theorem sok_any (vl vm : Value) (cs : List Cd) (a : Int) (mem : List Int) (w : World) (h : Codes w vl cs) (hm : Ints w vm mem) (hs1 : cs.length ≤ 1048576) (hs2 : mem.length ≤ 1048576) (B : Bool) (hB : B = true ↔ RunOk cs a mem) :
    Calls Try.prog 57 #[vl, .int .i64 a, vm] w fun e w' => e = .returned (.bool B) ∧ Pure w w' := by
  obtain ⟨B1, h1⟩ := runB cs
  obtain ⟨B2, h2⟩ := lanB a
  obtain ⟨B3, h3⟩ := memB mem
  obtain rfl := runB_of hB h1 h2 h3
  have H := Lib.hid h
  have HM := Lib.hid hm
  have H1 := Lib.hid h1
  have H2 := Lib.hid h2
  have H3 := Lib.hid h3
  obtain ⟨A, c, rfl, hnc, hcm⟩ := h.form
  obtain ⟨Am, cm, rfl⟩ := hm.form
  clear h hm h1 h2 h3 hB
  go_enter Try.func57, Try.ntmps57
  go_wp2_with fail
  refine (spv_any _ cs _ H.out hs1 B1 H1.out).mono ?_
  rintro e w1 ⟨rfl, hp1⟩
  cases B1
  · go_wp2
    go_ret
    exact ⟨rfl, hp1⟩
  go_wp2_with fail
  refine (l1In_any a 1 8 _ B2 H2.out).mono ?_
  rintro e w2 ⟨rfl, rfl⟩
  cases B2
  · go_wp2
    go_ret
    exact ⟨rfl, hp1⟩
  go_wp2_with fail
  refine (smem_any _ mem _ (HM.out.keep hp1) (by omega) B3 H3.out).mono ?_
  rintro e w3 ⟨rfl, hp3⟩
  go_wp2
  go_ret
  exact ⟨ret_bool (by simp), hp1.trans hp3⟩

end Go.Proofs.Ytokdfgodmhekmaa

namespace Go.Proofs.Ytokdfgodmhekmaa

def StepIn (n a b : Nat) (x : Nat × Nat × (Nat → Nat → Int)) : Prop := a ≤ x.1 ∧ x.1 < b ∧ x.2.1 ≠ 0 ∧ x.2.1 < 2 ^ n
theorem StepIn.wide {n a b a' b' : Nat} {x : Nat × Nat × (Nat → Nat → Int)} (h : StepIn n a b x) (ha : a' ≤ a) (hb : b ≤ b') : StepIn n a' b' x := ⟨Nat.le_trans ha h.1, Nat.lt_of_lt_of_le h.2.1 hb, h.2.2⟩
theorem beat_in {n i mask b : Nat} {s : LS} {x : Nat × Nat × (Nat → Nat → Int)} (hm : mask < 2 ^ n) (h0 : mask ≠ 0) (hb : i < b) (h : x ∈ (beat i mask s).H) : x ∈ s.H ∨ StepIn n i b x := by
  rcases List.mem_append.1 h with h | h
  · exact .inl h
  · simp at h; subst h; exact .inr ⟨Nat.le_refl _, hb, h0, hm⟩
theorem turns_in {F : Nat → LS → LS} {n a lo hi : Nat} (hF : ∀ y s x, y < 2 ^ n → x ∈ (F y s).H → x ∈ s.H ∨ StepIn n lo hi x) : ∀ (b y : Nat) (s : LS) (x), x ∈ (turns F n a b y s).H → x ∈ s.H ∨ StepIn n lo hi x
  | 0, _, _, _, h => .inl h
  | b + 1, y, s, x, h => by
    rcases turns_in hF b (onesTo s.R y a n) (F (onesTo s.R y a n) s) x h with h | h
    · exact hF _ _ _ (onesTo_lt _ _ _ _) h
    · exact .inr h
theorem runStepIn (n m : Nat) : ∀ (t : Tr) (i mask : Nat) (s : LS) (x), mask < 2 ^ n → x ∈ (run n m t i mask s).H → x ∈ s.H ∨ StepIn n i (i + t.len) x
  | .nil, _, _, _, _, _, h => .inl h
  | .op c k, i, mask, s, x, hm, h => by
    rw [Tr.len_op]
    by_cases h0 : mask = 0
    · subst h0; rw [run_zero] at h; exact .inl h
    · have h : x ∈ (if mask = 0 then s else run n m k (i + 1) mask (exec c n m i mask s) : LS).H := h
      rw [if_neg h0] at h
      rcases runStepIn n m k _ _ _ _ hm h with h | h
      · rw [exec_H] at h
        exact beat_in (s := s) hm h0 (by omega) h
      · exact .inr (h.wide (by omega) (by omega))
  | .ite a t k, i, mask, s, x, hm, h => by
    rw [Tr.len_ite]
    by_cases h0 : mask = 0
    · subst h0; rw [run_zero] at h; exact .inl h
    · have h : x ∈ (if mask = 0 then s else _ : LS).H := h
      rw [if_neg h0] at h
      rcases runStepIn n m k _ _ _ _ hm h with h | h
      · rcases runStepIn n m t _ _ _ _ (onesTo_lt _ _ _ _) h with h | h
        · exact beat_in (s := s) hm h0 (by omega) h
        · exact .inr (h.wide (by omega) (by omega))
      · exact .inr (h.wide (by omega) (by omega))
  | .itee a t e k, i, mask, s, x, hm, h => by
    rw [Tr.len_itee]
    by_cases h0 : mask = 0
    · subst h0; rw [run_zero] at h; exact .inl h
    · have h : x ∈ (if mask = 0 then s else _ : LS).H := h
      rw [if_neg h0] at h
      rcases runStepIn n m k _ _ _ _ hm h with h | h
      · rcases runStepIn n m e _ _ _ _ (del_lt2 _ hm) h with h | h
        · rcases runStepIn n m t _ _ _ _ (onesTo_lt _ _ _ _) h with h | h
          · exact beat_in (s := s) hm h0 (by omega) h
          · exact .inr (h.wide (by omega) (by omega))
        · exact .inr (h.wide (by omega) (by omega))
      · exact .inr (h.wide (by omega) (by omega))
  | .loop a b t k, i, mask, s, x, hm, h => by
    rw [Tr.len_loop]
    by_cases h0 : mask = 0
    · subst h0; rw [run_zero] at h; exact .inl h
    · have h : x ∈ (if mask = 0 then s else _ : LS).H := h
      rw [if_neg h0] at h
      rcases runStepIn n m k _ _ _ _ hm h with h | h
      · rcases turns_in (lo := i) (hi := i + (1 + t.len + 1 + k.len)) (fun y s x hy hx => (runStepIn n m t _ _ _ _ hy hx).imp id fun h => h.wide (by omega) (by omega)) _ _ _ _ h with h | h
        · exact beat_in (s := s) hm h0 (by omega) h
        · exact .inr (h.wide (by omega) (by omega))
      · exact .inr (h.wide (by omega) (by omega))

def cdCost (c : Cd) : Nat := if c.op = 4 then 2 else if c.op = 8 ∨ c.op = 9 then 4 else if c.op = 12 ∨ c.op = 14 then 0 else 1
theorem cdCost_le (c : Cd) : cdCost c ≤ 4 := by unfold cdCost; split; omega; split; omega; split <;> omega
def costTo (cs : List Cd) (H : List (Nat × Nat × (Nat → Nat → Int))) : Nat → Nat
  | 0 => 0
  | j + 1 => costTo cs H j + cdCost (cs.getD (H.getD j default).1 default)
theorem costTo_le (cs : List Cd) (H : List (Nat × Nat × (Nat → Nat → Int))) : ∀ j, costTo cs H j ≤ 4 * j
  | 0 => Nat.le_refl _
  | j + 1 => by
    have h1 := costTo_le cs H j
    have h2 := cdCost_le (cs.getD (H.getD j default).1 default)
    show costTo cs H j + _ ≤ _
    omega

end Go.Proofs.Ytokdfgodmhekmaa

namespace Go.Proofs.Ytokdfgodmhekmaa
open Go.RowKit

theorem eqI (x y : Int) : ((x == y) = true ∧ x = y) ∨ ((x == y) = false ∧ x ≠ y) := by
  by_cases h : x = y
  · exact .inl ⟨by simp [h], h⟩
  · exact .inr ⟨by simp [h], h⟩

set_option maxHeartbeats 1000000 in
set_option maxRecDepth 100000 in
theorem scost_any (cd : Cd) (w : World) (h : CdOk cd) (q : Nat) (hq : cdCost cd = q) :
    Calls Try.prog 66 #[.agg #[.int .i64 cd.op, .int .i64 cd.a, .int .i64 cd.b, .int .i64 cd.c]] w fun e w' => e = .returned (.int .i64 (q : Nat)) ∧ Pure w w' := by
  have H := Lib.hid h
  have HQ := Lib.hid hq
  obtain ⟨op, a, b, c⟩ := cd
  clear h hq
  unfold cdCost at HQ
  have HP := Lib.hid (show Pure w (w.alloc (.cells #[.int .i64 op, .int .i64 a, .int .i64 b, .int .i64 c] 61)) from Pure.alloc (Pure.refl _) _)
  have hx0 : (w.alloc (.cells #[.int .i64 op, .int .i64 a, .int .i64 b, .int .i64 c] 61)).cell? ⟨w.heap.size, 0, none⟩ = some (.int .i64 op) := (cell_of_row _ _ 0 _ _ _ (heap_alloc_new w (.cells #[.int .i64 op, .int .i64 a, .int .i64 b, .int .i64 c] 61))).trans rfl
  have HX := Lib.hid hx0
  clear hx0
  by_cases ho : op = 4 ∨ op = 8 ∨ op = 9 ∨ op = 12 ∨ op = 14
  · rcases ho with rfl | rfl | rfl | rfl | rfl
    all_goals
      obtain rfl : _ = q := HQ.out
      clear HQ
      go_enter Try.func66, Try.ntmps66
      go_wp2_with fail
      refine (scv_any ⟨_, a, b, c⟩ _ true ⟨fun _ => H.out, fun _ => rfl⟩).mono ?_
      rintro e w1 ⟨rfl, hp1⟩
      have hx := keepPc hp1 HX.out
      clear HX
      go_wp2
      go_ret
      exact ⟨rfl, HP.out.trans hp1⟩
  · have HO := Lib.hid ho; clear ho
    have d4 : (op == 4) = false := by have := HO.out; rw [beq_eq_false_iff_ne]; omega
    have d8 : (op == 8) = false := by have := HO.out; rw [beq_eq_false_iff_ne]; omega
    have d9 : (op == 9) = false := by have := HO.out; rw [beq_eq_false_iff_ne]; omega
    have d12 : (op == 12) = false := by have := HO.out; rw [beq_eq_false_iff_ne]; omega
    have d14 : (op == 14) = false := by have := HO.out; rw [beq_eq_false_iff_ne]; omega
    obtain rfl : 1 = q := by
      have h1 := HQ.out
      have h2 := HO.out
      rw [← h1, if_neg (by show ¬ op = 4; omega), if_neg (by show ¬ (op = 8 ∨ op = 9); omega), if_neg (by show ¬ (op = 12 ∨ op = 14); omega)]
    clear HQ
    go_enter Try.func66, Try.ntmps66
    go_wp2_with fail
    refine (scv_any ⟨_, a, b, c⟩ _ true ⟨fun _ => H.out, fun _ => rfl⟩).mono ?_
    rintro e w1 ⟨rfl, hp1⟩
    have hx := keepPc hp1 HX.out
    clear HX
    go_wp2
    go_ret
    exact ⟨rfl, HP.out.trans hp1⟩

set_option maxHeartbeats 1000000 in
set_option maxRecDepth 100000 in
theorem icost_any (cd : Cd) (w : World) (h : CdOk cd) (q : Nat) (hq : cdCost cd = q) :
    Calls Try.prog 88 #[.agg #[.int .i64 cd.op, .int .i64 cd.a, .int .i64 cd.b, .int .i64 cd.c]] w fun e w' => e = .returned (.int .i64 (q : Nat)) ∧ Pure w w' := by
  have H := Lib.hid h
  have HQ := Lib.hid hq
  obtain ⟨op, a, b, c⟩ := cd
  clear h hq
  unfold cdCost at HQ
  have HP := Lib.hid (show Pure w (w.alloc (.cells #[.int .i64 op, .int .i64 a, .int .i64 b, .int .i64 c] 61)) from Pure.alloc (Pure.refl _) _)
  have hx0 : (w.alloc (.cells #[.int .i64 op, .int .i64 a, .int .i64 b, .int .i64 c] 61)).cell? ⟨w.heap.size, 0, none⟩ = some (.int .i64 op) := (cell_of_row _ _ 0 _ _ _ (heap_alloc_new w (.cells #[.int .i64 op, .int .i64 a, .int .i64 b, .int .i64 c] 61))).trans rfl
  have HX := Lib.hid hx0
  clear hx0
  by_cases ho : op = 4 ∨ op = 8 ∨ op = 9 ∨ op = 12 ∨ op = 14
  · rcases ho with rfl | rfl | rfl | rfl | rfl
    all_goals
      obtain rfl : _ = q := HQ.out
      clear HQ
      go_enter Try.func88, Try.ntmps88
      go_wp2_with fail
      refine (icv_any ⟨_, a, b, c⟩ _ true ⟨fun _ => H.out, fun _ => rfl⟩).mono ?_
      rintro e w1 ⟨rfl, hp1⟩
      have hx := keepPc hp1 HX.out
      clear HX
      go_wp2
      go_ret
      exact ⟨rfl, HP.out.trans hp1⟩
  · have HO := Lib.hid ho; clear ho
    have d4 : (op == 4) = false := by have := HO.out; rw [beq_eq_false_iff_ne]; omega
    have d8 : (op == 8) = false := by have := HO.out; rw [beq_eq_false_iff_ne]; omega
    have d9 : (op == 9) = false := by have := HO.out; rw [beq_eq_false_iff_ne]; omega
    have d12 : (op == 12) = false := by have := HO.out; rw [beq_eq_false_iff_ne]; omega
    have d14 : (op == 14) = false := by have := HO.out; rw [beq_eq_false_iff_ne]; omega
    obtain rfl : 1 = q := by
      have h1 := HQ.out
      have h2 := HO.out
      rw [← h1, if_neg (by show ¬ op = 4; omega), if_neg (by show ¬ (op = 8 ∨ op = 9); omega), if_neg (by show ¬ (op = 12 ∨ op = 14); omega)]
    clear HQ
    go_enter Try.func88, Try.ntmps88
    go_wp2_with fail
    refine (icv_any ⟨_, a, b, c⟩ _ true ⟨fun _ => H.out, fun _ => rfl⟩).mono ?_
    rintro e w1 ⟨rfl, hp1⟩
    have hx := keepPc hp1 HX.out
    clear HX
    go_wp2
    go_ret
    exact ⟨rfl, HP.out.trans hp1⟩

end Go.Proofs.Ytokdfgodmhekmaa
