/- Which arguments a run takes: the number of lanes, the memory. No condition. -/
import Derived.Test.YtokdfgodmhekmaaAll8
import Derived.Test.YtokdfgodmhekmaaIGraph
namespace Go.Proofs.Ytokdfgodmhekmaa
open Go.RowKit

def LanesOk (a : Int) : Prop := 1 ≤ a ∧ a ≤ 8
def RunOk (cs : List Cd) (a : Int) (mem : List Int) : Prop := PValid cs ∧ LanesOk a ∧ MemOk mem
theorem memB_len {mem : List Int} {B : Bool} (h : B = true ↔ MemOk mem) (hw : ∀ x ∈ mem, Word x) : B = true ↔ (1 ≤ (mem.length : Int) ∧ (mem.length : Int) ≤ 32) := by
  rw [h]
  constructor
  · intro h; have h1 := h.1.1; have h2 := h.1.2; omega
  · intro h; exact ⟨⟨by omega, by omega⟩, hw⟩
theorem getD_mem {mem : List Int} {k : Nat} (h : k < mem.length) : mem.getD k 0 ∈ mem := by simp [List.getD_eq_getElem?_getD, h]
theorem words_of {mem : List Int} (h : ∀ j, j < mem.length → Word (mem.getD j 0)) : ∀ x ∈ mem, Word x := by
  intro x hx
  obtain ⟨j, hj, rfl⟩ := List.getElem_of_mem hx
  have := h j hj
  simpa [List.getD_eq_getElem?_getD, hj] using this

set_option maxHeartbeats 1000000 in
set_option maxRecDepth 100000 in
theorem smem_any (v : Value) (mem : List Int) (w : World) (h : Ints w v mem) (hsmall : mem.length ≤ 1099511627776) (B : Bool) (hB : B = true ↔ MemOk mem) :
    Calls Try.prog 80 #[v] w fun e w' => e = .returned (.bool B) ∧ Pure w w' := by
  have HB := Lib.hid hB
  obtain ⟨A, c, rfl, hnc, hcm, hread⟩ := h
  have HRD := Lib.hid hread
  clear hB hread
  have HBF : Hid (¬ MemOk mem → false = B) := Lib.hid fun h => by
    cases hb : B
    · rfl
    · exact absurd (HB.out.1 hb) h
  go_enter Try.func80, Try.ntmps80
  go_wp2
  go_loopg [3] mem.length (fun gk i wr => ∃ k : Nat, gk + k = mem.length ∧ i = .int .i64 k ∧ Pure w wr ∧ ∀ j, j < k → Word (mem.getD j 0))
  case atStart => exact ⟨0, rfl, rfl, Pure.refl _, fun j hj => absurd hj (by omega)⟩
  case round =>
    obtain ⟨k, hgk, rfl, hp, hall⟩ := hrel
    have Hgk := Lib.hid hgk
    have Hall := Lib.hid hall
    have hkn : k ≤ mem.length := by omega
    clear hgk hall
    by_cases hlt : k < mem.length
    · obtain ⟨b, o, rfl, hb, hc⟩ := HRD.out (by omega)
      obtain ⟨x, Hx⟩ : ∃ x, Hid (mem.getD k 0 = x) := ⟨_, rfl⟩
      have hx := (hp.cell b (o + k) hb).trans (hc k (by omega))
      try simp only [Nat.mod_one, Nat.div_one] at hx
      rw [Hx.out] at hx
      clear hc
      by_cases hok : Word x
      · have Hok := Lib.hid hok; clear hok
        have Hnext : Hid (∀ j, j < k + 1 → Word (mem.getD j 0)) := Lib.hid fun j hj => by
          by_cases e : j = k
          · rw [e, Hx.out]; exact Hok.out
          · exact Hall.out j (by omega)
        go_wp2_with fail
        refine (l2Word_any x _ true (by simp [Hok.out])).mono ?_
        rintro e w1 ⟨rfl, rfl⟩
        go_wp2
        go_roundg (mem.length - (k + 1))
        case measure => have := Hgk.out; omega
        case rel => exact ⟨k + 1, by have := Hgk.out; omega, by go_num, hp, Hnext.out⟩
      · have Hok := Lib.hid hok; clear hok
        have hbad : ¬ MemOk mem := fun h => Hok.out (by rw [← Hx.out]; exact h.2 _ (getD_mem hlt))
        have HR := Lib.hid (HBF.out hbad)
        clear hbad
        go_wp2_with fail
        refine (l2Word_any x _ false (by simp [Hok.out])).mono ?_
        rintro e w1 ⟨rfl, rfl⟩
        go_wp2
        go_ret
        exact ⟨ret_bool HR.out, hp⟩
    · have hkl : k = mem.length := by omega
      have hw : Hid (∀ x ∈ mem, Word x) := Lib.hid (words_of fun j hj => Hall.out j (by omega))
      go_wp2_with fail
      refine (l1In_any _ _ _ _ B (memB_len HB.out hw.out)).mono ?_
      rintro e w1 ⟨rfl, rfl⟩
      go_wp2
      go_ret
      exact ⟨rfl, hp⟩

set_option maxHeartbeats 400000 in
theorem imem1_any (x : Int) (w : World) (B : Bool) (hB : B = true ↔ Word x) :
    Calls Try.prog 113 #[.int .i64 x] w fun e w' => e = .returned (.bool (!B)) ∧ w = w' := by
  have HB := Lib.hid hB; clear hB
  go_enter Try.func113, Try.ntmps113
  go_wp2_with fail
  refine (isWord_any _ _ B HB.out).mono ?_
  rintro e w' ⟨rfl, rfl⟩
  go_wp2
  go_ret
  exact ⟨rfl, rfl⟩

def memBadAt (mem : List Int) (k : Nat) (v : Int) : Prop := (∃ j, j < mem.length ∧ v = (j : Nat) ∧ ¬ Word (mem.getD j 0)) ∨ (v = -1 ∧ ∀ j, j < mem.length → Word (mem.getD j 0))

set_option maxHeartbeats 1000000 in
set_option maxRecDepth 100000 in
theorem imemix_any (v : Value) (mem : List Int) (w : World) (h : Ints w v mem) (hsmall : mem.length ≤ 1099511627776) :
    Calls Try.prog 124 #[v, .func (.func 113) #[] #[]] w fun e w' => ∃ r, e = .returned (.int .i64 r) ∧ memBadAt mem 0 r ∧ Pure w w' := by
  obtain ⟨A, c, rfl, hnc, hcm, hread⟩ := h
  have HRD := Lib.hid hread
  clear hread
  go_enter Try.func124, Try.ntmps124
  go_wp2
  go_loopg [8] mem.length (fun gk i wr => ∃ k : Nat, gk + k = mem.length ∧ i = .int .i64 k ∧ Pure w wr ∧ ∀ j, j < k → Word (mem.getD j 0))
  case atStart => exact ⟨0, rfl, rfl, Pure.refl _, fun j hj => absurd hj (by omega)⟩
  case round =>
    obtain ⟨k, hgk, rfl, hp, hall⟩ := hrel
    have Hgk := Lib.hid hgk
    have Hall := Lib.hid hall
    have hkn : k ≤ mem.length := by omega
    clear hgk hall
    by_cases hlt : k < mem.length
    · obtain ⟨b, o, rfl, hb, hc⟩ := HRD.out (by omega)
      obtain ⟨x, Hx⟩ : ∃ x, Hid (mem.getD k 0 = x) := ⟨_, rfl⟩
      have hx := (hp.cell b (o + k) hb).trans (hc k (by omega))
      try simp only [Nat.mod_one, Nat.div_one] at hx
      rw [Hx.out] at hx
      clear hc
      by_cases hok : Word x
      · have Hok := Lib.hid hok; clear hok
        have Hnext : Hid (∀ j, j < k + 1 → Word (mem.getD j 0)) := Lib.hid fun j hj => by
          by_cases e : j = k
          · rw [e, Hx.out]; exact Hok.out
          · exact Hall.out j (by omega)
        go_wp2_with fail
        refine (imem1_any x _ true (by simp [Hok.out])).mono ?_
        rintro e w1 ⟨rfl, rfl⟩
        go_wp2
        go_roundg (mem.length - (k + 1))
        case measure => have := Hgk.out; omega
        case rel => exact ⟨k + 1, by have := Hgk.out; omega, by go_num, hp, Hnext.out⟩
      · have Hok := Lib.hid hok; clear hok
        have Hbad : Hid (memBadAt mem 0 (k : Nat)) := Lib.hid (.inl ⟨k, hlt, rfl, by rw [Hx.out]; exact Hok.out⟩)
        go_wp2_with fail
        refine (imem1_any x _ false (by simp [Hok.out])).mono ?_
        rintro e w1 ⟨rfl, rfl⟩
        go_wp2
        go_ret
        exact ⟨_, rfl, Hbad.out, hp⟩
    · have hw : Hid (memBadAt mem 0 (-1)) := Lib.hid (.inr ⟨rfl, fun j hj => Hall.out j (by omega)⟩)
      go_wp2
      go_ret
      exact ⟨_, rfl, hw.out, hp⟩

set_option maxHeartbeats 1000000 in
set_option maxRecDepth 100000 in
theorem imemcf_any (v : Value) (mem : List Int) (w : World) (h : Ints w v mem) (hsmall : mem.length ≤ 1099511627776) (B : Bool) (hB : B = true ↔ ∀ x ∈ mem, Word x) :
    Calls Try.prog 112 #[v, .func (.func 113) #[] #[]] w fun e w' => e = .returned (.bool (!B)) ∧ Pure w w' := by
  have H := Lib.hid h
  have HB := Lib.hid hB
  obtain ⟨A, c, rfl⟩ := h.form
  clear h hB
  go_enter Try.func112, Try.ntmps112
  go_wp2_with fail
  refine (imemix_any _ mem _ H.out hsmall).mono ?_
  rintro e w1 ⟨r, rfl, hr, hp⟩
  rcases hr with ⟨j, hj, rfl, hbad⟩ | ⟨rfl, hall⟩
  · have hf : B = false := by
      cases hb : B
      · rfl
      · exact absurd (HB.out.1 hb _ (getD_mem hj)) hbad
    subst hf
    clear hbad
    go_wp2
    go_ret
    exact ⟨rfl, hp⟩
  · have ht : B = true := HB.out.2 (words_of hall)
    subst ht
    clear hall
    go_wp2
    go_ret
    exact ⟨rfl, hp⟩

set_option maxHeartbeats 1000000 in
set_option maxRecDepth 100000 in
theorem imem_any (v : Value) (mem : List Int) (w : World) (h : Ints w v mem) (hsmall : mem.length ≤ 1099511627776) (B : Bool) (hB : B = true ↔ MemOk mem) :
    Calls Try.prog 99 #[v] w fun e w' => e = .returned (.bool B) ∧ Pure w w' := by
  have H := Lib.hid h
  have HB := Lib.hid hB
  obtain ⟨A, c, rfl, hnc, hcm, _⟩ := h
  clear hB
  by_cases hl : 1 ≤ (mem.length : Int) ∧ (mem.length : Int) ≤ 32
  · have hl' := Lib.hid hl
    have hq : Hid (B = true ↔ ∀ x ∈ mem, Word x) := Lib.hid (by rw [HB.out]; unfold MemOk; have := hl'.out; exact ⟨fun h => h.2, fun h => ⟨by omega, h⟩⟩)
    clear hl
    go_enter Try.func99, Try.ntmps99
    go_wp2_with fail
    refine (within_any _ _ _ _ true (by simp only [true_iff]; exact hl'.out)).mono ?_
    rintro e w1 ⟨rfl, rfl⟩
    go_wp2_with fail
    refine (imemcf_any _ mem _ H.out hsmall B hq.out).mono ?_
    rintro e w1 ⟨rfl, hp⟩
    go_wp2
    go_ret
    exact ⟨ret_bool (by simp), hp⟩
  · have hl' := Lib.hid hl
    have hf : B = false := by
      cases hb : B
      · rfl
      · have := (HB.out.1 hb).1; omega
    subst hf
    clear hl
    go_enter Try.func99, Try.ntmps99
    go_wp2_with fail
    refine (within_any _ _ _ _ false (by simp only [Bool.false_eq_true, false_iff]; exact hl'.out)).mono ?_
    rintro e w1 ⟨rfl, rfl⟩
    go_wp2
    go_ret
    exact ⟨rfl, Pure.refl _⟩

set_option maxHeartbeats 400000 in
theorem ilanesok_any (a : Int) (w : World) (B : Bool) (hB : B = true ↔ LanesOk a) :
    Calls Try.prog 89 #[.int .i64 a] w fun e w' => e = .returned (.bool B) ∧ w = w' := by
  have HB := Lib.hid hB; clear hB
  go_enter Try.func89, Try.ntmps89
  go_wp2_with fail
  refine (within_any _ _ _ _ B HB.out).mono ?_
  rintro e w' ⟨rfl, rfl⟩
  go_wp2
  go_ret
  exact ⟨rfl, rfl⟩

theorem runB (cs : List Cd) : ∃ B : Bool, B = true ↔ PValid cs := by classical exact ⟨decide (PValid cs), by simp⟩
theorem memB (mem : List Int) : ∃ B : Bool, B = true ↔ MemOk mem := by classical exact ⟨decide (MemOk mem), by simp⟩
theorem lanB (a : Int) : ∃ B : Bool, B = true ↔ LanesOk a := by classical exact ⟨decide (LanesOk a), by simp⟩
theorem runB_of {cs : List Cd} {a : Int} {mem : List Int} {B B1 B2 B3 : Bool} (h : B = true ↔ RunOk cs a mem) (h1 : B1 = true ↔ PValid cs) (h2 : B2 = true ↔ LanesOk a) (h3 : B3 = true ↔ MemOk mem) : B = (B1 && (B2 && B3)) := by
  rw [Bool.eq_iff_iff, h]; unfold RunOk; rw [← h1, ← h2, ← h3]; simp

set_option maxHeartbeats 1000000 in
set_option maxRecDepth 100000 in
theorem icanrun_any (vl vm : Value) (cs : List Cd) (a : Int) (mem : List Int) (w : World) (h : Codes w vl cs) (hm : Ints w vm mem) (hs1 : cs.length ≤ 1048576) (hs2 : mem.length ≤ 1048576) (B : Bool) (hB : B = true ↔ RunOk cs a mem) :
    Calls Try.prog 75 #[vl, .int .i64 a, vm] w fun e w' => e = .returned (.bool B) ∧ Pure w w' := by
  obtain ⟨B1, h1⟩ := runB cs
  obtain ⟨B2, h2⟩ := lanB a
  obtain ⟨B3, h3⟩ := memB mem
  obtain rfl := runB_of hB h1 h2 h3
  have H := Lib.hid h
  have HM := Lib.hid hm
  have H1 := Lib.hid h1
  have H2 := Lib.hid h2
  have H3 := Lib.hid h3
  obtain ⟨A, c, rfl, hnc, hcm⟩ := h.form
  obtain ⟨Am, cm, rfl⟩ := hm.form
  clear h hm h1 h2 h3 hB
  go_enter Try.func75, Try.ntmps75
  go_wp2_with fail
  refine (ipv_any _ cs _ H.out hs1 B1 H1.out).mono ?_
  rintro e w1 ⟨rfl, hp1⟩
  cases B1
  · go_wp2
    go_ret
    exact ⟨rfl, hp1⟩
  go_wp2_with fail
  refine (ilanesok_any a _ B2 H2.out).mono ?_
  rintro e w2 ⟨rfl, rfl⟩
  cases B2
  · go_wp2
    go_ret
    exact ⟨rfl, hp1⟩
  go_wp2_with fail
  refine (imem_any _ mem _ (HM.out.keep hp1) (by omega) B3 H3.out).mono ?_
  rintro e w3 ⟨rfl, hp3⟩
  go_wp2
  go_ret
  exact ⟨ret_bool (by simp), hp1.trans hp3⟩

set_option maxHeartbeats 1000000 in
set_option maxRecDepth 100000 in
theorem sok_any (vl vm : Value) (cs : List Cd) (a : Int) (mem : List Int) (w : World) (h : Codes w vl cs) (hm : Ints w vm mem) (hs1 : cs.length ≤ 1048576) (hs2 : mem.length ≤ 1048576) (B : Bool) (hB : B = true ↔ RunOk cs a mem) :
    Calls Try.prog 57 #[vl, .int .i64 a, vm] w fun e w' => e = .returned (.bool B) ∧ Pure w w' := by
  obtain ⟨B1, h1⟩ := runB cs
  obtain ⟨B2, h2⟩ := lanB a
  obtain ⟨B3, h3⟩ := memB mem
  obtain rfl := runB_of hB h1 h2 h3
  have H := Lib.hid h
  have HM := Lib.hid hm
  have H1 := Lib.hid h1
  have H2 := Lib.hid h2
  have H3 := Lib.hid h3
  obtain ⟨A, c, rfl, hnc, hcm⟩ := h.form
  obtain ⟨Am, cm, rfl⟩ := hm.form
  clear h hm h1 h2 h3 hB
  go_enter Try.func57, Try.ntmps57
  go_wp2_with fail
  refine (spv_any _ cs _ H.out hs1 B1 H1.out).mono ?_
  rintro e w1 ⟨rfl, hp1⟩
  cases B1
  · go_wp2
    go_ret
    exact ⟨rfl, hp1⟩
  go_wp2_with fail
  refine (l1In_any a 1 8 _ B2 H2.out).mono ?_
  rintro e w2 ⟨rfl, rfl⟩
  cases B2
  · go_wp2
    go_ret
    exact ⟨rfl, hp1⟩
  go_wp2_with fail
  refine (smem_any _ mem _ (HM.out.keep hp1) (by omega) B3 H3.out).mono ?_
  rintro e w3 ⟨rfl, hp3⟩
  go_wp2
  go_ret
  exact ⟨ret_bool (by simp), hp1.trans hp3⟩

end Go.Proofs.Ytokdfgodmhekmaa
