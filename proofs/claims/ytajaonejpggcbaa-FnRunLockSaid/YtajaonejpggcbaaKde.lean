/- Races, plainly: by members of the list; with a barrier more or an instruction less no race comes up. No program in sight. Safe programs have no races. No program in sight. No condition. -/
import Derived.Test.YtajaonejpggcbaaKcb
import Derived.Test.YtajaonejpggcbaaKda
import Derived.Test.YtajaonejpggcbaaKdd

namespace Go.Proofs.Ytajaonejpggcbaa

theorem clash_iff {x y : Ac} : clashB x y = true ↔ x.ph = y.ph ∧ x.who ≠ y.who ∧ x.cell = y.cell ∧ (x.wr = true ∨ y.wr = true) := by
  unfold clashB
  simp [Bool.and_eq_true, bne_iff_ne]
theorem clash_symm {x y : Ac} (h : clashB x y = true) : clashB y x = true := by
  rw [clash_iff] at h ⊢
  exact ⟨h.1.symm, fun e => h.2.1 e.symm, h.2.2.1.symm, h.2.2.2.symm⟩
theorem clash_irr (x : Ac) : clashB x x = false := by
  cases h : clashB x x
  · rfl
  · exact absurd rfl (clash_iff.1 h).2.1
theorem acMem {A : List Ac} {p : Nat} (h : p < A.length) : A.getD p default ∈ A := by
  simp [List.getD_eq_getElem?_getD, h]
theorem race_iff {A : List Ac} : Race A ↔ ∃ x ∈ A, ∃ y ∈ A, clashB x y = true := by
  constructor
  · rintro ⟨q, p, h1, h2, h3⟩
    exact ⟨_, acMem (by omega), _, acMem h2, h3⟩
  · rintro ⟨x, hx, y, hy, h⟩
    obtain ⟨i, hi, rfl⟩ := List.getElem_of_mem hx
    obtain ⟨j, hj, rfl⟩ := List.getElem_of_mem hy
    rcases Nat.lt_trichotomy i j with hij | hij | hij
    · exact ⟨j, i, hij, hj, by simpa [List.getD_eq_getElem?_getD, hi, hj] using h⟩
    · subst hij; rw [clash_irr] at h; cases h
    · exact ⟨i, j, hij, hi, by have := clash_symm h; simpa [List.getD_eq_getElem?_getD, hi, hj] using this⟩
theorem race_sub {A B : List Ac} (h : ∀ x ∈ A, x ∈ B) (hr : Race A) : Race B := by
  rw [race_iff] at hr ⊢
  obtain ⟨x, hx, y, hy, h1⟩ := hr
  exact ⟨x, h x hx, y, h y hy, h1⟩
theorem clash_up {e : Nat} {x y : Ac} : clashB (acUp e x) (acUp e y) = clashB x y := by
  unfold clashB acUp
  have : (x.ph + e == y.ph + e) = (x.ph == y.ph) := by rw [Bool.eq_iff_iff, beq_iff_eq, beq_iff_eq]; omega
  simp only [this]
/-- With a barrier more no race comes up. -/
theorem race_ins {X L : List Ac} {p : Nat} (h1 : ∀ x ∈ X, x.ph ≤ p) (h2 : ∀ x ∈ L, p ≤ x.ph) (hr : Race (X ++ L.map (acUp 1))) : Race (X ++ L) := by
  rw [race_iff] at hr ⊢
  obtain ⟨x, hx, y, hy, hc⟩ := hr
  have hmix : ∀ x ∈ X, ∀ z ∈ L, clashB x (acUp 1 z) = true → False := by
    intro x hx z hz hc
    have := (clash_iff.1 hc).1
    have e : (acUp 1 z).ph = z.ph + 1 := rfl
    have := h1 x hx; have := h2 z hz; omega
  rcases List.mem_append.1 hx with hx | hx
  · rcases List.mem_append.1 hy with hy | hy
    · exact ⟨x, List.mem_append_left _ hx, y, List.mem_append_left _ hy, hc⟩
    · obtain ⟨z, hz, rfl⟩ := List.mem_map.1 hy
      exact absurd hc (fun hc => hmix x hx z hz hc)
  · obtain ⟨z, hz, rfl⟩ := List.mem_map.1 hx
    rcases List.mem_append.1 hy with hy | hy
    · exact absurd (clash_symm hc) (fun hc => hmix y hy z hz hc)
    · obtain ⟨u, hu, rfl⟩ := List.mem_map.1 hy
      rw [clash_up] at hc
      exact ⟨z, List.mem_append_right _ hz, u, List.mem_append_right _ hu, hc⟩
theorem ins_safe {cs : List Cd} {at_ n : Nat} {mem : List Int} (hok : RunOk cs n mem) (h40 : cs.length + 1 ≤ 40) (h : at_ = 0 ∨ (at_ ≤ cs.length ∧ aroundAt cs at_ = -1)) :
    RunOk (insC cs at_) n mem ∧ memA (insC cs at_) n mem = memA cs n mem ∧ wholeA (insC cs at_) n mem = wholeA cs n mem ∧ (freeA cs n mem = true → freeA (insC cs at_) n mem = true) := by
  have hn : 1 ≤ n := by have := hok.2.1.1; omega
  obtain ⟨hp, hM, hS, X, L, p, hA, hA', h1, h2, _⟩ := ins_lock (mem := mem) hn hok.1 h40 h
  have hk : RunOk (insC cs at_) n mem := ⟨hp, hok.2⟩
  refine ⟨hk, ?_, ?_, ?_⟩
  · rw [memA_ok hk, memA_ok hok, hM]
  · rw [wholeA_ok hk, wholeA_ok hok, hS]
  · rw [freeA_iff hok, freeA_iff hk, lockA_ok hok, lockA_ok hk, hA, hA']
    exact fun hno hr => hno (race_ins h1 h2 hr)
theorem ins_later {cs : List Cd} {n : Nat} {mem : List Int} (hok : RunOk cs n mem) (h40 : cs.length + 1 ≤ 40) : RunOk (cBar :: cs) n mem ∧ (lockA (cBar :: cs) n mem).A = (lockA cs n mem).A.map (acUp 1) := by
  have hn : 1 ≤ n := by have := hok.2.1.1; omega
  obtain ⟨hp, _, _, X, L, p, hA, hA', _, _, h0⟩ := ins_lock (at_ := 0) (mem := mem) hn hok.1 h40 (.inl rfl)
  have e0 : insC cs 0 = cBar :: cs := rfl
  rw [e0] at hp hA'
  have hk : RunOk (cBar :: cs) n mem := ⟨hp, hok.2⟩
  rw [h0 rfl, List.nil_append] at hA hA'
  exact ⟨hk, by rw [lockA_ok hok, lockA_ok hk, hA, hA']⟩

/-- The phases are small. -/
theorem lockA_ph {cs : List Cd} {a : Int} {mem : List Int} : ∀ x ∈ (lockA cs a mem).A, x.ph ≤ 1099511627776 := by
  by_cases h : RunOk cs a mem
  · obtain ⟨n, rfl, hn1, hn8⟩ := lanes_nat h.2.1
    rw [lockA_ok h]
    obtain ⟨h1, h2, h3⟩ := treeOf_spec h.1
    have hc := h.1.cost h1 h2 h3
    have hm := run_msz n mem.length hn8 (treeOf cs) 0 (2 ^ n - 1) (startLS mem)
    have hp := phase_le (cs := cs) n mem.length (mask := 2 ^ n - 1) (s := startLS mem) h2 (Seg.whole h1) (full_lt n) (fun x hx => absurd hx (by simp [startLS]))
    have h0 : msz (startLS mem) = 0 := rfl
    intro x hx
    have := hp x hx
    unfold msz at hm h0
    omega
  · rw [lockA_no h]; exact fun x hx => absurd hx (by simp [noLS])

end Go.Proofs.Ytajaonejpggcbaa

namespace Go.Proofs.Ytajaonejpggcbaa

theorem free_race {A : List Ac} (h : ¬ Race A) : Free A := by
  intro x hx y hy hp hw hc
  refine Classical.byContradiction fun hn => h (race_iff.2 ⟨x, hx, y, hy, clash_iff.2 ⟨hp, hw, hc, ?_⟩⟩)
  cases hxw : x.wr
  · cases hyw : y.wr
    · exact absurd ⟨hxw, hyw⟩ hn
    · exact .inr rfl
  · exact .inl rfl
theorem free_safe {cs : List Cd} {n : Nat} {mem : List Int} (hok : RunOk cs n mem) (h : freeA cs n mem = true) : Free (lockOf cs n mem).A := by
  have := (freeA_iff hok).1 h
  rw [lockA_ok hok] at this
  exact free_race this

end Go.Proofs.Ytajaonejpggcbaa
