/- Programs without split barriers; programs with one lane. No program in sight. No condition. -/
import Derived.Test.YtajaonejpggcbaaKbd
import Derived.Test.YtajaonejpggcbaaKbf
import Derived.Test.YtajaonejpggcbaaKci

namespace Go.Proofs.Ytajaonejpggcbaa

theorem nosp_of_split {cs : List Cd} {n : Nat} {H : List (Nat × Nat × (Nat → Nat → Int))} (h : splitH cs n H = false) : NoSp cs n H := by
  intro x hx h10
  unfold splitH at h
  rw [List.any_eq_false] at h
  have := h x hx
  rw [h10] at this
  simp at this
  exact this
theorem split_of_nosp {cs : List Cd} {n : Nat} {H : List (Nat × Nat × (Nat → Nat → Int))} (h : NoSp cs n H) : splitH cs n H = false := by
  unfold splitH
  rw [List.any_eq_false]
  intro x hx
  by_cases h10 : (cs.getD x.1 default).op = 10
  · rw [h x hx h10]; simp
  · rw [decide_eq_false h10]; simp
theorem nosp_whole {cs : List Cd} {n : Nat} {mem : List Int} (hok : RunOk cs n mem) (h : wholeA cs n mem = true) : NoSp cs n (lockOf cs n mem).H := by
  rw [wholeA_ok hok] at h
  exact nosp_of_split (by simpa using h)
theorem exec_who {cs : List Cd} {n m : Nat} {s s' : CS} (h : Exec cs n m s s') (hs : ∀ x ∈ s.A, x.who < n) : ∀ x ∈ s'.A, x.who < n := by
  induction h with
  | refl s => exact hs
  | step s k s' hk hg _ ih =>
    refine ih fun x hx => ?_
    rcases List.mem_append.1 hx with hx | hx
    · exact hs x hx
    · unfold lnAcc at hx
      simp only at hx
      split at hx
      · simp at hx; rw [hx]; exact hk
      · simp at hx
  | pass s s' hg _ ih => exact ih hs
  | note s H s' _ ih => exact ih hs
theorem one_ok {cs : List Cd} {n : Nat} {mem : List Int} (hok : RunOk cs n mem) : RunOk cs (1 : Nat) mem := ⟨hok.1, ⟨by decide, by decide⟩, hok.2.2⟩
theorem one_nosp {cs : List Cd} {mem : List Int} (hok : RunOk cs (1 : Nat) mem) : NoSp cs 1 (lockOf cs 1 mem).H := by
  intro x hx _
  obtain ⟨_, _, h3, h4⟩ := lockOf_in hok.1 x hx
  omega
theorem one_whole {cs : List Cd} {mem : List Int} (hok : RunOk cs (1 : Nat) mem) : wholeA cs (1 : Nat) mem = true := by
  rw [wholeA_ok hok, split_of_nosp (one_nosp hok)]; rfl
theorem one_free {cs : List Cd} {mem : List Int} (hok : RunOk cs (1 : Nat) mem) : Free (lockOf cs 1 mem).A := by
  obtain ⟨c, ⟨j, rfl⟩, _, g3⟩ := lock_sync hok (one_nosp hok)
  have hw := exec_who (exec_iter (cs := cs) (n := 1) (m := mem.length) (startCS mem) j) (fun x hx => by simp [startCS] at hx)
  rw [← g3.ac]
  intro x hx y hy _ hne _
  have := hw x hx
  have := hw y hy
  omega

end Go.Proofs.Ytajaonejpggcbaa
