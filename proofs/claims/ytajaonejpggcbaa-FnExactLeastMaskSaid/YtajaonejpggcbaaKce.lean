/- Lanes that do not race: what they leave does not depend on the order of their steps. No program in sight. No condition. -/
import Derived.Test.YtajaonejpggcbaaKcd

namespace Go.Proofs.Ytajaonejpggcbaa

theorem lnStep_M {cs : List Cd} {m id : Nat} {l : Ln} {M M' : Nat → Int} (h : (cs.getD l.at_ default).op = 8 → M (cellOf (cs.getD l.at_ default) m l.R) = M' (cellOf (cs.getD l.at_ default) m l.R)) : lnStep cs m id l M = lnStep cs m id l M' := by
  have hs : simR (cs.getD l.at_ default) id m l.R M = simR (cs.getD l.at_ default) id m l.R M' := by
    unfold simR
    by_cases h8 : (cs.getD l.at_ default).op = 8
    · rw [h h8]
    · simp only [h8, if_false]
  unfold lnStep
  simp only [hs]

/-- A lane alone, from a state on. -/
def al (cs : List Cd) (m : Nat) (L0 : Nat → Ln) (M0 : Nat → Int) (k : Nat) : Nat → Ln × (Nat → Int)
  | 0 => (L0 k, M0)
  | j + 1 => let r := al cs m L0 M0 k j
    if goesL cs.length r.1 = true then (lnStep cs m k r.1 r.2, lnMem cs m r.1 r.2) else r
def alA (cs : List Cd) (m : Nat) (L0 : Nat → Ln) (M0 : Nat → Int) (ph k : Nat) : Nat → List Ac
  | 0 => []
  | j + 1 => let r := al cs m L0 M0 k j
    if goesL cs.length r.1 = true then alA cs m L0 M0 ph k j ++ lnAcc cs m k ph r.1 else alA cs m L0 M0 ph k j
def Wrote (cs : List Cd) (m : Nat) (L0 : Nat → Ln) (M0 : Nat → Int) (k j x : Nat) : Prop := ∃ a ∈ alA cs m L0 M0 0 k j, a.cell = x ∧ a.wr = true

section
variable {cs : List Cd} {n m : Nat} {L0 : Nat → Ln} {M0 : Nat → Int}
theorem lnAcc_ph (k ph ph' : Nat) (l : Ln) : lnAcc cs m k ph l = (lnAcc cs m k ph' l).map fun a => { a with ph := ph } := by
  unfold lnAcc; simp only; split <;> rfl
theorem alA_ph (ph ph' k : Nat) : ∀ j, alA cs m L0 M0 ph k j = (alA cs m L0 M0 ph' k j).map fun a => { a with ph := ph }
  | 0 => rfl
  | j + 1 => by
    unfold alA
    simp only
    split
    · rw [List.map_append, alA_ph ph ph' k j, lnAcc_ph k ph ph']
    · exact alA_ph ph ph' k j
theorem alA_who (ph k : Nat) : ∀ j, ∀ a ∈ alA cs m L0 M0 ph k j, a.who = k ∧ a.ph = ph
  | 0 => by simp [alA]
  | j + 1 => by
    intro a ha
    unfold alA at ha
    simp only at ha
    split at ha
    · rcases List.mem_append.1 ha with ha | ha
      · exact alA_who ph k j a ha
      · unfold lnAcc at ha
        simp only at ha
        split at ha
        · simp at ha; rw [ha]; exact ⟨rfl, rfl⟩
        · simp at ha
    · exact alA_who ph k j a ha
theorem al_succ (k j : Nat) : al cs m L0 M0 k (j + 1) = if goesL cs.length (al cs m L0 M0 k j).1 = true then (lnStep cs m k (al cs m L0 M0 k j).1 (al cs m L0 M0 k j).2, lnMem cs m (al cs m L0 M0 k j).1 (al cs m L0 M0 k j).2) else al cs m L0 M0 k j := rfl
theorem alA_succ (ph k j : Nat) : alA cs m L0 M0 ph k (j + 1) = if goesL cs.length (al cs m L0 M0 k j).1 = true then alA cs m L0 M0 ph k j ++ lnAcc cs m k ph (al cs m L0 M0 k j).1 else alA cs m L0 M0 ph k j := rfl
theorem lnAcc_store {k ph : Nat} {l : Ln} (h9 : (cs.getD l.at_ default).op = 9) : lnAcc cs m k ph l = [⟨k, cellOf (cs.getD l.at_ default) m l.R, true, ph⟩] := by
  unfold lnAcc; simp only; rw [if_pos (.inr h9), decide_eq_true h9]
theorem al_stop {k j : Nat} (h : goesL cs.length (al cs m L0 M0 k j).1 = false) : ∀ d, al cs m L0 M0 k (j + d) = al cs m L0 M0 k j
  | 0 => rfl
  | d + 1 => by
    rw [show j + (d + 1) = (j + d) + 1 from rfl, al_succ, al_stop h d, if_neg (by rw [h]; simp)]
theorem alA_stop {ph k j : Nat} (h : goesL cs.length (al cs m L0 M0 k j).1 = false) : ∀ d, alA cs m L0 M0 ph k (j + d) = alA cs m L0 M0 ph k j
  | 0 => rfl
  | d + 1 => by
    rw [show j + (d + 1) = (j + d) + 1 from rfl, alA_succ, al_stop h d, if_neg (by rw [h]; simp)]
    exact alA_stop h d
theorem alA_mono {ph k : Nat} (j : Nat) : ∀ d, ∀ a ∈ alA cs m L0 M0 ph k j, a ∈ alA cs m L0 M0 ph k (j + d)
  | 0, _, h => h
  | d + 1, a, h => by
    show a ∈ (if _ then _ else _ : List Ac)
    split
    · exact List.mem_append_left _ (alA_mono j d a h)
    · exact alA_mono j d a h
theorem alA_most {ph k j : Nat} (h : goesL cs.length (al cs m L0 M0 k j).1 = false) (i : Nat) : ∀ a ∈ alA cs m L0 M0 ph k i, a ∈ alA cs m L0 M0 ph k j := by
  intro a ha
  by_cases hij : i ≤ j
  · obtain ⟨d, rfl⟩ : ∃ d, j = i + d := ⟨j - i, by omega⟩
    exact alA_mono i d a ha
  · obtain ⟨d, rfl⟩ : ∃ d, i = j + d := ⟨i - j, by omega⟩
    rwa [alA_stop h d] at ha
theorem al_mem {k x : Nat} : ∀ j, ¬ Wrote cs m L0 M0 k j x → (al cs m L0 M0 k j).2 x = M0 x
  | 0, _ => rfl
  | j + 1, h => by
    have h' : ¬ Wrote cs m L0 M0 k j x := fun ⟨a, h1, h2⟩ => h ⟨a, alA_mono j 1 a h1, h2⟩
    have ih := al_mem j h'
    show (if _ then _ else _ : Ln × (Nat → Int)).2 x = _
    split
    · rename_i hg
      show simM _ m _ _ x = _
      unfold simM
      split
      · rename_i h9
        unfold setF
        split
        · rename_i hx
          refine absurd ⟨⟨k, x, true, 0⟩, ?_, rfl, rfl⟩ h
          show _ ∈ (if goesL cs.length (al cs m L0 M0 k j).1 = true then _ else _ : List Ac)
          rw [if_pos hg]
          refine List.mem_append_right _ ?_
          rw [lnAcc_store h9, hx]
          exact List.mem_singleton.2 rfl
        · exact ih
      · exact ih
    · exact ih

/-- In the middle of a phase: every lane is where it would be alone; every cell holds what the lane that wrote it would have left there alone. -/
structure Mid (cs : List Cd) (n m : Nat) (L0 : Nat → Ln) (M0 : Nat → Int) (J : Nat → Nat) (L : Nat → Ln) (M : Nat → Int) : Prop where
  ln : ∀ k, k < n → L k = (al cs m L0 M0 k (J k)).1
  out : ∀ k, n ≤ k → L k = L0 k
  wr : ∀ k, k < n → ∀ x, Wrote cs m L0 M0 k (J k) x → M x = (al cs m L0 M0 k (J k)).2 x
  un : ∀ x, (∀ k, k < n → ¬ Wrote cs m L0 M0 k (J k) x) → M x = M0 x
/-- The lanes' accesses do not clash. -/
def NoC (cs : List Cd) (n m : Nat) (L0 : Nat → Ln) (M0 : Nat → Int) (J : Nat → Nat) : Prop :=
  ∀ k l, k < n → l < n → k ≠ l → ∀ a ∈ alA cs m L0 M0 0 k (J k), ∀ b ∈ alA cs m L0 M0 0 l (J l), a.cell = b.cell → a.wr = false ∧ b.wr = false
theorem Mid.start : Mid cs n m L0 M0 (fun _ => 0) L0 M0 :=
  ⟨fun _ _ => rfl, fun _ _ => rfl, fun _ _ _ h => by obtain ⟨a, h1, _⟩ := h; simp [alA] at h1, fun _ _ => rfl⟩
def upJ (J : Nat → Nat) (k : Nat) : Nat → Nat := fun l => if l = k then J k + 1 else J l
theorem upJ_same (J : Nat → Nat) (k : Nat) : upJ J k k = J k + 1 := if_pos rfl
theorem upJ_ne (J : Nat → Nat) {k l : Nat} (h : l ≠ k) : upJ J k l = J l := if_neg h

theorem Mid.step {J : Nat → Nat} {L : Nat → Ln} {M : Nat → Int} {k : Nat} (h : Mid cs n m L0 M0 J L M) (hk : k < n) (hg : goesL cs.length (L k) = true) (hn : NoC cs n m L0 M0 (upJ J k)) :
    Mid cs n m L0 M0 (upJ J k) (fun l => if l = k then lnStep cs m k (L k) M else L l) (lnMem cs m (L k) M) := by
  have hL := h.ln k hk
  have hg' : goesL cs.length (al cs m L0 M0 k (J k)).1 = true := by rw [← hL]; exact hg
  have hal : al cs m L0 M0 k (J k + 1) = (lnStep cs m k (al cs m L0 M0 k (J k)).1 (al cs m L0 M0 k (J k)).2, lnMem cs m (al cs m L0 M0 k (J k)).1 (al cs m L0 M0 k (J k)).2) := by
    show (if _ then _ else _) = _
    rw [if_pos hg']
  have hac : alA cs m L0 M0 0 k (J k + 1) = alA cs m L0 M0 0 k (J k) ++ lnAcc cs m k 0 (L k) := by
    show (if _ then _ else _) = _
    rw [if_pos hg', ← hL]
  -- the cell that is used holds what it holds for the lane alone
  have hcell : ((cs.getD (L k).at_ default).op = 8 ∨ (cs.getD (L k).at_ default).op = 9) → ∀ l, l < n → l ≠ k → ¬ Wrote cs m L0 M0 l (J l) (cellOf (cs.getD (L k).at_ default) m (L k).R) := by
    rintro ho l hl hlk ⟨a, h1, h2, h3⟩
    have := hn k l hk hl (fun e => hlk e.symm) ⟨k, cellOf (cs.getD (L k).at_ default) m (L k).R, decide ((cs.getD (L k).at_ default).op = 9), 0⟩
      (by rw [upJ_same, hac]; refine List.mem_append_right _ ?_; unfold lnAcc; simp only; rw [if_pos ho]; simp) a (by rw [upJ_ne J hlk]; exact h1) h2.symm
    rw [h3] at this
    cases this.2
  have hload : (cs.getD (L k).at_ default).op = 8 → M (cellOf (cs.getD (L k).at_ default) m (L k).R) = (al cs m L0 M0 k (J k)).2 (cellOf (cs.getD (L k).at_ default) m (L k).R) := fun h8 => by
    by_cases hw : Wrote cs m L0 M0 k (J k) (cellOf (cs.getD (L k).at_ default) m (L k).R)
    · exact h.wr k hk _ hw
    · rw [al_mem _ hw]
      refine h.un _ fun l hl => ?_
      by_cases e : l = k
      · subst e; exact hw
      · exact hcell (.inl h8) l hl e
  have hst : lnStep cs m k (L k) M = (al cs m L0 M0 k (J k + 1)).1 := by
    rw [hal, ← hL]
    exact lnStep_M hload
  have hm9 : ∀ x, lnMem cs m (L k) M x = if (cs.getD (L k).at_ default).op = 9 ∧ x = cellOf (cs.getD (L k).at_ default) m (L k).R then (L k).R (cs.getD (L k).at_ default).a.toNat else M x := fun x => by
    unfold lnMem simM
    by_cases h9 : (cs.getD (L k).at_ default).op = 9
    · rw [if_pos h9]
      unfold setF
      by_cases hx : x = cellOf (cs.getD (L k).at_ default) m (L k).R
      · rw [if_pos hx, if_pos ⟨h9, hx⟩]
      · rw [if_neg hx, if_neg (fun e => hx e.2)]
    · rw [if_neg h9, if_neg (fun e => h9 e.1)]
  have hm9' : ∀ x, (al cs m L0 M0 k (J k + 1)).2 x = if (cs.getD (L k).at_ default).op = 9 ∧ x = cellOf (cs.getD (L k).at_ default) m (L k).R then (L k).R (cs.getD (L k).at_ default).a.toNat else (al cs m L0 M0 k (J k)).2 x := fun x => by
    rw [hal, ← hL]
    unfold lnMem simM
    by_cases h9 : (cs.getD (L k).at_ default).op = 9
    · rw [if_pos h9]
      unfold setF
      by_cases hx : x = cellOf (cs.getD (L k).at_ default) m (L k).R
      · simp only [hx, if_true]; rw [if_pos ⟨h9, trivial⟩]
      · simp only [hx, if_false]; rw [if_neg (fun e => e.2)]
    · rw [if_neg h9, if_neg (fun e => h9 e.1)]
  have hwk : ∀ x, Wrote cs m L0 M0 k (J k + 1) x ↔ Wrote cs m L0 M0 k (J k) x ∨ ((cs.getD (L k).at_ default).op = 9 ∧ x = cellOf (cs.getD (L k).at_ default) m (L k).R) := fun x => by
    unfold Wrote
    rw [hac]
    constructor
    · rintro ⟨a, h1, h2, h3⟩
      rcases List.mem_append.1 h1 with h1 | h1
      · exact .inl ⟨a, h1, h2, h3⟩
      · unfold lnAcc at h1
        simp only at h1
        split at h1
        · simp only [List.mem_singleton] at h1
          subst h1
          simp only [decide_eq_true_eq] at h3
          exact .inr ⟨h3, h2.symm⟩
        · simp at h1
    · rintro (⟨a, h1, h2⟩ | ⟨h9, rfl⟩)
      · exact ⟨a, List.mem_append_left _ h1, h2⟩
      · exact ⟨_, List.mem_append_right _ (by rw [lnAcc_store h9]; exact List.mem_singleton.2 rfl), rfl, rfl⟩
  refine ⟨fun l hl => ?_, fun l hl => ?_, fun l hl x hw => ?_, fun x hx => ?_⟩
  · by_cases e : l = k
    · subst e; simp only [if_true]; rw [upJ_same, hst]
    · simp only [e, if_false]; rw [upJ_ne J e]; exact h.ln l hl
  · simp only [show ¬ l = k by omega, if_false]; exact h.out l hl
  · by_cases e : l = k
    · subst e
      rw [upJ_same] at hw ⊢
      rw [hm9, hm9']
      split
      · rfl
      · rename_i hne
        rcases (hwk x).1 hw with hw | hw
        · exact h.wr l hl x hw
        · exact absurd hw hne
    · rw [upJ_ne J e] at hw ⊢
      rw [hm9, if_neg]
      · exact h.wr l hl x hw
      · rintro ⟨h9, rfl⟩
        exact hcell (.inr h9) l hl e hw
  · rw [hm9, if_neg]
    · refine h.un x fun l hl hw => hx l hl ?_
      by_cases e : l = k
      · subst e; rw [upJ_same]; exact (hwk x).2 (.inl hw)
      · rw [upJ_ne J e]; exact hw
    · intro hq
      refine hx k hk ?_
      rw [upJ_same]
      exact (hwk x).2 (.inr hq)

/-- The end of a phase is the same on all ways. -/
theorem Mid.end_unique {J J' : Nat → Nat} {L L' : Nat → Ln} {M M' : Nat → Int} (h : Mid cs n m L0 M0 J L M) (h' : Mid cs n m L0 M0 J' L' M') (hg : anyGo cs L n = false) (hg' : anyGo cs L' n = false) : L = L' ∧ M = M' := by
  have g1 : ∀ k, k < n → goesL cs.length (al cs m L0 M0 k (J k)).1 = false := fun k hk => by
    rw [← h.ln k hk]
    cases hq : goesL cs.length (L k)
    · rfl
    · rw [anyGo_iff.2 ⟨k, hk, hq⟩] at hg; cases hg
  have g2 : ∀ k, k < n → goesL cs.length (al cs m L0 M0 k (J' k)).1 = false := fun k hk => by
    rw [← h'.ln k hk]
    cases hq : goesL cs.length (L' k)
    · rfl
    · rw [anyGo_iff.2 ⟨k, hk, hq⟩] at hg'; cases hg'
  have e1 : ∀ k, k < n → al cs m L0 M0 k (J k) = al cs m L0 M0 k (J' k) := fun k hk => by
    by_cases hij : J k ≤ J' k
    · obtain ⟨d, hd⟩ : ∃ d, J' k = J k + d := ⟨J' k - J k, by omega⟩
      rw [hd, al_stop (g1 k hk) d]
    · obtain ⟨d, hd⟩ : ∃ d, J k = J' k + d := ⟨J k - J' k, by omega⟩
      rw [hd, al_stop (g2 k hk) d]
  have e2 : ∀ k x, k < n → (Wrote cs m L0 M0 k (J k) x ↔ Wrote cs m L0 M0 k (J' k) x) := fun k x hk =>
    ⟨fun ⟨a, q1, q2⟩ => ⟨a, alA_most (g2 k hk) _ a q1, q2⟩, fun ⟨a, q1, q2⟩ => ⟨a, alA_most (g1 k hk) _ a q1, q2⟩⟩
  constructor
  · funext k
    by_cases hk : k < n
    · rw [h.ln k hk, h'.ln k hk, e1 k hk]
    · rw [h.out k (by omega), h'.out k (by omega)]
  · funext x
    by_cases hw : ∃ k, k < n ∧ Wrote cs m L0 M0 k (J k) x
    · obtain ⟨k, hk, hw⟩ := hw
      rw [h.wr k hk x hw, h'.wr k hk x ((e2 k x hk).1 hw), e1 k hk]
    · have hw1 : ∀ k, k < n → ¬ Wrote cs m L0 M0 k (J k) x := fun k hk hh => hw ⟨k, hk, hh⟩
      rw [h.un x hw1, h'.un x fun k hk hh => hw1 k hk ((e2 k x hk).2 hh)]
end

/-- From one state, phase by phase, without clashes, to the end, where the memory is Mf. -/
inductive Safe (cs : List Cd) (n m : Nat) (Mf : Nat → Int) : (Nat → Ln) → (Nat → Int) → Prop
  | fin (L0 : Nat → Ln) (M0 : Nat → Int) (J : Nat → Nat) (L : Nat → Ln) (hm : Mid cs n m L0 M0 J L Mf) (hg : anyGo cs L n = false) (hn : ∀ J', NoC cs n m L0 M0 J') (hw : ∀ k, k < n → (L k).W = false) : Safe cs n m Mf L0 M0
  | bar (L0 : Nat → Ln) (M0 : Nat → Int) (J : Nat → Nat) (L : Nat → Ln) (M : Nat → Int) (hm : Mid cs n m L0 M0 J L M) (hg : anyGo cs L n = false) (hn : ∀ J', NoC cs n m L0 M0 J') (hs : Safe cs n m Mf (freeL n L) M) : Safe cs n m Mf L0 M0
theorem Safe.noC {cs : List Cd} {n m : Nat} {Mf : Nat → Int} {L0 : Nat → Ln} {M0 : Nat → Int} (h : Safe cs n m Mf L0 M0) : ∀ J, NoC cs n m L0 M0 J := by
  cases h with
  | fin _ _ J L hm hg hn hw => exact hn
  | bar _ _ J L M hm hg hn hs => exact hn

/-- Steps of lanes that can go on, in any order, and barriers that are passed. -/
inductive Exec (cs : List Cd) (n m : Nat) : CS → CS → Prop
  | refl (s : CS) : Exec cs n m s s
  | step (s : CS) (k : Nat) (s' : CS) (hk : k < n) (hg : goesL cs.length (s.L k) = true) (h : Exec cs n m (laneS cs m k s) s') : Exec cs n m s s'
  | pass (s s' : CS) (hg : anyGo cs s.L n = false) (h : Exec cs n m { s with L := freeL n s.L, P := s.P + 1 } s') : Exec cs n m s s'
  | note (s : CS) (H : List (Nat × Nat)) (s' : CS) (h : Exec cs n m { s with H := H } s') : Exec cs n m s s'
theorem Exec.trans {cs : List Cd} {n m : Nat} {a b c : CS} (h : Exec cs n m a b) (k : Exec cs n m b c) : Exec cs n m a c := by
  induction h with
  | refl s => exact k
  | step s j s' hk hg _ ih => exact .step _ j _ hk hg (ih k)
  | pass s s' hg _ ih => exact .pass _ _ hg (ih k)
  | note s H s' _ ih => exact .note _ H _ (ih k)
theorem Exec.mono {cs : List Cd} {n m : Nat} {a b : CS} (h : Exec cs n m a b) : ∀ x ∈ a.A, x ∈ b.A := by
  induction h with
  | refl s => exact fun _ h => h
  | step s j s' hk hg _ ih => exact fun x hx => ih x (List.mem_append_left _ hx)
  | pass s s' hg _ ih => exact ih
  | note s H s' _ ih => exact ih
theorem exec_least {cs : List Cd} {n m : Nat} (s : CS) : Exec cs n m s (leastStep cs n m s) := by
  unfold leastStep
  split
  · exact .refl _
  · obtain ⟨_, _, h3, _, _⟩ := least_spec (cs := cs) (L := s.L) n
    refine .note _ (noteC cs (leastTo cs s.L n).2 (leastTo cs s.L n).1 s).H _ ?_
    have e : ({ s with H := (noteC cs (leastTo cs s.L n).2 (leastTo cs s.L n).1 s).H } : CS) = noteC cs (leastTo cs s.L n).2 (leastTo cs s.L n).1 s := rfl
    rw [e]
    have hst : ∀ j, j ≤ n → Exec cs n m (noteC cs (leastTo cs s.L n).2 (leastTo cs s.L n).1 s) (stepTo cs m (leastTo cs s.L n).1 j (noteC cs (leastTo cs s.L n).2 (leastTo cs s.L n).1 s)) := by
      intro j
      induction j with
      | zero => exact fun _ => .refl _
      | succ j ih =>
        intro hj
        refine (ih (by omega)).trans ?_
        show Exec cs n m _ (if _ then _ else _)
        split
        · rename_i hb
          refine .step _ j _ (by omega) ?_ (.refl _)
          rw [step_at j j (.inl (Nat.le_refl _))]
          have := h3 j
          rw [hb] at this
          simp only [Bool.true_eq, Bool.and_eq_true] at this
          exact this.2.1
        · exact .refl _
    refine (hst n (Nat.le_refl _)).trans ?_
    unfold passS
    split
    · exact .refl _
    · rename_i hq
      simp only [Bool.or_eq_true, Bool.not_eq_true', not_or, Bool.not_eq_false] at hq
      exact .pass _ _ (by simpa using hq.1) (.refl _)
theorem exec_iter {cs : List Cd} {n m : Nat} (s : CS) : ∀ j, Exec cs n m s (lIter cs n m j s)
  | 0 => .refl _
  | j + 1 => (exec_iter s j).trans (exec_least _)

/-- No two accesses of a list clash. -/
def Free (A : List Ac) : Prop := ∀ x ∈ A, ∀ y ∈ A, x.ph = y.ph → x.who ≠ y.who → x.cell = y.cell → x.wr = false ∧ y.wr = false
theorem Free.noC {cs : List Cd} {n m ph : Nat} {L0 : Nat → Ln} {M0 : Nat → Int} {J : Nat → Nat} {A : List Ac} (hA : Free A) (hs : ∀ k, k < n → ∀ a ∈ alA cs m L0 M0 ph k (J k), a ∈ A) : NoC cs n m L0 M0 J := by
  intro k l hk hl hkl a ha b hb hc
  rw [alA_ph 0 ph] at ha hb
  obtain ⟨a', ha', rfl⟩ := List.mem_map.1 ha
  obtain ⟨b', hb', rfl⟩ := List.mem_map.1 hb
  obtain ⟨w1, p1⟩ := alA_who ph k _ a' ha'
  obtain ⟨w2, p2⟩ := alA_who ph l _ b' hb'
  exact hA a' (hs k hk a' ha') b' (hs l hl b' hb') (by rw [p1, p2]) (by rw [w1, w2]; exact hkl) hc
theorem exec_safe {cs : List Cd} {n m : Nat} {s s' : CS} (h : Exec cs n m s s') (hd : anyGo cs s'.L n = false) (hw : ∀ k, k < n → (s'.L k).W = false) (hA : Free s'.A) :
    ∀ (L0 : Nat → Ln) (M0 : Nat → Int) (J : Nat → Nat), Mid cs n m L0 M0 J s.L s.M → (∀ k, k < n → ∀ a ∈ alA cs m L0 M0 s.P k (J k), a ∈ s.A) → Safe cs n m s'.M L0 M0 := by
  induction h with
  | refl s =>
    intro L0 M0 J hm ha
    refine .fin L0 M0 J s.L hm hd (fun J' => hA.noC (ph := s.P) fun k hk a q => ha k hk a (alA_most ?_ _ a q)) hw
    rw [← hm.ln k hk]
    cases hq : goesL cs.length (s.L k)
    · rfl
    · rw [anyGo_iff.2 ⟨k, hk, hq⟩] at hd; cases hd
  | step s k s' hk hg h ih =>
    intro L0 M0 J hm ha
    have ha' : ∀ l, l < n → ∀ a ∈ alA cs m L0 M0 s.P l (upJ J k l), a ∈ (laneS cs m k s).A := fun l hl a q => by
      show a ∈ s.A ++ lnAcc cs m k s.P (s.L k)
      by_cases e : l = k
      · subst e
        rw [upJ_same] at q
        have q : a ∈ (if goesL cs.length (al cs m L0 M0 l (J l)).1 = true then _ else _ : List Ac) := q
        rw [← hm.ln l hl, if_pos hg] at q
        rcases List.mem_append.1 q with q | q
        · exact List.mem_append_left _ (ha l hl a q)
        · exact List.mem_append_right _ q
      · rw [upJ_ne J e] at q
        exact List.mem_append_left _ (ha l hl a q)
    have hn : NoC cs n m L0 M0 (upJ J k) := hA.noC (ph := s.P) fun l hl a q => h.mono a (ha' l hl a q)
    exact ih hd hw hA L0 M0 (upJ J k) (hm.step hk hg hn) ha'
  | pass s s' hg h ih =>
    intro L0 M0 J hm ha
    have hs := ih hd hw hA (freeL n s.L) s.M (fun _ => 0) Mid.start (fun k hk a q => by simp [alA] at q)
    refine .bar L0 M0 J s.L s.M hm hg (fun J' => hA.noC (ph := s.P) fun k hk a q => h.mono a (ha k hk a (alA_most ?_ _ a q))) hs
    rw [← hm.ln k hk]
    cases hq : goesL cs.length (s.L k)
    · rfl
    · rw [anyGo_iff.2 ⟨k, hk, hq⟩] at hg; cases hg
  | note s H s' h ih =>
    intro L0 M0 J hm ha
    exact ih hd hw hA L0 M0 J hm ha

/-- A step of the lane that is its turn, if it can go on; then the barrier, if no lane can. -/
def ordStep (cs : List Cd) (n m k : Nat) (s : (Nat → Ln) × (Nat → Int)) : (Nat → Ln) × (Nat → Int) :=
  let r : (Nat → Ln) × (Nat → Int) := if goesL cs.length (s.1 k) = true then (fun l => if l = k then lnStep cs m k (s.1 k) s.2 else s.1 l, lnMem cs m (s.1 k) s.2) else s
  (if anyGo cs r.1 n = true then r.1 else freeL n r.1, r.2)
def oIter (cs : List Cd) (n m : Nat) (f : Nat → Nat) : Nat → (Nat → Ln) × (Nat → Int) → (Nat → Ln) × (Nat → Int)
  | 0, s => s
  | j + 1, s => ordStep cs n m (f j) (oIter cs n m f j s)

section
variable {cs : List Cd} {n m : Nat} {Mf : Nat → Int}
theorem freeL_same {L : Nat → Ln} (h : ∀ k, k < n → (L k).W = false) : freeL n L = L := funext fun l => by
  unfold freeL
  split
  · rename_i hl; rw [← h l hl]
  · rfl
def OrdI (cs : List Cd) (n m : Nat) (Mf : Nat → Int) (s : (Nat → Ln) × (Nat → Int)) : Prop := ∃ L0 M0 J, Safe cs n m Mf L0 M0 ∧ Mid cs n m L0 M0 J s.1 s.2
theorem OrdI.step {s : (Nat → Ln) × (Nat → Int)} {k : Nat} (h : OrdI cs n m Mf s) (hk : k < n) : OrdI cs n m Mf (ordStep cs n m k s) := by
  obtain ⟨L0, M0, J, hs, hm⟩ := h
  have hr : ∃ J', Mid cs n m L0 M0 J' (if goesL cs.length (s.1 k) = true then (fun l => if l = k then lnStep cs m k (s.1 k) s.2 else s.1 l, lnMem cs m (s.1 k) s.2) else s : (Nat → Ln) × (Nat → Int)).1 (if goesL cs.length (s.1 k) = true then (fun l => if l = k then lnStep cs m k (s.1 k) s.2 else s.1 l, lnMem cs m (s.1 k) s.2) else s : (Nat → Ln) × (Nat → Int)).2 := by
    split
    · rename_i hg
      exact ⟨upJ J k, hm.step hk hg (hs.noC _)⟩
    · exact ⟨J, hm⟩
  obtain ⟨J', hm'⟩ := hr
  unfold ordStep
  simp only
  generalize (if goesL cs.length (s.1 k) = true then (fun l => if l = k then lnStep cs m k (s.1 k) s.2 else s.1 l, lnMem cs m (s.1 k) s.2) else s : (Nat → Ln) × (Nat → Int)) = r at hm'
  by_cases hg : anyGo cs r.1 n = true
  · rw [if_pos hg]
    exact ⟨L0, M0, J', hs, hm'⟩
  · have hg' : anyGo cs r.1 n = false := by simpa using hg
    rw [if_neg hg]
    cases hs with
    | fin _ _ J1 L hm1 hg1 hn hw =>
      obtain ⟨e1, e2⟩ := hm'.end_unique hm1 hg' hg1
      rw [freeL_same (by rw [e1]; exact hw)]
      exact ⟨L0, M0, J', .fin L0 M0 J1 L hm1 hg1 hn hw, hm'⟩
    | bar _ _ J1 L M hm1 hg1 hn hs1 =>
      obtain ⟨e1, e2⟩ := hm'.end_unique hm1 hg' hg1
      refine ⟨freeL n r.1, r.2, fun _ => 0, ?_, Mid.start⟩
      rw [e1, e2]; exact hs1
theorem OrdI.done {s : (Nat → Ln) × (Nat → Int)} (h : OrdI cs n m Mf s) (hd : DoneL cs n s.1) : s.2 = Mf := by
  obtain ⟨L0, M0, J, hs, hm⟩ := h
  have hg : anyGo cs s.1 n = false := by
    cases hq : anyGo cs s.1 n
    · rfl
    · obtain ⟨l, hl, h2⟩ := anyGo_iff.1 hq
      have := (goes_iff.1 h2).2
      have := (hd l hl).2
      omega
  induction hs generalizing J with
  | fin L0 M0 J1 L hm1 hg1 hn hw => exact (hm.end_unique hm1 hg hg1).2
  | bar L0 M0 J1 L M hm1 hg1 hn hs1 ih =>
    obtain ⟨e1, e2⟩ := hm.end_unique hm1 hg hg1
    have hf : freeL n L = s.1 := by rw [← e1]; exact freeL_same fun k hk => (hd k hk).1
    refine ih (fun _ => 0) ?_
    rw [hf, ← e2]
    exact Mid.start
theorem oIter_I {f : Nat → Nat} (hf : ∀ j, f j < n) {s : (Nat → Ln) × (Nat → Int)} (h : OrdI cs n m Mf s) : ∀ j, OrdI cs n m Mf (oIter cs n m f j s)
  | 0 => h
  | j + 1 => (oIter_I hf h j).step (hf j)
end

end Go.Proofs.Ytajaonejpggcbaa
