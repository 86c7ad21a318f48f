/- Lanes that do not race: what they leave does not depend on the order of their steps. No program in sight. append, and where the grown slice lies: in the block where it was, or in a new one; from whatever source. The state of the program's search for blocks, and how each step of it turns the state. No condition. -/
import Derived.Maps.AppendAt
import Derived.Test.YtkolnakcgjlcgaaQab
import Derived.Test.YtkolnakcgjlcgaaQaf

namespace Go.Proofs.Ytkolnakcgjlcgaa

theorem lnStep_M {cs : List Cd} {m id : Nat} {l : Ln} {M M' : Nat → Int} (h : (cs.getD l.at_ default).op = 8 → M (cellOf (cs.getD l.at_ default) m l.R) = M' (cellOf (cs.getD l.at_ default) m l.R)) : lnStep cs m id l M = lnStep cs m id l M' := by
  have hs : simR (cs.getD l.at_ default) id m l.R M = simR (cs.getD l.at_ default) id m l.R M' := by
    unfold simR
    by_cases h8 : (cs.getD l.at_ default).op = 8
    · rw [h h8]
    · simp only [h8, if_false]
  unfold lnStep
  simp only [hs]

/-- A lane alone, from a state on. -/
def al (cs : List Cd) (m : Nat) (L0 : Nat → Ln) (M0 : Nat → Int) (k : Nat) : Nat → Ln × (Nat → Int)
  | 0 => (L0 k, M0)
  | j + 1 => let r := al cs m L0 M0 k j
    if goesL cs.length r.1 = true then (lnStep cs m k r.1 r.2, lnMem cs m r.1 r.2) else r
def alA (cs : List Cd) (m : Nat) (L0 : Nat → Ln) (M0 : Nat → Int) (ph k : Nat) : Nat → List Ac
  | 0 => []
  | j + 1 => let r := al cs m L0 M0 k j
    if goesL cs.length r.1 = true then alA cs m L0 M0 ph k j ++ lnAcc cs m k ph r.1 else alA cs m L0 M0 ph k j
def Wrote (cs : List Cd) (m : Nat) (L0 : Nat → Ln) (M0 : Nat → Int) (k j x : Nat) : Prop := ∃ a ∈ alA cs m L0 M0 0 k j, a.cell = x ∧ a.wr = true

section
variable {cs : List Cd} {n m : Nat} {L0 : Nat → Ln} {M0 : Nat → Int}
theorem lnAcc_ph (k ph ph' : Nat) (l : Ln) : lnAcc cs m k ph l = (lnAcc cs m k ph' l).map fun a => { a with ph := ph } := by
  unfold lnAcc; simp only; split <;> rfl
theorem alA_ph (ph ph' k : Nat) : ∀ j, alA cs m L0 M0 ph k j = (alA cs m L0 M0 ph' k j).map fun a => { a with ph := ph }
  | 0 => rfl
  | j + 1 => by
    unfold alA
    simp only
    split
    · rw [List.map_append, alA_ph ph ph' k j, lnAcc_ph k ph ph']
    · exact alA_ph ph ph' k j
theorem alA_who (ph k : Nat) : ∀ j, ∀ a ∈ alA cs m L0 M0 ph k j, a.who = k ∧ a.ph = ph
  | 0 => by simp [alA]
  | j + 1 => by
    intro a ha
    unfold alA at ha
    simp only at ha
    split at ha
    · rcases List.mem_append.1 ha with ha | ha
      · exact alA_who ph k j a ha
      · unfold lnAcc at ha
        simp only at ha
        split at ha
        · simp at ha; rw [ha]; exact ⟨rfl, rfl⟩
        · simp at ha
    · exact alA_who ph k j a ha
theorem al_succ (k j : Nat) : al cs m L0 M0 k (j + 1) = if goesL cs.length (al cs m L0 M0 k j).1 = true then (lnStep cs m k (al cs m L0 M0 k j).1 (al cs m L0 M0 k j).2, lnMem cs m (al cs m L0 M0 k j).1 (al cs m L0 M0 k j).2) else al cs m L0 M0 k j := rfl
theorem alA_succ (ph k j : Nat) : alA cs m L0 M0 ph k (j + 1) = if goesL cs.length (al cs m L0 M0 k j).1 = true then alA cs m L0 M0 ph k j ++ lnAcc cs m k ph (al cs m L0 M0 k j).1 else alA cs m L0 M0 ph k j := rfl
theorem lnAcc_store {k ph : Nat} {l : Ln} (h9 : (cs.getD l.at_ default).op = 9) : lnAcc cs m k ph l = [⟨k, cellOf (cs.getD l.at_ default) m l.R, true, ph⟩] := by
  unfold lnAcc; simp only; rw [if_pos (.inr h9), decide_eq_true h9]
theorem al_stop {k j : Nat} (h : goesL cs.length (al cs m L0 M0 k j).1 = false) : ∀ d, al cs m L0 M0 k (j + d) = al cs m L0 M0 k j
  | 0 => rfl
  | d + 1 => by
    rw [show j + (d + 1) = (j + d) + 1 from rfl, al_succ, al_stop h d, if_neg (by rw [h]; simp)]
theorem alA_stop {ph k j : Nat} (h : goesL cs.length (al cs m L0 M0 k j).1 = false) : ∀ d, alA cs m L0 M0 ph k (j + d) = alA cs m L0 M0 ph k j
  | 0 => rfl
  | d + 1 => by
    rw [show j + (d + 1) = (j + d) + 1 from rfl, alA_succ, al_stop h d, if_neg (by rw [h]; simp)]
    exact alA_stop h d
theorem alA_mono {ph k : Nat} (j : Nat) : ∀ d, ∀ a ∈ alA cs m L0 M0 ph k j, a ∈ alA cs m L0 M0 ph k (j + d)
  | 0, _, h => h
  | d + 1, a, h => by
    show a ∈ (if _ then _ else _ : List Ac)
    split
    · exact List.mem_append_left _ (alA_mono j d a h)
    · exact alA_mono j d a h
theorem alA_most {ph k j : Nat} (h : goesL cs.length (al cs m L0 M0 k j).1 = false) (i : Nat) : ∀ a ∈ alA cs m L0 M0 ph k i, a ∈ alA cs m L0 M0 ph k j := by
  intro a ha
  by_cases hij : i ≤ j
  · obtain ⟨d, rfl⟩ : ∃ d, j = i + d := ⟨j - i, by omega⟩
    exact alA_mono i d a ha
  · obtain ⟨d, rfl⟩ : ∃ d, i = j + d := ⟨i - j, by omega⟩
    rwa [alA_stop h d] at ha
theorem al_mem {k x : Nat} : ∀ j, ¬ Wrote cs m L0 M0 k j x → (al cs m L0 M0 k j).2 x = M0 x
  | 0, _ => rfl
  | j + 1, h => by
    have h' : ¬ Wrote cs m L0 M0 k j x := fun ⟨a, h1, h2⟩ => h ⟨a, alA_mono j 1 a h1, h2⟩
    have ih := al_mem j h'
    show (if _ then _ else _ : Ln × (Nat → Int)).2 x = _
    split
    · rename_i hg
      show simM _ m _ _ x = _
      unfold simM
      split
      · rename_i h9
        unfold setF
        split
        · rename_i hx
          refine absurd ⟨⟨k, x, true, 0⟩, ?_, rfl, rfl⟩ h
          show _ ∈ (if goesL cs.length (al cs m L0 M0 k j).1 = true then _ else _ : List Ac)
          rw [if_pos hg]
          refine List.mem_append_right _ ?_
          rw [lnAcc_store h9, hx]
          exact List.mem_singleton.2 rfl
        · exact ih
      · exact ih
    · exact ih

/-- In the middle of a phase: every lane is where it would be alone; every cell holds what the lane that wrote it would have left there alone. -/
structure Mid (cs : List Cd) (n m : Nat) (L0 : Nat → Ln) (M0 : Nat → Int) (J : Nat → Nat) (L : Nat → Ln) (M : Nat → Int) : Prop where
  ln : ∀ k, k < n → L k = (al cs m L0 M0 k (J k)).1
  out : ∀ k, n ≤ k → L k = L0 k
  wr : ∀ k, k < n → ∀ x, Wrote cs m L0 M0 k (J k) x → M x = (al cs m L0 M0 k (J k)).2 x
  un : ∀ x, (∀ k, k < n → ¬ Wrote cs m L0 M0 k (J k) x) → M x = M0 x
/-- The lanes' accesses do not clash. -/
def NoC (cs : List Cd) (n m : Nat) (L0 : Nat → Ln) (M0 : Nat → Int) (J : Nat → Nat) : Prop :=
  ∀ k l, k < n → l < n → k ≠ l → ∀ a ∈ alA cs m L0 M0 0 k (J k), ∀ b ∈ alA cs m L0 M0 0 l (J l), a.cell = b.cell → a.wr = false ∧ b.wr = false
theorem Mid.start : Mid cs n m L0 M0 (fun _ => 0) L0 M0 :=
  ⟨fun _ _ => rfl, fun _ _ => rfl, fun _ _ _ h => by obtain ⟨a, h1, _⟩ := h; simp [alA] at h1, fun _ _ => rfl⟩
def upJ (J : Nat → Nat) (k : Nat) : Nat → Nat := fun l => if l = k then J k + 1 else J l
theorem upJ_same (J : Nat → Nat) (k : Nat) : upJ J k k = J k + 1 := if_pos rfl
theorem upJ_ne (J : Nat → Nat) {k l : Nat} (h : l ≠ k) : upJ J k l = J l := if_neg h

theorem Mid.step {J : Nat → Nat} {L : Nat → Ln} {M : Nat → Int} {k : Nat} (h : Mid cs n m L0 M0 J L M) (hk : k < n) (hg : goesL cs.length (L k) = true) (hn : NoC cs n m L0 M0 (upJ J k)) :
    Mid cs n m L0 M0 (upJ J k) (fun l => if l = k then lnStep cs m k (L k) M else L l) (lnMem cs m (L k) M) := by
  have hL := h.ln k hk
  have hg' : goesL cs.length (al cs m L0 M0 k (J k)).1 = true := by rw [← hL]; exact hg
  have hal : al cs m L0 M0 k (J k + 1) = (lnStep cs m k (al cs m L0 M0 k (J k)).1 (al cs m L0 M0 k (J k)).2, lnMem cs m (al cs m L0 M0 k (J k)).1 (al cs m L0 M0 k (J k)).2) := by
    show (if _ then _ else _) = _
    rw [if_pos hg']
  have hac : alA cs m L0 M0 0 k (J k + 1) = alA cs m L0 M0 0 k (J k) ++ lnAcc cs m k 0 (L k) := by
    show (if _ then _ else _) = _
    rw [if_pos hg', ← hL]
  -- the cell that is used holds what it holds for the lane alone
  have hcell : ((cs.getD (L k).at_ default).op = 8 ∨ (cs.getD (L k).at_ default).op = 9) → ∀ l, l < n → l ≠ k → ¬ Wrote cs m L0 M0 l (J l) (cellOf (cs.getD (L k).at_ default) m (L k).R) := by
    rintro ho l hl hlk ⟨a, h1, h2, h3⟩
    have := hn k l hk hl (fun e => hlk e.symm) ⟨k, cellOf (cs.getD (L k).at_ default) m (L k).R, decide ((cs.getD (L k).at_ default).op = 9), 0⟩
      (by rw [upJ_same, hac]; refine List.mem_append_right _ ?_; unfold lnAcc; simp only; rw [if_pos ho]; simp) a (by rw [upJ_ne J hlk]; exact h1) h2.symm
    rw [h3] at this
    cases this.2
  have hload : (cs.getD (L k).at_ default).op = 8 → M (cellOf (cs.getD (L k).at_ default) m (L k).R) = (al cs m L0 M0 k (J k)).2 (cellOf (cs.getD (L k).at_ default) m (L k).R) := fun h8 => by
    by_cases hw : Wrote cs m L0 M0 k (J k) (cellOf (cs.getD (L k).at_ default) m (L k).R)
    · exact h.wr k hk _ hw
    · rw [al_mem _ hw]
      refine h.un _ fun l hl => ?_
      by_cases e : l = k
      · subst e; exact hw
      · exact hcell (.inl h8) l hl e
  have hst : lnStep cs m k (L k) M = (al cs m L0 M0 k (J k + 1)).1 := by
    rw [hal, ← hL]
    exact lnStep_M hload
  have hm9 : ∀ x, lnMem cs m (L k) M x = if (cs.getD (L k).at_ default).op = 9 ∧ x = cellOf (cs.getD (L k).at_ default) m (L k).R then (L k).R (cs.getD (L k).at_ default).a.toNat else M x := fun x => by
    unfold lnMem simM
    by_cases h9 : (cs.getD (L k).at_ default).op = 9
    · rw [if_pos h9]
      unfold setF
      by_cases hx : x = cellOf (cs.getD (L k).at_ default) m (L k).R
      · rw [if_pos hx, if_pos ⟨h9, hx⟩]
      · rw [if_neg hx, if_neg (fun e => hx e.2)]
    · rw [if_neg h9, if_neg (fun e => h9 e.1)]
  have hm9' : ∀ x, (al cs m L0 M0 k (J k + 1)).2 x = if (cs.getD (L k).at_ default).op = 9 ∧ x = cellOf (cs.getD (L k).at_ default) m (L k).R then (L k).R (cs.getD (L k).at_ default).a.toNat else (al cs m L0 M0 k (J k)).2 x := fun x => by
    rw [hal, ← hL]
    unfold lnMem simM
    by_cases h9 : (cs.getD (L k).at_ default).op = 9
    · rw [if_pos h9]
      unfold setF
      by_cases hx : x = cellOf (cs.getD (L k).at_ default) m (L k).R
      · simp only [hx, if_true]; rw [if_pos ⟨h9, trivial⟩]
      · simp only [hx, if_false]; rw [if_neg (fun e => e.2)]
    · rw [if_neg h9, if_neg (fun e => h9 e.1)]
  have hwk : ∀ x, Wrote cs m L0 M0 k (J k + 1) x ↔ Wrote cs m L0 M0 k (J k) x ∨ ((cs.getD (L k).at_ default).op = 9 ∧ x = cellOf (cs.getD (L k).at_ default) m (L k).R) := fun x => by
    unfold Wrote
    rw [hac]
    constructor
    · rintro ⟨a, h1, h2, h3⟩
      rcases List.mem_append.1 h1 with h1 | h1
      · exact .inl ⟨a, h1, h2, h3⟩
      · unfold lnAcc at h1
        simp only at h1
        split at h1
        · simp only [List.mem_singleton] at h1
          subst h1
          simp only [decide_eq_true_eq] at h3
          exact .inr ⟨h3, h2.symm⟩
        · simp at h1
    · rintro (⟨a, h1, h2⟩ | ⟨h9, rfl⟩)
      · exact ⟨a, List.mem_append_left _ h1, h2⟩
      · exact ⟨_, List.mem_append_right _ (by rw [lnAcc_store h9]; exact List.mem_singleton.2 rfl), rfl, rfl⟩
  refine ⟨fun l hl => ?_, fun l hl => ?_, fun l hl x hw => ?_, fun x hx => ?_⟩
  · by_cases e : l = k
    · subst e; simp only [if_true]; rw [upJ_same, hst]
    · simp only [e, if_false]; rw [upJ_ne J e]; exact h.ln l hl
  · simp only [show ¬ l = k by omega, if_false]; exact h.out l hl
  · by_cases e : l = k
    · subst e
      rw [upJ_same] at hw ⊢
      rw [hm9, hm9']
      split
      · rfl
      · rename_i hne
        rcases (hwk x).1 hw with hw | hw
        · exact h.wr l hl x hw
        · exact absurd hw hne
    · rw [upJ_ne J e] at hw ⊢
      rw [hm9, if_neg]
      · exact h.wr l hl x hw
      · rintro ⟨h9, rfl⟩
        exact hcell (.inr h9) l hl e hw
  · rw [hm9, if_neg]
    · refine h.un x fun l hl hw => hx l hl ?_
      by_cases e : l = k
      · subst e; rw [upJ_same]; exact (hwk x).2 (.inl hw)
      · rw [upJ_ne J e]; exact hw
    · intro hq
      refine hx k hk ?_
      rw [upJ_same]
      exact (hwk x).2 (.inr hq)

/-- The end of a phase is the same on all ways. -/
theorem Mid.end_unique {J J' : Nat → Nat} {L L' : Nat → Ln} {M M' : Nat → Int} (h : Mid cs n m L0 M0 J L M) (h' : Mid cs n m L0 M0 J' L' M') (hg : anyGo cs L n = false) (hg' : anyGo cs L' n = false) : L = L' ∧ M = M' := by
  have g1 : ∀ k, k < n → goesL cs.length (al cs m L0 M0 k (J k)).1 = false := fun k hk => by
    rw [← h.ln k hk]
    cases hq : goesL cs.length (L k)
    · rfl
    · rw [anyGo_iff.2 ⟨k, hk, hq⟩] at hg; cases hg
  have g2 : ∀ k, k < n → goesL cs.length (al cs m L0 M0 k (J' k)).1 = false := fun k hk => by
    rw [← h'.ln k hk]
    cases hq : goesL cs.length (L' k)
    · rfl
    · rw [anyGo_iff.2 ⟨k, hk, hq⟩] at hg'; cases hg'
  have e1 : ∀ k, k < n → al cs m L0 M0 k (J k) = al cs m L0 M0 k (J' k) := fun k hk => by
    by_cases hij : J k ≤ J' k
    · obtain ⟨d, hd⟩ : ∃ d, J' k = J k + d := ⟨J' k - J k, by omega⟩
      rw [hd, al_stop (g1 k hk) d]
    · obtain ⟨d, hd⟩ : ∃ d, J k = J' k + d := ⟨J k - J' k, by omega⟩
      rw [hd, al_stop (g2 k hk) d]
  have e2 : ∀ k x, k < n → (Wrote cs m L0 M0 k (J k) x ↔ Wrote cs m L0 M0 k (J' k) x) := fun k x hk =>
    ⟨fun ⟨a, q1, q2⟩ => ⟨a, alA_most (g2 k hk) _ a q1, q2⟩, fun ⟨a, q1, q2⟩ => ⟨a, alA_most (g1 k hk) _ a q1, q2⟩⟩
  constructor
  · funext k
    by_cases hk : k < n
    · rw [h.ln k hk, h'.ln k hk, e1 k hk]
    · rw [h.out k (by omega), h'.out k (by omega)]
  · funext x
    by_cases hw : ∃ k, k < n ∧ Wrote cs m L0 M0 k (J k) x
    · obtain ⟨k, hk, hw⟩ := hw
      rw [h.wr k hk x hw, h'.wr k hk x ((e2 k x hk).1 hw), e1 k hk]
    · have hw1 : ∀ k, k < n → ¬ Wrote cs m L0 M0 k (J k) x := fun k hk hh => hw ⟨k, hk, hh⟩
      rw [h.un x hw1, h'.un x fun k hk hh => hw1 k hk ((e2 k x hk).2 hh)]
end

/-- From one state, phase by phase, without clashes, to the end, where the memory is Mf. -/
inductive Safe (cs : List Cd) (n m : Nat) (Mf : Nat → Int) : (Nat → Ln) → (Nat → Int) → Prop
  | fin (L0 : Nat → Ln) (M0 : Nat → Int) (J : Nat → Nat) (L : Nat → Ln) (hm : Mid cs n m L0 M0 J L Mf) (hg : anyGo cs L n = false) (hn : ∀ J', NoC cs n m L0 M0 J') (hw : ∀ k, k < n → (L k).W = false) : Safe cs n m Mf L0 M0
  | bar (L0 : Nat → Ln) (M0 : Nat → Int) (J : Nat → Nat) (L : Nat → Ln) (M : Nat → Int) (hm : Mid cs n m L0 M0 J L M) (hg : anyGo cs L n = false) (hn : ∀ J', NoC cs n m L0 M0 J') (hs : Safe cs n m Mf (freeL n L) M) : Safe cs n m Mf L0 M0
theorem Safe.noC {cs : List Cd} {n m : Nat} {Mf : Nat → Int} {L0 : Nat → Ln} {M0 : Nat → Int} (h : Safe cs n m Mf L0 M0) : ∀ J, NoC cs n m L0 M0 J := by
  cases h with
  | fin _ _ J L hm hg hn hw => exact hn
  | bar _ _ J L M hm hg hn hs => exact hn

/-- Steps of lanes that can go on, in any order, and barriers that are passed. -/
inductive Exec (cs : List Cd) (n m : Nat) : CS → CS → Prop
  | refl (s : CS) : Exec cs n m s s
  | step (s : CS) (k : Nat) (s' : CS) (hk : k < n) (hg : goesL cs.length (s.L k) = true) (h : Exec cs n m (laneS cs m k s) s') : Exec cs n m s s'
  | pass (s s' : CS) (hg : anyGo cs s.L n = false) (h : Exec cs n m { s with L := freeL n s.L, P := s.P + 1 } s') : Exec cs n m s s'
  | note (s : CS) (H : List (Nat × Nat)) (s' : CS) (h : Exec cs n m { s with H := H } s') : Exec cs n m s s'
theorem Exec.trans {cs : List Cd} {n m : Nat} {a b c : CS} (h : Exec cs n m a b) (k : Exec cs n m b c) : Exec cs n m a c := by
  induction h with
  | refl s => exact k
  | step s j s' hk hg _ ih => exact .step _ j _ hk hg (ih k)
  | pass s s' hg _ ih => exact .pass _ _ hg (ih k)
  | note s H s' _ ih => exact .note _ H _ (ih k)
theorem Exec.mono {cs : List Cd} {n m : Nat} {a b : CS} (h : Exec cs n m a b) : ∀ x ∈ a.A, x ∈ b.A := by
  induction h with
  | refl s => exact fun _ h => h
  | step s j s' hk hg _ ih => exact fun x hx => ih x (List.mem_append_left _ hx)
  | pass s s' hg _ ih => exact ih
  | note s H s' _ ih => exact ih
/-- No two accesses of a list clash. -/
def Free (A : List Ac) : Prop := ∀ x ∈ A, ∀ y ∈ A, x.ph = y.ph → x.who ≠ y.who → x.cell = y.cell → x.wr = false ∧ y.wr = false
theorem Free.noC {cs : List Cd} {n m ph : Nat} {L0 : Nat → Ln} {M0 : Nat → Int} {J : Nat → Nat} {A : List Ac} (hA : Free A) (hs : ∀ k, k < n → ∀ a ∈ alA cs m L0 M0 ph k (J k), a ∈ A) : NoC cs n m L0 M0 J := by
  intro k l hk hl hkl a ha b hb hc
  rw [alA_ph 0 ph] at ha hb
  obtain ⟨a', ha', rfl⟩ := List.mem_map.1 ha
  obtain ⟨b', hb', rfl⟩ := List.mem_map.1 hb
  obtain ⟨w1, p1⟩ := alA_who ph k _ a' ha'
  obtain ⟨w2, p2⟩ := alA_who ph l _ b' hb'
  exact hA a' (hs k hk a' ha') b' (hs l hl b' hb') (by rw [p1, p2]) (by rw [w1, w2]; exact hkl) hc
/-- A step of the lane that is its turn, if it can go on; then the barrier, if no lane can. -/
def ordStep (cs : List Cd) (n m k : Nat) (s : (Nat → Ln) × (Nat → Int)) : (Nat → Ln) × (Nat → Int) :=
  let r : (Nat → Ln) × (Nat → Int) := if goesL cs.length (s.1 k) = true then (fun l => if l = k then lnStep cs m k (s.1 k) s.2 else s.1 l, lnMem cs m (s.1 k) s.2) else s
  (if anyGo cs r.1 n = true then r.1 else freeL n r.1, r.2)
section
variable {cs : List Cd} {n m : Nat} {Mf : Nat → Int}
theorem freeL_same {L : Nat → Ln} (h : ∀ k, k < n → (L k).W = false) : freeL n L = L := funext fun l => by
  unfold freeL
  split
  · rename_i hl; rw [← h l hl]
  · rfl
def OrdI (cs : List Cd) (n m : Nat) (Mf : Nat → Int) (s : (Nat → Ln) × (Nat → Int)) : Prop := ∃ L0 M0 J, Safe cs n m Mf L0 M0 ∧ Mid cs n m L0 M0 J s.1 s.2
theorem OrdI.step {s : (Nat → Ln) × (Nat → Int)} {k : Nat} (h : OrdI cs n m Mf s) (hk : k < n) : OrdI cs n m Mf (ordStep cs n m k s) := by
  obtain ⟨L0, M0, J, hs, hm⟩ := h
  have hr : ∃ J', Mid cs n m L0 M0 J' (if goesL cs.length (s.1 k) = true then (fun l => if l = k then lnStep cs m k (s.1 k) s.2 else s.1 l, lnMem cs m (s.1 k) s.2) else s : (Nat → Ln) × (Nat → Int)).1 (if goesL cs.length (s.1 k) = true then (fun l => if l = k then lnStep cs m k (s.1 k) s.2 else s.1 l, lnMem cs m (s.1 k) s.2) else s : (Nat → Ln) × (Nat → Int)).2 := by
    split
    · rename_i hg
      exact ⟨upJ J k, hm.step hk hg (hs.noC _)⟩
    · exact ⟨J, hm⟩
  obtain ⟨J', hm'⟩ := hr
  unfold ordStep
  simp only
  generalize (if goesL cs.length (s.1 k) = true then (fun l => if l = k then lnStep cs m k (s.1 k) s.2 else s.1 l, lnMem cs m (s.1 k) s.2) else s : (Nat → Ln) × (Nat → Int)) = r at hm'
  by_cases hg : anyGo cs r.1 n = true
  · rw [if_pos hg]
    exact ⟨L0, M0, J', hs, hm'⟩
  · have hg' : anyGo cs r.1 n = false := by simpa using hg
    rw [if_neg hg]
    cases hs with
    | fin _ _ J1 L hm1 hg1 hn hw =>
      obtain ⟨e1, e2⟩ := hm'.end_unique hm1 hg' hg1
      rw [freeL_same (by rw [e1]; exact hw)]
      exact ⟨L0, M0, J', .fin L0 M0 J1 L hm1 hg1 hn hw, hm'⟩
    | bar _ _ J1 L M hm1 hg1 hn hs1 =>
      obtain ⟨e1, e2⟩ := hm'.end_unique hm1 hg' hg1
      refine ⟨freeL n r.1, r.2, fun _ => 0, ?_, Mid.start⟩
      rw [e1, e2]; exact hs1
theorem OrdI.done {s : (Nat → Ln) × (Nat → Int)} (h : OrdI cs n m Mf s) (hd : DoneL cs n s.1) : s.2 = Mf := by
  obtain ⟨L0, M0, J, hs, hm⟩ := h
  have hg : anyGo cs s.1 n = false := by
    cases hq : anyGo cs s.1 n
    · rfl
    · obtain ⟨l, hl, h2⟩ := anyGo_iff.1 hq
      have := (goes_iff.1 h2).2
      have := (hd l hl).2
      omega
  induction hs generalizing J with
  | fin L0 M0 J1 L hm1 hg1 hn hw => exact (hm.end_unique hm1 hg hg1).2
  | bar L0 M0 J1 L M hm1 hg1 hn hs1 ih =>
    obtain ⟨e1, e2⟩ := hm.end_unique hm1 hg hg1
    have hf : freeL n L = s.1 := by rw [← e1]; exact freeL_same fun k hk => (hd k hk).1
    refine ih (fun _ => 0) ?_
    rw [hf, ← e2]
    exact Mid.start
end

end Go.Proofs.Ytkolnakcgjlcgaa

namespace Go.Proofs.Ytkolnakcgjlcgaa
open Go.RowKit

section
variable {P : Program} {t e : TypeId} {s : Nat} {z : List Value} {bytes : Nat}

/-- Where an append leaves its slice. -/
def Lies (w : World) (v v' : Value) : Prop := ∀ g, v'.ownBlock = some g → v.ownBlock = some g ∨ w.heap.size ≤ g

theorem wl_appendF (E : ElT P t e s z bytes) {w : World} {ops : Array Oper} {rest : List Oper} {o : Oper} {a : Act} {Q : Exit → Act → World → Prop}
    (hgd : o.guard = none) (sl x : Operand) (ho : o.op = .call { callee := .builtin .append, args := #[sl, x], argTypes := #[t, t] })
    (B : Nat) (v : Value) (n : Nat) (xs : List Value) (hs : a.eval sl = v) (hown : OwnO w B e s v n xs)
    (b off m c : Nat) (news : List Value) (hx : a.eval x = .slice (some ⟨b, off, none⟩) m c) (hl : news.length = m * s) (hnews : ∀ j u, news[j]? = some u → w.cell? ⟨b, off + j, none⟩ = some u) (h1 : ∀ u ∈ news, u.oneCell' = true)
    (hbytes : (n + m) * bytes ≤ 140737488355328) (h63 : n + m ≤ 9223372036854775807) (hB : B ≤ w.heap.size)
    (h : ∀ v' w', OwnO w' B e s v' (n + m) (xs ++ news) → w.grownBy w' v.ownBlock → Lies w v v' → wpList P ops Q rest (a.put o.dst v') w') : wpList P ops Q (o :: rest) a w := by
  obtain ⟨i, zv, h2, h3, h4, h5, h6, h7⟩ := E.parts
  have hsrc : ∀ j u, news[j]? = some u → w.cell? ((⟨b, off, none⟩ : Addr).add j) = some u := fun j u hu => by rw [add_mid]; exact hnews j u hu
  rcases hown.2 with ⟨rfl, rfl⟩ | ⟨g, off2, cap, cur, rfl, q1, q2, q3, q4, q5, q6⟩
  · have hx0 : xs = [] := List.eq_nil_of_length_eq_zero (by simpa using hown.1)
    subst hx0
    refine wpList_append_own_at w hgd sl x t ho B e i zv s bytes E.ht h2 h3 h4 h5 (by rw [h6]; simpa using h7) E.hs _ 0 [] hs (World.ownsRow_nil w B e s) ⟨b, off, none⟩ m c news hx hl hsrc h1 (by unfold maxLen; omega) hbytes hB fun v' w' r1 r2 _ r4 => h v' w' (OwnO.of_own r1) r2 fun k hk => ?_
    rcases r4 with r4 | r4
    · rw [r4] at hk; exact .inl hk
    · rw [r4] at hk; injection hk with hk; right; omega
  · have hcell : ∀ j u, cur[j]? = some u → w.cell? ⟨g, j, none⟩ = some u := fun j u hu => by rw [cell_of_row w g _ cur e (0, 0) q2]; exact hu
    refine wpList_append_arg w hgd sl x t ho e i zv s bytes E.ht h2 h3 h4 h5 (by rw [h6]; simpa using h7) E.hs g off2 n cap xs hs hown.1 (fun j u hu => hcell _ _ (q6 j u hu)) ⟨b, off, none⟩ m c news hx hl
      hsrc h1 (fun hr j hj => ?_) (by unfold maxLen; omega) hbytes (fun hr => ?_) (fun hg v' w' r1 r2 => ?_)
    · have hlt : off2 + n * s + j < cur.size := by
        have : n * s + m * s ≤ cap * s := by rw [← Nat.add_mul]; exact Nat.mul_le_mul_right s hr
        omega
      exact ⟨by rw [hcell _ _ (Array.getElem?_eq_getElem hlt)]; rfl, frozen_of_row w g _ cur e q2⟩
    · have hle : off2 + n * s + news.length ≤ cur.size := by
        have : n * s + m * s ≤ cap * s := by rw [← Nat.add_mul]; exact Nat.mul_le_mul_right s hr
        omega
      obtain ⟨cur', a1, a2, a3, a4⟩ := heap_setCells_same g news (off2 + n * s) w cur e q2 hle
      refine h _ _ ⟨by rw [List.length_append, hown.1, hl, Nat.add_mul], .inr ⟨g, off2, cap, cur', rfl, q1, a1, hr, q4, by omega, fun j u hu => ?_⟩⟩ (grown_setCells g news _ w) (fun k hk => .inl hk)
      rw [List.getElem?_append] at hu
      split at hu
      · rename_i hj
        rw [a3 _ (by rw [hown.1] at hj; omega)]
        exact q6 j u hu
      · rename_i hj
        have := a4 _ u hu
        rwa [show off2 + n * s + (j - xs.length) = off2 + j by rw [hown.1] at hj ⊢; omega] at this
    · have r1' := OwnO.of_own r1
      refine h v' w' ⟨r1'.1, ?_⟩ ⟨r2.os, r2.tape, r2.output, r2.size, fun k hk _ => r2.block k hk (by simp)⟩ (fun k hk => .inr (r1'.lt k hk).1)
      rcases r1'.2 with h | ⟨g', off', cap', cur', e1, e2, e3⟩
      · exact .inl h
      · exact .inr ⟨g', off', cap', cur', e1, by omega, e3⟩

/-- append of one element, just laid in a new block; and where the slice lies then. -/
theorem wl_append1F (E : ElT P t e s z bytes) {w : World} {ops : Array Oper} {rest : List Oper} {o : Oper} {a : Act} {Q : Exit → Act → World → Prop} {et : TypeId}
    (hgd : o.guard = none) (sl x : Operand) (ho : o.op = .call { callee := .builtin .append, args := #[sl, x], argTypes := #[t, t] })
    (B : Nat) (v : Value) (n : Nat) (xs : List Value) (hs : a.eval sl = v) (hown : OwnO w B e s v n xs)
    (b c : Nat) (news : List Value) (hx : a.eval x = .slice (some ⟨b, 0, none⟩) 1 c) (hb : b = w.heap.size) (hl : news.length = s) (h1 : news.all (·.oneCell') = true)
    (hby : bytes ≤ 128) (hn : n + 1 ≤ 1099511627776) (hB : B ≤ w.heap.size)
    (h : ∀ v' w', OwnO w' B e s v' (n + 1) (xs ++ news) → w.grownBy w' v.ownBlock → Lies w v v' → wpList P ops Q rest (a.put o.dst v') w') : wpList P ops Q (o :: rest) a (w.alloc (.cells news.toArray et)) := by
  subst hb
  refine wl_appendF E hgd sl x ho B v n xs hs (hown.alloc _) w.heap.size 0 1 c news hx (by omega) (fun j u hu => ?_) (fun u hu => (List.all_eq_true.1 h1) u hu) ?_ (by omega) (Nat.le_trans hB (Pure.alloc (Pure.refl w) _).size)
    (fun v' w' r1 r2 r3 => h v' w' r1 ?_ (fun k hk => (r3 k hk).imp id fun h => Nat.le_trans (Pure.alloc (Pure.refl w) _).size h))
  · have := cell_of_row (w.alloc (.cells news.toArray et)) w.heap.size j news.toArray et (0, 0) (heap_alloc_new w _)
    rw [Nat.zero_add, this]
    simpa using hu
  · have := Nat.mul_le_mul hn hby
    omega
  · have h0 := World.grownBy_alloc w (.cells news.toArray et) v.ownBlock
    exact ⟨r2.os.trans h0.os, r2.tape.trans h0.tape, r2.output.trans h0.output, Nat.le_trans h0.size r2.size, fun k hk hne => (r2.block k (Nat.lt_of_lt_of_le hk h0.size) hne).trans (h0.block k hk hne)⟩

/-- append of all that a slice of the call's own holds (it may be nil) to a new empty one. -/
theorem wl_copyF (E : ElT P t e s z bytes) {w : World} {ops : Array Oper} {rest : List Oper} {o : Oper} {a : Act} {Q : Exit → Act → World → Prop} {et : TypeId}
    (hgd : o.guard = none) (sl x : Operand) (ho : o.op = .call { callee := .builtin .append, args := #[sl, x], argTypes := #[t, t] })
    (b : Nat) (hs : a.eval sl = .slice (some ⟨b, 0, none⟩) 0 0) (hb : b = w.heap.size) (vx : Value) (hx : a.eval x = vx) (f : Nat → Value) (m : Nat) (hc : Cells w vx m s f) (h1 : ∀ j, j < m * s → (f j).oneCell' = true)
    (hby : bytes ≤ 128) (hn : m ≤ 1099511627776) (het : et = e)
    (h : ∀ v' w', OwnO w' w.heap.size e s v' m ((List.range (m * s)).map f) → Pure w w' → wpList P ops Q rest (a.put o.dst v') w') : wpList P ops Q (o :: rest) a (w.alloc (.cells #[] et)) := by
  subst hb het
  have hE : OwnO (w.alloc (.cells #[] et)) w.heap.size et s (.slice (some ⟨w.heap.size, 0, none⟩) 0 0) 0 [] := OwnO.empty_lit (Nat.le_refl _)
  obtain ⟨A, c, rfl, hmc, hcm, hrd⟩ := hc
  have hp0 : Pure w (w.alloc (.cells #[] et)) := Pure.alloc (Pure.refl _) _
  rcases A with _ | ⟨b, off, sp⟩
  · have hm0 : m = 0 := by
      rcases Nat.eq_zero_or_pos m with h0 | h0
      · exact h0
      · obtain ⟨_, _, h, _⟩ := hrd h0; cases h
    subst hm0
    obtain ⟨i, zv, h2, h3, h4, h5, h6, h7⟩ := E.parts
    refine wpList_plain hgd fun K hK' => ?_
    have hrun : (Builtin.append_ #[t, t] o.type #[.slice (some ⟨w.heap.size, 0, none⟩) 0 0, .slice none 0 c]).run P (w.alloc (.cells #[] et)) = .ok (.slice (some ⟨w.heap.size, 0, none⟩) 0 0) (w.alloc (.cells #[] et)) := by
      simp [Builtin.append_, run_underlying E.ht, sizeOf, typeInfo, h2, Builtin.lenOf, Builtin.firstCells, storeCells]
    unfold Oper.wp execOp
    simp only [ho, resolve, invoke, builtin, Sem.run_bind, Sem.run_pure, Result.andThen_ok, List.map_toArray, List.map_cons, List.map_nil, hs, hx, hrun]
    exact hK' _ _ (h _ _ (by simpa using hE) hp0)
  · rcases Nat.eq_zero_or_pos m with h0 | h0
    · subst h0
      obtain ⟨i, zv, h2, h3, h4, h5, h6, h7⟩ := E.parts
      refine wpList_plain hgd fun K hK' => ?_
      have hrun : (Builtin.append_ #[t, t] o.type #[.slice (some ⟨w.heap.size, 0, none⟩) 0 0, .slice (some ⟨b, off, sp⟩) 0 c]).run P (w.alloc (.cells #[] et)) = .ok (.slice (some ⟨w.heap.size, 0, none⟩) 0 0) (w.alloc (.cells #[] et)) := by
        simp [Builtin.append_, run_underlying E.ht, sizeOf, typeInfo, h2, Builtin.lenOf, Builtin.firstCells, storeCells, loadCells, loadCellsFrom]
      unfold Oper.wp execOp
      simp only [ho, resolve, invoke, builtin, Sem.run_bind, Sem.run_pure, Result.andThen_ok, List.map_toArray, List.map_cons, List.map_nil, hs, hx, hrun]
      exact hK' _ _ (h _ _ (by simpa using hE) hp0)
    · obtain ⟨b', o', he, hbl, hcc⟩ := hrd h0
      injection he with he
      injection he with e1 e2 e3
      subst e1 e2 e3
      have hmul : m * bytes ≤ 1099511627776 * 128 := Nat.mul_le_mul hn hby
      refine wl_appendF E hgd sl x ho w.heap.size _ 0 [] hs hE b off m c ((List.range (m * s)).map f) hx (by simp) (fun j u hu => ?_) (fun u hu => ?_) (by rw [Nat.zero_add]; omega) (by omega) hp0.size
        (fun v' w' r1 r2 r3 => h v' w' (by simpa using r1) (hp0.grown r2 (fun k hk => by simp [Value.ownBlock] at hk; omega)))
      · rw [hp0.cell b (off + j) hbl]
        have hj : j < m * s := by
          rcases Nat.lt_or_ge j (m * s) with h | h
          · exact h
          · rw [List.getElem?_eq_none (by simpa using h)] at hu; cases hu
        rw [hcc j hj, ← hu]
        simp [hj]
      · obtain ⟨j, hj, rfl⟩ := List.mem_map.1 hu
        exact h1 j (by simpa using hj)
end
end Go.Proofs.Ytkolnakcgjlcgaa

namespace Go.Proofs.Ytkolnakcgjlcgaa
open Go.RowKit

theorem elPtr : ElT Try.prog 94 99 1 [.pointer none] 8 := ⟨by kernel_rfl, ⟨.pointer none, by kernel_rfl, by kernel_rfl, rfl⟩, by decide⟩
theorem elPtrs : ElT Try.prog 93 94 1 [.slice none 0 0] 24 := ⟨by kernel_rfl, ⟨.slice none 0 0, by kernel_rfl, by kernel_rfl, rfl⟩, by decide⟩

def upd {α : Type} (f : Nat → α) (k : Nat) (v : α) : Nat → α := fun x => if x = k then v else f x
theorem upd_same {α : Type} (f : Nat → α) (k : Nat) (v : α) : upd f k v k = v := if_pos rfl
theorem upd_ne {α : Type} (f : Nat → α) {k x : Nat} (v : α) (h : x ≠ k) : upd f k v x = f x := if_neg h
def ptr (pb : Nat → Nat) (p : Nat) : Value := .pointer (some ⟨pb p, 0, none⟩)
def ownOf (cs : List Cd) (k : Nat) : Option Nat :=
  if Opens (cs.getD k default) then some k else if (cs.getD k default).op = 12 ∨ (cs.getD k default).op = 14 then some (aroundAt cs k).toNat else none
def ownV (pb : Nat → Nat) : Option Nat → Value
  | some p => ptr pb p
  | none => .pointer none
/-- The places of the blocks that are open at place j, the outermost one first. -/
def stkPos (cs : List Cd) (j : Nat) : List Nat := (((sscan (cs.take j) 0 []).getD []).map (·.1)).reverse
def Blk (w : World) (g : Nat) (p : Nat) (x : Int × Int) : Prop := w.heap[g]? = some (.cells #[.int .i64 (p : Int), .int .i64 x.1, .int .i64 x.2] 98 (0, 0))
def RowOk (w : World) (B go : Nat) (q : Value) (pb : Nat → Nat) (r : Value) (ps : List Nat) : Prop :=
  OwnO w B 99 1 r ps.length (ps.map (ptr pb)) ∧ ∀ g, r.ownBlock = some g → g ≠ go ∧ some g ≠ q.ownBlock

structure BInv (cs : List Cd) (B : Nat) (w wr : World) (ga go : Nat) (q : Value) (k ka : Nat) (st : List (Nat × Int)) (pb : Nat → Nat) (bv : Nat → Int × Int) : Prop where
  pure : Pure w wr
  hB : B = w.heap.size
  sc : sscan (cs.take k) 0 [] = some st
  stk : Stk cs k st
  own : ∃ ys, OwnO wr B 99 1 (.slice (some ⟨go, 0, none⟩) cs.length cs.length) cs.length ys ∧ (∀ j, j < k → ys[j]? = some (ownV pb (ownOf cs j))) ∧ ∀ j, k ≤ j → j < cs.length → ys[j]? = some (.pointer none)
  aro : ∃ zs, OwnO wr B 94 1 (.slice (some ⟨ga, 0, none⟩) cs.length cs.length) cs.length zs ∧ ∀ j, j < ka → ∃ r, zs[j]? = some r ∧ RowOk wr B go q pb r (stkPos cs j)
  que : OwnO wr B 99 1 q st.length ((st.map fun x => ptr pb x.1).reverse)
  qne : ∀ g, q.ownBlock = some g → g ≠ go
  blk : ∀ p, p < k → Opens (cs.getD p default) → B ≤ pb p ∧ Blk wr (pb p) p (bv p)
  inj : ∀ p p', p < k → p' < k → Opens (cs.getD p default) → Opens (cs.getD p' default) → pb p = pb p' → p = p'
  opn : ∀ i (h : i < st.length), Opens (cs.getD st[i].1 default) ∧ (bv st[i].1).2 = -1 ∧ endAt cs st[i].1 = eScan (cs.drop k) k i (bv st[i].1).1 ∧ ((0 ≤ (bv st[i].1).1) ↔ st[i].2 = 12) ∧ (st[i].2 = 13 ↔ (cs.getD st[i].1 default).op = 13)
  cls : ∀ p, p < k → Opens (cs.getD p default) → (∀ i (h : i < st.length), st[i].1 ≠ p) → endAt cs p = ((bv p).2, (bv p).1)

theorem Blk.keep {w w' : World} {g p : Nat} {x : Int × Int} {row : Option Nat} (h : Blk w g p x) (hg : w.grownBy w' row) (hne : some g ≠ row) : Blk w' g p x := by
  unfold Blk at h ⊢
  rw [hg.block g (Array.getElem?_eq_some_iff.1 h).1 hne]; exact h
theorem RowOk.keep {w w' : World} {B go : Nat} {q : Value} {pb : Nat → Nat} {r : Value} {ps : List Nat} {row : Option Nat} (h : RowOk w B go q pb r ps) (hg : w.grownBy w' row) (hne : ∀ g, r.ownBlock = some g → some g ≠ row) : RowOk w' B go q pb r ps :=
  ⟨h.1.kept hg hne, h.2⟩
theorem OwnO.heap {w : World} {B e s n : Nat} {v : Value} {xs : List Value} (h : OwnO w B e s v n xs) {g : Nat} (hg : v.ownBlock = some g) : ∃ cur, w.heap[g]? = some (.cells cur e (0, 0)) := by
  rcases h.2 with ⟨rfl, _⟩ | ⟨g', off, cap, cur, rfl, h1, h2, _⟩
  · simp [Value.ownBlock] at hg
  · simp [Value.ownBlock] at hg; subst hg; exact ⟨cur, h2⟩
theorem Blk.ne_own {w : World} {g p : Nat} {x : Int × Int} (h : Blk w g p x) {B e s n : Nat} {v : Value} {xs : List Value} (h' : OwnO w B e s v n xs) (hne : e ≠ 98) {g' : Nat} (hg : v.ownBlock = some g') : g ≠ g' := by
  rintro rfl
  obtain ⟨cur, hc⟩ := h'.heap hg
  unfold Blk at h
  rw [h] at hc
  injection hc with hc
  injection hc with _ hc
  exact hne hc.symm

section
variable {cs : List Cd} {B : Nat} {w wr : World} {ga go : Nat} {q : Value} {k ka : Nat} {st : List (Nat × Int)} {pb : Nat → Nat} {bv : Nat → Int × Int}

theorem BInv.keepPure {w' : World} (h : BInv cs B w wr ga go q k ka st pb bv) (hp : Pure wr w') : BInv cs B w w' ga go q k ka st pb bv := by
  obtain ⟨h1, h2, h3, h4, ⟨ys, h5, h6⟩, ⟨zs, h7, h8⟩, h9, h10, h11, h12, h13, h14⟩ := h
  refine ⟨h1.trans hp, h2, h3, h4, ⟨ys, h5.pure hp, h6⟩, ⟨zs, h7.pure hp, fun j hj => ?_⟩, h9.pure hp, h10, fun p hp1 hp2 => ⟨(h11 p hp1 hp2).1, (h11 p hp1 hp2).2.keep (hp.grownBy none) (by simp)⟩, h12, h13, h14⟩
  obtain ⟨r, a, b⟩ := h8 j hj
  exact ⟨r, a, b.keep (hp.grownBy none) (by simp)⟩

/-- around[k] is stored. -/
theorem BInv.storeRow {w2 : World} {r : Value} (h : BInv cs B w wr ga go q k k st pb bv) (hk : k < cs.length) (hp : Pure wr w2) (hr : OwnO w2 wr.heap.size 99 1 r st.length ((st.map fun x => ptr pb x.1).reverse)) :
    BInv cs B w (w2.setCell ⟨ga, k, none⟩ r) ga go q k (k + 1) st pb bv := by
  have h' := h.keepPure hp
  have hsz := h.pure.size
  have hlt1 := h.que.lt
  obtain ⟨ys0, ho0, _⟩ := h.own
  have hgo := (ho0.lt go rfl).2
  obtain ⟨h1, h2, h3, h4, ⟨ys, h5, h6⟩, ⟨zs, h7, h8⟩, h9, h10, h11, h12, h13, h14⟩ := h'
  have hg := grown_setCell w2 ⟨ga, k, none⟩ r
  have hga := h7.lt ga rfl
  have hs := h7.stored k r
  rw [Nat.zero_add] at hs
  have hrB : OwnO w2 B 99 1 r st.length ((st.map fun x => ptr pb x.1).reverse) := by
    refine ⟨hr.1, ?_⟩
    rcases hr.2 with h | ⟨g, off, cap, cur, e1, e2, e3⟩
    · exact .inl h
    · exact .inr ⟨g, off, cap, cur, e1, by omega, e3⟩
  have hra : ∀ g, r.ownBlock = some g → some g ≠ some ga := fun g hg => hrB.ne h7 (by decide) g hg
  have hpos : stkPos cs k = (st.map (·.1)).reverse := by unfold stkPos; rw [h3]; rfl
  refine ⟨h1.setCell (show w.heap.size ≤ ga by omega) _, h2, h3, h4, ⟨ys, h5.kept hg (fun g hg => h5.ne h7 (by decide) g hg), h6⟩, ⟨_, hs, fun j hj => ?_⟩, h9.kept hg (fun g hg => h9.ne h7 (by decide) g hg), h10, fun p hp1 hp2 => ⟨(h11 p hp1 hp2).1, (h11 p hp1 hp2).2.keep hg (fun e => (h11 p hp1 hp2).2.ne_own h7 (by decide) rfl (by injection e))⟩, h12, h13, h14⟩
  have hzl : zs.length = cs.length := by have := h7.1; omega
  by_cases e : j = k
  · subst e
    refine ⟨r, by rw [List.getElem?_set_self (by omega)], ?_⟩
    rw [hpos]
    refine ⟨?_, fun g hg2 => ?_⟩
    · have hr' := hrB.kept hg (fun g hg => hra g hg)
      rw [List.length_reverse, List.length_map, List.map_reverse, List.map_map]
      exact hr'
    · have := hr.lt g hg2
      refine ⟨by omega, fun e => ?_⟩
      have := hlt1 g e.symm
      omega
  · obtain ⟨r', a, b⟩ := h8 j (by omega)
    refine ⟨r', by rw [List.getElem?_set_ne (by omega)]; exact a, b.keep hg (fun g hg => b.1.ne h7 (by decide) g hg)⟩

/-- own[k] is stored; nothing else has turned yet. -/
theorem own_store {u : Value} (h : BInv cs B w wr ga go q k ka st pb bv) :
    (∃ zs, OwnO (wr.setCell ⟨go, k, none⟩ u) B 94 1 (.slice (some ⟨ga, 0, none⟩) cs.length cs.length) cs.length zs ∧ ∀ j, j < ka → ∃ r, zs[j]? = some r ∧ RowOk (wr.setCell ⟨go, k, none⟩ u) B go q pb r (stkPos cs j)) ∧
    OwnO (wr.setCell ⟨go, k, none⟩ u) B 99 1 q st.length ((st.map fun x => ptr pb x.1).reverse) ∧
    (∀ p, p < k → Opens (cs.getD p default) → B ≤ pb p ∧ Blk (wr.setCell ⟨go, k, none⟩ u) (pb p) p (bv p)) ∧ Pure w (wr.setCell ⟨go, k, none⟩ u) := by
  obtain ⟨h1, h2, h3, h4, ⟨ys, h5, h6⟩, ⟨zs, h7, h8⟩, h9, h10, h11, h12, h13, h14⟩ := h
  have hg := grown_setCell wr ⟨go, k, none⟩ u
  have hgo := h5.lt go rfl
  refine ⟨⟨zs, h7.kept hg (fun g hg => h7.ne h5 (by decide) g hg), fun j hj => ?_⟩, h9.kept hg (fun g hg e => h10 g hg (by injection e)), fun p hp1 hp2 => ⟨(h11 p hp1 hp2).1, (h11 p hp1 hp2).2.keep hg (fun e => (h11 p hp1 hp2).2.ne_own h5 (by decide) rfl (by injection e))⟩, h1.setCell (show w.heap.size ≤ go by omega) _⟩
  obtain ⟨r, a, b⟩ := h8 j hj
  exact ⟨r, a, b.keep hg (fun g hg e => (b.2 g hg).1 (by injection e))⟩
end

theorem bScan_lt (cs : List Cd) : ∀ (k d : Nat), bScan cs k d < k
  | 0, _ => by simp [bScan]
  | k + 1, d => by
    unfold bScan
    split
    · have := bScan_lt cs k (d + 1); omega
    · split
      · split
        · omega
        · have := bScan_lt cs k (d - 1); omega
      · have := bScan_lt cs k d; omega
theorem ownOf_le {cs : List Cd} {j p : Nat} (h : ownOf cs j = some p) : p ≤ j := by
  unfold ownOf at h
  split at h
  · injection h with h; omega
  · split at h
    · injection h with h
      have : aroundAt cs j < j := bScan_lt cs j 0
      omega
    · cases h

end Go.Proofs.Ytkolnakcgjlcgaa
