/- Programs with an instruction more: a barrier at a place in no block, any plain instruction at the end; what the run in lockstep does then. No program in sight. Races, plainly: by members of the list; with a barrier more or an instruction less no race comes up. No program in sight. Helpers of the laws on accesses. The split step for any arguments, as the program finds it. No condition. -/
import Derived.Test.YtonmndojlnohcaaKbf
import Derived.Test.YtonmndojlnohcaaKca

namespace Go.Proofs.Ytonmndojlnohcaa

/-- Two runs side by side: the same registers and cells, places that differ by d, phases that differ by e. -/
structure Side (d e : Nat) (X Y : List Ac) (U V : List (Nat × Nat × (Nat → Nat → Int))) (s s' : LS) : Prop where
  a : AlikeA e X Y s s'
  h : ∃ L, s.H = U ++ L ∧ s'.H = V ++ L.map (fun x => (x.1 + d, x.2))
section
variable {d e : Nat} {X Y : List Ac} {U V : List (Nat × Nat × (Nat → Nat → Int))}
theorem Side.more {s s' u u' : LS} (h : Side d e X Y U V s s') (ha : AlikeA e X Y u u') (i mask : Nat) (h1 : u.H = s.H ++ [(i, mask, s.R)]) (h2 : u'.H = s'.H ++ [(i + d, mask, s'.R)]) : Side d e X Y U V u u' := by
  obtain ⟨L, e1, e2⟩ := h.h
  refine ⟨ha, L ++ [(i, mask, s.R)], by rw [h1, e1, List.append_assoc], ?_⟩
  rw [h2, e2, List.map_append, List.append_assoc, h.a.r]
  rfl
theorem Side.run (n m : Nat) {t : Tr} (ho : t.Ok) {i j mask : Nat} {s s' : LS} (hj : j = i + d) (h : Side d e X Y U V s s') : Side d e X Y U V (run n m t i mask s) (run n m t j mask s') :=
  run_sim n m d (Side d e X Y U V) (fun _ _ h => h.a.r) (fun _ _ i mask h => h.more (h.a.beat _ _ _ _) i mask rfl rfl) (fun c _ _ i mask _ h => h.more (h.a.exec c n m i (i + d) mask) i mask (exec_hist _ _ _ _ _ _) (exec_hist _ _ _ _ _ _)) t i j mask s s' ho hj h
theorem Side.start {s s' : LS} (h1 : s.R = s'.R) (h2 : s.M = s'.M) (h3 : s'.P = s.P + e) : Side d e s.A s'.A s.H s'.H s s' := ⟨AlikeA.start h1 h2 h3, [], by simp, by simp⟩
end

def cBar : Cd := ⟨10, 0, 0, 0⟩
theorem cbar_plain : Plain cBar := by simp [Plain, cBar, CdOk, Reg, Word]

/-- Inside of a tree one is around what is around its first place, or further in. -/
theorem around_in {cs : List Cd} : ∀ (t : Tr) (i j : Nat), t.Ok → Seg cs i t → i ≤ j → j ≤ i + t.len → aroundAt cs j = aroundAt cs i ∨ (i : Int) ≤ aroundAt cs j
  | .nil, i, j, _, _, h1, h2 => by
    have h0 : Tr.nil.len = 0 := rfl
    have : j = i := by omega
    subst this; exact .inl rfl
  | .op c k, i, j, ho, hs, h1, h2 => by
    obtain ⟨e1, e2, e3⟩ := hs.op
    rw [Tr.len_op] at h2
    by_cases hj : j = i
    · subst hj; exact .inl rfl
    · have ha : aroundAt cs (i + 1) = aroundAt cs i := around_op (by rw [e1]; rintro (h | h); exact ho.1.2.1 h; exact ho.1.2.2.2.1 h) (by rw [e1]; exact ho.1.2.2.2.2)
      rcases around_in k (i + 1) j ho.2 e3 (by omega) (by omega) with h | h
      · rw [h, ha]; exact .inl rfl
      · exact .inr (by omega)
  | .ite a t k, i, j, ho, hs, h1, h2 => by
    obtain ⟨e1, e2, e3, e4, e5⟩ := hs.ite
    rw [Tr.len_ite] at h2
    by_cases hj : j = i
    · subst hj; exact .inl rfl
    by_cases hj2 : j ≤ i + 1 + t.len
    · have ha := around_open (cs := cs) (i := i) (by rw [e1]; exact opens_if a)
      rcases around_in t (i + 1) j ho.2.1 e2 (by omega) (by omega) with h | h
      · rw [h, ha]; exact .inr (Int.le_refl _)
      · exact .inr (by omega)
    · have ha := around_behind ho.2.1 e2 (by rw [e1]; exact opens_if a) e3
      rcases around_in k (i + 1 + t.len + 1) j ho.2.2 e5 (by omega) (by omega) with h | h
      · rw [h, ha]; exact .inl rfl
      · exact .inr (by omega)
  | .itee a t e k, i, j, ho, hs, h1, h2 => by
    obtain ⟨e1, e2, e3, e4, e5, e6, e7⟩ := hs.itee
    rw [Tr.len_itee] at h2
    have hab := around_behind2 ho.2.1 e2 (by rw [e1]; exact opens_if a) e3 ho.2.2.1 e4 e5
    by_cases hj : j = i
    · subst hj; exact .inl rfl
    by_cases hj2 : j ≤ i + 1 + t.len
    · have ha := around_open (cs := cs) (i := i) (by rw [e1]; exact opens_if a)
      rcases around_in t (i + 1) j ho.2.1 e2 (by omega) (by omega) with h | h
      · rw [h, ha]; exact .inr (Int.le_refl _)
      · exact .inr (by omega)
    by_cases hj3 : j ≤ i + 1 + t.len + 1 + e.len
    · rcases around_in e (i + 1 + t.len + 1) j ho.2.2.1 e4 (by omega) (by omega) with h | h
      · rw [h, hab.2]; exact .inr (Int.le_refl _)
      · exact .inr (by omega)
    · rcases around_in k (i + 1 + t.len + 1 + e.len + 1) j ho.2.2.2 e7 (by omega) (by omega) with h | h
      · rw [h, hab.1]; exact .inl rfl
      · exact .inr (by omega)
  | .loop a b t k, i, j, ho, hs, h1, h2 => by
    obtain ⟨e1, e2, e3, e4, e5⟩ := hs.loop
    rw [Tr.len_loop] at h2
    by_cases hj : j = i
    · subst hj; exact .inl rfl
    by_cases hj2 : j ≤ i + 1 + t.len
    · have ha := around_open (cs := cs) (i := i) (by rw [e1]; exact opens_loop a b)
      rcases around_in t (i + 1) j ho.2.2.1 e2 (by omega) (by omega) with h | h
      · rw [h, ha]; exact .inr (Int.le_refl _)
      · exact .inr (by omega)
    · have ha := around_behind ho.2.2.1 e2 (by rw [e1]; exact opens_loop a b) e3
      rcases around_in k (i + 1 + t.len + 1) j ho.2.2.2 e5 (by omega) (by omega) with h | h
      · rw [h, ha]; exact .inl rfl
      · exact .inr (by omega)

/-- A place in no block parts the tree. -/
theorem part_at {cs : List Cd} : ∀ (t : Tr) (i j : Nat), t.Ok → Seg cs i t → i ≤ j → j ≤ i + t.len → aroundAt cs i = -1 → aroundAt cs j = -1 → ∃ u v : Tr, u.Ok ∧ v.Ok ∧ t = u.app v ∧ i + u.len = j
  | .nil, i, j, _, _, h1, h2, _, _ => by
    have h0 : Tr.nil.len = 0 := rfl
    exact ⟨.nil, .nil, trivial, trivial, rfl, by omega⟩
  | .op c k, i, j, ho, hs, h1, h2, hi, hj' => by
    obtain ⟨e1, e2, e3⟩ := hs.op
    rw [Tr.len_op] at h2
    by_cases hj : j = i
    · subst hj; exact ⟨.nil, .op c k, trivial, ho, rfl, by have h0 : Tr.nil.len = 0 := rfl; omega⟩
    · have ha : aroundAt cs (i + 1) = aroundAt cs i := around_op (by rw [e1]; rintro (h | h); exact ho.1.2.1 h; exact ho.1.2.2.2.1 h) (by rw [e1]; exact ho.1.2.2.2.2)
      obtain ⟨u, v, hu, hv, e, hl⟩ := part_at k (i + 1) j ho.2 e3 (by omega) (by omega) (by rw [ha, hi]) hj'
      exact ⟨.op c u, v, ⟨ho.1, hu⟩, hv, by rw [e]; rfl, by rw [Tr.len_op]; omega⟩
  | .ite a t k, i, j, ho, hs, h1, h2, hi, hj' => by
    obtain ⟨e1, e2, e3, e4, e5⟩ := hs.ite
    rw [Tr.len_ite] at h2
    by_cases hj : j = i
    · subst hj; exact ⟨.nil, .ite a t k, trivial, ho, rfl, by have h0 : Tr.nil.len = 0 := rfl; omega⟩
    by_cases hj2 : j ≤ i + 1 + t.len
    · have ha := around_open (cs := cs) (i := i) (by rw [e1]; exact opens_if a)
      rcases around_in t (i + 1) j ho.2.1 e2 (by omega) (by omega) with h | h
      · omega
      · omega
    · have ha := around_behind ho.2.1 e2 (by rw [e1]; exact opens_if a) e3
      obtain ⟨u, v, hu, hv, e, hl⟩ := part_at k (i + 1 + t.len + 1) j ho.2.2 e5 (by omega) (by omega) (by rw [ha, hi]) hj'
      exact ⟨.ite a t u, v, ⟨ho.1, ho.2.1, hu⟩, hv, by rw [e]; rfl, by rw [Tr.len_ite]; omega⟩
  | .itee a t e k, i, j, ho, hs, h1, h2, hi, hj' => by
    obtain ⟨e1, e2, e3, e4, e5, e6, e7⟩ := hs.itee
    rw [Tr.len_itee] at h2
    have hab := around_behind2 ho.2.1 e2 (by rw [e1]; exact opens_if a) e3 ho.2.2.1 e4 e5
    by_cases hj : j = i
    · subst hj; exact ⟨.nil, .itee a t e k, trivial, ho, rfl, by have h0 : Tr.nil.len = 0 := rfl; omega⟩
    by_cases hj2 : j ≤ i + 1 + t.len
    · have ha := around_open (cs := cs) (i := i) (by rw [e1]; exact opens_if a)
      rcases around_in t (i + 1) j ho.2.1 e2 (by omega) (by omega) with h | h
      · omega
      · omega
    by_cases hj3 : j ≤ i + 1 + t.len + 1 + e.len
    · rcases around_in e (i + 1 + t.len + 1) j ho.2.2.1 e4 (by omega) (by omega) with h | h
      · omega
      · omega
    · obtain ⟨u, v, hu, hv, e', hl⟩ := part_at k (i + 1 + t.len + 1 + e.len + 1) j ho.2.2.2 e7 (by omega) (by omega) (by rw [hab.1, hi]) hj'
      exact ⟨.itee a t e u, v, ⟨ho.1, ho.2.1, ho.2.2.1, hu⟩, hv, by rw [e']; rfl, by rw [Tr.len_itee]; omega⟩
  | .loop a b t k, i, j, ho, hs, h1, h2, hi, hj' => by
    obtain ⟨e1, e2, e3, e4, e5⟩ := hs.loop
    rw [Tr.len_loop] at h2
    by_cases hj : j = i
    · subst hj; exact ⟨.nil, .loop a b t k, trivial, ho, rfl, by have h0 : Tr.nil.len = 0 := rfl; omega⟩
    by_cases hj2 : j ≤ i + 1 + t.len
    · have ha := around_open (cs := cs) (i := i) (by rw [e1]; exact opens_loop a b)
      rcases around_in t (i + 1) j ho.2.2.1 e2 (by omega) (by omega) with h | h
      · omega
      · omega
    · have ha := around_behind ho.2.2.1 e2 (by rw [e1]; exact opens_loop a b) e3
      obtain ⟨u, v, hu, hv, e, hl⟩ := part_at k (i + 1 + t.len + 1) j ho.2.2.2 e5 (by omega) (by omega) (by rw [ha, hi]) hj'
      exact ⟨.loop a b t u, v, ⟨ho.1, ho.2.1, ho.2.2.1, hu⟩, hv, by rw [e]; rfl, by rw [Tr.len_loop]; omega⟩

theorem app_len (u v : Tr) : (u.app v).len = u.len + v.len := by unfold Tr.len; rw [app_flat, List.length_append]
theorem app_depth_le : ∀ (u v : Tr), u.depth ≤ (u.app v).depth ∧ v.depth ≤ (u.app v).depth
  | .nil, v => ⟨Nat.zero_le _, Nat.le_refl _⟩
  | .op c k, v => app_depth_le k v
  | .ite a t k, v => by have := app_depth_le k v; simp only [Tr.app, Tr.depth]; omega
  | .itee a t e k, v => by have := app_depth_le k v; simp only [Tr.app, Tr.depth]; omega
  | .loop a b t k, v => by have := app_depth_le k v; simp only [Tr.app, Tr.depth]; omega
theorem ext_parts {s s' : LS} (h : Ext s s') : ∃ X, s'.H = s.H ++ X := h

/-- A program with a barrier more. -/
def insC (cs : List Cd) (at_ : Nat) : List Cd := cs.take at_ ++ cBar :: cs.drop at_
/-- The parts of a program before and behind a place in no block. -/
theorem parts_of {cs : List Cd} {at_ : Nat} (hv : PValid cs) (h : at_ = 0 ∨ (at_ ≤ cs.length ∧ aroundAt cs at_ = -1)) :
    ∃ u v : Tr, u.Ok ∧ v.Ok ∧ treeOf cs = u.app v ∧ u.len = at_ ∧ u.flat = cs.take at_ ∧ v.flat = cs.drop at_ := by
  obtain ⟨h1, h2, h3⟩ := treeOf_spec hv
  have hlen : (treeOf cs).len = cs.length := (congrArg List.length h1).symm
  obtain ⟨u, v, hu, hv', e, hl⟩ : ∃ u v : Tr, u.Ok ∧ v.Ok ∧ treeOf cs = u.app v ∧ u.len = at_ := by
    rcases h with rfl | ⟨h4, h5⟩
    · exact ⟨.nil, treeOf cs, trivial, h2, rfl, rfl⟩
    · obtain ⟨u, v, hu, hv', e, hl⟩ := part_at (treeOf cs) 0 at_ h2 (Seg.whole h1) (by omega) (by omega) (around_0 cs) h5
      exact ⟨u, v, hu, hv', e, by omega⟩
  have hf : cs = u.flat ++ v.flat := by rw [← app_flat, ← e]; exact h1
  refine ⟨u, v, hu, hv', e, hl, ?_, ?_⟩
  · rw [hf, ← hl]; exact (List.take_left (l₁ := u.flat)).symm
  · rw [hf, ← hl]; exact (List.drop_left (l₁ := u.flat)).symm
/-- A tree with an instruction in between is a valid program. -/
theorem put_valid {cs : List Cd} {u v : Tr} {c : Cd} (hv : PValid cs) (hu : u.Ok) (hv' : v.Ok) (e : treeOf cs = u.app v) (hc : Plain c) (h40 : cs.length + 1 ≤ 40) :
    PValid (u.app (.op c v)).flat ∧ treeOf (u.app (.op c v)).flat = u.app (.op c v) := by
  obtain ⟨h1, h2, h3⟩ := treeOf_spec hv
  have hlen : (treeOf cs).len = cs.length := (congrArg List.length h1).symm
  rw [e, app_len] at hlen
  have hd := app_depth_le u v
  rw [e] at h3
  have hok : (u.app (.op c v)).Ok := app_ok hu ⟨hc, hv'⟩
  have hdd : (u.app (.op c v)).depth ≤ 3 := app_depth (by omega) (by show v.depth ≤ 3; omega)
  have hp := valid_of_tree hok hdd (by rw [app_len, Tr.len_op]; omega)
  exact ⟨hp, treeOf_eq hp rfl hok⟩
theorem put_flat (u v : Tr) (c : Cd) : (u.app (.op c v)).flat = u.flat ++ c :: v.flat := by rw [app_flat]; rfl
theorem full_ne {n : Nat} (hn : 1 ≤ n) : (2 ^ n - 1 : Nat) ≠ 0 := by have := Nat.pow_le_pow_right (show 0 < 2 by decide) hn; omega
theorem full_lt (n : Nat) : (2 ^ n - 1 : Nat) < 2 ^ n := Nat.sub_lt (Nat.two_pow_pos n) (by decide)

/-- The phases of accesses are at most the phase at the end. -/
theorem phase_le {cs : List Cd} (n m : Nat) {t : Tr} {i mask : Nat} {s : LS} (ho : t.Ok) (hs : Seg cs i t) (hm : mask < 2 ^ n) (h : ∀ x ∈ s.A, x.ph ≤ s.P) : ∀ x ∈ (run n m t i mask s).A, x.ph ≤ (run n m t i mask s).P := by
  refine run_keep (cs := cs) n m (fun s => ∀ x ∈ s.A, x.ph ≤ s.P) (fun s i mask _ _ _ _ h => h) (fun s i mask _ _ _ _ h => ?_) t i mask s ho hs hm h
  have hl : ∀ (c : Cd) (s : LS), (∀ x ∈ s.A, x.ph ≤ s.P) → ∀ j, ∀ x ∈ (lanesTo c m mask j s).A, x.ph ≤ (lanesTo c m mask j s).P := by
    intro c s h j
    induction j with
    | zero => exact h
    | succ j ih =>
      unfold lanesTo
      split
      · intro x hx
        have hx : x ∈ (if c.op = 8 ∨ c.op = 9 then (lanesTo c m mask j s).A ++ _ else (lanesTo c m mask j s).A : List Ac) := hx
        show x.ph ≤ (lanesTo c m mask j s).P
        split at hx
        · rcases List.mem_append.1 hx with h1 | h1
          · exact ih x h1
          · simp at h1; rw [h1]; exact Nat.le_refl _
        · exact ih x hx
      · exact ih
  have h2 := hl (cs.getD i default) (beat i mask s) h n
  unfold exec
  simp only
  split
  · exact fun x hx => Nat.le_succ_of_le (h2 x hx)
  · exact h2

theorem lanes_calm {c : Cd} (h8 : c.op ≠ 8) (h9 : c.op ≠ 9) (m mask : Nat) (s : LS) : ∀ j, (lanesTo c m mask j s).M = s.M ∧ (lanesTo c m mask j s).A = s.A
  | 0 => ⟨rfl, rfl⟩
  | j + 1 => by
    have ih := lanes_calm h8 h9 m mask s j
    unfold lanesTo
    split
    · constructor
      · show simM c m _ (lanesTo c m mask j s).M = _
        unfold simM; rw [if_neg h9]; exact ih.1
      · show (if c.op = 8 ∨ c.op = 9 then _ else (lanesTo c m mask j s).A) = _
        rw [if_neg (by rintro (h | h); exact h8 h; exact h9 h)]; exact ih.2
    · exact ih
theorem lanes_bar (m mask : Nat) (s : LS) : ∀ j, (lanesTo cBar m mask j s).R = s.R
  | 0 => rfl
  | j + 1 => by
    have ih := lanes_bar m mask s j
    unfold lanesTo
    split
    · show (fun l => if l = j then simR cBar j m ((lanesTo cBar m mask j s).R j) (lanesTo cBar m mask j s).M else (lanesTo cBar m mask j s).R l) = _
      funext l
      have e : simR cBar j m ((lanesTo cBar m mask j s).R j) (lanesTo cBar m mask j s).M = (lanesTo cBar m mask j s).R j := rfl
      rw [e, ih]
      split
      · rename_i hl; rw [hl]
      · rfl
    · exact ih
/-- A barrier changes nothing but the phase. -/
theorem exec_bar (n m i mask : Nat) (s : LS) : (exec cBar n m i mask s).R = s.R ∧ (exec cBar n m i mask s).M = s.M ∧ (exec cBar n m i mask s).A = s.A ∧ (exec cBar n m i mask s).P = s.P + 1 ∧ (exec cBar n m i mask s).H = s.H ++ [(i, mask, s.R)] := by
  have h1 := lanes_calm (c := cBar) (by decide) (by decide) m mask (beat i mask s) n
  have h2 := lanes_bar m mask (beat i mask s) n
  have h3 : (lanesTo cBar m mask n (beat i mask s)).P = s.P := by
    have : ∀ j, (lanesTo cBar m mask j (beat i mask s)).P = s.P := by
      intro j
      induction j with
      | zero => rfl
      | succ j ih => unfold lanesTo; split <;> exact ih
    exact this n
  refine ⟨?_, ?_, ?_, ?_, exec_hist _ _ _ _ _ _⟩
  · exact h2
  · exact h1.1
  · exact h1.2
  · show (lanesTo cBar m mask n (beat i mask s)).P + 1 = _
    rw [h3]

theorem lockOf_app {cs : List Cd} {u v : Tr} {n : Nat} {mem : List Int} (e : treeOf cs = u.app v) : lockOf cs n mem = run n mem.length v u.len (2 ^ n - 1) (run n mem.length u 0 (2 ^ n - 1) (startLS mem)) := by
  unfold lockOf; rw [e, run_app]; simp
theorem getD_left {a b : List Cd} {i : Nat} (h : i < a.length) : (a ++ b).getD i default = a.getD i default := by
  simp [List.getD_eq_getElem?_getD, List.getElem?_append_left h]
theorem getD_right {a b : List Cd} {i : Nat} (h : a.length ≤ i) : (a ++ b).getD i default = b.getD (i - a.length) default := by
  simp [List.getD_eq_getElem?_getD, List.getElem?_append_right h]

/-- What a run with a barrier more does. -/
theorem ins_lock {cs : List Cd} {at_ n : Nat} {mem : List Int} (hn : 1 ≤ n) (hv : PValid cs) (h40 : cs.length + 1 ≤ 40) (h : at_ = 0 ∨ (at_ ≤ cs.length ∧ aroundAt cs at_ = -1)) :
    PValid (insC cs at_) ∧ (lockOf (insC cs at_) n mem).M = (lockOf cs n mem).M ∧ splitH (insC cs at_) n (lockOf (insC cs at_) n mem).H = splitH cs n (lockOf cs n mem).H ∧
    (∃ X L p, (lockOf cs n mem).A = X ++ L ∧ (lockOf (insC cs at_) n mem).A = X ++ L.map (acUp 1) ∧ (∀ x ∈ X, x.ph ≤ p) ∧ (∀ x ∈ L, p ≤ x.ph) ∧ (at_ = 0 → X = [])) := by
  obtain ⟨u, v, hu, hv', e, hl, hf1, hf2⟩ := parts_of hv h
  obtain ⟨h1, h2, h3⟩ := treeOf_spec hv
  obtain ⟨hp, ht⟩ := put_valid hv hu hv' e cbar_plain h40
  have hins : insC cs at_ = (u.app (.op cBar v)).flat := by rw [put_flat, hf1, hf2]; rfl
  have hcs : cs = u.flat ++ v.flat := by rw [← app_flat, ← e]; exact h1
  rw [hins]
  have hm := full_ne hn
  obtain ⟨S, hS⟩ : ∃ S, run n mem.length u 0 (2 ^ n - 1) (startLS mem) = S := ⟨_, rfl⟩
  have e1 : lockOf cs n mem = run n mem.length v u.len (2 ^ n - 1) S := by rw [lockOf_app e, hS]
  have e2 : lockOf (u.app (.op cBar v)).flat n mem = run n mem.length v (u.len + 1) (2 ^ n - 1) (exec cBar n mem.length u.len (2 ^ n - 1) S) := by
    rw [lockOf_app ht, hS]
    show (if (2 ^ n - 1 : Nat) = 0 then S else _ : LS) = _
    rw [if_neg hm]
  obtain ⟨b1, b2, b3, b4, b5⟩ := exec_bar n mem.length u.len (2 ^ n - 1) S
  have hside := Side.run (d := 1) (e := 1) n mem.length (mask := 2 ^ n - 1) (i := u.len) (j := u.len + 1) hv' rfl (Side.start (d := 1) (e := 1) (s := S) (s' := exec cBar n mem.length u.len (2 ^ n - 1) S) b1.symm b2.symm b4)
  -- the accesses behind the place, from a fresh begin
  have hfresh := AlikeA.run n mem.length 0 (mask := 2 ^ n - 1) (i := u.len) (j := u.len) (e := S.P) hv' rfl (AlikeA.start (e := S.P) (s := { S with A := [], P := 0 }) (s' := S) rfl rfl (by simp))
  obtain ⟨LA, a1, a2⟩ := hside.a.a
  obtain ⟨LF, f1, f2⟩ := hfresh.a
  rw [f2] at a1
  have hLA : LA = LF.map (acUp S.P) := (List.append_cancel_left a1).symm
  obtain ⟨LH, g1, g2⟩ := hside.h
  rw [b3] at a2
  have hXu : Seg (u.flat ++ v.flat) 0 u := ⟨v.flat, by simp⟩
  have hph : ∀ x ∈ S.A, x.ph ≤ S.P := by
    rw [← hS]; exact phase_le n mem.length hu hXu (full_lt n) (fun x hx => absurd hx (by simp [startLS]))
  refine ⟨hp, ?_, ?_, S.A, LA, S.P, ?_, ?_, hph, ?_, ?_⟩
  · rw [e1, e2]; exact hside.a.m.symm
  · rw [e1, e2, g1, g2, b5]
    have hUH : ∀ x ∈ S.H, x.1 < u.len := by
      intro x hx
      rw [← hS] at hx
      rcases runStepIn n mem.length u 0 (2 ^ n - 1) (startLS mem) x (full_lt n) hx with h | h
      · exact absurd h (by simp [startLS])
      · have := h.2.1; omega
    have hLH : ∀ x ∈ LH, u.len ≤ x.1 := by
      intro x hx
      have hx2 : x ∈ (run n mem.length v u.len (2 ^ n - 1) { S with H := [] }).H := by
        have hq := Side.run (d := 0) (e := 0) n mem.length (mask := 2 ^ n - 1) (i := u.len) (j := u.len) hv' rfl (Side.start (d := 0) (e := 0) (s := { S with H := [] }) (s' := S) rfl rfl (by simp))
        obtain ⟨L0, q1, q2⟩ := hq.h
        have q2' : (run n mem.length v u.len (2 ^ n - 1) S).H = S.H ++ L0 := by rw [q2]; congr 1; simp
        rw [g1] at q2'
        have := List.append_cancel_left q2'
        rw [q1, ← this]; simpa using hx
      rcases runStepIn n mem.length v u.len (2 ^ n - 1) _ x (full_lt n) hx2 with h | h
      · exact absurd h (by simp)
      · exact h.1
    unfold splitH
    rw [List.any_append, List.any_append, List.any_append, put_flat]
    have hb : (List.any [(u.len, 2 ^ n - 1, S.R)] fun x => decide (((u.flat ++ cBar :: v.flat).getD x.1 default).op = 10) && !decide (x.2.1 = 2 ^ n - 1)) = false := by simp
    rw [hb, Bool.or_false]
    congr 1
    · rw [Bool.eq_iff_iff, List.any_eq_true, List.any_eq_true]
      constructor
      · rintro ⟨x, hx, hq⟩
        refine ⟨x, hx, ?_⟩
        rw [getD_left (show x.1 < u.flat.length from hUH x hx)] at hq
        rw [hcs, getD_left (show x.1 < u.flat.length from hUH x hx)]; exact hq
      · rintro ⟨x, hx, hq⟩
        refine ⟨x, hx, ?_⟩
        rw [hcs, getD_left (show x.1 < u.flat.length from hUH x hx)] at hq
        rw [getD_left (show x.1 < u.flat.length from hUH x hx)]; exact hq
    · rw [List.any_map, Bool.eq_iff_iff, List.any_eq_true, List.any_eq_true]
      have hget : ∀ x ∈ LH, (u.flat ++ cBar :: v.flat).getD (x.1 + 1) default = cs.getD x.1 default := by
        intro x hx
        have h0 : u.flat.length ≤ x.1 := hLH x hx
        rw [hcs, getD_right (show u.flat.length ≤ x.1 + 1 by omega), getD_right h0, show x.1 + 1 - u.flat.length = (x.1 - u.flat.length) + 1 by omega]
        simp
      constructor
      · rintro ⟨x, hx, hq⟩
        refine ⟨x, hx, ?_⟩
        simp only [Function.comp] at hq
        rw [hget x hx] at hq; exact hq
      · rintro ⟨x, hx, hq⟩
        refine ⟨x, hx, ?_⟩
        simp only [Function.comp]
        rw [hget x hx]; exact hq
  · rw [e1, f2, hLA]
  · rw [e2, a2]
  · rw [hLA]
    intro x hx
    obtain ⟨y, _, rfl⟩ := List.mem_map.1 hx
    show S.P ≤ y.ph + S.P
    omega
  · intro h0
    have hu0 : u = .nil := Tr.len_zero (by omega)
    rw [← hS, hu0]; rfl

/-- What a run with an instruction more at the end does. -/
theorem snoc_lock {cs : List Cd} {c : Cd} {n : Nat} {mem : List Int} (hn : 1 ≤ n) (hv : PValid cs) (hc : Plain c) (h40 : cs.length + 1 ≤ 40) :
    PValid (cs ++ [c]) ∧ lockOf (cs ++ [c]) n mem = exec c n mem.length cs.length (2 ^ n - 1) (lockOf cs n mem) := by
  obtain ⟨h1, h2, h3⟩ := treeOf_spec hv
  have e : treeOf cs = (treeOf cs).app .nil := by
    have : ∀ t : Tr, t.app .nil = t := by
      intro t
      induction t with
      | nil => rfl
      | op c k ih => simp only [Tr.app, ih]
      | ite a t k _ ih => simp only [Tr.app, ih]
      | itee a t e k _ _ ih => simp only [Tr.app, ih]
      | loop a b t k _ ih => simp only [Tr.app, ih]
    rw [this]
  obtain ⟨hp, ht⟩ := put_valid hv h2 (v := .nil) trivial e hc h40
  have hf : ((treeOf cs).app (.op c .nil)).flat = cs ++ [c] := by rw [put_flat, ← h1]; rfl
  rw [hf] at hp ht
  refine ⟨hp, ?_⟩
  rw [lockOf_app ht]
  have hlen : (treeOf cs).len = cs.length := (congrArg List.length h1).symm
  show (if (2 ^ n - 1 : Nat) = 0 then _ else _ : LS) = _
  rw [if_neg (full_ne hn), hlen]
  rfl

end Go.Proofs.Ytonmndojlnohcaa

namespace Go.Proofs.Ytonmndojlnohcaa

theorem clash_iff {x y : Ac} : clashB x y = true ↔ x.ph = y.ph ∧ x.who ≠ y.who ∧ x.cell = y.cell ∧ (x.wr = true ∨ y.wr = true) := by
  unfold clashB
  simp [Bool.and_eq_true, bne_iff_ne]
theorem clash_symm {x y : Ac} (h : clashB x y = true) : clashB y x = true := by
  rw [clash_iff] at h ⊢
  exact ⟨h.1.symm, fun e => h.2.1 e.symm, h.2.2.1.symm, h.2.2.2.symm⟩
theorem clash_irr (x : Ac) : clashB x x = false := by
  cases h : clashB x x
  · rfl
  · exact absurd rfl (clash_iff.1 h).2.1
theorem acMem {A : List Ac} {p : Nat} (h : p < A.length) : A.getD p default ∈ A := by
  simp [List.getD_eq_getElem?_getD, h]
theorem race_iff {A : List Ac} : Race A ↔ ∃ x ∈ A, ∃ y ∈ A, clashB x y = true := by
  constructor
  · rintro ⟨q, p, h1, h2, h3⟩
    exact ⟨_, acMem (by omega), _, acMem h2, h3⟩
  · rintro ⟨x, hx, y, hy, h⟩
    obtain ⟨i, hi, rfl⟩ := List.getElem_of_mem hx
    obtain ⟨j, hj, rfl⟩ := List.getElem_of_mem hy
    rcases Nat.lt_trichotomy i j with hij | hij | hij
    · exact ⟨j, i, hij, hj, by simpa [List.getD_eq_getElem?_getD, hi, hj] using h⟩
    · subst hij; rw [clash_irr] at h; cases h
    · exact ⟨i, j, hij, hi, by have := clash_symm h; simpa [List.getD_eq_getElem?_getD, hi, hj] using this⟩
theorem race_sub {A B : List Ac} (h : ∀ x ∈ A, x ∈ B) (hr : Race A) : Race B := by
  rw [race_iff] at hr ⊢
  obtain ⟨x, hx, y, hy, h1⟩ := hr
  exact ⟨x, h x hx, y, h y hy, h1⟩
theorem clash_up {e : Nat} {x y : Ac} : clashB (acUp e x) (acUp e y) = clashB x y := by
  unfold clashB acUp
  have : (x.ph + e == y.ph + e) = (x.ph == y.ph) := by rw [Bool.eq_iff_iff, beq_iff_eq, beq_iff_eq]; omega
  simp only [this]
/-- With a barrier more no race comes up. -/
theorem race_ins {X L : List Ac} {p : Nat} (h1 : ∀ x ∈ X, x.ph ≤ p) (h2 : ∀ x ∈ L, p ≤ x.ph) (hr : Race (X ++ L.map (acUp 1))) : Race (X ++ L) := by
  rw [race_iff] at hr ⊢
  obtain ⟨x, hx, y, hy, hc⟩ := hr
  have hmix : ∀ x ∈ X, ∀ z ∈ L, clashB x (acUp 1 z) = true → False := by
    intro x hx z hz hc
    have := (clash_iff.1 hc).1
    have e : (acUp 1 z).ph = z.ph + 1 := rfl
    have := h1 x hx; have := h2 z hz; omega
  rcases List.mem_append.1 hx with hx | hx
  · rcases List.mem_append.1 hy with hy | hy
    · exact ⟨x, List.mem_append_left _ hx, y, List.mem_append_left _ hy, hc⟩
    · obtain ⟨z, hz, rfl⟩ := List.mem_map.1 hy
      exact absurd hc (fun hc => hmix x hx z hz hc)
  · obtain ⟨z, hz, rfl⟩ := List.mem_map.1 hx
    rcases List.mem_append.1 hy with hy | hy
    · exact absurd (clash_symm hc) (fun hc => hmix y hy z hz hc)
    · obtain ⟨u, hu, rfl⟩ := List.mem_map.1 hy
      rw [clash_up] at hc
      exact ⟨z, List.mem_append_right _ hz, u, List.mem_append_right _ hu, hc⟩
theorem ins_safe {cs : List Cd} {at_ n : Nat} {mem : List Int} (hok : RunOk cs n mem) (h40 : cs.length + 1 ≤ 40) (h : at_ = 0 ∨ (at_ ≤ cs.length ∧ aroundAt cs at_ = -1)) :
    RunOk (insC cs at_) n mem ∧ memA (insC cs at_) n mem = memA cs n mem ∧ wholeA (insC cs at_) n mem = wholeA cs n mem ∧ (freeA cs n mem = true → freeA (insC cs at_) n mem = true) := by
  have hn : 1 ≤ n := by have := hok.2.1.1; omega
  obtain ⟨hp, hM, hS, X, L, p, hA, hA', h1, h2, _⟩ := ins_lock (mem := mem) hn hok.1 h40 h
  have hk : RunOk (insC cs at_) n mem := ⟨hp, hok.2⟩
  refine ⟨hk, ?_, ?_, ?_⟩
  · rw [memA_ok hk, memA_ok hok, hM]
  · rw [wholeA_ok hk, wholeA_ok hok, hS]
  · rw [freeA_iff hok, freeA_iff hk, lockA_ok hok, lockA_ok hk, hA, hA']
    exact fun hno hr => hno (race_ins h1 h2 hr)
theorem ins_later {cs : List Cd} {n : Nat} {mem : List Int} (hok : RunOk cs n mem) (h40 : cs.length + 1 ≤ 40) : RunOk (cBar :: cs) n mem ∧ (lockA (cBar :: cs) n mem).A = (lockA cs n mem).A.map (acUp 1) := by
  have hn : 1 ≤ n := by have := hok.2.1.1; omega
  obtain ⟨hp, _, _, X, L, p, hA, hA', _, _, h0⟩ := ins_lock (at_ := 0) (mem := mem) hn hok.1 h40 (.inl rfl)
  have e0 : insC cs 0 = cBar :: cs := rfl
  rw [e0] at hp hA'
  have hk : RunOk (cBar :: cs) n mem := ⟨hp, hok.2⟩
  rw [h0 rfl, List.nil_append] at hA hA'
  exact ⟨hk, by rw [lockA_ok hok, lockA_ok hk, hA, hA']⟩

/-- The phases are small. -/
theorem lockA_ph {cs : List Cd} {a : Int} {mem : List Int} : ∀ x ∈ (lockA cs a mem).A, x.ph ≤ 1099511627776 := by
  by_cases h : RunOk cs a mem
  · obtain ⟨n, rfl, hn1, hn8⟩ := lanes_nat h.2.1
    rw [lockA_ok h]
    obtain ⟨h1, h2, h3⟩ := treeOf_spec h.1
    have hc := h.1.cost h1 h2 h3
    have hm := run_msz n mem.length hn8 (treeOf cs) 0 (2 ^ n - 1) (startLS mem)
    have hp := phase_le (cs := cs) n mem.length (mask := 2 ^ n - 1) (s := startLS mem) h2 (Seg.whole h1) (full_lt n) (fun x hx => absurd hx (by simp [startLS]))
    have h0 : msz (startLS mem) = 0 := rfl
    intro x hx
    have := hp x hx
    unfold msz at hm h0
    omega
  · rw [lockA_no h]; exact fun x hx => absurd hx (by simp [noLS])

end Go.Proofs.Ytonmndojlnohcaa

namespace Go.Proofs.Ytonmndojlnohcaa
open Go.RowKit

set_option maxHeartbeats 1000000 in
theorem sameAccesses_same (v v' : Value) (H : List Ac) (w : World) (h : Flat w v H.length 4 (accsL H)) (h' : Flat w v' H.length 4 (accsL H)) :
    Calls Try.prog 21 #[v, v'] w fun e w' => e = .returned (.bool true) ∧ Pure w w' := by
  have HF := Lib.hid h
  have HF' := Lib.hid h'
  obtain ⟨A, c, rfl, hnc, hcm⟩ := h.form
  obtain ⟨A', c', rfl, hnc', hcm'⟩ := h'.form
  clear h h'
  have hd : ((H.length : Int) != H.length) = false := by simp
  go_enter Try.func21, Try.ntmps21
  go_wp2
  go_loopg [5] H.length (fun gk i wr => ∃ k : Nat, gk + k = H.length ∧ i = .int .i64 k ∧ Pure w wr)
  case atStart => exact ⟨0, rfl, rfl, Pure.refl _⟩
  case round =>
    obtain ⟨k, hgk, rfl, hp⟩ := hrel
    have Hgk := Lib.hid hgk
    have hkn : k ≤ H.length := by omega
    clear hgk
    by_cases hlt : k < H.length
    · obtain ⟨b, o, rfl, hb, hc⟩ := accs_at HF.out hlt
      obtain ⟨b', o', rfl, hb', hc'⟩ := accs_at HF'.out hlt
      obtain ⟨q0, q1, q2, q3⟩ := (hc k hlt).keep hp
      obtain ⟨r0, r1, r2, r3⟩ := (hc' k hlt).keep hp
      obtain ⟨x, Hx⟩ : ∃ x : Int, Hid ((((H.getD k default).who : Nat) : Int) = x) := ⟨_, Lib.hid rfl⟩
      obtain ⟨y, Hy⟩ : ∃ y : Int, Hid ((((H.getD k default).cell : Nat) : Int) = y) := ⟨_, Lib.hid rfl⟩
      obtain ⟨z, Hz⟩ : ∃ z : Int, Hid ((((H.getD k default).ph : Nat) : Int) = z) := ⟨_, Lib.hid rfl⟩
      obtain ⟨u, Hu⟩ : ∃ u : Bool, Hid ((H.getD k default).wr = u) := ⟨_, Lib.hid rfl⟩
      rw [Hx.out] at q0 r0
      rw [Hy.out] at q1 r1
      rw [Hu.out] at q2 r2
      rw [Hz.out] at q3 r3
      clear hc hc'
      go_wp2
      go_quiet (fail)
      go_wp2
      go_roundg (H.length - (k + 1))
      case measure => have := Hgk.out; omega
      case rel => exact ⟨k + 1, by have := Hgk.out; omega, by go_num, by exact (by repeat (first | assumption | exact Pure.refl _ | refine Pure.drewN ?_ _ | refine Pure.drew ?_ | refine Pure.alloc ?_ _ | refine Pure.setCell ?_ (by simp <;> omega) _))⟩
    · go_wp2
      go_ret
      exact ⟨rfl, hp⟩

theorem bar_cells (cs : List Cd) : cdCells cBar ++ (List.range (cs.length * 4)).map (cdf cs) = (cBar :: cs).flatMap cdCells := by
  rw [range_cdf]
  simp
theorem bar_open {w : World} {B T : Nat} {v : Value} {n : Nat} {cs : List Cd} (hT : T = 31) (ho : OwnO w B T 4 v n (cdCells cBar ++ (List.range (cs.length * 4)).map (cdf cs))) (hn : n = (cBar :: cs).length) : Codes w v (cBar :: cs) := by
  subst hT
  rw [bar_cells] at ho
  exact Codes.of_ownO ho hn (flat_cdf _)

/-- A block that holds the cells of a program, wholly. -/
theorem codes_lit {w : World} {b n : Nat} {cs : List Cd} {t : TypeId} (h : w.heap[b]? = some (.cells (cs.flatMap cdCells).toArray t (0, 0))) (hn : n = cs.length) (hl : n ≤ 1048576) : Codes w (.slice (some ⟨b, 0, none⟩) n n) cs := by
  subst hn
  refine ⟨_, _, rfl, Nat.le_refl _, by omega, fun hn0 => ⟨b, 0, rfl, ?_, fun j hj => ?_⟩⟩
  · exact (Array.getElem?_eq_some_iff.1 h).1
  · have hc := flat_cdf cs j hj
    exact (cell_of_row _ _ _ _ _ _ h).trans (by simpa using hc)

end Go.Proofs.Ytonmndojlnohcaa

namespace Go.Proofs.Ytonmndojlnohcaa
open Go.RowKit

set_option maxHeartbeats 2000000 in
set_option maxRecDepth 100000 in
theorem ispl_any (vl vm : Value) (cs : List Cd) (a : Int) (mem : List Int) (w : World) (h : Codes w vl cs) (hm : Ints w vm mem) (hs1 : cs.length ≤ 1048576) (hs2 : mem.length ≤ 1048576) :
    Calls Try.prog 36 #[vl, .int .i64 a, vm] w fun e w' => e = .returned (spl2 (splA cs a mem)) ∧ Pure w w' := by
  have H := Lib.hid h
  have HM := Lib.hid hm
  obtain ⟨A, c, rfl, hnc, hcm⟩ := h.form
  obtain ⟨Am, cm, rfl⟩ := hm.form
  clear h hm
  by_cases hok : RunOk cs a mem
  · have HOK := Lib.hid hok
    obtain ⟨n, rfl, hn1, hn8⟩ := lanes_nat hok.2.1
    have HSA : Hid (splA cs n mem = (lockOf cs n mem).H.find? (splBad cs n)) := Lib.hid (by unfold splA; rw [lockA_ok hok, show ((n : Int)).toNat = n by omega])
    clear hok
    have HZ := Lib.hid (heap_alloc_new w (.cells #[.int .i64 0, .int .i64 0] 46))
    have hp0 : Pure w (w.alloc (.cells #[.int .i64 0, .int .i64 0] 46)) := by exact (by repeat (first | assumption | exact Pure.refl _ | refine Pure.drewN ?_ _ | refine Pure.drew ?_ | refine Pure.alloc ?_ _ | refine Pure.setCell ?_ (by simp <;> omega) _))
    have HP00 := Lib.hid hp0
    clear hp0
    go_enter Try.func36, Try.ntmps36
    go_wp2_with fail
    refine (ilock_any _ _ cs n mem _ (H.out.keep HP00.out) (HM.out.keep HP00.out) HOK.out.1 hn1 hn8 HOK.out.2.2).mono ?_
    rintro e w1 ⟨o, vb, va, rfl, hp0, hcs, hvl, hlk, hn, hmm, hrun⟩
    have HR := Lib.hid hrun
    have HP1 := Lib.hid (hp0.trans hrun.pure)
    have HIN : Hid (∀ x ∈ (lockOf cs n mem).H, x.1 < o.cs.length) := Lib.hid (by rw [hcs]; exact fun x hx => (lockOf_in HOK.out.1 x hx).2.1)
    have hlen := lockOf_len (n := n) (mem := mem) HOK.out.1
    have HSP : Hid ((lockOf cs n mem).H.find? (splBad o.cs o.rm.n) = splA cs n mem) := Lib.hid (by rw [hcs, hn, HSA.out])
    clear hrun hvl hlk hp0 hcs hn hmm
    go_wp2_with fail
    refine (isplit_any o _ _ _ _ HR.out HIN.out (by omega)).mono ?_
    rintro e w2 ⟨rfl, hp2⟩
    rw [HSP.out]
    have HPF : Hid (Pure w w2) := Lib.hid ((HP00.out.trans HP1.out).trans hp2)
    have hpf := HPF.out
    have hz : w2.heap[w.heap.size]? = some (.cells #[.int .i64 0, .int .i64 0] 46 (0, 0)) := (Chg.of_pure (S := fun _ => False) (HP1.out.trans hp2)).heap HZ.out id
    have HZ2 := Lib.hid hz
    have c0 : w2.cell? ⟨w.heap.size, 0, none⟩ = some (.int .i64 0) := (cell_of_row w2 _ 0 _ _ _ hz).trans rfl
    have c1 : w2.cell? ⟨w.heap.size, 1, none⟩ = some (.int .i64 0) := (cell_of_row w2 _ 1 _ _ _ hz).trans rfl
    have f0 := frozen_of_row w2 w.heap.size 0 _ _ hz
    have f1 := frozen_of_row w2 w.heap.size 1 _ _ hz
    clear hp2 hz
    cases hsp : splA cs n mem with
    | none =>
      have HQ : Hid (spl2 (splA cs n mem) = .tuple #[.agg #[.int .i64 0, .int .i64 0], .bool false]) := Lib.hid (by rw [hsp]; rfl)
      unfold spl2
      clear hsp
      go_wp2
      obtain ⟨y0, y1, y2⟩ := pair_set HZ2.out (.int .i64 0) (.int .i64 0)
      refine bodyPost_ret (v := .tuple #[.agg #[.int .i64 0, .int .i64 0], .bool false]) (by simp [results, Try.results36, go_sem, y1, y2]) rfl ?_
      exact ⟨by rw [HQ.out], by exact (by repeat (first | assumption | exact Pure.refl _ | refine Pure.drewN ?_ _ | refine Pure.drew ?_ | refine Pure.alloc ?_ _ | refine Pure.setCell ?_ (by simp <;> omega) _))⟩
    | some y =>
      obtain ⟨u0, u1, u2⟩ := y
      have HQ : Hid (spl2 (splA cs n mem) = .tuple #[.agg #[.int .i64 (u0 : Int), .int .i64 (u1 : Int)], .bool true]) := Lib.hid (by rw [hsp]; rfl)
      unfold spl2
      clear hsp
      simp only
      go_wp2
      obtain ⟨y0, y1, y2⟩ := pair_set HZ2.out (.int .i64 (u0 : Int)) (.int .i64 (u1 : Int))
      refine bodyPost_ret (v := .tuple #[.agg #[.int .i64 (u0 : Int), .int .i64 (u1 : Int)], .bool true]) (by simp [results, Try.results36, go_sem, y1, y2]) rfl ?_
      exact ⟨by rw [HQ.out], by exact (by repeat (first | assumption | exact Pure.refl _ | refine Pure.drewN ?_ _ | refine Pure.drew ?_ | refine Pure.alloc ?_ _ | refine Pure.setCell ?_ (by simp <;> omega) _))⟩
  · have HOK := Lib.hid hok
    have HSA : Hid (splA cs a mem = none) := Lib.hid (by unfold splA; rw [lockA_no hok]; rfl)
    have HZ := Lib.hid (heap_alloc_new w (.cells #[.int .i64 0, .int .i64 0] 46))
    have hp0 : Pure w (w.alloc (.cells #[.int .i64 0, .int .i64 0] 46)) := by exact (by repeat (first | assumption | exact Pure.refl _ | refine Pure.drewN ?_ _ | refine Pure.drew ?_ | refine Pure.alloc ?_ _ | refine Pure.setCell ?_ (by simp <;> omega) _))
    have HP00 := Lib.hid hp0
    clear hok hp0
    rw [HSA.out]
    unfold spl2
    go_enter Try.func36, Try.ntmps36
    go_wp2_with fail
    refine (ino_any _ _ cs a mem _ (H.out.keep HP00.out) (HM.out.keep HP00.out) hs1 hs2 HOK.out).mono ?_
    rintro e w1 ⟨rfl, hp1⟩
    have hz : w1.heap[w.heap.size]? = some (.cells #[.int .i64 0, .int .i64 0] 46 (0, 0)) := (Chg.of_pure (S := fun _ => False) hp1).heap HZ.out id
    have HZ2 := Lib.hid hz
    have hpf := HP00.out.trans hp1
    have c0 : w1.cell? ⟨w.heap.size, 0, none⟩ = some (.int .i64 0) := (cell_of_row w1 _ 0 _ _ _ hz).trans rfl
    have c1 : w1.cell? ⟨w.heap.size, 1, none⟩ = some (.int .i64 0) := (cell_of_row w1 _ 1 _ _ _ hz).trans rfl
    have f0 := frozen_of_row w1 w.heap.size 0 _ _ hz
    have f1 := frozen_of_row w1 w.heap.size 1 _ _ hz
    clear hp1 hz
    go_wp2
    obtain ⟨y0, y1, y2⟩ := pair_set HZ2.out (.int .i64 0) (.int .i64 0)
    refine bodyPost_ret (v := .tuple #[.agg #[.int .i64 0, .int .i64 0], .bool false]) (by simp [results, Try.results36, go_sem, y1, y2]) rfl ?_
    exact ⟨rfl, by exact (by repeat (first | assumption | exact Pure.refl _ | refine Pure.drewN ?_ _ | refine Pure.drew ?_ | refine Pure.alloc ?_ _ | refine Pure.setCell ?_ (by simp <;> omega) _))⟩

end Go.Proofs.Ytonmndojlnohcaa
