/- Post-dominators, plainly: one behind the other, and the nearest of them is one. No program in sight. The graph of a program, plainly: ways through its blocks; where separated lanes meet. No program in sight. Where separated lanes meet, told of the arguments of the program's functions. No program in sight. The drawn inputs of the laws on places: a program and a place; that the program is alive; where a block ends. No condition. -/
import Derived.Test.YtmhaaihgepldhaaKab
import Derived.Test.YtmhaaihgepldhaaKaf
import Derived.Test.YtmhaaihgepldhaaKah
import Derived.Test.YtmhaaihgepldhaaKbc
import Derived.Test.YtmhaaihgepldhaaKbd
import Derived.Test.YtmhaaihgepldhaaKbf
import Derived.Test.YtmhaaihgepldhaaKbh

namespace Go.Proofs.Ytmhaaihgepldhaa

/-- A way either meets a node or avoids it. -/
theorem RC.meets {xss : List (List Int)} {wo s b x : Int} (h : RC xss wo s x) : RC xss b s x ∨ RC xss wo b x := by
  induction h with
  | refl h =>
    by_cases e : s = b
    · subst e; exact .inr (.refl _ h)
    · exact .inl (.refl _ e)
  | step y z hy hc hw ih =>
    rcases ih with ih | ih
    · by_cases e : z = b
      · subst e; exact .inr (.refl _ hw)
      · exact .inl (.step _ _ _ ih hc e)
    · exact .inr (.step _ _ _ ih hc hw)
/-- Behind its last meeting with a node a way avoids it. -/
theorem RC.last {xss : List (List Int)} {wo s b x : Int} (h : RC xss wo s x) (hx : x ≠ b) : RC xss b s x ∨ ∃ y, y ∈ xss.getD b.toNat [] ∧ RC xss b y x := by
  induction h with
  | refl h => exact .inl (.refl _ hx)
  | step y z hy hc hw ih =>
    by_cases e : y = b
    · subst e; exact .inr ⟨z, hc, .refl _ hx⟩
    · rcases ih e with ih | ⟨q, h1, h2⟩
      · exact .inl (.step _ _ _ ih hc hx)
      · exact .inr ⟨q, h1, .step _ _ _ h2 hc hx⟩
theorem PD.trans {xss : List (List Int)} {a b c en : Int} (h : PD xss a b en) (k : PD xss b c en) : PD xss a c en := by
  refine ⟨h.1, ?_⟩
  by_cases e : a = c
  · exact .inl e
  refine .inr fun hr => ?_
  rcases h.2 with h2 | h2
  · subst h2
    rcases k.2 with k2 | k2
    · exact e k2
    · exact k2 hr
  rcases hr.meets (b := b) with hb | hb
  · exact h2 hb
  · rcases k.2 with k2 | k2
    · exact hb.ne_left k2
    · exact k2 hb
/-- Two nodes that post-dominate each other are one. -/
theorem PD.antisymm {xss : List (List Int)} {b b' en : Int} (h : PD xss b b' en) (k : PD xss b' b en) : b = b' := by
  refine Classical.byContradiction fun hne => ?_
  have h2 : ¬ RC xss b' b en := h.2.resolve_left hne
  have k2 : ¬ RC xss b b' en := k.2.resolve_left (fun e => hne e.symm)
  by_cases e : en = b'
  · subst e
    exact k2 (.refl _ (fun e => hne e.symm))
  rcases k.1.last e with q | ⟨y, hy, q⟩
  · exact q.ne_left rfl
  · rcases q.meets (b := b) with p | p
    · have hs : RC xss b b' y := .step _ _ _ (.refl _ (fun e => hne e.symm)) hy p.ne_left
      exact k2 (hs.trans p)
    · exact h2 p
theorem GoodP.unique {xss : List (List Int)} {a en b b' : Int} (hG : GValid xss) (ha : 0 ≤ a) (h : GoodP xss a en b) (k : GoodP xss a en b') : b = b' := by
  by_cases e : b = b'
  · exact e
  · exact PD.antisymm (h.2.2.2 b' k.1 k.2.1 (fun q => e q.symm) k.2.2.1) (k.2.2.2 b h.1 h.2.1 e h.2.2.1)
/-- The node that is found is good. -/
theorem IsNP.good {xss : List (List Int)} {a en r : Int} (h : IsNP xss a en r) (hr : r ≠ -1) : GoodP xss a en r := by
  rcases h with ⟨h, _⟩ | ⟨h, _⟩
  · exact absurd h hr
  · exact h
theorem IsNP.is {xss : List (List Int)} {a en r b : Int} (hG : GValid xss) (ha : 0 ≤ a) (h : IsNP xss a en r) (hb : GoodP xss a en b) : r = b := by
  rcases h with ⟨_, h⟩ | ⟨h, _⟩
  · exact absurd hb (h b)
  · exact GoodP.unique hG ha h hb
/-- Every post-dominator of the node post-dominates its nearest one. -/
theorem GoodP.all {xss : List (List Int)} {a en b c : Int} (hG : GValid xss) (ha : 0 ≤ a) (h : GoodP xss a en b) (hc : InG xss c) (hca : c ≠ a) (k : PD xss a c en) : PD xss b c en := by
  by_cases e : c = b
  · subst e
    exact PD.self hG ha k hca
  · exact h.2.2.2 c hc hca e k
theorem PD.end_ {xss : List (List Int)} {a en : Int} : PD xss a en en ↔ RC xss (-1) a en :=
  ⟨fun h => h.1, fun h => ⟨h, .inr fun k => k.ne_right rfl⟩⟩

end Go.Proofs.Ytmhaaihgepldhaa

namespace Go.Proofs.Ytmhaaihgepldhaa

section
variable {cs : List Cd} {i : Nat}
theorem nx_op {c : Cd} {k : Tr} (ho : (Tr.op c k).Ok) (hs : Seg cs i (.op c k)) (y : Int) : y ∈ succs cs i ↔ y = (i : Int) + 1 := by
  obtain ⟨h1, _, _⟩ := hs.op
  have hp := ho.1
  unfold Plain at hp
  unfold succs
  rw [h1]
  simp only
  rw [if_neg (by unfold Opens; omega), if_neg (by omega), if_neg (by omega)]
  simp
theorem nx_ite {a : Int} {t k : Tr} (ho : (Tr.ite a t k).Ok) (hs : Seg cs i (.ite a t k)) :
    (∀ y, y ∈ succs cs i ↔ y = (i : Int) + 1 ∨ y = ((i + 1 + t.len + 1 : Nat) : Int)) ∧ ∀ y, y ∈ succs cs (i + 1 + t.len) ↔ y = ((i + 1 + t.len + 1 : Nat) : Int) := by
  obtain ⟨h1, _, h3, _, _⟩ := hs.ite
  obtain ⟨e1, e2⟩ := end_ite ho hs
  constructor
  · intro y
    unfold succs
    rw [h1, e1]
    simp only
    rw [if_pos (opens_if a), if_neg (by omega)]
    split
    · simp <;> omega
    · simp <;> omega
  · intro y
    unfold succs
    rw [h3, e2]
    simp only
    rw [if_neg opens_end, if_neg (by decide), if_pos (by rfl), Int.toNat_natCast, h1, if_neg (by simp [cIf])]
    simp
theorem nx_itee {a : Int} {t e k : Tr} (ho : (Tr.itee a t e k).Ok) (hs : Seg cs i (.itee a t e k)) :
    (∀ y, y ∈ succs cs i ↔ y = (i : Int) + 1 ∨ y = ((i + 1 + t.len + 1 : Nat) : Int)) ∧ (∀ y, y ∈ succs cs (i + 1 + t.len) ↔ y = ((i + 1 + t.len + 1 + e.len + 1 : Nat) : Int)) ∧ ∀ y, y ∈ succs cs (i + 1 + t.len + 1 + e.len) ↔ y = ((i + 1 + t.len + 1 + e.len + 1 : Nat) : Int) := by
  obtain ⟨h1, _, h3, _, h5, _, _⟩ := hs.itee
  obtain ⟨e1, e2, e3⟩ := end_itee ho hs
  refine ⟨?_, ?_, ?_⟩
  · intro y
    unfold succs
    rw [h1, e1]
    simp only
    rw [if_pos (opens_if a), if_neg (by omega)]
    split
    · simp <;> omega
    · simp <;> omega
  · intro y
    unfold succs
    rw [h3, e2]
    simp only
    rw [if_neg opens_else, if_pos (by rfl), Int.toNat_natCast, e1]
    simp
  · intro y
    unfold succs
    rw [h5, e3]
    simp only
    rw [if_neg opens_end, if_neg (by decide), if_pos (by rfl), Int.toNat_natCast, h1, if_neg (by simp [cIf])]
    simp
theorem nx_loop {a b : Int} {t k : Tr} (ho : (Tr.loop a b t k).Ok) (hs : Seg cs i (.loop a b t k)) :
    (∀ y, y ∈ succs cs i ↔ y = (i : Int) + 1 ∨ y = ((i + 1 + t.len + 1 : Nat) : Int)) ∧ ∀ y, y ∈ succs cs (i + 1 + t.len) ↔ y = (i : Int) + 1 ∨ y = ((i + 1 + t.len + 1 : Nat) : Int) := by
  obtain ⟨h1, _, h3, _, _⟩ := hs.loop
  obtain ⟨e1, e2⟩ := end_loop ho hs
  constructor
  · intro y
    unfold succs
    rw [h1, e1]
    simp only
    rw [if_pos (opens_loop a b), if_neg (by omega)]
    split
    · simp <;> omega
    · simp <;> omega
  · intro y
    unfold succs
    rw [h3, e2]
    simp only
    rw [if_neg opens_end, if_neg (by decide), if_pos (by rfl), Int.toNat_natCast, h1, if_pos (by rfl)]
    simp
end

/-- From a part one comes to the part or right behind it. -/
theorem seg_in {cs : List Cd} : ∀ (t : Tr) (i x : Nat), t.Ok → Seg cs i t → i ≤ x → x < i + t.len → ∀ y ∈ succs cs x, (i : Int) ≤ y ∧ y ≤ ((i + t.len : Nat) : Int)
  | .nil, i, x, _, _, h1, h2 => by simp [Tr.len, Tr.flat] at h2; omega
  | .op c k, i, x, ho, hs, h1, h2 => fun y hy => by
    rw [Tr.len_op] at h2 ⊢
    by_cases e : x = i
    · subst e
      rw [nx_op ho hs] at hy
      omega
    · have := seg_in k (i + 1) x ho.2 hs.op.2.2 (by omega) (by omega) y hy
      omega
  | .ite a t k, i, x, ho, hs, h1, h2 => fun y hy => by
    rw [Tr.len_ite] at h2 ⊢
    obtain ⟨q1, q2⟩ := nx_ite ho hs
    obtain ⟨_, s2, _, _, s5⟩ := hs.ite
    by_cases e : x = i
    · subst e
      rw [q1] at hy
      omega
    by_cases e1 : x < i + 1 + t.len
    · have := seg_in t (i + 1) x ho.2.1 s2 (by omega) (by omega) y hy
      omega
    by_cases e2 : x = i + 1 + t.len
    · subst e2
      rw [q2] at hy
      omega
    · have := seg_in k (i + 1 + t.len + 1) x ho.2.2 s5 (by omega) (by omega) y hy
      omega
  | .itee a t e k, i, x, ho, hs, h1, h2 => fun y hy => by
    rw [Tr.len_itee] at h2 ⊢
    obtain ⟨q1, q2, q3⟩ := nx_itee ho hs
    obtain ⟨_, s2, _, s4, _, _, s7⟩ := hs.itee
    by_cases e0 : x = i
    · subst e0
      rw [q1] at hy
      omega
    by_cases e1 : x < i + 1 + t.len
    · have := seg_in t (i + 1) x ho.2.1 s2 (by omega) (by omega) y hy
      omega
    by_cases e2 : x = i + 1 + t.len
    · subst e2
      rw [q2] at hy
      omega
    by_cases e3 : x < i + 1 + t.len + 1 + e.len
    · have := seg_in e (i + 1 + t.len + 1) x ho.2.2.1 s4 (by omega) (by omega) y hy
      omega
    by_cases e4 : x = i + 1 + t.len + 1 + e.len
    · subst e4
      rw [q3] at hy
      omega
    · have := seg_in k (i + 1 + t.len + 1 + e.len + 1) x ho.2.2.2 s7 (by omega) (by omega) y hy
      omega
  | .loop a b t k, i, x, ho, hs, h1, h2 => fun y hy => by
    rw [Tr.len_loop] at h2 ⊢
    obtain ⟨q1, q2⟩ := nx_loop ho hs
    obtain ⟨_, s2, _, _, s5⟩ := hs.loop
    by_cases e : x = i
    · subst e
      rw [q1] at hy
      omega
    by_cases e1 : x < i + 1 + t.len
    · have := seg_in t (i + 1) x ho.2.2.1 s2 (by omega) (by omega) y hy
      omega
    by_cases e2 : x = i + 1 + t.len
    · subst e2
      rw [q2] at hy
      omega
    · have := seg_in k (i + 1 + t.len + 1) x ho.2.2.2 s5 (by omega) (by omega) y hy
      omega

theorem rc_one {cs : List Cd} {wo : Int} {x : Nat} {y z : Int} (hx : x < cs.length) (hne : (x : Int) ≠ wo) (hy : y ∈ succs cs x) (hw : y ≠ wo) (h : RC (graph cs) wo y z) : RC (graph cs) wo x z :=
  RC.trans (.step _ _ _ (.refl _ hne) (by rw [Int.toNat_natCast, graph_lt hx]; exact hy) hw) h
/-- Through a part, from any of its places, there is a way that avoids what is not in it. -/
theorem seg_reach {cs : List Cd} {wo : Int} : ∀ (t : Tr) (i x : Nat), t.Ok → Seg cs i t → i + t.len ≤ cs.length → i ≤ x → x ≤ i + t.len → (wo < i ∨ ((i + t.len : Nat) : Int) < wo) → RC (graph cs) wo x ((i + t.len : Nat) : Int)
  | .nil, i, x, _, _, _, h1, h2, hw => by
    have e : (Tr.nil).len = 0 := rfl
    rw [e] at h2 hw ⊢
    have : x = i := by omega
    subst this
    exact .refl _ (by omega)
  | .op c k, i, x, ho, hs, hl, h1, h2, hw => by
    rw [Tr.len_op] at h2 hw hl ⊢
    have e : i + (k.len + 1) = i + 1 + k.len := by omega
    rw [e] at hw ⊢
    by_cases e0 : x = i
    · subst e0
      exact rc_one (by omega) (by omega) ((nx_op ho hs _).2 rfl) (by omega) (by
        have := seg_reach (wo := wo) k (x + 1) (x + 1) ho.2 hs.op.2.2 (by omega) (Nat.le_refl _) (by omega) (by omega)
        simpa using this)
    · exact seg_reach k (i + 1) x ho.2 hs.op.2.2 (by omega) (by omega) (by omega) (by omega)
  | .ite a t k, i, x, ho, hs, hl, h1, h2, hw => by
    rw [Tr.len_ite] at h2 hw hl ⊢
    obtain ⟨q1, q2⟩ := nx_ite ho hs
    obtain ⟨_, s2, _, _, s5⟩ := hs.ite
    have e : i + (1 + t.len + 1 + k.len) = i + 1 + t.len + 1 + k.len := by omega
    rw [e] at hw ⊢
    have K := seg_reach (wo := wo) k (i + 1 + t.len + 1) (i + 1 + t.len + 1) ho.2.2 s5 (by omega) (Nat.le_refl _) (by omega) (by omega)
    by_cases e0 : x = i
    · subst e0
      exact rc_one (by omega) (by omega) ((q1 _).2 (.inr rfl)) (by omega) K
    by_cases e1 : x ≤ i + 1 + t.len
    · have T := seg_reach (wo := wo) t (i + 1) x ho.2.1 s2 (by omega) (by omega) e1 (by omega)
      exact T.trans (rc_one (by omega) (by omega) ((q2 _).2 rfl) (by omega) K)
    · exact seg_reach k (i + 1 + t.len + 1) x ho.2.2 s5 (by omega) (by omega) (by omega) (by omega)
  | .itee a t e k, i, x, ho, hs, hl, h1, h2, hw => by
    rw [Tr.len_itee] at h2 hw hl ⊢
    obtain ⟨q1, q2, q3⟩ := nx_itee ho hs
    obtain ⟨_, s2, _, s4, _, _, s7⟩ := hs.itee
    have eq : i + (1 + t.len + 1 + e.len + 1 + k.len) = i + 1 + t.len + 1 + e.len + 1 + k.len := by omega
    rw [eq] at hw ⊢
    have K := seg_reach (wo := wo) k (i + 1 + t.len + 1 + e.len + 1) (i + 1 + t.len + 1 + e.len + 1) ho.2.2.2 s7 (by omega) (Nat.le_refl _) (by omega) (by omega)
    have hT : ∀ x, i + 1 ≤ x → x ≤ i + 1 + t.len → RC (graph cs) wo x ((i + 1 + t.len + 1 + e.len + 1 + k.len : Nat) : Int) := fun x g1 g2 =>
      (seg_reach (wo := wo) t (i + 1) x ho.2.1 s2 (by omega) g1 g2 (by omega)).trans (rc_one (by omega) (by omega) ((q2 _).2 rfl) (by omega) K)
    by_cases e0 : x = i
    · subst e0
      exact rc_one (by omega) (by omega) ((q1 _).2 (.inl rfl)) (by omega) (by simpa using hT (x + 1) (Nat.le_refl _) (by omega))
    by_cases e1 : x ≤ i + 1 + t.len
    · exact hT x (by omega) e1
    by_cases e2 : x ≤ i + 1 + t.len + 1 + e.len
    · exact (seg_reach (wo := wo) e (i + 1 + t.len + 1) x ho.2.2.1 s4 (by omega) (by omega) e2 (by omega)).trans (rc_one (by omega) (by omega) ((q3 _).2 rfl) (by omega) K)
    · exact seg_reach k (i + 1 + t.len + 1 + e.len + 1) x ho.2.2.2 s7 (by omega) (by omega) (by omega) (by omega)
  | .loop a b t k, i, x, ho, hs, hl, h1, h2, hw => by
    rw [Tr.len_loop] at h2 hw hl ⊢
    obtain ⟨q1, q2⟩ := nx_loop ho hs
    obtain ⟨_, s2, _, _, s5⟩ := hs.loop
    have e : i + (1 + t.len + 1 + k.len) = i + 1 + t.len + 1 + k.len := by omega
    rw [e] at hw ⊢
    have K := seg_reach (wo := wo) k (i + 1 + t.len + 1) (i + 1 + t.len + 1) ho.2.2.2 s5 (by omega) (Nat.le_refl _) (by omega) (by omega)
    by_cases e0 : x = i
    · subst e0
      exact rc_one (by omega) (by omega) ((q1 _).2 (.inr rfl)) (by omega) K
    by_cases e1 : x ≤ i + 1 + t.len
    · have T := seg_reach (wo := wo) t (i + 1) x ho.2.2.1 s2 (by omega) (by omega) e1 (by omega)
      exact T.trans (rc_one (by omega) (by omega) ((q2 _).2 (.inr rfl)) (by omega) K)
    · exact seg_reach k (i + 1 + t.len + 1) x ho.2.2.2 s5 (by omega) (by omega) (by omega) (by omega)
/-- From every place one comes to the end. -/
theorem end_reach {cs : List Cd} (hv : PValid cs) {x : Nat} (hx : x ≤ cs.length) : RC (graph cs) (-1) x cs.length := by
  obtain ⟨t, h1, h2, _⟩ := hv.tree
  have hl : t.len = cs.length := by rw [h1]; rfl
  have := seg_reach (wo := -1) t 0 x h2 (Seg.whole h1) (by omega) (by omega) (by omega) (.inl (by omega))
  rwa [Nat.zero_add, hl] at this
/-- What stays in a part until it is behind it. -/
theorem part_stay {cs : List Cd} {t : Tr} {i x : Nat} {z : Int} (ho : t.Ok) (hs : Seg cs i t) (hl : i + t.len ≤ cs.length) (h1 : i ≤ x) (h2 : x < i + t.len) (h : RC (graph cs) ((i + t.len : Nat) : Int) x z) : ∃ n : Nat, z = n ∧ i ≤ n ∧ n < i + t.len := by
  generalize hx : ((x : Nat) : Int) = x' at h
  induction h with
  | refl h => exact ⟨x, hx.symm, h1, h2⟩
  | step y z hy hc hw ih =>
    obtain ⟨n, rfl, g1, g2⟩ := ih
    rw [Int.toNat_natCast, graph_lt (by omega)] at hc
    have := seg_in t i n ho hs g1 g2 z hc
    exact ⟨z.toNat, by omega, by omega, by omega⟩

/-- A block alone, at place p. -/
def IsBlk (cs : List Cd) (p E : Nat) : Prop :=
  (∃ t : Tr, t.Ok ∧ Seg cs p t ∧ p + t.len = E + 1 ∧ E < cs.length ∧ p < E) ∧ (endAt cs p).1 = E ∧
  ((((E + 1 : Nat) : Int) ∈ succs cs p) ∨ ∃ u v : Tr, u.Ok ∧ v.Ok ∧ Seg cs (p + 1) u ∧ Seg cs (p + 1 + u.len + 1) v ∧ p + 1 + u.len + 1 + v.len = E ∧ ((p : Int) + 1 ∈ succs cs p) ∧ (((p + 1 + u.len + 1 : Nat) : Int) ∈ succs cs p) ∧ (((E + 1 : Nat) : Int) ∈ succs cs (p + 1 + u.len)) ∧ (((E + 1 : Nat) : Int) ∈ succs cs E))
theorem seg_alone_ite {cs : List Cd} {i : Nat} {a : Int} {t k : Tr} (h : Seg cs i (.ite a t k)) : Seg cs i (.ite a t .nil) := by
  obtain ⟨post, h⟩ := h
  exact ⟨k.flat ++ post, by rw [h]; simp [Tr.flat]⟩
theorem seg_alone_itee {cs : List Cd} {i : Nat} {a : Int} {t e k : Tr} (h : Seg cs i (.itee a t e k)) : Seg cs i (.itee a t e .nil) := by
  obtain ⟨post, h⟩ := h
  exact ⟨k.flat ++ post, by rw [h]; simp [Tr.flat]⟩
theorem seg_alone_loop {cs : List Cd} {i : Nat} {a b : Int} {t k : Tr} (h : Seg cs i (.loop a b t k)) : Seg cs i (.loop a b t .nil) := by
  obtain ⟨post, h⟩ := h
  exact ⟨k.flat ++ post, by rw [h]; simp [Tr.flat]⟩
/-- Blocks in a part end in it, and before those around them. -/
theorem blk_of {cs : List Cd} : ∀ (t : Tr) (i p : Nat), t.Ok → Seg cs i t → i ≤ p → p < i + t.len → Opens (cs.getD p default) → ∃ E, IsBlk cs p E ∧ E < i + t.len ∧
    (aroundAt cs p = aroundAt cs i ∨ ∃ b E' : Nat, aroundAt cs p = b ∧ Opens (cs.getD b default) ∧ b < cs.length ∧ (endAt cs b).1 = E' ∧ E < E')
  | .nil, i, p, _, _, h1, h2, _ => by simp [Tr.len, Tr.flat] at h2; omega
  | .op c k, i, p, ho, hs, h1, h2, hp => by
    rw [Tr.len_op] at h2
    obtain ⟨s1, _, s3⟩ := hs.op
    have hno : ¬ Opens (cs.getD i default) := by rw [s1]; have := ho.1; unfold Plain at this; unfold Opens; omega
    have h14 : (cs.getD i default).op ≠ 14 := by rw [s1]; exact ho.1.2.2.2.2
    by_cases e : p = i
    · subst e; exact absurd hp hno
    · obtain ⟨E, g1, g2, g3⟩ := blk_of k (i + 1) p ho.2 s3 (by omega) (by omega) hp
      rw [around_op hno h14] at g3
      exact ⟨E, g1, by rw [Tr.len_op]; omega, g3⟩
  | .ite a t k, i, p, ho, hs, h1, h2, hp => by
    rw [Tr.len_ite] at h2 ⊢
    obtain ⟨s1, s2, s3, s4, s5⟩ := hs.ite
    obtain ⟨e1, _⟩ := end_ite ho hs
    obtain ⟨q1, q2⟩ := nx_ite ho hs
    have hop : Opens (cs.getD i default) := by rw [s1]; exact opens_if a
    by_cases e : p = i
    · subst e
      exact ⟨p + 1 + t.len, ⟨⟨.ite a t .nil, ⟨ho.1, ho.2.1, trivial⟩, seg_alone_ite hs, by rw [Tr.len_ite]; simp [Tr.len, Tr.flat]; omega, s4, by omega⟩, by rw [e1], .inl ((q1 _).2 (.inr rfl))⟩, by omega, .inl rfl⟩
    by_cases c1 : p < i + 1 + t.len
    · obtain ⟨E, g1, g2, g3⟩ := blk_of t (i + 1) p ho.2.1 s2 (by omega) (by omega) hp
      refine ⟨E, g1, by omega, .inr ?_⟩
      rcases g3 with g3 | g3
      · exact ⟨i, i + 1 + t.len, by rw [g3, around_open hop], hop, by omega, by rw [e1], g2⟩
      · exact g3
    by_cases c2 : p = i + 1 + t.len
    · subst c2; rw [s3] at hp; exact absurd hp opens_end
    · obtain ⟨E, g1, g2, g3⟩ := blk_of k (i + 1 + t.len + 1) p ho.2.2 s5 (by omega) (by omega) hp
      rw [around_behind ho.2.1 s2 hop s3] at g3
      exact ⟨E, g1, by omega, g3⟩
  | .itee a t e k, i, p, ho, hs, h1, h2, hp => by
    rw [Tr.len_itee] at h2 ⊢
    obtain ⟨s1, s2, s3, s4, s5, s6, s7⟩ := hs.itee
    obtain ⟨e1, _, _⟩ := end_itee ho hs
    obtain ⟨q1, q2, q3⟩ := nx_itee ho hs
    have hop : Opens (cs.getD i default) := by rw [s1]; exact opens_if a
    obtain ⟨b1, b2⟩ := around_behind2 ho.2.1 s2 hop s3 ho.2.2.1 s4 s5
    by_cases c0 : p = i
    · subst c0
      exact ⟨p + 1 + t.len + 1 + e.len, ⟨⟨.itee a t e .nil, ⟨ho.1, ho.2.1, ho.2.2.1, trivial⟩, seg_alone_itee hs, by rw [Tr.len_itee]; simp [Tr.len, Tr.flat]; omega, s6, by omega⟩, by rw [e1],
        .inr ⟨t, e, ho.2.1, ho.2.2.1, s2, s4, rfl, (q1 _).2 (.inl rfl), (q1 _).2 (.inr rfl), (q2 _).2 rfl, (q3 _).2 rfl⟩⟩, by omega, .inl rfl⟩
    by_cases c1 : p < i + 1 + t.len
    · obtain ⟨E, g1, g2, g3⟩ := blk_of t (i + 1) p ho.2.1 s2 (by omega) (by omega) hp
      refine ⟨E, g1, by omega, .inr ?_⟩
      rcases g3 with g3 | g3
      · exact ⟨i, i + 1 + t.len + 1 + e.len, by rw [g3, around_open hop], hop, by omega, by rw [e1], by omega⟩
      · exact g3
    by_cases c2 : p = i + 1 + t.len
    · subst c2; rw [s3] at hp; exact absurd hp opens_else
    by_cases c3 : p < i + 1 + t.len + 1 + e.len
    · obtain ⟨E, g1, g2, g3⟩ := blk_of e (i + 1 + t.len + 1) p ho.2.2.1 s4 (by omega) (by omega) hp
      refine ⟨E, g1, by omega, .inr ?_⟩
      rcases g3 with g3 | g3
      · exact ⟨i, i + 1 + t.len + 1 + e.len, by rw [g3, b2], hop, by omega, by rw [e1], by omega⟩
      · exact g3
    by_cases c4 : p = i + 1 + t.len + 1 + e.len
    · subst c4; rw [s5] at hp; exact absurd hp opens_end
    · obtain ⟨E, g1, g2, g3⟩ := blk_of k (i + 1 + t.len + 1 + e.len + 1) p ho.2.2.2 s7 (by omega) (by omega) hp
      rw [b1] at g3
      exact ⟨E, g1, by omega, g3⟩
  | .loop a b t k, i, p, ho, hs, h1, h2, hp => by
    rw [Tr.len_loop] at h2 ⊢
    obtain ⟨s1, s2, s3, s4, s5⟩ := hs.loop
    obtain ⟨e1, _⟩ := end_loop ho hs
    obtain ⟨q1, q2⟩ := nx_loop ho hs
    have hop : Opens (cs.getD i default) := by rw [s1]; exact opens_loop a b
    by_cases e : p = i
    · subst e
      exact ⟨p + 1 + t.len, ⟨⟨.loop a b t .nil, ⟨ho.1, ho.2.1, ho.2.2.1, trivial⟩, seg_alone_loop hs, by rw [Tr.len_loop]; simp [Tr.len, Tr.flat]; omega, s4, by omega⟩, by rw [e1], .inl ((q1 _).2 (.inr rfl))⟩, by omega, .inl rfl⟩
    by_cases c1 : p < i + 1 + t.len
    · obtain ⟨E, g1, g2, g3⟩ := blk_of t (i + 1) p ho.2.2.1 s2 (by omega) (by omega) hp
      refine ⟨E, g1, by omega, .inr ?_⟩
      rcases g3 with g3 | g3
      · exact ⟨i, i + 1 + t.len, by rw [g3, around_open hop], hop, by omega, by rw [e1], g2⟩
      · exact g3
    by_cases c2 : p = i + 1 + t.len
    · subst c2; rw [s3] at hp; exact absurd hp opens_end
    · obtain ⟨E, g1, g2, g3⟩ := blk_of k (i + 1 + t.len + 1) p ho.2.2.2 s5 (by omega) (by omega) hp
      rw [around_behind ho.2.2.1 s2 hop s3] at g3
      exact ⟨E, g1, by omega, g3⟩

/-- Lanes that are separated at a block meet behind it. -/
theorem meet_good {cs : List Cd} {p E : Nat} (hv : PValid cs) (hp : p < cs.length) (h : IsBlk cs p E) : GoodP (graph cs) p cs.length ((E + 1 : Nat) : Int) := by
  obtain ⟨⟨t, h1, h2, h3, h4, h7⟩, h5, h6⟩ := h
  have hl := graph_length cs
  refine ⟨⟨by omega, by rw [hl]; omega⟩, by omega, ⟨end_reach hv (by omega), .inr fun hr => ?_⟩, fun c hc hca hcb hpd => ⟨end_reach hv (by omega), .inr fun hr => ?_⟩⟩
  · rw [← h3] at hr
    obtain ⟨n, g1, g2, g3⟩ := part_stay h1 h2 (by omega) (Nat.le_refl _) (by omega) hr
    omega
  · have hno : ¬ RC (graph cs) c p cs.length := hpd.2.resolve_left (fun e => hca e.symm)
    refine hno (RC.trans ?_ hr)
    rcases h6 with h6 | ⟨u, v, u1, v1, s1, s2, hE, n1, n2, n3, n4⟩
    · exact rc_one hp (fun e => hca e.symm) h6 (fun e => hcb e.symm) (.refl _ (fun e => hcb e.symm))
    · by_cases hcO : ((p + 1 + u.len : Nat) : Int) < c
      · have hT := seg_reach (wo := c) u (p + 1) (p + 1) u1 s1 (by omega) (Nat.le_refl _) (by omega) (.inr hcO)
        exact rc_one hp (fun e => hca e.symm) n1 (by omega) ((show RC (graph cs) c ((p : Int) + 1) _ by simpa using hT).trans (rc_one (by omega) (by omega) n3 (fun e => hcb e.symm) (.refl _ (fun e => hcb e.symm))))
      · have hT := seg_reach (wo := c) v (p + 1 + u.len + 1) (p + 1 + u.len + 1) v1 s2 (by omega) (Nat.le_refl _) (by omega) (.inl (by omega))
        rw [hE] at hT
        exact rc_one hp (fun e => hca e.symm) n2 (by omega) (hT.trans (rc_one (by omega) (by omega) n4 (fun e => hcb e.symm) (.refl _ (fun e => hcb e.symm))))
theorem blk_at {cs : List Cd} (hv : PValid cs) {p : Nat} (hp : p < cs.length) (ho : Opens (cs.getD p default)) : ∃ E : Nat, IsBlk cs p E ∧ (endAt cs p).1 = E ∧ E < cs.length ∧
    (aroundAt cs p = -1 ∨ ∃ b E' : Nat, aroundAt cs p = b ∧ Opens (cs.getD b default) ∧ b < cs.length ∧ (endAt cs b).1 = E' ∧ E < E') := by
  obtain ⟨t, h1, h2, _⟩ := hv.tree
  have hl : t.len = cs.length := by rw [h1]; rfl
  obtain ⟨E, g1, g2, g3⟩ := blk_of t 0 p h2 (Seg.whole h1) (by omega) (by omega) ho
  exact ⟨E, g1, g1.2.1, by omega, g3⟩
/-- A place in no block lies on all ways from before it. -/
theorem top_posts {cs : List Cd} (hv : PValid cs) {k p : Nat} (hkp : k ≤ p) (hp : p < cs.length) (ha : aroundAt cs p = -1) : PD (graph cs) k p cs.length := by
  refine ⟨end_reach hv (by omega), ?_⟩
  by_cases e : k = p
  · exact .inl (by rw [e])
  refine .inr fun hr => ?_
  obtain ⟨u, v, hu, hv', e1, e2, _, _⟩ := parts_of hv (.inr ⟨by omega, ha⟩)
  have hs : Seg cs 0 u := by
    refine ⟨v.flat, ?_⟩
    have := (treeOf_spec hv).1
    rw [List.drop_zero, this, e1, app_flat]
  have hr' : RC (graph cs) ((0 + u.len : Nat) : Int) k cs.length := by
    rw [Nat.zero_add, e2]; exact hr
  obtain ⟨n, g1, _, g3⟩ := part_stay hu hs (by omega) (by omega) (by omega) hr'
  omega

end Go.Proofs.Ytmhaaihgepldhaa

namespace Go.Proofs.Ytmhaaihgepldhaa

/-- At a block: the place behind its end. -/
theorem meet_is {cs : List Cd} {a r : Int} (ho : OpensAt cs a) (h : IsNP (graph cs) a cs.length r) : ∃ E : Nat, r = (E : Int) + 1 ∧ (endAt cs a.toNat).1 = E ∧ E < cs.length ∧
    (aroundA cs a = -1 ∨ ∃ b E' : Nat, aroundA cs a = b ∧ OpensAt cs b ∧ b < cs.length ∧ (endAt cs b).1 = E' ∧ E < E' ∧ E' < cs.length) := by
  obtain ⟨hv, hr, hop⟩ := ho
  obtain ⟨k, rfl⟩ := Int.eq_ofNat_of_zero_le hr.1
  rw [Int.toNat_natCast] at hop ⊢
  have hk : k < cs.length := by omega
  obtain ⟨E, g1, g2, g3, g4⟩ := blk_at hv hk hop
  have hg := meet_good hv hk g1
  have hrE := h.is (graph_valid hv) (by omega) hg
  refine ⟨E, by rw [hrE]; omega, g2, g3, ?_⟩
  have ha : aroundA cs k = aroundAt cs k := by unfold aroundA; rw [if_pos ⟨hv, hr⟩]; rfl
  rw [ha]
  rcases g4 with g4 | ⟨b, E', q1, q2, q3, q4, q5⟩
  · exact .inl g4
  · obtain ⟨E2, p1, p2, p3, _⟩ := blk_at hv q3 q2
    exact .inr ⟨b, E', q1, ⟨hv, ⟨by omega, by omega⟩, by rw [Int.toNat_natCast]; exact q2⟩, q3, q4, q5, by omega⟩

end Go.Proofs.Ytmhaaihgepldhaa

namespace Go.Proofs.Ytmhaaihgepldhaa
open Go.RowKit

set_option maxHeartbeats 400000 in
theorem mask3_any (w : World) :
    Calls Try.prog 63 #[.int .i64 3] w fun e w' => e = .returned (.int .i64 7) ∧ w = w' := by
  go_enter Try.func63, Try.ntmps63
  go_wp2_with fail
  refine (ilanesok_any _ _ true (by simp only [true_iff]; unfold LanesOk; omega)).mono ?_
  rintro e w' ⟨rfl, rfl⟩
  go_wp2
  go_ret
  exact ⟨rfl, rfl⟩

set_option maxHeartbeats 400000 in
theorem galive_any (w : World) : Calls Try.prog 27 #[] w fun e w' => e = .returned (.bool true) ∧ Pure w w' := by
  go_enter Try.func27, Try.ntmps27
  go_wp2_with fail
  refine (mask3_any _).mono ?_
  rintro e w' ⟨rfl, rfl⟩
  go_wp2
  go_ret
  exact ⟨rfl, Pure.refl _⟩

def SpotP (w0 w : World) (p : Nat) (vb : Value) (bs : List Int) (C : Nat) (e : Ending) (w' : World) : Prop :=
  ∃ vl cs a, e = .returned (.tuple #[vl, .int .i64 a]) ∧ -1 ≤ a ∧ a ≤ 300000 ∧ Out w0 w p vb bs C 300000 vl cs w'

set_option maxHeartbeats 4000000 in
set_option maxRecDepth 100000 in
theorem spot_any (w0 w : World) (p C : Nat) (vb : Value) (bs : List Int) (h : Rb w0 w p vb bs C) (hc : C ≤ 800000000000) :
    Calls Try.prog 74 #[.pointer (some ⟨p, 0, none⟩)] w (SpotP w0 w p vb bs (C + 3000000)) := by
  have H := Lib.hid h
  have h00 := h.pure.size
  clear h
  go_enter Try.func74, Try.ntmps74
  go_wp2_with fail
  refine (prog_any w0 _ p C 14 vb bs 14 rfl (by decide) H.out (by omega)).mono ?_
  rintro e w1 ⟨vl, cs, rfl, hS1⟩
  have S1 := Lib.hid hS1
  have hlen := hS1.len
  have hform := hS1.own.form
  obtain ⟨A, c, rfl⟩ := hform
  clear hS1
  go_wp2_with fail
  refine (pick_t w0 _ p (C + 2000000) vb bs (cs.length + 1) _ rfl S1.out.rb (by omega) (by omega) (by omega)).mono ?_
  rintro e w2 ⟨x2, rfl, hx2, hr2, hg2⟩
  have S2 := Lib.hid (S1.out.step hr2 hg2)
  clear hr2 hg2 S1
  go_wp2_with fail
  refine (pick_t w0 _ p (C + 2000000 + 1) vb bs 14 14 rfl S2.out.rb (by omega) (by decide) (by decide)).mono ?_
  rintro e w3 ⟨x3, rfl, hx3, hr3, hg3⟩
  have S3 := Lib.hid (S2.out.step hr3 hg3)
  clear hr3 hg3 S2
  have hdv : Int.tdiv (x3 : Int) 13 = ((x3 / 13 : Nat) : Int) := by rw [Int.tdiv_eq_ediv_of_nonneg (by omega)]; omega
  obtain ⟨d, Hd⟩ : ∃ d, Hid (x3 / 13 = d) := ⟨_, Lib.hid rfl⟩
  have hd1 : d ≤ 1 := by rw [← Hd.out]; omega
  rw [Hd.out] at hdv
  go_wp2_with fail
  refine (pick_t w0 _ p (C + 2000000 + 2) vb bs 2 2 rfl S3.out.rb (by omega) (by decide) (by decide)).mono ?_
  rintro e w4 ⟨x4, rfl, hx4, hr4, hg4⟩
  have S4 := Lib.hid (S3.out.step hr4 hg4)
  clear hr4 hg4 S3
  by_cases h40 : x4 = 0
  · subst h40
    go_wp2_with fail
    go_loopg [5, 6] cs.length (fun gk at_ i wr => ∃ (k : Nat) (a : Int), gk + k = cs.length ∧ i = .int .i64 k ∧ at_ = .int .i64 a ∧ -1 ≤ a ∧ a ≤ 300000 ∧ Out w0 w p vb bs (C + 2000000 + 3 + k) 300000 (.slice A cs.length c) cs wr)
    case atStart => exact ⟨0, _, rfl, rfl, rfl, by omega, by omega, S4.out⟩
    case round =>
      obtain ⟨k, a, hgk, rfl, rfl, ha1, ha2, hout⟩ := hrel
      have Hgk := Lib.hid hgk
      have S := Lib.hid hout
      have hkn : k ≤ cs.length := by omega
      clear hgk hout S4
      by_cases hlt : k < cs.length
      · obtain ⟨b, o, rfl, hb, hc'⟩ := (S.out.codes).at_ hlt
        obtain ⟨cd, Hcd⟩ : ∃ cd, Hid (cs.getD k default = cd) := ⟨_, Lib.hid rfl⟩
        rw [Hcd.out] at hc'
        obtain ⟨B, HB⟩ : ∃ B, Hid (decide (Opens cd) = B) := ⟨_, Lib.hid rfl⟩
        have HL4 : Hid (∀ x : World, Calls Try.prog 53 #[cdv cd] x fun e w' => e = .returned (.bool B) ∧ Pure x w') := Lib.hid fun x => l4Opens_any _ x B (by rw [← HB.out]; simp)
        obtain ⟨op, ca, cb, cc⟩ := cd
        obtain ⟨q0, q1, q2, q3⟩ := hc'
        simp only at q0 q1 q2 q3
        go_wp2_with fail
        refine (HL4.out _).mono ?_
        rintro e w5 ⟨rfl, hp5⟩
        have S5 := Lib.hid (S.out.keep (Pure.trans (by exact (by repeat (first | assumption | exact Pure.refl _ | refine Pure.drewN ?_ _ | refine Pure.drew ?_ | refine Pure.alloc ?_ _ | refine Pure.setCell ?_ (by simp <;> omega) _))) hp5))
        cases B
        · go_wp2
          go_roundg (cs.length - (k + 1))
          case measure => have := Hgk.out; omega
          case rel => exact ⟨k + 1, a, by have := Hgk.out; omega, by go_num, rfl, ha1, ha2, S5.out.more (by omega) (by omega)⟩
        · go_wp2_with fail
          refine (pick_t w0 _ p (C + 2000000 + 3 + k) vb bs 2 2 rfl S5.out.rb (by omega) (by decide) (by decide)).mono ?_
          rintro e w6 ⟨x6, rfl, hx6, hr6, hg6⟩
          have S6 := Lib.hid (S5.out.step hr6 hg6)
          clear hr6 hg6
          have h01 : x6 = 0 ∨ x6 = 1 := by omega
          rcases h01 with rfl | rfl
          · go_wp2
            go_roundg (cs.length - (k + 1))
            case measure => have := Hgk.out; omega
            case rel => exact ⟨k + 1, _, by have := Hgk.out; omega, by go_num, rfl, by omega, by omega, S6.out.more (by omega) (by omega)⟩
          · go_wp2
            go_roundg (cs.length - (k + 1))
            case measure => have := Hgk.out; omega
            case rel => exact ⟨k + 1, a, by have := Hgk.out; omega, by go_num, rfl, ha1, ha2, S6.out.more (by omega) (by omega)⟩
      · go_wp2
        refine bodyPost_ret (results_tmp2 rfl _ _ _) rfl ?_
        exact ⟨_, cs, a, rfl, ha1, ha2, S.out.more (by omega) (by omega)⟩
  · have h41 : x4 = 1 := by omega
    subst h41
    go_wp2
    refine bodyPost_ret (results_tmp2 rfl _ _ _) rfl ?_
    exact ⟨_, cs, _, rfl, by omega, by omega, S4.out.more (by omega) (by omega)⟩

def DrawSP (w : World) (e : Ending) (w' : World) : Prop := ∃ vl cs a, e = .returned (.tuple #[vl, .int .i64 a]) ∧ -1 ≤ a ∧ a ≤ 300000 ∧ Codes w' vl cs ∧ cs.length ≤ 300000 ∧ Pure w w'

set_option maxHeartbeats 1000000 in
theorem draw_DrawMeetPlace (v : Value) (bs : List Int) (w : World) (h : Bytes w v bs) (hs : bs.length ≤ 1048576) : Calls Try.prog 35 #[v] w (DrawSP w) := by
  have H := Lib.hid h
  obtain ⟨A, c, rfl, hnc, hcm⟩ := h.form
  clear h
  go_enter Try.func35, Try.ntmps35
  go_wp2_with fail
  refine (draw_open _ bs _ H.out hs).mono ?_
  rintro e w1 ⟨p, vb, bs', rfl, hr, hp1⟩
  have HR := Lib.hid hr
  clear hr
  go_wp2_with fail
  refine (spot_any w w1 p 0 vb bs' HR.out (by decide)).mono ?_
  rintro e w2 ⟨vl, cs, a, rfl, ha1, ha2, hl⟩
  have HL := Lib.hid hl
  clear hl
  go_wp2
  refine bodyPost_ret (results_tmp2 rfl _ _ _) rfl ?_
  exact ⟨vl, cs, a, rfl, ha1, ha2, HL.out.codes, HL.out.len, HL.out.rb.pure⟩

/-- Where a block ends, and where it is divided. -/
def BEndP (cs : List Cd) (a : Int) (w : World) (e : Ending) (w' : World) : Prop :=
  ∃ x y : Int, e = .returned (.tuple #[.int .i64 x, .int .i64 y]) ∧ ((PValid cs ∧ (0 ≤ a ∧ a ≤ (cs.length : Int) - 1) ∧ Opens (cs.getD a.toNat default)) → x = (endAt cs a.toNat).1) ∧ (¬ (PValid cs ∧ (0 ≤ a ∧ a ≤ (cs.length : Int) - 1) ∧ Opens (cs.getD a.toNat default)) → x = -1) ∧ Pure w w'

set_option maxHeartbeats 2000000 in
set_option maxRecDepth 100000 in
theorem ibe_any (v : Value) (cs : List Cd) (a : Int) (w : World) (h : Codes w v cs) (hsmall : cs.length ≤ 1048576) :
    Calls Try.prog 36 #[v, .int .i64 a] w (BEndP cs a w) := by
  have H := Lib.hid h
  obtain ⟨A, c, rfl, hnc, hcm⟩ := h.form
  clear h
  by_cases ho : PValid cs ∧ (0 ≤ a ∧ a ≤ (cs.length : Int) - 1) ∧ Opens (cs.getD a.toNat default)
  · have HO := Lib.hid ho
    obtain ⟨hv, hr, hop⟩ := ho
    have HV := Lib.hid hv
    obtain ⟨k, rfl⟩ := Int.eq_ofNat_of_zero_le hr.1
    have hk : k < cs.length := by omega
    have hop' : Opens (cs.getD k default) := by simpa using hop
    have hown : ownOf cs k = some k := by unfold ownOf; rw [if_pos hop']
    have HW := Lib.hid hown
    have HP' := Lib.hid hop'
    clear hv hop hop' hown
    go_enter Try.func36, Try.ntmps36
    go_wp2_with fail
    refine (opens_any _ cs _ _ H.out hsmall true (by have := HO.out; simp only [true_iff]; exact this)).mono ?_
    rintro e w1 ⟨rfl, hp1⟩
    go_wp2_with fail
    refine (blocks_any _ cs _ (H.out.keep hp1) HV.out.2.1).mono ?_
    rintro e w2 ⟨hp2, hm⟩
    rw [HV.out.2.2] at hm
    obtain ⟨va, vo, rfl, ht⟩ := hm
    obtain ⟨pb, h1, h2, _⟩ := ht rfl
    obtain ⟨Aa, ca, rfl, hla, hca, hcells⟩ := h1
    obtain ⟨ba, oa, rfl, hba, hcc⟩ := hcells (by omega)
    have q0 : w2.cell? ⟨ba, oa + k, none⟩ = some (ownV pb (ownOf cs k)) := hcc k (by omega)
    rw [HW.out] at q0
    obtain ⟨hpl, r0, r1, r2⟩ := h2 k hk HP'.out
    have HP := Lib.hid (hp1.trans hp2)
    obtain ⟨b, Hb⟩ : ∃ b, Hid (pb k = b) := ⟨_, Lib.hid rfl⟩
    have q0' : w2.cell? ⟨ba, oa + k, none⟩ = some (.pointer (some ⟨pb k, 0, none⟩)) := q0
    rw [Hb.out] at q0' hpl r0 r1 r2
    obtain ⟨E1, HE1⟩ : ∃ E1, Hid ((endAt cs k).1 = E1) := ⟨_, Lib.hid rfl⟩
    obtain ⟨E2, HE2⟩ : ∃ E2, Hid ((endAt cs k).2 = E2) := ⟨_, Lib.hid rfl⟩
    rw [HE1.out] at r2
    rw [HE2.out] at r1
    have hi4 : (k : Int) < (cs.length : Int) := by omega
    have hi5 : (0 : Int) ≤ (k : Int) := by omega
    clear hcc hcells h2 ht q0 hr hp1 hp2
    go_wp2_with fail
    go_quiet (fail)
    go_wp2
    refine bodyPost_ret (results_tmp2 rfl _ _ _) rfl ?_
    have hpp := HP.out
    exact ⟨E1, E2, rfl, fun _ => by rw [← HE1.out]; simp, fun hn => absurd HO.out hn, by exact (by repeat (first | assumption | exact Pure.refl _ | refine Pure.drewN ?_ _ | refine Pure.drew ?_ | refine Pure.alloc ?_ _ | refine Pure.setCell ?_ (by simp <;> omega) _))⟩
  · have HO := Lib.hid ho
    clear ho
    go_enter Try.func36, Try.ntmps36
    go_wp2_with fail
    refine (opens_any _ cs _ _ H.out hsmall false (by have := HO.out; simp only [Bool.false_eq_true, false_iff]; exact this)).mono ?_
    rintro e w1 ⟨rfl, hp1⟩
    go_wp2
    refine bodyPost_ret (results_tmp2 rfl _ _ _) rfl ?_
    exact ⟨-1, -1, rfl, fun h => absurd h HO.out, fun _ => rfl, hp1⟩

end Go.Proofs.Ytmhaaihgepldhaa
