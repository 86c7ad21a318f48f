/- Blocks of valid programs; the graph of a program, plainly. No program in sight. -/
import Derived.Test.YtokdfgodmhekmaaTree
import Derived.Test.YtokdfgodmhekmaaBfs
namespace Go.Proofs.Ytokdfgodmhekmaa

/-- A block opens at b, ends at e, and is divided at o (or o is -1). -/
structure BI (cs : List Cd) (b e : Nat) (o : Int) : Prop where
  op : Opens (cs.getD b default)
  lt : b < e
  le : e < cs.length
  en : cs.getD e default = cEnd
  ar : aroundAt cs e = b
  ends : endAt cs b = ((e : Int), o)
  el : o = -1 ∨ ∃ q : Nat, o = q ∧ b < q ∧ q < e ∧ cs.getD q default = cElse ∧ aroundAt cs q = b ∧ (cs.getD b default).op = 11

def PI (cs : List Cd) (p : Nat) : Prop :=
  (Opens (cs.getD p default) → ∃ e o, BI cs p e o) ∧ ((cs.getD p default).op = 12 → ∃ b e, BI cs b e p) ∧ ((cs.getD p default).op = 14 → ∃ b o, BI cs b p o)

theorem pi_of_seg {cs : List Cd} : ∀ (t : Tr) (i p : Nat), t.Ok → Seg cs i t → i ≤ p → p < i + t.len → PI cs p
  | .nil, i, p, _, _, h1, h2 => by simp [Tr.len, Tr.flat] at h2; omega
  | .op c k, i, p, h, hs, h1, h2 => by
    obtain ⟨⟨_, q1, q2, q3, q4⟩, h5⟩ := h
    obtain ⟨e1, _, e2⟩ := hs.op
    rw [Tr.len_op] at h2
    by_cases e : p = i
    · subst e
      unfold PI
      rw [e1]
      exact ⟨fun h => absurd h (by unfold Opens; omega), fun h => absurd h q2, fun h => absurd h q4⟩
    · exact pi_of_seg k (i + 1) p h5 e2 (by omega) (by omega)
  | .ite a t k, i, p, h, hs, h1, h2 => by
    obtain ⟨_, o1, o2⟩ := id h
    obtain ⟨e1, e2, e3, e3', e4⟩ := hs.ite
    obtain ⟨e5, e6⟩ := end_ite h hs
    have bi : BI cs i (i + 1 + t.len) (-1) := ⟨by rw [e1]; exact opens_if a, by omega, e3', e3, e6, e5, .inl rfl⟩
    rw [Tr.len_ite] at h2
    by_cases e : p = i
    · subst e
      unfold PI
      rw [e1]
      exact ⟨fun _ => ⟨_, _, bi⟩, fun h => by simp [cIf] at h, fun h => by simp [cIf] at h⟩
    · by_cases e' : p = i + 1 + t.len
      · subst e'
        unfold PI
        rw [e3]
        exact ⟨fun h => absurd h opens_end, fun h => by simp [cEnd] at h, fun _ => ⟨_, _, bi⟩⟩
      · by_cases hl : p < i + 1 + t.len
        · exact pi_of_seg t (i + 1) p o1 e2 (by omega) (by omega)
        · exact pi_of_seg k _ p o2 e4 (by omega) (by omega)
  | .itee a t e k, i, p, h, hs, h1, h2 => by
    obtain ⟨_, o1, o2, o3⟩ := id h
    obtain ⟨e1, e2, e3, e4, e5, e5', e6⟩ := hs.itee
    obtain ⟨e7, e8, e9⟩ := end_itee h hs
    have bi : BI cs i (i + 1 + t.len + 1 + e.len) ((i + 1 + t.len : Nat) : Int) := ⟨by rw [e1]; exact opens_if a, by omega, e5', e5, e9, e7, .inr ⟨_, rfl, by omega, by omega, e3, e8, by rw [e1]; rfl⟩⟩
    rw [Tr.len_itee] at h2
    by_cases q : p = i
    · subst q
      unfold PI
      rw [e1]
      exact ⟨fun _ => ⟨_, _, bi⟩, fun h => by simp [cIf] at h, fun h => by simp [cIf] at h⟩
    · by_cases q' : p = i + 1 + t.len
      · subst q'
        unfold PI
        rw [e3]
        exact ⟨fun h => absurd h opens_else, fun _ => ⟨_, _, bi⟩, fun h => by simp [cElse] at h⟩
      · by_cases q'' : p = i + 1 + t.len + 1 + e.len
        · subst q''
          unfold PI
          rw [e5]
          exact ⟨fun h => absurd h opens_end, fun h => by simp [cEnd] at h, fun _ => ⟨_, _, bi⟩⟩
        · by_cases hl : p < i + 1 + t.len
          · exact pi_of_seg t (i + 1) p o1 e2 (by omega) (by omega)
          · by_cases hl2 : p < i + 1 + t.len + 1 + e.len
            · exact pi_of_seg e _ p o2 e4 (by omega) (by omega)
            · exact pi_of_seg k _ p o3 e6 (by omega) (by omega)
  | .loop a b t k, i, p, h, hs, h1, h2 => by
    obtain ⟨_, _, o1, o2⟩ := id h
    obtain ⟨e1, e2, e3, e3', e4⟩ := hs.loop
    obtain ⟨e5, e6⟩ := end_loop h hs
    have bi : BI cs i (i + 1 + t.len) (-1) := ⟨by rw [e1]; exact opens_loop a b, by omega, e3', e3, e6, e5, .inl rfl⟩
    rw [Tr.len_loop] at h2
    by_cases e : p = i
    · subst e
      unfold PI
      rw [e1]
      exact ⟨fun _ => ⟨_, _, bi⟩, fun h => by simp [cLoop] at h, fun h => by simp [cLoop] at h⟩
    · by_cases e' : p = i + 1 + t.len
      · subst e'
        unfold PI
        rw [e3]
        exact ⟨fun h => absurd h opens_end, fun h => by simp [cEnd] at h, fun _ => ⟨_, _, bi⟩⟩
      · by_cases hl : p < i + 1 + t.len
        · exact pi_of_seg t (i + 1) p o1 e2 (by omega) (by omega)
        · exact pi_of_seg k _ p o2 e4 (by omega) (by omega)

theorem PValid.pi {cs : List Cd} (h : PValid cs) {p : Nat} (hp : p < cs.length) : PI cs p := by
  obtain ⟨t, e, h1, _⟩ := h.tree
  exact pi_of_seg t 0 p h1 (Seg.whole e) (by omega) (by have : cs.length = t.len := by rw [e]; rfl
                                                        omega)

/-- The successors of a place. -/
def succs (cs : List Cd) (k : Nat) : List Int :=
  let c := cs.getD k default
  if Opens c then
    let to := if 0 ≤ (endAt cs k).2 then (endAt cs k).2 + 1 else (endAt cs k).1 + 1
    if to = (k : Int) + 1 then [(k : Int) + 1] else [(k : Int) + 1, to]
  else if c.op = 12 then [(endAt cs (aroundAt cs k).toNat).1 + 1]
  else if c.op = 14 then
    (if (cs.getD (aroundAt cs k).toNat default).op = 13 then [aroundAt cs k + 1, (k : Int) + 1] else [(k : Int) + 1])
  else [(k : Int) + 1]
def graph (cs : List Cd) : List (List Int) := (List.range cs.length).map (succs cs) ++ [[]]
theorem graph_length (cs : List Cd) : (graph cs).length = cs.length + 1 := by simp [graph]
theorem graph_lt {cs : List Cd} {k : Nat} (h : k < cs.length) : (graph cs).getD k [] = succs cs k := by
  simp [graph, List.getD_eq_getElem?_getD, List.getElem?_append_left, h]
theorem graph_end (cs : List Cd) : (graph cs).getD cs.length [] = [] := by
  simp [graph, List.getD_eq_getElem?_getD, List.getElem?_append_right]

theorem rowOk_one {n : Nat} {x : Int} (h1 : 0 ≤ x) (h2 : x ≤ (n : Int) - 1) : rowOk n [x] [x].length := by
  intro j hj
  have : j = 0 := by simp at hj; omega
  subst this
  exact ⟨h1, h2, fun i hi => by omega⟩
theorem rowOk_two {n : Nat} {x y : Int} (h1 : 0 ≤ x) (h2 : x ≤ (n : Int) - 1) (h3 : 0 ≤ y) (h4 : y ≤ (n : Int) - 1) (h5 : x ≠ y) : rowOk n [x, y] [x, y].length := by
  intro j hj
  have : j = 0 ∨ j = 1 := by simp at hj; omega
  rcases this with rfl | rfl
  · exact ⟨h1, h2, fun i hi => by omega⟩
  · refine ⟨h3, h4, fun i hi => ?_⟩
    have : i = 0 := by omega
    subst this
    exact h5

theorem graph_valid {cs : List Cd} (h : PValid cs) : GValid (graph cs) := by
  refine ⟨fun k hk => ?_, by rw [graph_length]; have := h.2.1; omega⟩
  rw [graph_length] at hk ⊢
  by_cases e : k = cs.length
  · subst e
    rw [graph_end]
    intro j hj
    simp at hj
  · have hk' : k < cs.length := by omega
    rw [graph_lt hk']
    obtain ⟨p1, p2, p3⟩ := h.pi hk'
    unfold succs
    simp only
    by_cases h1 : Opens (cs.getD k default)
    · rw [if_pos h1]
      obtain ⟨e, o, bi⟩ := p1 h1
      have hb := bi.lt; have hb2 := bi.le
      rw [bi.ends]
      simp only
      have hto : ∃ to : Int, (if 0 ≤ o then o + 1 else (e : Int) + 1) = to ∧ 0 ≤ to ∧ to ≤ (cs.length : Int) := by
        refine ⟨_, rfl, ?_⟩
        rcases bi.el with rfl | ⟨q, rfl, _, _, _⟩
        · rw [if_neg (by omega)]; omega
        · rw [if_pos (by omega)]; omega
      obtain ⟨to, e1, e2, e3⟩ := hto
      rw [e1]
      split
      · exact rowOk_one (by omega) (by omega)
      · exact rowOk_two (by omega) (by omega) (by omega) (by omega) (by omega)
    · rw [if_neg h1]
      by_cases h2 : (cs.getD k default).op = 12
      · rw [if_pos h2]
        obtain ⟨b, e, bi⟩ := p2 h2
        have hb := bi.lt; have hb2 := bi.le
        have har : aroundAt cs k = b := by
          rcases bi.el with e' | ⟨q, e', _, _, _, e3, _⟩
          · omega
          · have : q = k := by omega
            subst this; exact e3
        rw [har, Int.toNat_natCast, bi.ends]
        exact rowOk_one (by omega) (by omega)
      · rw [if_neg h2]
        by_cases h3 : (cs.getD k default).op = 14
        · rw [if_pos h3]
          obtain ⟨b, o, bi⟩ := p3 h3
          have hb := bi.lt; have hb2 := bi.le
          rw [bi.ar]
          split
          · exact rowOk_two (by omega) (by omega) (by omega) (by omega) (by omega)
          · exact rowOk_one (by omega) (by omega)
        · rw [if_neg h3]
          exact rowOk_one (by omega) (by omega)

end Go.Proofs.Ytokdfgodmhekmaa
