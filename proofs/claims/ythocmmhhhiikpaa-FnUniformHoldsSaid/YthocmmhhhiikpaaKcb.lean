/- Uniform registers: smaller beginnings lead to smaller sets; what the sets are at OpElse and OpEnd, at the beginning, and without OpLane. No program in sight. Programs with instructions before them, as slices. Which instructions the steps of a run execute, and by which lanes; the first step. No program in sight. Uniform registers are uniform: what the analysis tells holds in every step of a run in lockstep. No program in sight. No condition. -/
import Derived.Test.YthocmmhhhiikpaaKaj
import Derived.Test.YthocmmhhhiikpaaKbg
import Derived.Test.YthocmmhhhiikpaaKbj
import Derived.Test.YthocmmhhhiikpaaKca

namespace Go.Proofs.Ythocmmhhhiikpaa

theorem lay_out {cs : List Cd} {live : Nat → Nat} {i j : Nat} {xs : List Nat} (h : j < i ∨ i + xs.length ≤ j) : lay cs live i xs j = live j := by
  unfold lay
  rw [if_neg]
  rintro ⟨⟨_, _⟩, _⟩
  omega
/-- Any tree of the program tells the sets. -/
theorem UsP.tree {cs : List Cd} {xs : List Int} {t : Tr} (h : UsP cs xs) (hv : PValid cs) (e : cs = t.flat) (ho : t.Ok) : xs = usOf cs t := by
  obtain ⟨q1, q2, _⟩ := hv.tree.choose_spec
  rw [h.1 hv, flat_inj _ t q2 ho (q1.symm.trans e)]
theorem usOf_len (cs : List Cd) (t : Tr) : (usOf cs t).length = cs.length := by simp [usOf]

theorem and15 : ∀ a : Fin 16, a.val &&& 15 = a.val := by decide
theorem or15 : ∀ a : Fin 16, 15 ||| a.val = 15 := by decide
theorem full_code {c : Cd} (h : CdOk c) (h2 : c.op ≠ 2) : uCode c 15 = 15 := by
  unfold uCode
  rw [if_neg]
  · exact or15 ⟨wst c, wr_lt h⟩
  · rintro (q | q)
    · exact h2 q
    · exact q (and15 ⟨rd c, rd_lt h⟩)
theorem bit15 {a : Int} (h : Reg a) : (15 : Nat).testBit a.toNat = true := by
  have h' : 0 ≤ a ∧ a ≤ 3 := h
  have : a = 0 ∨ a = 1 ∨ a = 2 ∨ a = 3 := by omega
  rcases this with rfl | rfl | rfl | rfl <;> rfl
theorem full_uni {cs : List Cd} (hl : ∀ j, (cs.getD j default).op ≠ 2) : ∀ (t : Tr) (i : Nat) (live : Nat → Nat), t.Ok → Seg cs i t →
    (uni t 15).1 = 15 ∧ ∀ j, i ≤ j → j < i + t.len → (cs.getD j default).op ≠ 12 → (cs.getD j default).op ≠ 14 → lay cs live i (uni t 15).2 j = 15
  | .nil, i, live, _, _ => ⟨rfl, fun j h1 h2 => by simp [Tr.len, Tr.flat] at h2; omega⟩
  | .op c k, i, live, ho, hs => by
    obtain ⟨h1, _, h3⟩ := hs.op
    have hc : uCode c 15 = 15 := full_code ho.1.1 (by rw [← h1]; exact hl i)
    obtain ⟨q1, q2⟩ := full_uni hl k (i + 1) (updL live i 15) ho.2 h3
    rw [uni_op, hc]
    refine ⟨q1, fun j h4 h5 h6 h7 => ?_⟩
    rw [Tr.len_op] at h5
    show lay cs live i (15 :: (uni k 15).2) j = 15
    rw [lay_cons (by rw [h1]; exact ho.1.2.2.1) (by rw [h1]; exact ho.1.2.2.2.2)]
    by_cases e : j = i
    · rw [lay_out (.inl (by omega)), e]; exact if_pos rfl
    · exact q2 j (by omega) (by omega) h6 h7
  | .ite a t k, i, live, ho, hs => by
    obtain ⟨h1, h2, h3, _, h5⟩ := hs.ite
    obtain ⟨p1, _⟩ := full_uni hl t (i + 1) (updL live i 15) ho.2.1 h2
    have hv : uIf a t 15 = 15 := by unfold uIf; rw [if_pos (bit15 ho.1), p1]; rfl
    obtain ⟨q1, _⟩ := full_uni hl k (i + 1 + t.len + 1) (updL live i 15) ho.2.2 h5
    rw [uni_ite, hv]
    refine ⟨q1, fun j h4 h6 h7 h8 => ?_⟩
    rw [Tr.len_ite] at h6
    show lay cs live i (15 :: ((uni t 15).2 ++ 0 :: (uni k 15).2)) j = 15
    rw [lay_if hs (uni_len t 15)]
    have e14 : (cs.getD (i + 1 + t.len) default).op = 14 := by rw [h3]; rfl
    by_cases e : i + 1 + t.len + 1 ≤ j
    · exact (full_uni hl k _ _ ho.2.2 h5).2 j e (by omega) h7 h8
    rw [lay_out (.inl (by omega))]
    by_cases e2 : i + 1 ≤ j
    · have : j ≠ i + 1 + t.len := fun q => h8 (by rw [q]; exact e14)
      exact (full_uni hl t (i + 1) _ ho.2.1 h2).2 j e2 (by omega) h7 h8
    · rw [lay_out (.inl (by omega))]
      exact if_pos (by omega)
  | .itee a t e k, i, live, ho, hs => by
    obtain ⟨h1, h2, h3, h4, h5, _, h7⟩ := hs.itee
    obtain ⟨p1, _⟩ := full_uni hl t (i + 1) (updL live i 15) ho.2.1 h2
    obtain ⟨p2, _⟩ := full_uni hl e (i + 1 + t.len + 1) (updL live i 15) ho.2.2.1 h4
    have hv : uIfe a t e 15 = 15 := by unfold uIfe; rw [if_pos (bit15 ho.1), p1, p2]; rfl
    obtain ⟨q1, _⟩ := full_uni hl k (i + 1 + t.len + 1 + e.len + 1) (updL live i 15) ho.2.2.2 h7
    rw [uni_itee, hv]
    refine ⟨q1, fun j g4 g6 g7 g8 => ?_⟩
    rw [Tr.len_itee] at g6
    show lay cs live i (15 :: ((uni t 15).2 ++ 0 :: ((uni e 15).2 ++ 0 :: (uni k 15).2))) j = 15
    rw [lay_ife hs (uni_len t 15) (uni_len e 15)]
    have e12 : (cs.getD (i + 1 + t.len) default).op = 12 := by rw [h3]; rfl
    have e14 : (cs.getD (i + 1 + t.len + 1 + e.len) default).op = 14 := by rw [h5]; rfl
    by_cases e1 : i + 1 + t.len + 1 + e.len + 1 ≤ j
    · exact (full_uni hl k _ _ ho.2.2.2 h7).2 j e1 (by omega) g7 g8
    rw [lay_out (.inl (by omega))]
    have n14 : j ≠ i + 1 + t.len + 1 + e.len := fun q => g8 (by rw [q]; exact e14)
    by_cases e2 : i + 1 + t.len + 1 ≤ j
    · exact (full_uni hl e _ _ ho.2.2.1 h4).2 j e2 (by omega) g7 g8
    rw [lay_out (.inl (by omega))]
    have n12 : j ≠ i + 1 + t.len := fun q => g7 (by rw [q]; exact e12)
    by_cases e3 : i + 1 ≤ j
    · exact (full_uni hl t (i + 1) _ ho.2.1 h2).2 j e3 (by omega) g7 g8
    · rw [lay_out (.inl (by omega))]
      exact if_pos (by omega)
  | .loop a b t k, i, live, ho, hs => by
    obtain ⟨h1, h2, h3, _, h5⟩ := hs.loop
    obtain ⟨p1, _⟩ := full_uni hl t (i + 1) (updL live i 15) ho.2.2.1 h2
    have hh : uHead t 15 = 15 := uHead_stop (by unfold uTurn; rw [p1]; rfl)
    have hv : uLoop a t 15 = 15 := by unfold uLoop; rw [hh, if_pos (bit15 ho.1)]
    obtain ⟨q1, _⟩ := full_uni hl k (i + 1 + t.len + 1) (updL live i 15) ho.2.2.2 h5
    rw [uni_loop, hv, hh]
    refine ⟨q1, fun j h4 h6 h7 h8 => ?_⟩
    rw [Tr.len_loop] at h6
    show lay cs live i (15 :: ((uni t 15).2 ++ 0 :: (uni k 15).2)) j = 15
    rw [lay_loop hs (uni_len t 15)]
    have e14 : (cs.getD (i + 1 + t.len) default).op = 14 := by rw [h3]; rfl
    by_cases e : i + 1 + t.len + 1 ≤ j
    · exact (full_uni hl k _ _ ho.2.2.2 h5).2 j e (by omega) h7 h8
    rw [lay_out (.inl (by omega))]
    by_cases e2 : i + 1 ≤ j
    · have : j ≠ i + 1 + t.len := fun q => h8 (by rw [q]; exact e14)
      exact (full_uni hl t (i + 1) _ ho.2.2.1 h2).2 j e2 (by omega) h7 h8
    · rw [lay_out (.inl (by omega))]
      exact if_pos (by omega)
/-- Without OpLane every set is whole; OpElse and OpEnd have none. -/
theorem usL_full {cs : List Cd} {t : Tr} (e : cs = t.flat) (ho : t.Ok) (hl : ∀ c ∈ cs, c.op ≠ 2) {j : Nat} (hj : j < cs.length) (h1 : (cs.getD j default).op ≠ 12) (h2 : (cs.getD j default).op ≠ 14) : usL cs t j = 15 := by
  refine (full_uni ?_ t 0 _ ho (Seg.whole e)).2 j (Nat.zero_le _) ?_ h1 h2
  · intro k
    by_cases hk : k < cs.length
    · have : cs.getD k default = cs[k] := by simp [List.getD_eq_getElem?_getD, hk]
      rw [this]
      exact hl _ (List.getElem_mem hk)
    · have : cs.getD k default = default := by simp [List.getD_eq_getElem?_getD, List.getElem?_eq_none (by omega : cs.length ≤ k)]
      rw [this]
      decide
  · rw [Nat.zero_add]
    have : t.len = cs.length := by rw [e]; rfl
    omega
theorem usL_none {cs : List Cd} {t : Tr} {j : Nat} (h : (cs.getD j default).op = 12 ∨ (cs.getD j default).op = 14) : usL cs t j = 0 := by
  unfold usL lay
  rw [if_neg]
  rintro ⟨_, h1, h2⟩
  rcases h with h | h
  · exact h1 h
  · exact h2 h

/-- What a tree does not write stays. -/
theorem iter_keep {f : Nat → Nat} {i : Nat} (hf : ∀ h, h.testBit i = true → (f h).testBit i = true) : ∀ n h, h.testBit i = true → (iter f n h).testBit i = true
  | 0, _, h => h
  | n + 1, u, h => iter_keep hf n (f u) (hf u h)
theorem uni_keep : ∀ (t : Tr) (u i : Nat), u.testBit i = true → (writ t).testBit i = false → (uni t u).1.testBit i = true
  | .nil, _, _, h, _ => h
  | .op c k, u, i, h, hw => by
    have hw' : (wst c ||| writ k).testBit i = false := hw
    rw [Nat.testBit_or, Bool.or_eq_false_iff] at hw'
    rw [uni_op]
    refine uni_keep k _ i ?_ hw'.2
    unfold uCode
    split
    · rw [del_bit, h, hw'.1]; rfl
    · rw [Nat.testBit_or, h]; rfl
  | .ite a t k, u, i, h, hw => by
    have hw' : (writ t ||| writ k).testBit i = false := hw
    rw [Nat.testBit_or, Bool.or_eq_false_iff] at hw'
    rw [uni_ite]
    refine uni_keep k _ i ?_ hw'.2
    unfold uIf
    split
    · rw [Nat.testBit_and, h, uni_keep t u i h hw'.1]; rfl
    · rw [del_bit, h, hw'.1]; rfl
  | .itee a t e k, u, i, h, hw => by
    have hw' : ((writ t ||| writ e) ||| writ k).testBit i = false := hw
    rw [Nat.testBit_or, Bool.or_eq_false_iff] at hw'
    have hw1 := hw'.1
    rw [Nat.testBit_or, Bool.or_eq_false_iff] at hw1
    rw [uni_itee]
    refine uni_keep k _ i ?_ hw'.2
    unfold uIfe
    split
    · rw [Nat.testBit_and, uni_keep t u i h hw1.1, uni_keep e u i h hw1.2]; rfl
    · rw [del_bit, h, hw'.1]; rfl
  | .loop a b t k, u, i, h, hw => by
    have hw' : (writ t ||| writ k).testBit i = false := hw
    rw [Nat.testBit_or, Bool.or_eq_false_iff] at hw'
    rw [uni_loop]
    refine uni_keep k _ i ?_ hw'.2
    have hh : (uHead t u).testBit i = true := iter_keep (fun x hx => by
      unfold uTurn
      rw [Nat.testBit_and, hx, uni_keep t x i hx hw'.1]; rfl) 16 u h
    unfold uLoop
    split
    · exact hh
    · rw [del_bit, h, hw'.1]; rfl
theorem head_keep {t : Tr} {u i : Nat} (h : u.testBit i = true) (hw : (writ t).testBit i = false) : (uHead t u).testBit i = true :=
  iter_keep (fun x hx => by
    unfold uTurn
    rw [Nat.testBit_and, hx, uni_keep t x i hx hw]; rfl) 16 u h

/-- Smaller sets before lead to smaller sets. -/
def SubL : List Nat → List Nat → Prop
  | [], [] => True
  | a :: r, b :: q => Sub a b ∧ SubL r q
  | _, _ => False
theorem SubL.app : ∀ {a b c d : List Nat}, SubL a b → SubL c d → SubL (a ++ c) (b ++ d)
  | [], [], _, _, _, h => h
  | _ :: _, _ :: _, _, _, h, k => ⟨h.1, SubL.app h.2 k⟩
  | [], _ :: _, _, _, h, _ => h.elim
  | _ :: _, [], _, _, h, _ => h.elim
theorem SubL.at_ : ∀ {a b : List Nat}, SubL a b → ∀ j, Sub (a.getD j 0) (b.getD j 0)
  | [], [], _, _ => Sub.refl _
  | _ :: _, _ :: _, h, 0 => h.1
  | _ :: r, _ :: q, h, j + 1 => SubL.at_ (a := r) (b := q) h.2 j
  | [], _ :: _, h, _ => h.elim
  | _ :: _, [], h, _ => h.elim
theorem Sub.del {a b w : Nat} (h : Sub a b) : Sub (del a w) (del b w) := fun i hi => by
  rw [del_bit] at hi ⊢
  simp only [Bool.and_eq_true] at hi
  rw [h i hi.1, hi.2]; rfl
theorem Sub.and {a b c d : Nat} (h : Sub a b) (k : Sub c d) : Sub (a &&& c) (b &&& d) := fun i hi => by
  rw [Nat.testBit_and, Bool.and_eq_true] at hi
  rw [Nat.testBit_and, h i hi.1, k i hi.2]; rfl
theorem Sub.and_eq {a b : Nat} (h : Sub a b) : a &&& b = a := by
  apply Nat.eq_of_testBit_eq
  intro i
  rw [Nat.testBit_and]
  cases ha : a.testBit i
  · rfl
  · rw [h i ha]; rfl
theorem Sub.of_and {a b : Nat} (h : a &&& b = a) : Sub a b := fun i hi => by
  rw [← h, Nat.testBit_and, Bool.and_eq_true] at hi
  exact hi.2
theorem uCode_mono {c : Cd} {u v : Nat} (h : Sub u v) : Sub (uCode c u) (uCode c v) := by
  by_cases hc : c.op = 2
  · rw [uCode, if_pos (.inl hc), uCode, if_pos (.inl hc)]; exact h.del
  by_cases hu : rd c &&& u = rd c
  · have hv : rd c &&& v = rd c := ((Sub.of_and hu).trans h).and_eq
    rw [uCode, if_neg (by rintro (q | q); exact hc q; exact q hu), uCode, if_neg (by rintro (q | q); exact hc q; exact q hv)]
    intro i hi
    rw [Nat.testBit_or, Bool.or_eq_true] at hi ⊢
    rcases hi with hi | hi
    · exact .inl (h i hi)
    · exact .inr hi
  · rw [uCode, if_pos (.inr hu)]
    by_cases hv : rd c &&& v = rd c
    · rw [uCode, if_neg (by rintro (q | q); exact hc q; exact q hv)]
      intro i hi
      rw [del_bit, Bool.and_eq_true] at hi
      rw [Nat.testBit_or, h i hi.1]; rfl
    · rw [uCode, if_pos (.inr hv)]; exact h.del
theorem iter_mono {f : Nat → Nat} (hf : ∀ u v, Sub u v → Sub (f u) (f v)) : ∀ n u v, Sub u v → Sub (iter f n u) (iter f n v)
  | 0, _, _, h => h
  | n + 1, u, v, h => iter_mono hf n (f u) (f v) (hf u v h)
theorem uni_mono : ∀ (t : Tr) (u v : Nat), Sub u v → Sub (uni t u).1 (uni t v).1 ∧ SubL (uni t u).2 (uni t v).2
  | .nil, _, _, h => ⟨h, trivial⟩
  | .op c k, u, v, h => by
    obtain ⟨q1, q2⟩ := uni_mono k _ _ (uCode_mono (c := c) h)
    rw [uni_op, uni_op]
    exact ⟨q1, h, q2⟩
  | .ite a t k, u, v, h => by
    obtain ⟨p1, p2⟩ := uni_mono t u v h
    have hm : Sub (uIf a t u) (uIf a t v) := by
      unfold uIf
      cases hu : u.testBit a.toNat
      · rw [if_neg (by simp)]
        cases hv : v.testBit a.toNat
        · rw [if_neg (by simp)]; exact h.del
        · rw [if_pos rfl]
          intro i hi
          rw [del_bit, Bool.and_eq_true, Bool.not_eq_true'] at hi
          rw [Nat.testBit_and, h i hi.1, uni_keep t v i (h i hi.1) hi.2]; rfl
      · rw [if_pos rfl, h _ hu, if_pos rfl]; exact h.and p1
    obtain ⟨q1, q2⟩ := uni_mono k _ _ hm
    rw [uni_ite, uni_ite]
    exact ⟨q1, h, p2.app ⟨Sub.refl _, q2⟩⟩
  | .itee a t e k, u, v, h => by
    obtain ⟨p1, p2⟩ := uni_mono t u v h
    obtain ⟨r1, r2⟩ := uni_mono e u v h
    have hm : Sub (uIfe a t e u) (uIfe a t e v) := by
      unfold uIfe
      cases hu : u.testBit a.toNat
      · rw [if_neg (by simp)]
        cases hv : v.testBit a.toNat
        · rw [if_neg (by simp)]; exact h.del
        · rw [if_pos rfl]
          intro i hi
          rw [del_bit, Bool.and_eq_true, Bool.not_eq_true', Nat.testBit_or, Bool.or_eq_false_iff] at hi
          rw [Nat.testBit_and, uni_keep t v i (h i hi.1) hi.2.1, uni_keep e v i (h i hi.1) hi.2.2]; rfl
      · rw [if_pos rfl, h _ hu, if_pos rfl]; exact p1.and r1
    obtain ⟨q1, q2⟩ := uni_mono k _ _ hm
    rw [uni_itee, uni_itee]
    exact ⟨q1, h, p2.app ⟨Sub.refl _, r2.app ⟨Sub.refl _, q2⟩⟩⟩
  | .loop a b t k, u, v, h => by
    have hh : Sub (uHead t u) (uHead t v) := iter_mono (fun x y hxy => by unfold uTurn; exact hxy.and (uni_mono t x y hxy).1) 16 u v h
    obtain ⟨_, p2⟩ := uni_mono t _ _ hh
    have hm : Sub (uLoop a t u) (uLoop a t v) := by
      unfold uLoop
      cases hu : (uHead t u).testBit a.toNat
      · rw [if_neg (by simp)]
        cases hv : (uHead t v).testBit a.toNat
        · rw [if_neg (by simp)]; exact h.del
        · rw [if_pos rfl]
          intro i hi
          rw [del_bit, Bool.and_eq_true, Bool.not_eq_true'] at hi
          exact head_keep (h i hi.1) hi.2
      · rw [if_pos rfl, hh _ hu, if_pos rfl]; exact hh
    obtain ⟨q1, q2⟩ := uni_mono k _ _ hm
    rw [uni_loop, uni_loop]
    exact ⟨q1, h, p2.app ⟨Sub.refl _, q2⟩⟩
theorem code_sub {c : Cd} (h : CdOk c) : Sub (uCode c 15) 15 := fun i hi => by
  have hlt := uCode_lt h (show 15 < 16 by omega)
  have hi4 : i < 4 := by
    refine Nat.lt_of_not_le fun h4 => ?_
    have : 2 ^ i ≤ uCode c 15 := Nat.ge_two_pow_of_testBit hi
    have h16 : 2 ^ 4 ≤ 2 ^ i := Nat.pow_le_pow_right (by omega) h4
    omega
  have : i = 0 ∨ i = 1 ∨ i = 2 ∨ i = 3 := by omega
  rcases this with rfl | rfl | rfl | rfl <;> rfl
/-- With an instruction at the beginning no set is larger. -/
theorem less_sub {cs : List Cd} {t : Tr} {c : Cd} (hc : CdOk c) (k : Nat) : usL (c :: cs) (.op c t) (k + 1) &&& usL cs t k = usL (c :: cs) (.op c t) (k + 1) := by
  refine Sub.and_eq ?_
  have hm := (uni_mono t _ _ (code_sub hc)).2
  have hat := hm.at_ k
  unfold usL
  rw [uni_op]
  unfold lay
  have hg : (c :: cs).getD (k + 1) default = cs.getD k default := by simp [List.getD_eq_getElem?_getD]
  rw [hg]
  have l1 : (uni t (uCode c 15)).2.length = t.len := uni_len t _
  have l2 : (uni t 15).2.length = t.len := uni_len t _
  by_cases h : (0 ≤ k ∧ k < 0 + (uni t 15).2.length) ∧ (cs.getD k default).op ≠ 12 ∧ (cs.getD k default).op ≠ 14
  · rw [if_pos h, if_pos ⟨⟨Nat.zero_le _, by simp; omega⟩, h.2⟩]
    exact hat
  · rw [if_neg h, if_neg (by rintro ⟨⟨_, q⟩, q2⟩; simp at q; exact h ⟨⟨Nat.zero_le _, by omega⟩, q2⟩)]
    exact Sub.refl _

/-- The program with three instructions before it. -/
def ulC (r : Int) (cs : List Cd) : List Cd := ⟨2, r, 0, 0⟩ :: ⟨1, r, 7, 0⟩ :: ⟨10, 0, 0, 0⟩ :: cs
def ulT (r : Int) (t : Tr) : Tr := .op ⟨2, r, 0, 0⟩ (.op ⟨1, r, 7, 0⟩ (.op ⟨10, 0, 0, 0⟩ t))
theorem ul_ok {r : Int} {t : Tr} (hr : Reg r) (h : t.Ok) : (ulT r t).Ok := by
  have hr' : 0 ≤ r ∧ r ≤ 3 := hr
  refine ⟨?_, ?_, ?_, h⟩ <;> simp [Plain, CdOk, Reg, Word] <;> omega
theorem ul_flat {r : Int} {t : Tr} {cs : List Cd} (h : cs = t.flat) : ulC r cs = (ulT r t).flat := by
  unfold ulC ulT
  rw [h]; rfl
theorem ul_valid {r : Int} {cs : List Cd} (hr : Reg r) (hv : PValid cs) (hl : cs.length + 3 ≤ 40) : PValid (ulC r cs) := by
  obtain ⟨h1, h2, h3⟩ := treeOf_spec hv
  rw [ul_flat h1]
  refine valid_of_tree (ul_ok hr h2) h3 ?_
  show (ulT r (treeOf cs)).flat.length ≤ 40
  rw [← ul_flat h1]
  simp [ulC]; omega
theorem ul_sets {r : Int} {cs : List Cd} {t : Tr} (hr : Reg r) : usL (ulC r cs) (ulT r t) 0 = 15 ∧ usL (ulC r cs) (ulT r t) 1 = 15 - 2 ^ r.toNat ∧ usL (ulC r cs) (ulT r t) 2 = 15 := by
  have hr' : 0 ≤ r ∧ r ≤ 3 := hr
  have h4 : r = 0 ∨ r = 1 ∨ r = 2 ∨ r = 3 := by omega
  unfold usL ulT
  rw [uni_op, uni_op, uni_op]
  have e0 : (ulC r cs).getD 0 default = ⟨2, r, 0, 0⟩ := rfl
  have e1 : (ulC r cs).getD 1 default = ⟨1, r, 7, 0⟩ := rfl
  have e2 : (ulC r cs).getD 2 default = ⟨10, 0, 0, 0⟩ := rfl
  refine ⟨?_, ?_, ?_⟩
  · unfold lay
    rw [e0, if_pos ⟨⟨Nat.le_refl _, by simp⟩, by simp, by simp⟩]
    rfl
  · unfold lay
    rw [e1, if_pos ⟨⟨by omega, by simp⟩, by simp, by simp⟩]
    rcases h4 with rfl | rfl | rfl | rfl <;> rfl
  · unfold lay
    rw [e2, if_pos ⟨⟨by omega, by simp⟩, by simp, by simp⟩]
    rcases h4 with rfl | rfl | rfl | rfl <;> rfl

end Go.Proofs.Ythocmmhhhiikpaa

namespace Go.Proofs.Ythocmmhhhiikpaa
open Go.RowKit

theorem ur_range (cs : List Cd) : (List.range (cs.length * 4)).map (cdf cs) = cs.flatMap cdCells := by
  apply List.ext_getElem?
  intro j
  by_cases h : j < cs.length * 4
  · rw [flat_cdf cs j h]; simp [h]
  · rw [List.getElem?_eq_none (by simp; omega), List.getElem?_eq_none (by rw [flat4]; omega)]
theorem ur_one (cs : List Cd) (j : Nat) (h : j < cs.length * 4) : (cdf cs j).oneCell' = true := (List.all_eq_true.1 (one_cells cs)) _ (List.mem_of_getElem? (flat_cdf cs j h))
theorem ula_open {w : World} {B T : Nat} {v : Value} {n : Nat} {cs : List Cd} {r : Int} (hT : T = 38) (ho : OwnO w B T 4 v n ([.int .i64 2, .int .i64 r, .int .i64 0, .int .i64 0, .int .i64 1, .int .i64 r, .int .i64 7, .int .i64 0, .int .i64 10, .int .i64 0, .int .i64 0, .int .i64 0] ++ (List.range (cs.length * 4)).map (cdf cs))) (hn : n = (ulC r cs).length) : Codes w v (ulC r cs) := by
  subst hT
  rw [ur_range] at ho
  exact Codes.of_ownO (show OwnO w B 38 4 v n ((ulC r cs).flatMap cdCells) from ho) hn (flat_cdf _)
theorem ule_open {w : World} {B T : Nat} {v : Value} {n : Nat} {cs : List Cd} {r : Int} (hT : T = 38) (ho : OwnO w B T 4 v n ([.int .i64 2, .int .i64 r, .int .i64 0, .int .i64 0] ++ (List.range (cs.length * 4)).map (cdf cs))) (hn : n = (⟨2, r, 0, 0⟩ :: cs : List Cd).length) : Codes w v (⟨2, r, 0, 0⟩ :: cs) := by
  subst hT
  rw [ur_range] at ho
  exact Codes.of_ownO (show OwnO w B 38 4 v n ((⟨2, r, 0, 0⟩ :: cs : List Cd).flatMap cdCells) from ho) hn (flat_cdf _)
theorem ule_ok {r : Int} (hr : Reg r) : Plain ⟨2, r, 0, 0⟩ := by
  have hr' : 0 ≤ r ∧ r ≤ 3 := hr
  simp [Plain, CdOk, Reg, Word]; omega
theorem ule_valid {r : Int} {cs : List Cd} (hr : Reg r) (hv : PValid cs) (hl : cs.length + 1 ≤ 40) : PValid (⟨2, r, 0, 0⟩ :: cs) := by
  obtain ⟨h1, h2, h3⟩ := treeOf_spec hv
  have e : (⟨2, r, 0, 0⟩ :: cs : List Cd) = (Tr.op ⟨2, r, 0, 0⟩ (treeOf cs)).flat := by rw [Tr.flat, ← h1]
  rw [e]
  refine valid_of_tree ⟨ule_ok hr, h2⟩ h3 ?_
  show (Tr.op ⟨2, r, 0, 0⟩ (treeOf cs)).flat.length ≤ 40
  rw [← e]
  simp; omega

end Go.Proofs.Ythocmmhhhiikpaa

namespace Go.Proofs.Ythocmmhhhiikpaa

theorem plain_op {c : Cd} (h : Plain c) : c.op ≠ 12 ∧ c.op ≠ 14 := ⟨h.2.2.1, h.2.2.2.2⟩
theorem turns_mem {F : Nat → LS → LS} {n a : Nat} {Q : Nat × Nat × (Nat → Nat → Int) → Prop} (hF : ∀ y s x, x ∈ (F y s).H → x ∈ s.H ∨ Q x) : ∀ (b y : Nat) (s : LS) (x), x ∈ (turns F n a b y s).H → x ∈ s.H ∨ Q x
  | 0, _, _, _, h => .inl h
  | b + 1, y, s, x, h => by
    rcases turns_mem hF b (onesTo s.R y a n) (F (onesTo s.R y a n) s) x h with h | h
    · exact hF _ _ _ h
    · exact .inr h
theorem beat_mem {i mask : Nat} {s : LS} {x : Nat × Nat × (Nat → Nat → Int)} (h : x ∈ (beat i mask s).H) : x ∈ s.H ∨ (x.1 = i ∧ x.2.1 = mask) := by
  rcases List.mem_append.1 h with h | h
  · exact .inl h
  · simp at h; subst h; exact .inr ⟨rfl, rfl⟩
/-- No step is one of an OpElse or an OpEnd. -/
theorem run_op {cs : List Cd} (n m : Nat) : ∀ (t : Tr) (i mask : Nat) (s : LS) (x), t.Ok → Seg cs i t → x ∈ (run n m t i mask s).H → x ∈ s.H ∨ ((cs.getD x.1 default).op ≠ 12 ∧ (cs.getD x.1 default).op ≠ 14)
  | .nil, _, _, _, _, _, _, h => .inl h
  | .op c k, i, mask, s, x, ho, hs, h => by
    obtain ⟨h1, _, h3⟩ := hs.op
    by_cases h0 : mask = 0
    · subst h0; rw [run_zero] at h; exact .inl h
    · have h : x ∈ (if mask = 0 then s else run n m k (i + 1) mask (exec c n m i mask s) : LS).H := h
      rw [if_neg h0] at h
      rcases run_op n m k _ _ _ _ ho.2 h3 h with h | h
      · rw [exec_H] at h
        rcases beat_mem (s := s) h with h | h
        · exact .inl h
        · rw [h.1, h1]; exact .inr (plain_op ho.1)
      · exact .inr h
  | .ite a t k, i, mask, s, x, ho, hs, h => by
    obtain ⟨h1, h2, _, _, h3⟩ := hs.ite
    by_cases h0 : mask = 0
    · subst h0; rw [run_zero] at h; exact .inl h
    · have h : x ∈ (if mask = 0 then s else _ : LS).H := h
      rw [if_neg h0] at h
      rcases run_op n m k _ _ _ _ ho.2.2 h3 h with h | h
      · rcases run_op n m t _ _ _ _ ho.2.1 h2 h with h | h
        · rcases beat_mem (s := s) h with h | h
          · exact .inl h
          · rw [h.1, h1]; exact .inr ⟨by simp [cIf], by simp [cIf]⟩
        · exact .inr h
      · exact .inr h
  | .itee a t e k, i, mask, s, x, ho, hs, h => by
    obtain ⟨h1, h2, _, h4, _, _, h3⟩ := hs.itee
    by_cases h0 : mask = 0
    · subst h0; rw [run_zero] at h; exact .inl h
    · have h : x ∈ (if mask = 0 then s else _ : LS).H := h
      rw [if_neg h0] at h
      rcases run_op n m k _ _ _ _ ho.2.2.2 h3 h with h | h
      · rcases run_op n m e _ _ _ _ ho.2.2.1 h4 h with h | h
        · rcases run_op n m t _ _ _ _ ho.2.1 h2 h with h | h
          · rcases beat_mem (s := s) h with h | h
            · exact .inl h
            · rw [h.1, h1]; exact .inr ⟨by simp [cIf], by simp [cIf]⟩
          · exact .inr h
        · exact .inr h
      · exact .inr h
  | .loop a b t k, i, mask, s, x, ho, hs, h => by
    obtain ⟨h1, h2, _, _, h3⟩ := hs.loop
    by_cases h0 : mask = 0
    · subst h0; rw [run_zero] at h; exact .inl h
    · have h : x ∈ (if mask = 0 then s else _ : LS).H := h
      rw [if_neg h0] at h
      rcases run_op n m k _ _ _ _ ho.2.2.2 h3 h with h | h
      · rcases turns_mem (fun y s x hx => run_op n m t _ _ _ _ ho.2.2.1 h2 hx) _ _ _ _ h with h | h
        · rcases beat_mem (s := s) h with h | h
          · exact .inl h
          · rw [h.1, h1]; exact .inr ⟨by simp [cLoop], by simp [cLoop]⟩
        · exact .inr h
      · exact .inr h

/-- Steps outside of the blocks of a tree have its mask. -/
def OutStep (cs : List Cd) (i mask : Nat) (x : Nat × Nat × (Nat → Nat → Int)) : Prop := (x.2.1 = mask ∧ aroundAt cs x.1 = aroundAt cs i) ∨ (i : Int) ≤ aroundAt cs x.1
theorem around_op {cs : List Cd} {i : Nat} (h1 : ¬ Opens (cs.getD i default)) (h2 : (cs.getD i default).op ≠ 14) : aroundAt cs (i + 1) = aroundAt cs i := by
  unfold aroundAt
  rw [bScan_succ, if_neg h2, if_neg h1]
theorem around_open {cs : List Cd} {i : Nat} (h : Opens (cs.getD i default)) : aroundAt cs (i + 1) = i := by
  unfold aroundAt
  have h2 : (cs.getD i default).op ≠ 14 := by rcases h with h | h <;> omega
  rw [bScan_succ, if_neg h2, if_pos h, if_pos rfl]
/-- Behind a block the blocks around are those before it. -/
theorem around_behind {cs : List Cd} {i : Nat} {t : Tr} (ho : t.Ok) (hs : Seg cs (i + 1) t) (h : Opens (cs.getD i default)) (he : cs.getD (i + 1 + t.len) default = cEnd) : aroundAt cs (i + 1 + t.len + 1) = aroundAt cs i := by
  unfold aroundAt
  have h2 : (cs.getD i default).op ≠ 14 := by rcases h with h | h <;> omega
  rw [bScan_succ, he, if_pos (by rfl), bScan_flat t (i + 1) 1 ho hs, bScan_succ, if_neg h2, if_pos h, if_neg (by decide)]
theorem around_behind2 {cs : List Cd} {i : Nat} {t e : Tr} (ho : t.Ok) (hs : Seg cs (i + 1) t) (h : Opens (cs.getD i default)) (he : cs.getD (i + 1 + t.len) default = cElse) (hoe : e.Ok) (hse : Seg cs (i + 1 + t.len + 1) e) (he2 : cs.getD (i + 1 + t.len + 1 + e.len) default = cEnd) :
    aroundAt cs (i + 1 + t.len + 1 + e.len + 1) = aroundAt cs i ∧ aroundAt cs (i + 1 + t.len + 1) = i := by
  have h2 : (cs.getD i default).op ≠ 14 := by rcases h with h | h <;> omega
  unfold aroundAt
  constructor
  · rw [bScan_succ, he2, if_pos (by rfl), bScan_flat e _ 1 hoe hse, bScan_succ, he, if_neg (by decide), if_neg opens_else, bScan_flat t (i + 1) 1 ho hs, bScan_succ, if_neg h2, if_pos h, if_neg (by decide)]
  · rw [bScan_succ, he, if_neg (by decide), if_neg opens_else, bScan_flat t (i + 1) 0 ho hs, bScan_succ, if_neg h2, if_pos h, if_pos rfl]
theorem OutStep.inner {cs : List Cd} {i j mask mask' : Nat} {x : Nat × Nat × (Nat → Nat → Int)} (h : OutStep cs j mask' x) (hj : aroundAt cs j = i) (hij : i ≤ j) : OutStep cs i mask x := by
  rcases h with h | h
  · exact .inr (by rw [h.2, hj]; exact Int.le_refl _)
  · exact .inr (by omega)
theorem OutStep.next {cs : List Cd} {i j mask : Nat} {x : Nat × Nat × (Nat → Nat → Int)} (h : OutStep cs j mask x) (hj : aroundAt cs j = aroundAt cs i) (hij : i ≤ j) : OutStep cs i mask x := by
  rcases h with h | h
  · exact .inl ⟨h.1, by rw [h.2, hj]⟩
  · exact .inr (by omega)
theorem run_out {cs : List Cd} (n m : Nat) : ∀ (t : Tr) (i mask : Nat) (s : LS) (x), t.Ok → Seg cs i t → x ∈ (run n m t i mask s).H → x ∈ s.H ∨ OutStep cs i mask x
  | .nil, _, _, _, _, _, _, h => .inl h
  | .op c k, i, mask, s, x, ho, hs, h => by
    obtain ⟨h1, _, h3⟩ := hs.op
    by_cases h0 : mask = 0
    · subst h0; rw [run_zero] at h; exact .inl h
    · have h : x ∈ (if mask = 0 then s else run n m k (i + 1) mask (exec c n m i mask s) : LS).H := h
      rw [if_neg h0] at h
      have hn : aroundAt cs (i + 1) = aroundAt cs i := around_op (by rw [h1]; have := ho.1; unfold Plain at this; unfold Opens; omega) (by rw [h1]; exact ho.1.2.2.2.2)
      rcases run_out n m k _ _ _ _ ho.2 h3 h with h | h
      · rw [exec_H] at h
        rcases beat_mem (s := s) h with h | h
        · exact .inl h
        · exact .inr (.inl ⟨h.2, by rw [h.1]⟩)
      · exact .inr (h.next hn (by omega))
  | .ite a t k, i, mask, s, x, ho, hs, h => by
    obtain ⟨h1, h2, he, _, h3⟩ := hs.ite
    have hop : Opens (cs.getD i default) := by rw [h1]; exact opens_if a
    by_cases h0 : mask = 0
    · subst h0; rw [run_zero] at h; exact .inl h
    · have h : x ∈ (if mask = 0 then s else _ : LS).H := h
      rw [if_neg h0] at h
      rcases run_out n m k _ _ _ _ ho.2.2 h3 h with h | h
      · rcases run_out n m t _ _ _ _ ho.2.1 h2 h with h | h
        · rcases beat_mem (s := s) h with h | h
          · exact .inl h
          · exact .inr (.inl ⟨h.2, by rw [h.1]⟩)
        · exact .inr (h.inner (around_open hop) (by omega))
      · exact .inr (h.next (around_behind ho.2.1 h2 hop he) (by omega))
  | .itee a t e k, i, mask, s, x, ho, hs, h => by
    obtain ⟨h1, h2, he, h4, he2, _, h3⟩ := hs.itee
    have hop : Opens (cs.getD i default) := by rw [h1]; exact opens_if a
    obtain ⟨hb1, hb2⟩ := around_behind2 ho.2.1 h2 hop he ho.2.2.1 h4 he2
    by_cases h0 : mask = 0
    · subst h0; rw [run_zero] at h; exact .inl h
    · have h : x ∈ (if mask = 0 then s else _ : LS).H := h
      rw [if_neg h0] at h
      rcases run_out n m k _ _ _ _ ho.2.2.2 h3 h with h | h
      · rcases run_out n m e _ _ _ _ ho.2.2.1 h4 h with h | h
        · rcases run_out n m t _ _ _ _ ho.2.1 h2 h with h | h
          · rcases beat_mem (s := s) h with h | h
            · exact .inl h
            · exact .inr (.inl ⟨h.2, by rw [h.1]⟩)
          · exact .inr (h.inner (around_open hop) (by omega))
        · exact .inr (h.inner hb2 (by omega))
      · exact .inr (h.next hb1 (by omega))
  | .loop a b t k, i, mask, s, x, ho, hs, h => by
    obtain ⟨h1, h2, he, _, h3⟩ := hs.loop
    have hop : Opens (cs.getD i default) := by rw [h1]; exact opens_loop a b
    by_cases h0 : mask = 0
    · subst h0; rw [run_zero] at h; exact .inl h
    · have h : x ∈ (if mask = 0 then s else _ : LS).H := h
      rw [if_neg h0] at h
      rcases run_out n m k _ _ _ _ ho.2.2.2 h3 h with h | h
      · rcases turns_mem (Q := OutStep cs i mask) (fun y s x hx => (run_out n m t _ _ _ _ ho.2.2.1 h2 hx).imp id fun h => h.inner (around_open hop) (by omega)) _ _ _ _ h with h | h
        · rcases beat_mem (s := s) h with h | h
          · exact .inl h
          · exact .inr (.inl ⟨h.2, by rw [h.1]⟩)
        · exact .inr h
      · exact .inr (h.next (around_behind ho.2.2.1 h2 hop he) (by omega))
theorem around_0 (cs : List Cd) : aroundAt cs 0 = -1 := rfl

/-- What was noted before stays in front. -/
def Ext (s s' : LS) : Prop := ∃ X, s'.H = s.H ++ X
theorem Ext.refl (s : LS) : Ext s s := ⟨[], by simp⟩
theorem Ext.trans {a b c : LS} (h : Ext a b) (k : Ext b c) : Ext a c := by
  obtain ⟨X, h⟩ := h; obtain ⟨Y, k⟩ := k; exact ⟨X ++ Y, by rw [k, h]; simp⟩
theorem ext_beat (i mask : Nat) (s : LS) : Ext s (beat i mask s) := ⟨_, rfl⟩
theorem ext_exec (c : Cd) (n m i mask : Nat) (s : LS) : Ext (beat i mask s) (exec c n m i mask s) := ⟨[], by rw [exec_H]; simp; rfl⟩
theorem ext_turns {F : Nat → LS → LS} {n a : Nat} (hF : ∀ y s, Ext s (F y s)) : ∀ (b y : Nat) (s : LS), Ext s (turns F n a b y s)
  | 0, _, s => Ext.refl s
  | b + 1, _y, s => (hF _ s).trans (ext_turns hF b _ _)
theorem run_ext (n m : Nat) : ∀ (t : Tr) (i mask : Nat) (s : LS), Ext s (run n m t i mask s)
  | .nil, _, _, s => Ext.refl s
  | .op c k, i, mask, s => by
    show Ext s (if _ then _ else _)
    split
    · exact Ext.refl s
    · exact (ext_beat i mask s).trans ((ext_exec c n m i mask s).trans (run_ext n m k _ _ _))
  | .ite a t k, i, mask, s => by
    show Ext s (if _ then _ else _)
    split
    · exact Ext.refl s
    · exact (ext_beat i mask s).trans ((run_ext n m t _ _ _).trans (run_ext n m k _ _ _))
  | .itee a t e k, i, mask, s => by
    show Ext s (if _ then _ else _)
    split
    · exact Ext.refl s
    · exact (ext_beat i mask s).trans ((run_ext n m t _ _ _).trans ((run_ext n m e _ _ _).trans (run_ext n m k _ _ _)))
  | .loop a b t k, i, mask, s => by
    show Ext s (if _ then _ else _)
    split
    · exact Ext.refl s
    · exact (ext_beat i mask s).trans ((ext_turns (fun y s => run_ext n m t _ _ _) _ _ _).trans (run_ext n m k _ _ _))
/-- The first step of a tree that is not empty. -/
theorem run_first (n m : Nat) (t : Tr) (i mask : Nat) (s : LS) (h0 : mask ≠ 0) (ht : 0 < t.len) : Ext (beat i mask s) (run n m t i mask s) := by
  cases t with
  | nil => simp [Tr.len, Tr.flat] at ht
  | op c k =>
    show Ext _ (if _ then _ else _)
    rw [if_neg h0]
    exact (ext_exec c n m i mask s).trans (run_ext n m k _ _ _)
  | ite a t k =>
    show Ext _ (if _ then _ else _)
    rw [if_neg h0]
    exact (run_ext n m t _ _ _).trans (run_ext n m k _ _ _)
  | itee a t e k =>
    show Ext _ (if _ then _ else _)
    rw [if_neg h0]
    exact (run_ext n m t _ _ _).trans ((run_ext n m e _ _ _).trans (run_ext n m k _ _ _))
  | loop a b t k =>
    show Ext _ (if _ then _ else _)
    rw [if_neg h0]
    exact (ext_turns (fun y s => run_ext n m t _ _ _) _ _ _).trans (run_ext n m k _ _ _)

end Go.Proofs.Ythocmmhhhiikpaa

namespace Go.Proofs.Ythocmmhhhiikpaa

theorem simR_Mx {c : Cd} (h : c.op ≠ 8) (id m : Nat) (f M M' : Nat → Int) : simR c id m f M = simR c id m f M' := by
  unfold simR
  rw [if_neg h, if_neg h]
theorem lanes_Mx {c : Cd} (h : c.op ≠ 9) (m mask : Nat) (s : LS) : ∀ j, (lanesTo c m mask j s).M = s.M
  | 0 => rfl
  | j + 1 => by
    have ih := lanes_Mx h m mask s j
    unfold lanesTo
    split
    · show simM c m _ (lanesTo c m mask j s).M = _
      unfold simM; rw [if_neg h]; exact ih
    · exact ih
theorem lanes_Rx (c : Cd) (m mask : Nat) (s : LS) : ∀ j l, (lanesTo c m mask j s).R l = if l < j ∧ mask.testBit l = true then simR c l m (s.R l) s.M else s.R l
  | 0, l => by rw [if_neg (by omega)]; rfl
  | j + 1, l => by
    have ih := lanes_Rx c m mask s j
    have hM : simR c j m (s.R j) (lanesTo c m mask j s).M = simR c j m (s.R j) s.M := by
      by_cases h : c.op = 9
      · exact simR_Mx (by omega) j m _ _ _
      · rw [lanes_Mx h]
    unfold lanesTo
    split
    · rename_i hb
      show (if l = j then simR c j m ((lanesTo c m mask j s).R j) (lanesTo c m mask j s).M else (lanesTo c m mask j s).R l) = _
      by_cases hl : l = j
      · subst hl
        rw [if_pos rfl, if_pos ⟨by omega, hb⟩, ih l, if_neg (by omega)]
        exact hM
      · rw [if_neg hl, ih l]
        by_cases hq : l < j ∧ mask.testBit l = true
        · rw [if_pos hq, if_pos ⟨by omega, hq.2⟩]
        · rw [if_neg hq, if_neg (fun h => hq ⟨by omega, h.2⟩)]
    · rename_i hb
      rw [ih l]
      by_cases hq : l < j ∧ mask.testBit l = true
      · rw [if_pos hq, if_pos ⟨by omega, hq.2⟩]
      · rw [if_neg hq, if_neg (fun h => by
          by_cases hl : l = j
          · subst hl; exact hb h.2
          · exact hq ⟨by omega, h.2⟩)]
theorem exec_Rx (c : Cd) (n m i mask : Nat) (s : LS) (l : Nat) : (exec c n m i mask s).R l = if l < n ∧ mask.testBit l = true then simR c l m (s.R l) s.M else s.R l := by
  have h := lanes_Rx c m mask (beat i mask s) n l
  unfold exec
  simp only
  split
  · exact h
  · exact h

/-- The registers of a set have the same value in all lanes of a mask. -/
def Eqv (R : Nat → Nat → Int) (mask u : Nat) : Prop := ∀ r, u.testBit r = true → ∀ k l, mask.testBit k = true → mask.testBit l = true → R k r = R l r
theorem Eqv.sub {R : Nat → Nat → Int} {mask mask' u u' : Nat} (h : Eqv R mask u) (hm : Sub mask' mask) (hu : Sub u' u) : Eqv R mask' u' :=
  fun r hr k l hk hl => h r (hu r hr) k l (hm k hk) (hm l hl)
theorem Eqv.zero (R : Nat → Nat → Int) (u : Nat) : Eqv R 0 u := fun r _ k _ hk _ => by simp at hk
theorem Eqv.congr {R R' : Nat → Nat → Int} {mask u : Nat} (h : Eqv R mask u) (hR : ∀ l, mask.testBit l = true → R' l = R l) : Eqv R' mask u := fun r hr k l hk hl => by
  rw [hR k hk, hR l hl]; exact h r hr k l hk hl

theorem pw_bit (x : Int) (r : Nat) : (pw x).testBit r = decide (x.toNat = r) := by unfold pw; rw [Nat.testBit_two_pow]
theorem simR_keep {c : Cd} {id m : Nat} {f M : Nat → Int} {r : Nat} (h : (wst c).testBit r = false) : simR c id m f M r = f r := by
  by_cases hop : 1 ≤ c.op ∧ c.op ≤ 8
  · unfold wst at h
    rw [if_pos hop, pw_bit] at h
    have hne : r ≠ c.a.toNat := fun e => by simp [e] at h
    unfold simR
    repeat' split
    all_goals first | exact setF_ne _ _ hne | rfl
  · unfold simR
    rw [if_neg (by omega), if_neg (by omega), if_neg (by omega), if_neg (by omega), if_neg (by omega), if_neg (by omega), if_neg (by omega), if_neg (by omega)]
theorem simR_same {c : Cd} {id id' m : Nat} {f g M : Nat → Int} (h2 : c.op ≠ 2) (hr : ∀ r, (rd c).testBit r = true → f r = g r) {r : Nat} (hw : (wst c).testBit r = true) : simR c id m f M r = simR c id' m g M r := by
  have hop : 1 ≤ c.op ∧ c.op ≤ 8 := by
    refine Classical.byContradiction fun hn => ?_
    unfold wst at hw
    rw [if_neg hn] at hw
    simp at hw
  unfold wst at hw
  rw [if_pos hop, pw_bit, decide_eq_true_eq] at hw
  subst hw
  have ha : c.op = 3 ∨ c.op = 4 ∨ c.op = 7 → f c.a.toNat = g c.a.toNat := fun h => hr _ (by
    unfold rd
    rcases h with h | h | h
    all_goals simp [h, Nat.testBit_or, pw_bit])
  have hb : 3 ≤ c.op ∧ c.op ≤ 8 → f c.b.toNat = g c.b.toNat := fun h => hr _ (by
    have : c.op = 3 ∨ c.op = 4 ∨ c.op = 5 ∨ c.op = 6 ∨ c.op = 7 ∨ c.op = 8 := by omega
    unfold rd
    rcases this with h | h | h | h | h | h
    all_goals simp [h, Nat.testBit_or, pw_bit])
  have hc : c.op = 6 ∨ c.op = 7 → f c.c.toNat = g c.c.toNat := fun h => hr _ (by
    unfold rd
    rcases h with h | h
    all_goals simp [h, Nat.testBit_or, pw_bit])
  have hh : c.op = 1 ∨ c.op = 3 ∨ c.op = 4 ∨ c.op = 5 ∨ c.op = 6 ∨ c.op = 7 ∨ c.op = 8 := by omega
  unfold simR
  rcases hh with h | h | h | h | h | h | h
  · rw [if_pos h, if_pos h, setF_same, setF_same]
  · have e1 : ¬ c.op = 1 := by omega
    rw [if_neg e1, if_neg h2, if_pos h, if_neg e1, if_neg h2, if_pos h, setF_same, setF_same, ha (by omega), hb (by omega)]
  · have e1 : ¬ c.op = 1 := by omega
    have e3 : ¬ c.op = 3 := by omega
    rw [if_neg e1, if_neg h2, if_neg e3, if_pos h, if_neg e1, if_neg h2, if_neg e3, if_pos h, setF_same, setF_same, ha (by omega), hb (by omega)]
  · have e1 : ¬ c.op = 1 := by omega
    have e3 : ¬ c.op = 3 := by omega
    have e4 : ¬ c.op = 4 := by omega
    rw [if_neg e1, if_neg h2, if_neg e3, if_neg e4, if_pos h, if_neg e1, if_neg h2, if_neg e3, if_neg e4, if_pos h, setF_same, setF_same, hb (by omega)]
  · have e1 : ¬ c.op = 1 := by omega
    have e3 : ¬ c.op = 3 := by omega
    have e4 : ¬ c.op = 4 := by omega
    have e5 : ¬ c.op = 5 := by omega
    rw [if_neg e1, if_neg h2, if_neg e3, if_neg e4, if_neg e5, if_pos h, if_neg e1, if_neg h2, if_neg e3, if_neg e4, if_neg e5, if_pos h, setF_same, setF_same, hb (by omega), hc (by omega)]
  · have e1 : ¬ c.op = 1 := by omega
    have e3 : ¬ c.op = 3 := by omega
    have e4 : ¬ c.op = 4 := by omega
    have e5 : ¬ c.op = 5 := by omega
    have e6 : ¬ c.op = 6 := by omega
    rw [if_neg e1, if_neg h2, if_neg e3, if_neg e4, if_neg e5, if_neg e6, if_pos h, if_neg e1, if_neg h2, if_neg e3, if_neg e4, if_neg e5, if_neg e6, if_pos h, hc (by omega)]
    split
    · exact ha (by omega)
    · rw [setF_same, setF_same, hb (by omega)]
  · have e1 : ¬ c.op = 1 := by omega
    have e3 : ¬ c.op = 3 := by omega
    have e4 : ¬ c.op = 4 := by omega
    have e5 : ¬ c.op = 5 := by omega
    have e6 : ¬ c.op = 6 := by omega
    have e7 : ¬ c.op = 7 := by omega
    rw [if_neg e1, if_neg h2, if_neg e3, if_neg e4, if_neg e5, if_neg e6, if_neg e7, if_pos h, if_neg e1, if_neg h2, if_neg e3, if_neg e4, if_neg e5, if_neg e6, if_neg e7, if_pos h, setF_same, setF_same]
    unfold cellOf
    rw [hb (by omega)]
theorem code_holds {c : Cd} {n m i mask u : Nat} {s : LS} (hm : mask < 2 ^ n) (h : Eqv s.R mask u) : Eqv (exec c n m i mask s).R mask (uCode c u) := by
  have hin : ∀ l, mask.testBit l = true → l < n ∧ mask.testBit l = true := fun l hl => ⟨Nat.lt_of_not_le (fun hn => by rw [testBit_hi hm hn] at hl; cases hl), hl⟩
  intro r hr k l hk hl
  rw [exec_Rx, exec_Rx, if_pos (hin k hk), if_pos (hin l hl)]
  by_cases hq : c.op = 2 ∨ rd c &&& u ≠ rd c
  · rw [uCode, if_pos hq, del_bit, Bool.and_eq_true, Bool.not_eq_true'] at hr
    rw [simR_keep hr.2, simR_keep hr.2]
    exact h r hr.1 k l hk hl
  · rw [uCode, if_neg hq, Nat.testBit_or] at hr
    rw [not_or, Decidable.not_not] at hq
    cases hw : (wst c).testBit r
    · rw [hw, Bool.or_false] at hr
      rw [simR_keep hw, simR_keep hw]
      exact h r hr k l hk hl
    · exact simR_same hq.1 (fun q hq1 => h q (Sub.of_and hq.2 q hq1) k l hk hl) hw
theorem onesTo_none' {R : Nat → Nat → Int} {mask a n : Nat} (h : ∀ k, mask.testBit k = true → R k a = 0) : onesTo R mask a n = 0 := by
  apply Nat.eq_of_testBit_eq
  intro l
  rw [onesTo_bit, Nat.zero_testBit]
  cases hl : mask.testBit l
  · simp
  · simp [h l hl]
/-- Lanes that agree go on together, or none does. -/
theorem onesTo_eqv {R : Nat → Nat → Int} {mask a n : Nat} (hm : mask < 2 ^ n) (h : ∀ k l, mask.testBit k = true → mask.testBit l = true → R k a = R l a) : onesTo R mask a n = mask ∨ onesTo R mask a n = 0 := by
  by_cases hx : ∃ k, mask.testBit k = true ∧ R k a ≠ 0
  · obtain ⟨k, hk, hne⟩ := hx
    refine .inl (Nat.eq_of_testBit_eq fun l => ?_)
    rw [onesTo_bit]
    cases hl : mask.testBit l
    · simp
    · have hln : l < n := Nat.lt_of_not_le fun hn => by rw [testBit_hi hm hn] at hl; cases hl
      have : R l a ≠ 0 := by rw [h l k hl hk]; exact hne
      simp [hln, this]
  · refine .inr (onesTo_none' fun k hk => ?_)
    exact Classical.byContradiction fun hne => hx ⟨k, hk, hne⟩
theorem ones_le {R : Nat → Nat → Int} {mask a n : Nat} : Sub (onesTo R mask a n) mask := fun l hl => onesTo_sub R mask a n l hl
theorem del_le {a b : Nat} : Sub (del a b) a := fun l hl => by rw [del_bit, Bool.and_eq_true] at hl; exact hl.1
theorem ones_off {R : Nat → Nat → Int} {mask a n l : Nat} (h : mask.testBit l = false) : (onesTo R mask a n).testBit l = false := by
  cases hb : (onesTo R mask a n).testBit l
  · rfl
  · rw [onesTo_sub R mask a n l hb] at h; cases h
theorem del_off {a b l : Nat} (h : a.testBit l = false) : (del a b).testBit l = false := by rw [del_bit, h]; rfl

/-- Lanes outside of the mask keep their registers. -/
theorem turns_frame {F : Nat → LS → LS} {n a l : Nat} (hF : ∀ y s, y.testBit l = false → (F y s).R l = s.R l) : ∀ (b y : Nat) (s : LS), y.testBit l = false → (turns F n a b y s).R l = s.R l
  | 0, _, _, _ => rfl
  | b + 1, y, s, h => (turns_frame hF b (onesTo s.R y a n) (F (onesTo s.R y a n) s) (ones_off h)).trans (hF _ _ (ones_off h))
theorem run_frame (n m : Nat) : ∀ (t : Tr) (i mask : Nat) (s : LS) (l : Nat), mask.testBit l = false → (run n m t i mask s).R l = s.R l
  | .nil, _, _, _, _, _ => rfl
  | .op c k, i, mask, s, l, h => by
    show LS.R (if _ then _ else _) l = _
    split
    · rfl
    · rw [run_frame n m k _ _ _ l h, exec_Rx, if_neg (fun q => by rw [h] at q; cases q.2)]
  | .ite a t k, i, mask, s, l, h => by
    show LS.R (if _ then _ else _) l = _
    split
    · rfl
    · rw [run_frame n m k _ _ _ l h, run_frame n m t _ _ _ l (ones_off h)]; rfl
  | .itee a t e k, i, mask, s, l, h => by
    show LS.R (if _ then _ else _) l = _
    split
    · rfl
    · rw [run_frame n m k _ _ _ l h, run_frame n m e _ _ _ l (del_off h), run_frame n m t _ _ _ l (ones_off h)]; rfl
  | .loop a b t k, i, mask, s, l, h => by
    show LS.R (if _ then _ else _) l = _
    split
    · rfl
    · rw [run_frame n m k _ _ _ l h, turns_frame (fun y s hy => run_frame n m t _ _ _ l hy) _ _ _ h]; rfl
/-- Registers that a tree does not write stay. -/
theorem turns_keepR {F : Nat → LS → LS} {n a l r : Nat} (hF : ∀ y s, (F y s).R l r = s.R l r) : ∀ (b y : Nat) (s : LS), (turns F n a b y s).R l r = s.R l r
  | 0, _, _ => rfl
  | b + 1, y, s => (turns_keepR hF b (onesTo s.R y a n) (F (onesTo s.R y a n) s)).trans (hF _ _)
theorem run_keepR (n m : Nat) : ∀ (t : Tr) (i mask : Nat) (s : LS) (l r : Nat), (writ t).testBit r = false → (run n m t i mask s).R l r = s.R l r
  | .nil, _, _, _, _, _, _ => rfl
  | .op c k, i, mask, s, l, r, h => by
    have h' : (wst c ||| writ k).testBit r = false := h
    rw [Nat.testBit_or, Bool.or_eq_false_iff] at h'
    show LS.R (if _ then _ else _) l r = _
    split
    · rfl
    · rw [run_keepR n m k _ _ _ l r h'.2, exec_Rx]
      split
      · exact simR_keep h'.1
      · rfl
  | .ite a t k, i, mask, s, l, r, h => by
    have h' : (writ t ||| writ k).testBit r = false := h
    rw [Nat.testBit_or, Bool.or_eq_false_iff] at h'
    show LS.R (if _ then _ else _) l r = _
    split
    · rfl
    · rw [run_keepR n m k _ _ _ l r h'.2, run_keepR n m t _ _ _ l r h'.1]; rfl
  | .itee a t e k, i, mask, s, l, r, h => by
    have h' : ((writ t ||| writ e) ||| writ k).testBit r = false := h
    rw [Nat.testBit_or, Nat.testBit_or, Bool.or_eq_false_iff, Bool.or_eq_false_iff] at h'
    show LS.R (if _ then _ else _) l r = _
    split
    · rfl
    · rw [run_keepR n m k _ _ _ l r h'.2, run_keepR n m e _ _ _ l r h'.1.2, run_keepR n m t _ _ _ l r h'.1.1]; rfl
  | .loop a b t k, i, mask, s, l, r, h => by
    have h' : (writ t ||| writ k).testBit r = false := h
    rw [Nat.testBit_or, Bool.or_eq_false_iff] at h'
    show LS.R (if _ then _ else _) l r = _
    split
    · rfl
    · rw [run_keepR n m k _ _ _ l r h'.2, turns_keepR (fun y s => run_keepR n m t _ _ _ l r h'.1)]; rfl

theorem iter_sub {f : Nat → Nat} (hf : ∀ h, Sub (f h) h) : ∀ n h, Sub (iter f n h) h
  | 0, _ => Sub.refl _
  | n + 1, h => (iter_sub hf n (f h)).trans (hf h)
/-- A step at one of the places of a tree: what the sets tell holds in it. -/
def AtS (xs : List Nat) (i : Nat) (x : Nat × Nat × (Nat → Nat → Int)) : Prop := i ≤ x.1 ∧ x.1 < i + xs.length ∧ Eqv x.2.2 x.2.1 (xs.getD (x.1 - i) 0)
theorem AtS.cons {xs : List Nat} {i u : Nat} {x : Nat × Nat × (Nat → Nat → Int)} (h : AtS xs (i + 1) x) : AtS (u :: xs) i x := by
  obtain ⟨h1, h2, h3⟩ := h
  refine ⟨by omega, by simp; omega, ?_⟩
  rw [show x.1 - i = (x.1 - (i + 1)) + 1 by omega]
  exact h3
theorem AtS.left {xs ys : List Nat} {i : Nat} {x : Nat × Nat × (Nat → Nat → Int)} (h : AtS xs i x) : AtS (xs ++ ys) i x := by
  obtain ⟨h1, h2, h3⟩ := h
  refine ⟨h1, by simp; omega, ?_⟩
  have e : (xs ++ ys).getD (x.1 - i) 0 = xs.getD (x.1 - i) 0 := by
    rw [List.getD_eq_getElem?_getD, List.getD_eq_getElem?_getD, List.getElem?_append_left (by omega)]
  rw [e]; exact h3
theorem AtS.right {xs ys : List Nat} {i j : Nat} {x : Nat × Nat × (Nat → Nat → Int)} (h : AtS ys j x) (hj : j = i + xs.length) : AtS (xs ++ ys) i x := by
  subst hj
  obtain ⟨h1, h2, h3⟩ := h
  refine ⟨by omega, by simp; omega, ?_⟩
  have e : (xs ++ ys).getD (x.1 - i) 0 = ys.getD (x.1 - (i + xs.length)) 0 := by
    rw [List.getD_eq_getElem?_getD, List.getD_eq_getElem?_getD, List.getElem?_append_right (by omega), show x.1 - i - xs.length = x.1 - (i + xs.length) by omega]
  rw [e]; exact h3
theorem AtS.here {xs : List Nat} {i u mask : Nat} {s : LS} {x : Nat × Nat × (Nat → Nat → Int)} (h : x ∈ (beat i mask s).H) (hu : Eqv s.R mask u) : x ∈ s.H ∨ AtS (u :: xs) i x := by
  rcases List.mem_append.1 h with h | h
  · exact .inl h
  · simp at h
    subst h
    refine .inr ⟨Nat.le_refl _, by simp, ?_⟩
    show Eqv s.R mask ((u :: xs).getD (i - i) 0)
    rw [Nat.sub_self]
    exact hu

theorem turns_holds {F : Nat → LS → LS} {n a h : Nat} {Q : Nat × Nat × (Nat → Nat → Int) → Prop} (hz : ∀ s, F 0 s = s) (hF : ∀ y s, y < 2 ^ n → Eqv s.R y h → Eqv (F y s).R y h ∧ ∀ x ∈ (F y s).H, x ∈ s.H ∨ Q x) :
    ∀ (b y : Nat) (s : LS), y < 2 ^ n → Eqv s.R y h → (∀ x ∈ (turns F n a b y s).H, x ∈ s.H ∨ Q x) ∧ (∀ mask, mask < 2 ^ n → (y = mask ∨ y = 0) → h.testBit a = true → Eqv s.R mask h → Eqv (turns F n a b y s).R mask h)
  | 0, y, s, _, _ => ⟨fun x hx => .inl hx, fun _ _ _ _ hm => hm⟩
  | b + 1, y, s, hy, he => by
    have hs : Eqv s.R (onesTo s.R y a n) h := he.sub ones_le (Sub.refl _)
    obtain ⟨p1, p2⟩ := hF (onesTo s.R y a n) s (onesTo_lt _ _ _ _) hs
    obtain ⟨q1, q2⟩ := turns_holds hz hF b (onesTo s.R y a n) (F (onesTo s.R y a n) s) (onesTo_lt _ _ _ _) p1
    refine ⟨fun x hx => ?_, fun mask hm hym ha hem => ?_⟩
    · rcases q1 x hx with k | k
      · exact p2 x k
      · exact .inr k
    · have ho : onesTo s.R y a n = mask ∨ onesTo s.R y a n = 0 := by
        rcases hym with rfl | rfl
        · exact onesTo_eqv hm (fun k l hk hl => hem a ha k l hk hl)
        · exact .inr (onesTo_none _ _ _)
      refine q2 mask hm ho ha ?_
      rcases ho with e | e
      · rw [e]; exact (hF mask s hm hem).1
      · rw [e, hz]; exact hem
theorem run_holds (n m : Nat) : ∀ (t : Tr) (i mask : Nat) (s : LS) (u : Nat), t.Ok → mask < 2 ^ n → u < 16 → Eqv s.R mask u →
    Eqv (run n m t i mask s).R mask (uni t u).1 ∧ ∀ x ∈ (run n m t i mask s).H, x ∈ s.H ∨ AtS (uni t u).2 i x
  | .nil, _, _, _, _, _, _, _, h => ⟨h, fun _ hx => .inl hx⟩
  | .op c k, i, mask, s, u, ho, hm, hu, h => by
    by_cases h0 : mask = 0
    · subst h0; rw [run_zero]; exact ⟨Eqv.zero _ _, fun _ hx => .inl hx⟩
    have e : run n m (.op c k) i mask s = run n m k (i + 1) mask (exec c n m i mask s) := if_neg h0
    obtain ⟨p1, p2⟩ := run_holds n m k (i + 1) mask (exec c n m i mask s) (uCode c u) ho.2 hm (uCode_lt ho.1.1 hu) (code_holds hm h)
    rw [e, uni_op]
    refine ⟨p1, fun x hx => ?_⟩
    rcases p2 x hx with q | q
    · rw [exec_H] at q
      exact AtS.here (s := s) q h
    · exact .inr q.cons
  | .ite a t k, i, mask, s, u, ho, hm, hu, h => by
    by_cases h0 : mask = 0
    · subst h0; rw [run_zero]; exact ⟨Eqv.zero _ _, fun _ hx => .inl hx⟩
    have e : run n m (.ite a t k) i mask s = run n m k (i + 1 + t.len + 1) mask (run n m t (i + 1) (onesTo s.R mask a.toNat n) (beat i mask s)) := if_neg h0
    have hso : Eqv (beat i mask s).R (onesTo s.R mask a.toNat n) u := h.sub ones_le (Sub.refl _)
    obtain ⟨p1, p2⟩ := run_holds n m t (i + 1) (onesTo s.R mask a.toNat n) (beat i mask s) u ho.2.1 (onesTo_lt _ _ _ _) hu hso
    have hv : uIf a t u < 16 := by unfold uIf; split; exact and_lt16 hu; exact del_lt' hu
    have hmid : Eqv (run n m t (i + 1) (onesTo s.R mask a.toNat n) (beat i mask s)).R mask (uIf a t u) := by
      unfold uIf
      split
      · rename_i hua
        rcases onesTo_eqv hm (fun k l hk hl => h a.toNat hua k l hk hl) with q | q
        · rw [q] at p1 ⊢
          exact p1.sub (Sub.refl _) (fun i hi => by rw [Nat.testBit_and, Bool.and_eq_true] at hi; exact hi.2)
        · rw [q, run_zero]
          exact h.sub (Sub.refl _) (fun i hi => by rw [Nat.testBit_and, Bool.and_eq_true] at hi; exact hi.1)
      · intro r hr k l hk hl
        rw [del_bit, Bool.and_eq_true, Bool.not_eq_true'] at hr
        rw [run_keepR n m t _ _ _ k r hr.2, run_keepR n m t _ _ _ l r hr.2]
        exact h r hr.1 k l hk hl
    obtain ⟨r1, r2⟩ := run_holds n m k (i + 1 + t.len + 1) mask _ (uIf a t u) ho.2.2 hm hv hmid
    rw [e, uni_ite]
    refine ⟨r1, fun x hx => ?_⟩
    rcases r2 x hx with q | q
    · rcases p2 x q with q | q
      · exact AtS.here q h
      · exact .inr q.left.cons
    · refine .inr (AtS.cons (AtS.right (AtS.cons q) ?_))
      rw [uni_len]
  | .itee a t e k, i, mask, s, u, ho, hm, hu, h => by
    by_cases h0 : mask = 0
    · subst h0; rw [run_zero]; exact ⟨Eqv.zero _ _, fun _ hx => .inl hx⟩
    have er : run n m (.itee a t e k) i mask s = run n m k (i + 1 + t.len + 1 + e.len + 1) mask (run n m e (i + 1 + t.len + 1) (del mask (onesTo s.R mask a.toNat n)) (run n m t (i + 1) (onesTo s.R mask a.toNat n) (beat i mask s))) := if_neg h0
    have hso : Eqv (beat i mask s).R (onesTo s.R mask a.toNat n) u := h.sub ones_le (Sub.refl _)
    obtain ⟨p1, p2⟩ := run_holds n m t (i + 1) (onesTo s.R mask a.toNat n) (beat i mask s) u ho.2.1 (onesTo_lt _ _ _ _) hu hso
    have hse : Eqv (run n m t (i + 1) (onesTo s.R mask a.toNat n) (beat i mask s)).R (del mask (onesTo s.R mask a.toNat n)) u := by
      refine Eqv.congr (R := s.R) (h.sub del_le (Sub.refl _)) fun l hl => ?_
      rw [del_bit, Bool.and_eq_true, Bool.not_eq_true'] at hl
      exact run_frame n m t _ _ _ l hl.2
    obtain ⟨g1, g2⟩ := run_holds n m e (i + 1 + t.len + 1) (del mask (onesTo s.R mask a.toNat n)) _ u ho.2.2.1 (del_lt2 _ hm) hu hse
    have hv : uIfe a t e u < 16 := by unfold uIfe; split; exact and_lt16 (uni_lt t u ho.2.1 hu); exact del_lt' hu
    have hmid : Eqv (run n m e (i + 1 + t.len + 1) (del mask (onesTo s.R mask a.toNat n)) (run n m t (i + 1) (onesTo s.R mask a.toNat n) (beat i mask s))).R mask (uIfe a t e u) := by
      unfold uIfe
      split
      · rename_i hua
        rcases onesTo_eqv hm (fun k l hk hl => h a.toNat hua k l hk hl) with q | q
        · have hd : del mask mask = 0 := by
            apply Nat.eq_of_testBit_eq
            intro l
            rw [del_bit, Nat.zero_testBit]
            cases mask.testBit l <;> rfl
          rw [q] at p1 ⊢
          rw [hd, run_zero]
          exact p1.sub (Sub.refl _) (fun i hi => by rw [Nat.testBit_and, Bool.and_eq_true] at hi; exact hi.1)
        · rw [q] at g1 ⊢
          rw [del_zero] at g1 ⊢
          exact g1.sub (Sub.refl _) (fun i hi => by rw [Nat.testBit_and, Bool.and_eq_true] at hi; exact hi.2)
      · intro r hr k l hk hl
        rw [del_bit, Bool.and_eq_true, Bool.not_eq_true', Nat.testBit_or, Bool.or_eq_false_iff] at hr
        rw [run_keepR n m e _ _ _ k r hr.2.2, run_keepR n m t _ _ _ k r hr.2.1, run_keepR n m e _ _ _ l r hr.2.2, run_keepR n m t _ _ _ l r hr.2.1]
        exact h r hr.1 k l hk hl
    obtain ⟨r1, r2⟩ := run_holds n m k (i + 1 + t.len + 1 + e.len + 1) mask _ (uIfe a t e u) ho.2.2.2 hm hv hmid
    rw [er, uni_itee]
    refine ⟨r1, fun x hx => ?_⟩
    rcases r2 x hx with q | q
    · rcases g2 x q with q | q
      · rcases p2 x q with q | q
        · exact AtS.here q h
        · exact .inr q.left.cons
      · refine .inr (AtS.cons (AtS.right (AtS.cons q.left) ?_))
        rw [uni_len]
    · refine .inr (AtS.cons (AtS.right (AtS.cons (AtS.right (AtS.cons q) ?_)) rfl))
      rw [uni_len, uni_len]
  | .loop a b t k, i, mask, s, u, ho, hm, hu, h => by
    by_cases h0 : mask = 0
    · subst h0; rw [run_zero]; exact ⟨Eqv.zero _ _, fun _ hx => .inl hx⟩
    have e : run n m (.loop a b t k) i mask s = run n m k (i + 1 + t.len + 1) mask (turns (run n m t (i + 1)) n a.toNat b.toNat mask (beat i mask s)) := if_neg h0
    have hfix := uHead_fix t hu
    have hhu : Sub (uHead t u) u := iter_sub (fun x i hi => by unfold uTurn at hi; rw [Nat.testBit_and, Bool.and_eq_true] at hi; exact hi.1) 16 u
    have hlt : uHead t u < 16 := Nat.lt_of_le_of_lt (uHead_le t u) hu
    have hsub : Sub (uHead t u) (uni t (uHead t u)).1 := Sub.of_and hfix
    have hsh : Eqv (beat i mask s).R mask (uHead t u) := h.sub (Sub.refl _) hhu
    obtain ⟨p1, p2⟩ := turns_holds (F := run n m t (i + 1)) (n := n) (a := a.toNat) (h := uHead t u) (Q := AtS (uni t (uHead t u)).2 (i + 1)) (fun s => run_zero n m t (i + 1) s)
      (fun y s' hy hs' => by
        obtain ⟨q1, q2⟩ := run_holds n m t (i + 1) y s' (uHead t u) ho.2.2.1 hy hlt hs'
        exact ⟨q1.sub (Sub.refl _) hsub, q2⟩) b.toNat mask (beat i mask s) hm hsh
    have hv : uLoop a t u < 16 := by unfold uLoop; split; exact hlt; exact del_lt' hu
    have hmid : Eqv (turns (run n m t (i + 1)) n a.toNat b.toNat mask (beat i mask s)).R mask (uLoop a t u) := by
      unfold uLoop
      split
      · rename_i hua
        exact p2 mask hm (.inl rfl) hua hsh
      · intro r hr k l hk hl
        rw [del_bit, Bool.and_eq_true, Bool.not_eq_true'] at hr
        rw [turns_keepR (fun y s => run_keepR n m t _ _ _ k r hr.2), turns_keepR (fun y s => run_keepR n m t _ _ _ l r hr.2)]
        exact h r hr.1 k l hk hl
    obtain ⟨r1, r2⟩ := run_holds n m k (i + 1 + t.len + 1) mask _ (uLoop a t u) ho.2.2.2 hm hv hmid
    rw [e, uni_loop]
    refine ⟨r1, fun x hx => ?_⟩
    rcases r2 x hx with q | q
    · rcases p1 x q with q | q
      · exact AtS.here q h
      · exact .inr q.left.cons
    · refine .inr (AtS.cons (AtS.right (AtS.cons q) ?_))
      rw [uni_len]
/-- In every step of a run the registers that the analysis tells are the same in all active lanes. -/
theorem lock_holds {cs : List Cd} {n : Nat} {mem : List Int} (hv : PValid cs) : ∀ x ∈ (lockOf cs n mem).H, Eqv x.2.2 x.2.1 (usL cs (treeOf cs) x.1) := by
  obtain ⟨h1, h2, h3⟩ := treeOf_spec hv
  intro x hx
  have hlt : (2 ^ n - 1 : Nat) < 2 ^ n := by have := Nat.two_pow_pos n; omega
  have h := (run_holds n mem.length (treeOf cs) 0 (2 ^ n - 1) (startLS mem) 15 h2 hlt (by omega) (fun _ _ _ _ _ _ => rfl)).2 x hx
  rcases h with h | ⟨_, q2, q3⟩
  · cases h
  · have hop := run_op n mem.length (treeOf cs) 0 (2 ^ n - 1) (startLS mem) x h2 (Seg.whole h1) hx
    rcases hop with hop | hop
    · cases hop
    · unfold usL lay
      rw [if_pos ⟨⟨Nat.zero_le _, q2⟩, hop.1, hop.2⟩]
      exact q3

end Go.Proofs.Ythocmmhhhiikpaa
