/- Uniform registers: what the analysis computes, on trees. No program in sight. Private stores, plainly: what is told of them, and that they are free of races. No program in sight. What an instruction writes, by the reference and by the program. StoresPrivate, as the reference finds it, and hasLane and StoresPrivate of the program. No condition. -/
import Derived.Test.YtonmndojlnohcaaKaa
import Derived.Test.YtonmndojlnohcaaKad
import Derived.Test.YtonmndojlnohcaaKae
import Derived.Test.YtonmndojlnohcaaKca
import Derived.Test.YtonmndojlnohcaaKcb
import Derived.Test.YtonmndojlnohcaaKcd

namespace Go.Proofs.Ytonmndojlnohcaa
open Go.RowKit

/-- Behind one instruction. -/
def uCode (c : Cd) (u : Nat) : Nat := if c.op = 2 ∨ rd c &&& u ≠ rd c then del u (wst c) else u ||| wst c
/-- What a tree writes. -/
def writ : Tr → Nat
  | .nil => 0
  | .op c k => wst c ||| writ k
  | .ite _ t k => writ t ||| writ k
  | .itee _ t e k => (writ t ||| writ e) ||| writ k
  | .loop _ _ t k => writ t ||| writ k
def iter (f : Nat → Nat) : Nat → Nat → Nat
  | 0, h => h
  | n + 1, h => iter f n (f h)
/-- The set behind a tree, and the sets at its places. -/
def uni : Tr → Nat → Nat × List Nat
  | .nil, u => (u, [])
  | .op c k, u => ((uni k (uCode c u)).1, u :: (uni k (uCode c u)).2)
  | .ite a t k, u =>
    let v := if u.testBit a.toNat then u &&& (uni t u).1 else del u (writ t)
    ((uni k v).1, u :: ((uni t u).2 ++ 0 :: (uni k v).2))
  | .itee a t e k, u =>
    let v := if u.testBit a.toNat then (uni t u).1 &&& (uni e u).1 else del u (writ t ||| writ e)
    ((uni k v).1, u :: ((uni t u).2 ++ 0 :: ((uni e u).2 ++ 0 :: (uni k v).2)))
  | .loop a _ t k, u =>
    let h := iter (fun h => h &&& (uni t h).1) 16 u
    let v := if h.testBit a.toNat then h else del u (writ t)
    ((uni k v).1, u :: ((uni t h).2 ++ 0 :: (uni k v).2))
/-- One turn of a loop's search, and its end. -/
def uTurn (t : Tr) (h : Nat) : Nat := h &&& (uni t h).1
def uHead (t : Tr) (u : Nat) : Nat := iter (uTurn t) 16 u
/-- Behind an OpIf, an OpIf with an OpElse, an OpLoop. -/
def uIf (a : Int) (t : Tr) (u : Nat) : Nat := if u.testBit a.toNat then u &&& (uni t u).1 else del u (writ t)
def uIfe (a : Int) (t e : Tr) (u : Nat) : Nat := if u.testBit a.toNat then (uni t u).1 &&& (uni e u).1 else del u (writ t ||| writ e)
def uLoop (a : Int) (t : Tr) (u : Nat) : Nat := if (uHead t u).testBit a.toNat then uHead t u else del u (writ t)
theorem uni_nil (u : Nat) : uni .nil u = (u, []) := rfl
theorem uni_op (c : Cd) (k : Tr) (u : Nat) : uni (.op c k) u = ((uni k (uCode c u)).1, u :: (uni k (uCode c u)).2) := rfl
theorem uni_ite (a : Int) (t k : Tr) (u : Nat) : uni (.ite a t k) u = ((uni k (uIf a t u)).1, u :: ((uni t u).2 ++ 0 :: (uni k (uIf a t u)).2)) := rfl
theorem uni_itee (a : Int) (t e k : Tr) (u : Nat) : uni (.itee a t e k) u = ((uni k (uIfe a t e u)).1, u :: ((uni t u).2 ++ 0 :: ((uni e u).2 ++ 0 :: (uni k (uIfe a t e u)).2))) := rfl
theorem uni_loop (a b : Int) (t k : Tr) (u : Nat) : uni (.loop a b t k) u = ((uni k (uLoop a t u)).1, u :: ((uni t (uHead t u)).2 ++ 0 :: (uni k (uLoop a t u)).2)) := rfl

theorem uni_len : ∀ (t : Tr) (u : Nat), (uni t u).2.length = t.len
  | .nil, _ => rfl
  | .op c k, u => by rw [uni_op, Tr.len_op]; simp [uni_len k]
  | .ite a t k, u => by rw [uni_ite, Tr.len_ite]; simp [uni_len k, uni_len t]; omega
  | .itee a t e k, u => by rw [uni_itee, Tr.len_itee]; simp [uni_len k, uni_len t, uni_len e]; omega
  | .loop a b t k, u => by rw [uni_loop, Tr.len_loop]; simp [uni_len k, uni_len t]; omega

theorem Plain.cdok {c : Cd} (h : Plain c) : CdOk c := h.1
theorem del_lt' {a w : Nat} (ha : a < 16) : del a w < 16 := Nat.lt_of_le_of_lt (Sub.le (fun i hi => by rw [del_bit] at hi; simp at hi; exact hi.1)) ha
theorem uCode_lt {c : Cd} {u : Nat} (h : CdOk c) (hu : u < 16) : uCode c u < 16 := by
  unfold uCode
  split
  · exact del_lt' hu
  · exact or_lt hu (wr_lt h)
theorem writ_lt : ∀ (t : Tr), t.Ok → writ t < 16
  | .nil, _ => by decide
  | .op c k, h => or_lt (wr_lt h.1.1) (writ_lt k h.2)
  | .ite _ t k, h => or_lt (writ_lt t h.2.1) (writ_lt k h.2.2)
  | .itee _ t e k, h => or_lt (or_lt (writ_lt t h.2.1) (writ_lt e h.2.2.1)) (writ_lt k h.2.2.2)
  | .loop _ _ t k, h => or_lt (writ_lt t h.2.2.1) (writ_lt k h.2.2.2)
theorem and_lt16 {a b : Nat} (ha : a < 16) : a &&& b < 16 := Nat.lt_of_le_of_lt Nat.and_le_left ha
theorem uTurn_le (t : Tr) (h : Nat) : uTurn t h ≤ h := Nat.and_le_left
theorem iter_le {f : Nat → Nat} (hf : ∀ h, f h ≤ h) : ∀ n h, iter f n h ≤ h
  | 0, _ => Nat.le_refl _
  | n + 1, h => Nat.le_trans (iter_le hf n (f h)) (hf h)
theorem iter_stop {f : Nat → Nat} {h : Nat} (e : f h = h) : ∀ n, iter f n h = h
  | 0 => rfl
  | n + 1 => by show iter f n (f h) = h; rw [e]; exact iter_stop e n
theorem iter_succ (f : Nat → Nat) : ∀ n h, iter f (n + 1) h = f (iter f n h)
  | 0, _ => rfl
  | n + 1, h => iter_succ f n (f h)
theorem iter_fix {f : Nat → Nat} (hf : ∀ h, f h ≤ h) : ∀ n h, h ≤ n → f (iter f n h) = iter f n h
  | 0, h, hn => by
    have e : f h = h := by have := hf h; omega
    exact e
  | n + 1, h, hn => by
    by_cases e : f h = h
    · rw [iter_stop e]; exact e
    · exact iter_fix hf n (f h) (by have := hf h; omega)
theorem uHead_fix (t : Tr) {u : Nat} (hu : u < 16) : uTurn t (uHead t u) = uHead t u := iter_fix (uTurn_le t) 16 u (by omega)
theorem uHead_turn (t : Tr) {u : Nat} (hu : u < 16) : uHead t (uTurn t u) = uHead t u := by
  show iter (uTurn t) 17 u = _
  rw [iter_succ]
  exact uHead_fix t hu
theorem uHead_stop {t : Tr} {u : Nat} (h : uTurn t u = u) : uHead t u = u := iter_stop h 16
theorem uHead_le (t : Tr) (u : Nat) : uHead t u ≤ u := iter_le (uTurn_le t) 16 u
theorem uni_lt : ∀ (t : Tr) (u : Nat), t.Ok → u < 16 → (uni t u).1 < 16
  | .nil, _, _, hu => hu
  | .op c k, u, h, hu => by rw [uni_op]; exact uni_lt k _ h.2 (uCode_lt h.1.1 hu)
  | .ite a t k, u, h, hu => by
    rw [uni_ite]
    refine uni_lt k _ h.2.2 ?_
    unfold uIf
    split
    · exact and_lt16 hu
    · exact del_lt' hu
  | .itee a t e k, u, h, hu => by
    rw [uni_itee]
    refine uni_lt k _ h.2.2.2 ?_
    unfold uIfe
    split
    · exact and_lt16 (uni_lt t u h.2.1 hu)
    · exact del_lt' hu
  | .loop a b t k, u, h, hu => by
    rw [uni_loop]
    refine uni_lt k _ h.2.2.2 ?_
    unfold uLoop
    split
    · exact Nat.lt_of_le_of_lt (uHead_le t u) hu
    · exact del_lt' hu

/-- The table with a tree's sets laid into it; places of OpElse and OpEnd keep theirs. -/
def lay (cs : List Cd) (live : Nat → Nat) (i : Nat) (xs : List Nat) : Nat → Nat :=
  fun j => if (i ≤ j ∧ j < i + xs.length) ∧ (cs.getD j default).op ≠ 12 ∧ (cs.getD j default).op ≠ 14 then xs.getD (j - i) 0 else live j
theorem lay_nil (cs : List Cd) (live : Nat → Nat) (i : Nat) : lay cs live i [] = live := by
  funext j
  unfold lay
  rw [if_neg]
  rintro ⟨⟨h1, h2⟩, _⟩
  simp at h2
  omega
theorem lay_cons {cs : List Cd} {live : Nat → Nat} {i x : Nat} {xs : List Nat} (h1 : (cs.getD i default).op ≠ 12) (h2 : (cs.getD i default).op ≠ 14) :
    lay cs live i (x :: xs) = lay cs (updL live i x) (i + 1) xs := by
  funext j
  unfold lay updL
  by_cases e : j = i
  · subst e
    rw [if_pos ⟨⟨by omega, by simp⟩, h1, h2⟩, if_neg (by omega), if_pos rfl]
    simp
  · by_cases hr : (i + 1 ≤ j ∧ j < i + 1 + xs.length) ∧ (cs.getD j default).op ≠ 12 ∧ (cs.getD j default).op ≠ 14
    · rw [if_pos hr, if_pos ⟨⟨by omega, by simp; omega⟩, hr.2⟩]
      obtain ⟨d, rfl⟩ : ∃ d, j = i + 1 + d := ⟨j - (i + 1), by omega⟩
      rw [show i + 1 + d - i = d + 1 by omega, show i + 1 + d - (i + 1) = d by omega]
      rfl
    · rw [if_neg hr, if_neg (by rintro ⟨⟨q1, q2⟩, q3⟩; simp at q2; exact hr ⟨⟨by omega, by omega⟩, q3⟩), if_neg e]
theorem lay_skip {cs : List Cd} {live : Nat → Nat} {i x : Nat} {xs : List Nat} (h : (cs.getD i default).op = 12 ∨ (cs.getD i default).op = 14) :
    lay cs live i (x :: xs) = lay cs live (i + 1) xs := by
  funext j
  unfold lay
  by_cases e : j = i
  · subst e
    rw [if_neg (by rintro ⟨_, q1, q2⟩; rcases h with h | h; exact q1 h; exact q2 h), if_neg (by omega)]
  · by_cases hr : (i + 1 ≤ j ∧ j < i + 1 + xs.length) ∧ (cs.getD j default).op ≠ 12 ∧ (cs.getD j default).op ≠ 14
    · rw [if_pos hr, if_pos ⟨⟨by omega, by simp; omega⟩, hr.2⟩]
      obtain ⟨d, rfl⟩ : ∃ d, j = i + 1 + d := ⟨j - (i + 1), by omega⟩
      rw [show i + 1 + d - i = d + 1 by omega, show i + 1 + d - (i + 1) = d by omega]
      rfl
    · rw [if_neg hr, if_neg (by rintro ⟨⟨q1, q2⟩, q3⟩; simp at q2; exact hr ⟨⟨by omega, by omega⟩, q3⟩)]
theorem lay_app (cs : List Cd) (live : Nat → Nat) (i : Nat) (xs ys : List Nat) : lay cs live i (xs ++ ys) = lay cs (lay cs live i xs) (i + xs.length) ys := by
  induction xs generalizing live i with
  | nil => rw [lay_nil]; rfl
  | cons x r ih =>
    by_cases h : (cs.getD i default).op = 12 ∨ (cs.getD i default).op = 14
    · rw [List.cons_append, lay_skip h, lay_skip h, ih, show i + 1 + r.length = i + (x :: r).length by simp; omega]
    · rw [not_or] at h
      rw [List.cons_append, lay_cons h.1 h.2, lay_cons h.1 h.2, ih, show i + 1 + r.length = i + (x :: r).length by simp; omega]
theorem lay_lay (cs : List Cd) (live : Nat → Nat) (i : Nat) {xs ys : List Nat} (h : xs.length = ys.length) : lay cs (lay cs live i xs) i ys = lay cs live i ys := by
  funext j
  unfold lay
  split
  · rfl
  · rename_i hn
    rw [if_neg]
    rw [h]
    exact hn

/-- What the instructions of a range write. -/
def wrTo (cs : List Cd) (i : Nat) : Nat → Nat
  | 0 => 0
  | n + 1 => wrTo cs i n ||| wst (cs.getD (i + n) default)
theorem wrTo_head (cs : List Cd) (i : Nat) : ∀ n, wrTo cs i (n + 1) = wst (cs.getD i default) ||| wrTo cs (i + 1) n
  | 0 => by simp [wrTo]
  | n + 1 => by
    show wrTo cs i (n + 1) ||| wst (cs.getD (i + (n + 1)) default) = _
    rw [wrTo_head cs i n, Nat.or_assoc]
    show _ = wst (cs.getD i default) ||| (wrTo cs (i + 1) n ||| wst (cs.getD (i + 1 + n) default))
    rw [show i + 1 + n = i + (n + 1) by omega]
theorem wrTo_add (cs : List Cd) (i n : Nat) : ∀ m, wrTo cs i (n + m) = wrTo cs i n ||| wrTo cs (i + n) m
  | 0 => by simp [wrTo]
  | m + 1 => by
    show wrTo cs i (n + m) ||| wst (cs.getD (i + (n + m)) default) = wrTo cs i n ||| (wrTo cs (i + n) m ||| wst (cs.getD (i + n + m) default))
    rw [wrTo_add cs i n m, Nat.or_assoc, Nat.add_assoc]
theorem wst_zero {c : Cd} (h : c.op = 11 ∨ c.op = 12 ∨ c.op = 13 ∨ c.op = 14) : wst c = 0 := by
  unfold wst
  rw [if_neg (by omega)]
theorem wrTo_tree {cs : List Cd} : ∀ (t : Tr) (i : Nat), Seg cs i t → wrTo cs i t.len = writ t
  | .nil, _, _ => rfl
  | .op c k, i, h => by
    rw [Tr.len_op, wrTo_head, h.op.1, wrTo_tree k _ h.op.2.2]; rfl
  | .ite a t k, i, h => by
    obtain ⟨h1, h2, h3, _, h5⟩ := h.ite
    rw [Tr.len_ite, show 1 + t.len + 1 + k.len = (t.len + (k.len + 1)) + 1 by omega, wrTo_head, h1, wrTo_add, wrTo_tree t _ h2, wrTo_head, h3, wrTo_tree k _ h5, wst_zero (.inl rfl), wst_zero (.inr (.inr (.inr rfl)))]
    simp [writ]
  | .itee a t e k, i, h => by
    obtain ⟨h1, h2, h3, h4, h5, _, h7⟩ := h.itee
    rw [Tr.len_itee, show 1 + t.len + 1 + e.len + 1 + k.len = (t.len + (e.len + (k.len + 1) + 1)) + 1 by omega, wrTo_head, h1, wrTo_add, wrTo_tree t _ h2, wrTo_head, h3, wrTo_add, wrTo_tree e _ h4, wrTo_head, h5, wrTo_tree k _ h7, wst_zero (.inl rfl), wst_zero (.inr (.inl rfl)), wst_zero (.inr (.inr (.inr rfl)))]
    simp [writ, Nat.or_assoc]
  | .loop a b t k, i, h => by
    obtain ⟨h1, h2, h3, _, h5⟩ := h.loop
    rw [Tr.len_loop, show 1 + t.len + 1 + k.len = (t.len + (k.len + 1)) + 1 by omega, wrTo_head, h1, wrTo_add, wrTo_tree t _ h2, wrTo_head, h3, wrTo_tree k _ h5, wst_zero (.inr (.inr (.inl rfl))), wst_zero (.inr (.inr (.inr rfl)))]
    simp [writ]
theorem wrTo_lt {cs : List Cd} (h : ∀ c ∈ cs, CdOk c) (i : Nat) : ∀ n, i + n ≤ cs.length → wrTo cs i n < 16
  | 0, _ => by show 0 < 16; decide
  | n + 1, hn => by
    refine or_lt (wrTo_lt h i n (by omega)) (wr_lt (h _ ?_))
    have hk : i + n < cs.length := by omega
    simp [List.getD_eq_getElem?_getD, hk]

theorem and16' : ∀ a b : Fin 16, bits .and .i64 (a.val : Int) (b.val : Int) = ((a.val &&& b.val : Nat) : Int) := by decide +kernel
theorem and16 {a b : Nat} (ha : a < 16) (hb : b < 16) : bits .and .i64 (a : Int) (b : Int) = ((a &&& b : Nat) : Int) := and16' ⟨a, ha⟩ ⟨b, hb⟩
theorem lay_if {cs : List Cd} {live : Nat → Nat} {i x : Nat} {a : Int} {t k : Tr} {xs ys : List Nat} (h : Seg cs i (.ite a t k)) (hl : xs.length = t.len) :
    lay cs live i (x :: (xs ++ 0 :: ys)) = lay cs (lay cs (updL live i x) (i + 1) xs) (i + 1 + t.len + 1) ys := by
  obtain ⟨h1, _, h3, _⟩ := h.ite
  rw [lay_cons (by rw [h1]; show ¬ (11 : Int) = 12; omega) (by rw [h1]; show ¬ (11 : Int) = 14; omega), lay_app, hl, lay_skip (.inr (by rw [h3]; rfl))]
theorem lay_loop {cs : List Cd} {live : Nat → Nat} {i x : Nat} {a b : Int} {t k : Tr} {xs ys : List Nat} (h : Seg cs i (.loop a b t k)) (hl : xs.length = t.len) :
    lay cs live i (x :: (xs ++ 0 :: ys)) = lay cs (lay cs (updL live i x) (i + 1) xs) (i + 1 + t.len + 1) ys := by
  obtain ⟨h1, _, h3, _⟩ := h.loop
  rw [lay_cons (by rw [h1]; show ¬ (13 : Int) = 12; omega) (by rw [h1]; show ¬ (13 : Int) = 14; omega), lay_app, hl, lay_skip (.inr (by rw [h3]; rfl))]
theorem lay_ife {cs : List Cd} {live : Nat → Nat} {i x : Nat} {a : Int} {t e k : Tr} {xs zs ys : List Nat} (h : Seg cs i (.itee a t e k)) (hl : xs.length = t.len) (hz : zs.length = e.len) :
    lay cs live i (x :: (xs ++ 0 :: (zs ++ 0 :: ys))) = lay cs (lay cs (lay cs (updL live i x) (i + 1) xs) (i + 1 + t.len + 1) zs) (i + 1 + t.len + 1 + e.len + 1) ys := by
  obtain ⟨h1, _, h3, _, h5, _⟩ := h.itee
  rw [lay_cons (by rw [h1]; show ¬ (11 : Int) = 12; omega) (by rw [h1]; show ¬ (11 : Int) = 14; omega), lay_app, hl, lay_skip (.inl (by rw [h3]; rfl)), lay_app, hz, lay_skip (.inr (by rw [h5]; rfl))]

end Go.Proofs.Ytonmndojlnohcaa

namespace Go.Proofs.Ytonmndojlnohcaa

theorem simR_Mx {c : Cd} (h : c.op ≠ 8) (id m : Nat) (f M M' : Nat → Int) : simR c id m f M = simR c id m f M' := by
  unfold simR
  rw [if_neg h, if_neg h]
theorem lanes_Mx {c : Cd} (h : c.op ≠ 9) (m mask : Nat) (s : LS) : ∀ j, (lanesTo c m mask j s).M = s.M
  | 0 => rfl
  | j + 1 => by
    have ih := lanes_Mx h m mask s j
    unfold lanesTo
    split
    · show simM c m _ (lanesTo c m mask j s).M = _
      unfold simM; rw [if_neg h]; exact ih
    · exact ih
theorem lanes_Rx (c : Cd) (m mask : Nat) (s : LS) : ∀ j l, (lanesTo c m mask j s).R l = if l < j ∧ mask.testBit l = true then simR c l m (s.R l) s.M else s.R l
  | 0, l => by rw [if_neg (by omega)]; rfl
  | j + 1, l => by
    have ih := lanes_Rx c m mask s j
    have hM : simR c j m (s.R j) (lanesTo c m mask j s).M = simR c j m (s.R j) s.M := by
      by_cases h : c.op = 9
      · exact simR_Mx (by omega) j m _ _ _
      · rw [lanes_Mx h]
    unfold lanesTo
    split
    · rename_i hb
      show (if l = j then simR c j m ((lanesTo c m mask j s).R j) (lanesTo c m mask j s).M else (lanesTo c m mask j s).R l) = _
      by_cases hl : l = j
      · subst hl
        rw [if_pos rfl, if_pos ⟨by omega, hb⟩, ih l, if_neg (by omega)]
        exact hM
      · rw [if_neg hl, ih l]
        by_cases hq : l < j ∧ mask.testBit l = true
        · rw [if_pos hq, if_pos ⟨by omega, hq.2⟩]
        · rw [if_neg hq, if_neg (fun h => hq ⟨by omega, h.2⟩)]
    · rename_i hb
      rw [ih l]
      by_cases hq : l < j ∧ mask.testBit l = true
      · rw [if_pos hq, if_pos ⟨by omega, hq.2⟩]
      · rw [if_neg hq, if_neg (fun h => by
          by_cases hl : l = j
          · subst hl; exact hb h.2
          · exact hq ⟨by omega, h.2⟩)]
theorem exec_Rx (c : Cd) (n m i mask : Nat) (s : LS) (l : Nat) : (exec c n m i mask s).R l = if l < n ∧ mask.testBit l = true then simR c l m (s.R l) s.M else s.R l := by
  have h := lanes_Rx c m mask (beat i mask s) n l
  unfold exec
  simp only
  split
  · exact h
  · exact h

theorem pw_bit (x : Int) (r : Nat) : (pw x).testBit r = decide (x.toNat = r) := by unfold pw; rw [Nat.testBit_two_pow]
theorem simR_keep {c : Cd} {id m : Nat} {f M : Nat → Int} {r : Nat} (h : (wst c).testBit r = false) : simR c id m f M r = f r := by
  by_cases hop : 1 ≤ c.op ∧ c.op ≤ 8
  · unfold wst at h
    rw [if_pos hop, pw_bit] at h
    have hne : r ≠ c.a.toNat := fun e => by simp [e] at h
    unfold simR
    repeat' split
    all_goals first | exact setF_ne _ _ hne | rfl
  · unfold simR
    rw [if_neg (by omega), if_neg (by omega), if_neg (by omega), if_neg (by omega), if_neg (by omega), if_neg (by omega), if_neg (by omega), if_neg (by omega)]
theorem turns_keepR {F : Nat → LS → LS} {n a l r : Nat} (hF : ∀ y s, (F y s).R l r = s.R l r) : ∀ (b y : Nat) (s : LS), (turns F n a b y s).R l r = s.R l r
  | 0, _, _ => rfl
  | b + 1, y, s => (turns_keepR hF b (onesTo s.R y a n) (F (onesTo s.R y a n) s)).trans (hF _ _)
theorem run_keepR (n m : Nat) : ∀ (t : Tr) (i mask : Nat) (s : LS) (l r : Nat), (writ t).testBit r = false → (run n m t i mask s).R l r = s.R l r
  | .nil, _, _, _, _, _, _ => rfl
  | .op c k, i, mask, s, l, r, h => by
    have h' : (wst c ||| writ k).testBit r = false := h
    rw [Nat.testBit_or, Bool.or_eq_false_iff] at h'
    show LS.R (if _ then _ else _) l r = _
    split
    · rfl
    · rw [run_keepR n m k _ _ _ l r h'.2, exec_Rx]
      split
      · exact simR_keep h'.1
      · rfl
  | .ite a t k, i, mask, s, l, r, h => by
    have h' : (writ t ||| writ k).testBit r = false := h
    rw [Nat.testBit_or, Bool.or_eq_false_iff] at h'
    show LS.R (if _ then _ else _) l r = _
    split
    · rfl
    · rw [run_keepR n m k _ _ _ l r h'.2, run_keepR n m t _ _ _ l r h'.1]; rfl
  | .itee a t e k, i, mask, s, l, r, h => by
    have h' : ((writ t ||| writ e) ||| writ k).testBit r = false := h
    rw [Nat.testBit_or, Nat.testBit_or, Bool.or_eq_false_iff, Bool.or_eq_false_iff] at h'
    show LS.R (if _ then _ else _) l r = _
    split
    · rfl
    · rw [run_keepR n m k _ _ _ l r h'.2, run_keepR n m e _ _ _ l r h'.1.2, run_keepR n m t _ _ _ l r h'.1.1]; rfl
  | .loop a b t k, i, mask, s, l, r, h => by
    have h' : (writ t ||| writ k).testBit r = false := h
    rw [Nat.testBit_or, Bool.or_eq_false_iff] at h'
    show LS.R (if _ then _ else _) l r = _
    split
    · rfl
    · rw [run_keepR n m k _ _ _ l r h'.2, turns_keepR (fun y s => run_keepR n m t _ _ _ l r h'.1)]; rfl


/-- The registers that have the number of the lane at a place. -/
def lanS (cs : List Cd) : Nat → Nat
  | 0 => 0
  | k + 1 => if (cs.getD k default).op = 2 ∧ aroundAt cs k < 0 then lanS cs k ||| pw (cs.getD k default).a else del (lanS cs k) (wst (cs.getD k default))
def prAt (cs : List Cd) (j : Nat) : Prop := (cs.getD j default).op ≠ 8 ∧ ((cs.getD j default).op = 9 → aroundAt cs j < 0 ∧ (lanS cs j).testBit (cs.getD j default).b.toNat = true)
def prOk (cs : List Cd) (k : Nat) : Prop := ∀ j, j < k → prAt cs j
def SPriv (cs : List Cd) : Prop := PValid cs ∧ prOk cs cs.length
def hasL (cs : List Cd) (r : Int) : Nat → Bool
  | 0 => false
  | k + 1 => if wrg (cs.getD k default) = r then decide ((cs.getD k default).op = 2) && decide (aroundAt cs k < 0) else hasL cs r k

theorem del_bit' (a b r : Nat) : (del a b).testBit r = (a.testBit r && !b.testBit r) := del_bit a b r
theorem cdOk_get {cs : List Cd} (h : ∀ c ∈ cs, CdOk c) {k : Nat} (hk : k < cs.length) : CdOk (cs.getD k default) := h _ (cdOk_mem hk)
theorem lan_has {cs : List Cd} (h : ∀ c ∈ cs, CdOk c) {r : Int} (h0 : 0 ≤ r) (h3 : r ≤ 3) : ∀ k, k ≤ cs.length → (lanS cs k).testBit r.toNat = hasL cs r k
  | 0, _ => by simp [lanS, hasL]
  | k + 1, hk => by
    have ih := lan_has h h0 h3 k (by omega)
    have hc := cdOk_get h (show k < cs.length by omega)
    have ha : 0 ≤ (cs.getD k default).a ∧ (cs.getD k default).a ≤ 3 := (CdOk.regs (o := _) (a := _) (b := _) (c := _) hc).1
    unfold lanS hasL
    by_cases h2 : (cs.getD k default).op = 2 ∧ aroundAt cs k < 0
    · rw [if_pos h2, Nat.testBit_or, pw_bit, ih]
      have hw : wrg (cs.getD k default) = (cs.getD k default).a := by unfold wrg; rw [if_pos (by omega)]
      rw [hw]
      by_cases e : (cs.getD k default).a = r
      · rw [if_pos e, e, decide_eq_true (p := r.toNat = r.toNat) rfl, Bool.or_true, decide_eq_true h2.1, decide_eq_true h2.2]; rfl
      · rw [if_neg e, decide_eq_false (by omega), Bool.or_false]
    · rw [if_neg h2, del_bit', ih]
      by_cases hw : 1 ≤ (cs.getD k default).op ∧ (cs.getD k default).op ≤ 8
      · have e1 : wrg (cs.getD k default) = (cs.getD k default).a := by unfold wrg; rw [if_pos hw]
        have e2 : wst (cs.getD k default) = pw (cs.getD k default).a := by unfold wst; rw [if_pos hw]
        rw [e1, e2, pw_bit]
        by_cases e : (cs.getD k default).a = r
        · rw [if_pos e, e, decide_eq_true rfl, Bool.not_true, Bool.and_false]
          by_cases e3 : (cs.getD k default).op = 2
          · have e4 : ¬ aroundAt cs k < 0 := fun q => h2 ⟨e3, q⟩
            rw [decide_eq_true e3, decide_eq_false e4]; rfl
          · rw [decide_eq_false e3]; rfl
        · rw [if_neg e, decide_eq_false (by omega), Bool.not_false, Bool.and_true]
      · have e1 : wrg (cs.getD k default) = -1 := by unfold wrg; rw [if_neg hw]
        have e2 : wst (cs.getD k default) = 0 := by unfold wst; rw [if_neg hw]
        rw [e1, e2, if_neg (by omega)]; simp

/-- Within a block every place lies in a block. -/
theorem in_block {cs : List Cd} : ∀ (t : Tr) (j : Nat), t.Ok → Seg cs j t → 0 ≤ aroundAt cs j → ∀ p, j ≤ p → p ≤ j + t.len → 0 ≤ aroundAt cs p
  | .nil, j, _, _, h, p, h1, h2 => by
    have e0 : Tr.nil.len = 0 := rfl
    have : p = j := by omega
    rw [this]; exact h
  | .op c k, j, ho, hs, h, p, h1, h2 => by
    by_cases e : p = j
    · rw [e]; exact h
    · have hc := hs.op.1
      have hpl := ho.1
      have := around_op (cs := cs) (i := j) (by rw [hc]; rintro (q | q); exact hpl.2.1 q; exact hpl.2.2.2.1 q) (by rw [hc]; exact hpl.2.2.2.2)
      have hl := Tr.len_op c k
      exact in_block k (j + 1) ho.2 hs.op.2.2 (by rw [this]; exact h) p (by omega) (by omega)
  | .ite a t k, j, ho, hs, h, p, h1, h2 => by
    by_cases e : p = j
    · rw [e]; exact h
    · have hc := hs.ite.1
      have hop : Opens (cs.getD j default) := by rw [hc]; exact .inl rfl
      have h3 := around_open hop
      have hl : (Tr.ite a t k).len = t.len + k.len + 2 := by unfold Tr.len; simp [Tr.flat]; omega
      by_cases hp : p ≤ j + 1 + t.len
      · exact in_block t (j + 1) ho.2.1 hs.ite.2.1 (by rw [h3]; omega) p (by omega) hp
      · have := around_behind ho.2.1 hs.ite.2.1 hop hs.ite.2.2.1
        exact in_block k (j + 1 + t.len + 1) ho.2.2 hs.ite.2.2.2.2 (by rw [this]; exact h) p (by omega) (by omega)
  | .itee a t e2 k, j, ho, hs, h, p, h1, h2 => by
    by_cases e : p = j
    · rw [e]; exact h
    · have hc := hs.itee.1
      have hop : Opens (cs.getD j default) := by rw [hc]; exact .inl rfl
      have h3 := around_open hop
      have hl : (Tr.itee a t e2 k).len = t.len + e2.len + k.len + 3 := by unfold Tr.len; simp [Tr.flat]; omega
      obtain ⟨b1, b2⟩ := around_behind2 ho.2.1 hs.itee.2.1 hop hs.itee.2.2.1 ho.2.2.1 hs.itee.2.2.2.1 hs.itee.2.2.2.2.1
      by_cases hp : p ≤ j + 1 + t.len
      · exact in_block t (j + 1) ho.2.1 hs.itee.2.1 (by rw [h3]; omega) p (by omega) hp
      · by_cases hq : p ≤ j + 1 + t.len + 1 + e2.len
        · exact in_block e2 (j + 1 + t.len + 1) ho.2.2.1 hs.itee.2.2.2.1 (by rw [b2]; omega) p (by omega) hq
        · exact in_block k (j + 1 + t.len + 1 + e2.len + 1) ho.2.2.2 hs.itee.2.2.2.2.2.2 (by rw [b1]; exact h) p (by omega) (by omega)
  | .loop a b t k, j, ho, hs, h, p, h1, h2 => by
    by_cases e : p = j
    · rw [e]; exact h
    · have hc := hs.loop.1
      have hop : Opens (cs.getD j default) := by rw [hc]; exact .inr rfl
      have h3 := around_open hop
      have hl : (Tr.loop a b t k).len = t.len + k.len + 2 := by unfold Tr.len; simp [Tr.flat]; omega
      by_cases hp : p ≤ j + 1 + t.len
      · exact in_block t (j + 1) ho.2.2.1 hs.loop.2.1 (by rw [h3]; omega) p (by omega) hp
      · have := around_behind ho.2.2.1 hs.loop.2.1 hop hs.loop.2.2.1
        exact in_block k (j + 1 + t.len + 1) ho.2.2.2 hs.loop.2.2.2.2 (by rw [this]; exact h) p (by omega) (by omega)

theorem turns_noA {F : Nat → LS → LS} {n a : Nat} (hF : ∀ y s, (F y s).A = s.A) : ∀ (b y : Nat) (s : LS), (turns F n a b y s).A = s.A
  | 0, _, _ => rfl
  | b + 1, y, s => (turns_noA hF b (onesTo s.R y a n) (F (onesTo s.R y a n) s)).trans (hF _ _)
/-- Without loads and stores there are no accesses. -/
theorem run_noA {cs : List Cd} (n m : Nat) : ∀ (t : Tr) (j mask : Nat) (s : LS), Seg cs j t → (∀ p, j ≤ p → p < j + t.len → (cs.getD p default).op ≠ 8 ∧ (cs.getD p default).op ≠ 9) → (run n m t j mask s).A = s.A
  | .nil, _, _, _, _, _ => rfl
  | .op c k, j, mask, s, hs, h => by
    have hl := Tr.len_op c k
    show LS.A (if _ then _ else _) = _
    split
    · rfl
    · rw [run_noA n m k (j + 1) mask _ hs.op.2.2 (fun p h1 h2 => h p (by omega) (by omega)), exec_A]
      have hc := h j (Nat.le_refl _) (by omega)
      rw [hs.op.1] at hc
      rw [if_neg (by rintro (q | q); exact hc.1 q; exact hc.2 q)]
  | .ite a t k, j, mask, s, hs, h => by
    have hl := Tr.len_ite a t k
    show LS.A (if _ then _ else _) = _
    split
    · rfl
    · rw [run_noA n m k (j + 1 + t.len + 1) mask _ hs.ite.2.2.2.2 (fun p h1 h2 => h p (by omega) (by omega)), run_noA n m t (j + 1) _ _ hs.ite.2.1 (fun p h1 h2 => h p (by omega) (by omega))]
      rfl
  | .itee a t e k, j, mask, s, hs, h => by
    have hl := Tr.len_itee a t e k
    show LS.A (if _ then _ else _) = _
    split
    · rfl
    · rw [run_noA n m k (j + 1 + t.len + 1 + e.len + 1) mask _ hs.itee.2.2.2.2.2.2 (fun p h1 h2 => h p (by omega) (by omega)), run_noA n m e (j + 1 + t.len + 1) _ _ hs.itee.2.2.2.1 (fun p h1 h2 => h p (by omega) (by omega)), run_noA n m t (j + 1) _ _ hs.itee.2.1 (fun p h1 h2 => h p (by omega) (by omega))]
      rfl
  | .loop a b t k, j, mask, s, hs, h => by
    have hl := Tr.len_loop a b t k
    show LS.A (if _ then _ else _) = _
    split
    · rfl
    · rw [run_noA n m k (j + 1 + t.len + 1) mask _ hs.loop.2.2.2.2 (fun p h1 h2 => h p (by omega) (by omega)), turns_noA (fun y s => run_noA n m t (j + 1) y s hs.loop.2.1 (fun p h1 h2 => h p (by omega) (by omega)))]
      rfl
/-- What a block writes has no number of a lane behind it. -/
theorem lan_in {cs : List Cd} {i r : Nat} : ∀ d, (∀ p, i ≤ p → p < i + d → 0 ≤ aroundAt cs p) → (lanS cs (i + d)).testBit r = true → (lanS cs i).testBit r = true ∧ (wrTo cs i d).testBit r = false
  | 0, _, h => ⟨h, by simp [wrTo]⟩
  | d + 1, ha, h => by
    have e : lanS cs (i + (d + 1)) = del (lanS cs (i + d)) (wst (cs.getD (i + d) default)) := if_neg (fun q => by have := ha (i + d) (by omega) (by omega); have q2 : aroundAt cs (i + d) < 0 := q.2; omega)
    rw [e, del_bit', Bool.and_eq_true, Bool.not_eq_true'] at h
    obtain ⟨h1, h2⟩ := lan_in d (fun p h1 h2 => ha p h1 (by omega)) h.1
    refine ⟨h1, ?_⟩
    show (wrTo cs i d ||| wst (cs.getD (i + d) default)).testBit r = false
    rw [Nat.testBit_or, h2, h.2]; rfl
theorem lan_open {cs : List Cd} {i r : Nat} (ho : Opens (cs.getD i default)) (h : (lanS cs (i + 1)).testBit r = true) : (lanS cs i).testBit r = true := by
  have e : lanS cs (i + 1) = del (lanS cs i) (wst (cs.getD i default)) := if_neg (fun q => by rcases ho with h | h <;> omega)
  rw [e, wst_zero (by rcases ho with h | h; exact .inl h; exact .inr (.inr (.inl h))), del_bit'] at h
  simpa using h

def LanI (cs : List Cd) (n i : Nat) (s : LS) : Prop := ∀ r, (lanS cs i).testBit r = true → ∀ l, l < n → s.R l r = (l : Nat)
def AW (s : LS) : Prop := ∀ x ∈ s.A, x.cell = x.who
theorem pr_block {cs : List Cd} (hP : prOk cs cs.length) {p : Nat} (hp : p < cs.length) (ha : 0 ≤ aroundAt cs p) : (cs.getD p default).op ≠ 8 ∧ (cs.getD p default).op ≠ 9 := by
  refine ⟨(hP p hp).1, fun h => ?_⟩
  have := ((hP p hp).2 h).1
  omega
theorem full_neP {n : Nat} (h : 1 ≤ n) : 2 ^ n - 1 ≠ 0 := by
  have : 2 ^ 1 ≤ 2 ^ n := Nat.pow_le_pow_right (by decide) h
  omega
theorem full_bitP {n l : Nat} (h : l < n) : (2 ^ n - 1).testBit l = true := by rw [Nat.testBit_two_pow_sub_one]; simpa using h
/-- Behind a block: nothing was accessed, and what still has the number of the lane was not written. -/
theorem priv_block {cs : List Cd} {n i d : Nat} {s s' : LS} (ho : Opens (cs.getD i default)) (ha : ∀ p, i + 1 ≤ p → p < i + 1 + d → 0 ≤ aroundAt cs p) (hR : ∀ l r, (wrTo cs (i + 1) d).testBit r = false → s'.R l r = s.R l r) (h : LanI cs n i s) : LanI cs n (i + 1 + d) s' := by
  intro r hr l hl
  obtain ⟨h1, h2⟩ := lan_in d ha hr
  rw [hR l r h2]
  exact h r (lan_open ho h1) l hl

theorem priv_run {cs : List Cd} {n m : Nat} (hn : n ≤ m) (h1 : 1 ≤ n) (hP : prOk cs cs.length) : ∀ (t : Tr) (i : Nat) (s : LS), t.Ok → Seg cs i t → i + t.len ≤ cs.length → aroundAt cs i = -1 → LanI cs n i s → AW s → AW (run n m t i (2 ^ n - 1) s)
  | .nil, _, _, _, _, _, _, _, h => h
  | .op c k, i, s, ho, hs, hi, ha, hL, hA => by
    have hl := Tr.len_op c k
    have hc := hs.op.1
    have hpl := ho.1
    have hna : aroundAt cs (i + 1) = -1 := by
      rw [around_op (cs := cs) (i := i) (by rw [hc]; rintro (q | q); exact hpl.2.1 q; exact hpl.2.2.2.1 q) (by rw [hc]; exact hpl.2.2.2.2)]
      exact ha
    have hpr := hP i (by omega)
    unfold prAt at hpr
    have e : run n m (.op c k) i (2 ^ n - 1) s = run n m k (i + 1) (2 ^ n - 1) (exec c n m i (2 ^ n - 1) s) := if_neg (full_neP h1)
    rw [e]
    refine priv_run hn h1 hP k (i + 1) _ ho.2 hs.op.2.2 (by omega) hna ?_ ?_
    · intro r hr l hl2
      rw [exec_Rx, if_pos ⟨hl2, full_bitP hl2⟩]
      unfold lanS at hr
      rw [hc] at hr
      by_cases h2 : c.op = 2 ∧ aroundAt cs i < 0
      · rw [if_pos h2, Nat.testBit_or, pw_bit, Bool.or_eq_true] at hr
        by_cases hra : r = c.a.toNat
        · subst hra
          unfold simR
          rw [if_neg (by omega), if_pos h2.1]
          exact setF_same _ _ _
        · rcases hr with hr | hr
          · rw [simR_keep (by unfold wst; rw [if_pos (by omega), pw_bit]; exact decide_eq_false (fun q => hra q.symm))]
            exact hL r hr l hl2
          · exact absurd (of_decide_eq_true hr).symm hra
      · rw [if_neg h2, del_bit', Bool.and_eq_true, Bool.not_eq_true'] at hr
        rw [simR_keep hr.2]
        exact hL r hr.1 l hl2
    · intro x hx
      rw [exec_A] at hx
      split at hx
      · rename_i hop
        rcases List.mem_append.1 hx with hx | hx
        · exact hA x hx
        · obtain ⟨l, hl2, rfl⟩ := accTo_full.1 hx
          have h9 : c.op = 9 := by
            rcases hop with q | q
            · rw [hc] at hpr; exact absurd q hpr.1
            · exact q
          rw [hc] at hpr
          have := hL c.b.toNat (hpr.2 h9).2 l hl2
          show (s.R l c.b.toNat).toNat % m = l
          rw [this, Int.toNat_natCast]
          exact Nat.mod_eq_of_lt (by omega)
      · exact hA x hx
  | .ite a t k, i, s, ho, hs, hi, ha, hL, hA => by
    have hl := Tr.len_ite a t k
    have hop : Opens (cs.getD i default) := by rw [hs.ite.1]; exact .inl rfl
    have hin := in_block t (i + 1) ho.2.1 hs.ite.2.1 (by rw [around_open hop]; omega)
    have hna := around_behind ho.2.1 hs.ite.2.1 hop hs.ite.2.2.1
    have hA2 := run_noA n m t (i + 1) (onesTo s.R (2 ^ n - 1) a.toNat n) (beat i (2 ^ n - 1) s) hs.ite.2.1 (fun p h1 h2 => pr_block hP (by omega) (hin p h1 (by omega)))
    have hend : wst (cs.getD (i + 1 + t.len) default) = 0 := by rw [hs.ite.2.2.1]; rfl
    have e : run n m (.ite a t k) i (2 ^ n - 1) s = run n m k (i + 1 + t.len + 1) (2 ^ n - 1) (run n m t (i + 1) (onesTo s.R (2 ^ n - 1) a.toNat n) (beat i (2 ^ n - 1) s)) := if_neg (full_neP h1)
    rw [e]
    refine priv_run hn h1 hP k (i + 1 + t.len + 1) _ ho.2.2 hs.ite.2.2.2.2 (by omega) (hna.trans ha) ?_ (fun x hx => hA x (by rw [hA2] at hx; exact hx))
    refine priv_block (d := t.len + 1) hop (fun p h1 h2 => hin p h1 (by omega)) (fun l r hr => ?_) hL
    have hr2 : (wrTo cs (i + 1) t.len ||| wst (cs.getD (i + 1 + t.len) default)).testBit r = false := hr
    rw [hend, Nat.or_zero, wrTo_tree t (i + 1) hs.ite.2.1] at hr2
    exact run_keepR n m t _ _ _ l r hr2
  | .itee a t e2 k, i, s, ho, hs, hi, ha, hL, hA => by
    have hl := Tr.len_itee a t e2 k
    have hop : Opens (cs.getD i default) := by rw [hs.itee.1]; exact .inl rfl
    have hin := in_block t (i + 1) ho.2.1 hs.itee.2.1 (by rw [around_open hop]; omega)
    obtain ⟨hna, hne⟩ := around_behind2 ho.2.1 hs.itee.2.1 hop hs.itee.2.2.1 ho.2.2.1 hs.itee.2.2.2.1 hs.itee.2.2.2.2.1
    have hin2 := in_block e2 (i + 1 + t.len + 1) ho.2.2.1 hs.itee.2.2.2.1 (by rw [hne]; omega)
    have hA2 := run_noA n m t (i + 1) (onesTo s.R (2 ^ n - 1) a.toNat n) (beat i (2 ^ n - 1) s) hs.itee.2.1 (fun p h1 h2 => pr_block hP (by omega) (hin p h1 (by omega)))
    have hA3 := run_noA n m e2 (i + 1 + t.len + 1) (del (2 ^ n - 1) (onesTo s.R (2 ^ n - 1) a.toNat n)) (run n m t (i + 1) (onesTo s.R (2 ^ n - 1) a.toNat n) (beat i (2 ^ n - 1) s)) hs.itee.2.2.2.1 (fun p h1 h2 => pr_block hP (by omega) (hin2 p h1 (by omega)))
    have hels : wst (cs.getD (i + 1 + t.len) default) = 0 := by rw [hs.itee.2.2.1]; rfl
    have hend : wst (cs.getD (i + 1 + t.len + 1 + e2.len) default) = 0 := by rw [hs.itee.2.2.2.2.1]; rfl
    have e : run n m (.itee a t e2 k) i (2 ^ n - 1) s = run n m k (i + 1 + t.len + 1 + e2.len + 1) (2 ^ n - 1) (run n m e2 (i + 1 + t.len + 1) (del (2 ^ n - 1) (onesTo s.R (2 ^ n - 1) a.toNat n)) (run n m t (i + 1) (onesTo s.R (2 ^ n - 1) a.toNat n) (beat i (2 ^ n - 1) s))) := if_neg (full_neP h1)
    rw [e]
    refine priv_run hn h1 hP k (i + 1 + t.len + 1 + e2.len + 1) _ ho.2.2.2 hs.itee.2.2.2.2.2.2 (by omega) (hna.trans ha) ?_ (fun x hx => hA x (by rw [hA3, hA2] at hx; exact hx))
    have hb : LanI cs n (i + 1 + (t.len + 1 + (e2.len + 1))) (run n m e2 (i + 1 + t.len + 1) (del (2 ^ n - 1) (onesTo s.R (2 ^ n - 1) a.toNat n)) (run n m t (i + 1) (onesTo s.R (2 ^ n - 1) a.toNat n) (beat i (2 ^ n - 1) s))) := by
      refine priv_block hop (fun p h1 h2 => ?_) (fun l r hr => ?_) hL
      · by_cases q : p ≤ i + 1 + t.len
        · exact hin p h1 q
        · exact hin2 p (by omega) (by omega)
      · rw [wrTo_add, Nat.testBit_or, Bool.or_eq_false_iff] at hr
        have r1 : (wrTo cs (i + 1) t.len ||| wst (cs.getD (i + 1 + t.len) default)).testBit r = false := hr.1
        have r2 : (wrTo cs (i + 1 + (t.len + 1)) e2.len ||| wst (cs.getD (i + 1 + (t.len + 1) + e2.len) default)).testBit r = false := hr.2
        rw [hels, Nat.or_zero, wrTo_tree t (i + 1) hs.itee.2.1] at r1
        rw [← Nat.add_assoc, hend, Nat.or_zero, wrTo_tree e2 (i + 1 + t.len + 1) hs.itee.2.2.2.1] at r2
        rw [run_keepR n m e2 _ _ _ l r r2, run_keepR n m t _ _ _ l r r1]; rfl
    have hx : i + 1 + t.len + 1 + e2.len + 1 = i + 1 + (t.len + 1 + (e2.len + 1)) := by omega
    rw [hx]; exact hb
  | .loop a b t k, i, s, ho, hs, hi, ha, hL, hA => by
    have hl := Tr.len_loop a b t k
    have hop : Opens (cs.getD i default) := by rw [hs.loop.1]; exact .inr rfl
    have hin := in_block t (i + 1) ho.2.2.1 hs.loop.2.1 (by rw [around_open hop]; omega)
    have hna := around_behind ho.2.2.1 hs.loop.2.1 hop hs.loop.2.2.1
    have hA2 := turns_noA (F := run n m t (i + 1)) (n := n) (a := a.toNat) (fun y s => run_noA n m t (i + 1) y s hs.loop.2.1 (fun p h1 h2 => pr_block hP (by omega) (hin p h1 (by omega)))) b.toNat (2 ^ n - 1) (beat i (2 ^ n - 1) s)
    have hend : wst (cs.getD (i + 1 + t.len) default) = 0 := by rw [hs.loop.2.2.1]; rfl
    have e : run n m (.loop a b t k) i (2 ^ n - 1) s = run n m k (i + 1 + t.len + 1) (2 ^ n - 1) (turns (run n m t (i + 1)) n a.toNat b.toNat (2 ^ n - 1) (beat i (2 ^ n - 1) s)) := if_neg (full_neP h1)
    rw [e]
    refine priv_run hn h1 hP k (i + 1 + t.len + 1) _ ho.2.2.2 hs.loop.2.2.2.2 (by omega) (hna.trans ha) ?_ (fun x hx => hA x (by rw [hA2] at hx; exact hx))
    refine priv_block (d := t.len + 1) hop (fun p h1 h2 => hin p h1 (by omega)) (fun l r hr => ?_) hL
    have hr2 : (wrTo cs (i + 1) t.len ||| wst (cs.getD (i + 1 + t.len) default)).testBit r = false := hr
    rw [hend, Nat.or_zero, wrTo_tree t (i + 1) hs.loop.2.1] at hr2
    exact turns_keepR (fun y s => run_keepR n m t _ _ _ l r hr2) _ _ _

/-- Private stores are free of races. -/
theorem priv_free {cs : List Cd} {n : Nat} {mem : List Int} (h : SPriv cs) (hok : RunOk cs n mem) (hn : n ≤ mem.length) : freeA cs n mem = true := by
  rw [freeA_iff hok]
  rintro ⟨q, p, h1, h2, hc⟩
  obtain ⟨_, c2, c3, _⟩ := clash_iff.1 hc
  have hl1 := hok.2.1.1
  obtain ⟨k1, k2, k3⟩ := treeOf_spec h.1
  have hlen : (treeOf cs).len = cs.length := (congrArg List.length k1).symm
  have hw : AW (lockA cs n mem) := by
    rw [lockA_ok hok]
    exact priv_run hn (by omega) h.2 (treeOf cs) 0 _ k2 (Seg.whole k1) (by omega) (around_0 cs) (fun r hr => by simp [lanS] at hr) (fun x hx => by cases hx)
  have e1 := hw _ (acMem (show p < (lockA cs n mem).A.length by omega))
  have e2 := hw _ (acMem h2)
  rw [e1, e2] at c3
  exact c2 c3
theorem pr_count {cs : List Cd} (h : prOk cs cs.length) : countTo cs 8 cs.length = 0 := by
  have : ∀ k, k ≤ cs.length → countTo cs 8 k = 0 := by
    intro k
    induction k with
    | zero => intro _; rfl
    | succ k ih =>
      intro hk
      unfold countTo
      rw [if_neg (h k (by omega)).1]
      exact ih (by omega)
  exact this _ (Nat.le_refl _)
theorem pr_none {cs : List Cd} (h8 : countTo cs 8 cs.length = 0) (h9 : countTo cs 9 cs.length = 0) : prOk cs cs.length := fun j hj =>
  ⟨countTo_none cs.length (Nat.le_refl _) h8 j hj, fun h => absurd h (countTo_none cs.length (Nat.le_refl _) h9 j hj)⟩

end Go.Proofs.Ytonmndojlnohcaa

namespace Go.Proofs.Ytonmndojlnohcaa
open Go.RowKit

set_option maxHeartbeats 1000000 in
theorem swrites_any (x : Cd) (w : World) (h : CdOk x) :
    Calls Try.prog 60 #[cdv x] w fun e w' => e = .returned (.int .i64 (wrg x)) ∧ Pure w w' := by
  obtain ⟨o, a, b, c⟩ := x
  have H := Lib.hid h
  clear h
  unfold cdv
  simp only
  by_cases h8 : 1 ≤ o ∧ o ≤ 8
  · have e8 : wrg ⟨o, a, b, c⟩ = a := if_pos h8
    rw [e8]
    clear e8
    have H8 := Lib.hid h8
    clear h8
    go_enter Try.func60, Try.ntmps60
    go_wp2_with fail
    refine (scv_any ⟨o, a, b, c⟩ _ true (by simp [H.out])).mono ?_
    rintro e w1 ⟨rfl, hp1⟩
    obtain ⟨q0, q1, q2, q3, hp⟩ := boxed hp1
    go_wp2_with fail
    refine (l1In_t _ _ _ _ H8.out).mono ?_
    rintro e w2 ⟨rfl, rfl⟩
    go_wp2
    go_ret
    exact ⟨rfl, hp⟩
  · have e8 : wrg ⟨o, a, b, c⟩ = -1 := if_neg h8
    rw [e8]
    clear e8
    have H8 := Lib.hid h8
    clear h8
    go_enter Try.func60, Try.ntmps60
    go_wp2_with fail
    refine (scv_any ⟨o, a, b, c⟩ _ true (by simp [H.out])).mono ?_
    rintro e w1 ⟨rfl, hp1⟩
    obtain ⟨q0, q1, q2, q3, hp⟩ := boxed hp1
    go_wp2_with fail
    refine (l1In_f _ _ _ _ H8.out).mono ?_
    rintro e w2 ⟨rfl, rfl⟩
    go_wp2
    go_ret
    exact ⟨rfl, hp⟩

set_option maxHeartbeats 1000000 in
theorem iwrites_any (x : Cd) (w : World) (h : CdOk x) :
    Calls Try.prog 84 #[cdv x] w fun e w' => e = .returned (.int .i64 (wrg x)) ∧ Pure w w' := by
  obtain ⟨o, a, b, c⟩ := x
  have H := Lib.hid h
  obtain ⟨_, _, _, _, _, ho1, ho2⟩ := h.regs
  have ho : o = 1 ∨ o = 2 ∨ o = 3 ∨ o = 4 ∨ o = 5 ∨ o = 6 ∨ o = 7 ∨ o = 8 ∨ o = 9 ∨ o = 10 ∨ o = 11 ∨ o = 12 ∨ o = 13 ∨ o = 14 := by omega
  clear h ho1 ho2
  unfold cdv
  simp only
  rcases ho with rfl | rfl | rfl | rfl | rfl | rfl | rfl | rfl | rfl | rfl | rfl | rfl | rfl | rfl
  all_goals
    go_enter Try.func84, Try.ntmps84
    go_wp2_with fail
    refine (icv_any ⟨_, a, b, c⟩ _ true (by simp [H.out])).mono ?_
    rintro e w1 ⟨rfl, hp1⟩
    obtain ⟨q0, q1, q2, q3, hp⟩ := boxed hp1
    go_wp2
    go_ret
    exact ⟨rfl, hp⟩

end Go.Proofs.Ytonmndojlnohcaa

namespace Go.Proofs.Ytonmndojlnohcaa
open Go.RowKit

theorem lanS_lt {cs : List Cd} (h : ∀ c ∈ cs, CdOk c) : ∀ k, k ≤ cs.length → lanS cs k < 16
  | 0, _ => by show (0 : Nat) < 16; decide
  | k + 1, hk => by
    have ih := lanS_lt h k (by omega)
    have hc := cdOk_get h (show k < cs.length by omega)
    have ha : 0 ≤ (cs.getD k default).a ∧ (cs.getD k default).a ≤ 3 := (CdOk.regs (o := _) (a := _) (b := _) (c := _) hc).1
    unfold lanS
    split
    · have h2 := pw_lt (x := (cs.getD k default).a) ha.2
      exact Nat.or_lt_two_pow (n := 4) ih h2
    · exact del_lt' ih
theorem lan_lane {cs : List Cd} {k : Nat} {c : Cd} (hc : cs.getD k default = c) (h2 : c.op = 2) (ha : aroundAt cs k < 0) : lanS cs (k + 1) = lanS cs k ||| pw c.a := by
  subst hc; exact if_pos ⟨h2, ha⟩
theorem lan_else {cs : List Cd} {k : Nat} {c : Cd} (hc : cs.getD k default = c) (h : ¬ (c.op = 2 ∧ aroundAt cs k < 0)) : lanS cs (k + 1) = del (lanS cs k) (wst c) := by
  subst hc; exact if_neg h
theorem pr_next {cs : List Cd} {k : Nat} {c : Cd} (hc : cs.getD k default = c) (h : prOk cs k) (h8 : c.op ≠ 8) (h9 : c.op = 9 → aroundAt cs k < 0 ∧ (lanS cs k).testBit c.b.toNat = true) : prOk cs (k + 1) := fun j hj => by
  by_cases e : j = k
  · subst e; subst hc; exact ⟨h8, h9⟩
  · exact h j (by omega)
theorem lt16P {a : Nat} (h : a < 16) : a < 4611686018427387904 := Nat.lt_trans h (by decide)
theorem gt8P {op : Int} (h : ¬ op ≤ 7) (h8 : ¬ op = 8) : 8 < op := by omega
theorem le8P {op : Int} (h : op ≤ 7) : op ≤ 8 := by omega
theorem wrg_yes {c : Cd} (h1 : 1 ≤ c.op) (h8 : c.op ≤ 8) : wrg c = c.a := by unfold wrg; exact if_pos ⟨h1, h8⟩
theorem wst_yes {c : Cd} (h1 : 1 ≤ c.op) (h8 : c.op ≤ 8) : wst c = pw c.a := by unfold wst; exact if_pos ⟨h1, h8⟩
theorem wrg_no {c : Cd} (h8 : 8 < c.op) : wrg c = -1 := by unfold wrg; exact if_neg (fun h => by omega)
theorem wst_no {c : Cd} (h8 : 8 < c.op) : wst c = 0 := by unfold wst; exact if_neg (fun h => by omega)
theorem del_0P (a : Nat) : del a 0 = a := by
  apply Nat.eq_of_testBit_eq
  intro i
  rw [del_bit]; simp

set_option maxHeartbeats 4000000 in
set_option maxRecDepth 100000 in
theorem sprv_any (v : Value) (cs : List Cd) (w : World) (h : Codes w v cs) (hsmall : cs.length ≤ 1048576) (B : Bool) (hB : B = true ↔ SPriv cs) :
    Calls Try.prog 31 #[v] w fun e w' => e = .returned (.bool B) ∧ Pure w w' := by
  have H := Lib.hid h
  have HB := Lib.hid hB
  obtain ⟨A, c, rfl, hnc, hcm⟩ := h.form
  clear h hB
  by_cases hv : PValid cs
  case neg =>
    have hBf : B = false := by
      cases B
      · rfl
      · exact absurd (HB.out.1 rfl).1 hv
    subst hBf
    have HV := Lib.hid hv
    clear hv
    go_enter Try.func31, Try.ntmps31
    go_wp2_with fail
    refine (spv_any _ cs _ H.out hsmall false (by simp only [Bool.false_eq_true, false_iff]; exact HV.out)).mono ?_
    rintro e w1 ⟨rfl, hp1⟩
    go_wp2
    go_ret
    exact ⟨rfl, hp1⟩
  case pos =>
    have HV := Lib.hid hv
    have h40 := hv.2.1
    have HBAD : Hid (∀ k, k < cs.length → ¬ prAt cs k → B = false) := Lib.hid fun k hk hn => by
      cases hb : B
      · rfl
      · exact absurd ((HB.out.1 hb).2 k hk) hn
    clear hv
    go_enter Try.func31, Try.ntmps31
    go_wp2_with fail
    refine (spv_any _ cs _ H.out hsmall true (by simp only [true_iff]; exact HV.out)).mono ?_
    rintro e w1 ⟨rfl, hp1⟩
    go_wp2_with fail
    go_loopg [4, 3] cs.length (fun gk i lane wr => ∃ k : Nat, gk + k = cs.length ∧ i = .int .i64 k ∧ lane = .int .i64 (lanS cs k : Nat) ∧ prOk cs k ∧ Pure w wr)
    case atStart => exact ⟨0, rfl, rfl, rfl, fun j hj => absurd hj (Nat.not_lt_zero _), hp1⟩
    case round =>
      obtain ⟨k, hgk, rfl, rfl, hpr, hp⟩ := hrel
      have Hgk := Lib.hid hgk
      have HPR := Lib.hid hpr
      have HP := Lib.hid hp
      have hkn : k ≤ cs.length := by omega
      clear hgk hpr hp1
      by_cases hlt : k < cs.length
      · obtain ⟨b, ob, rfl, hb, hc⟩ := H.out.at_ hlt
        obtain ⟨cd, Hcd⟩ : ∃ cd, Hid (cs.getD k default = cd) := ⟨_, Lib.hid rfl⟩
        have hat := hc.keep hp hb
        rw [Hcd.out] at hat
        have hcok : CdOk cd := by rw [← Hcd.out]; exact HV.out.1 _ (cdOk_mem hlt)
        have HCOK := Lib.hid hcok
        obtain ⟨op, ca, cb, cc⟩ := cd
        obtain ⟨c0, c1, c2, c3⟩ := hat
        simp only at c0 c1 c2 c3
        obtain ⟨⟨ha0, ha3⟩, hb0, hb3, _, _, hop1, hop2⟩ := hcok.regs
        obtain ⟨an, rfl⟩ := Int.eq_ofNat_of_zero_le ha0
        have hbw := Nat.lt_of_lt_of_le hb hp.size
        have hl16 := lanS_lt HV.out.1 k hkn
        have HL2 := Lib.hid (lan_lane Hcd.out)
        have HLE := Lib.hid (lan_else Hcd.out)
        have HNX := Lib.hid (pr_next Hcd.out HPR.out)
        have HBK : Hid (¬ prAt cs k → B = false) := Lib.hid (HBAD.out k hlt)
        unfold prAt at HBK
        rw [Hcd.out] at HBK
        simp only at HL2 HLE HNX HBK
        obtain ⟨ar, Har⟩ : ∃ ar, Hid (aroundAt cs k = ar) := ⟨_, Lib.hid rfl⟩
        have HARK := Lib.hid Har.out
        rw [Har.out] at HL2 HLE HNX HBK
        obtain ⟨L, HL⟩ : ∃ L, Hid (lanS cs k = L) := ⟨_, Lib.hid rfl⟩
        rw [HL.out] at HL2 HLE HNX HBK hl16 ⊢
        clear hc hb hcok hp
        have hk0 : (0 : Int) ≤ (k : Int) := by omega
        have hkI : (k : Int) < (cs.length : Int) := by omega
        go_wp2_with fail
        refine (l4Around_any _ cs k _ _ (H.out.keep HP.out) hsmall (by omega) HARK.out).mono ?_
        rintro e w2 ⟨rfl, hp2⟩
        have c0 := keepPc hp2 c0
        have c1 := keepPc hp2 c1
        have c2 := keepPc hp2 c2
        have c3 := keepPc hp2 c3
        have HP2 := Lib.hid (HP.out.trans hp2)
        have hbw2 := Nat.lt_of_lt_of_le hbw hp2.size
        clear hp2
        obtain ⟨F, HF⟩ : ∃ F, Hid (decide (ar < 0) = F) := ⟨_, Lib.hid rfl⟩
        have hF := HF.out
        go_wp2_with fail
        refine (swrites_any ⟨op, an, cb, cc⟩ _ HCOK.out).mono ?_
        rintro e w3 ⟨rfl, hp3⟩
        have c0 := keepPc hp3 c0
        have c1 := keepPc hp3 c1
        have c2 := keepPc hp3 c2
        have c3 := keepPc hp3 c3
        have HP3 := Lib.hid (HP2.out.trans hp3)
        have hbw3 := Nat.lt_of_lt_of_le hbw2 hp3.size
        clear hp3
        by_cases h8 : op = 8
        · subst h8
          have hBf : B = false := HBK.out (fun h => h.1 rfl)
          subst hBf
          go_wp2
          go_ret
          exact ⟨rfl, HP3.out⟩
        have d8 : (op == 8) = false := by rw [beq_eq_false_iff_ne]; exact h8
        by_cases h9 : op = 9
        · subst h9
          have hw : wrg ⟨9, (an : Int), cb, cc⟩ = -1 := wrg_no (c := ⟨9, (an : Int), cb, cc⟩) (show (8 : Int) < 9 by decide)
          have hws : wst ⟨9, (an : Int), cb, cc⟩ = 0 := wst_no (c := ⟨9, (an : Int), cb, cc⟩) (show (8 : Int) < 9 by decide)
          obtain ⟨bn, rfl⟩ := Int.eq_ofNat_of_zero_le (hb0 (by decide))
          rw [hw]
          rw [hws] at HLE
          cases F
          · have hBf : B = false := HBK.out (fun h => by
              have := (h.2 rfl).1
              rw [decide_eq_false_iff_not] at hF
              exact hF this)
            subst hBf
            clear hw hws
            go_wp2
            go_ret
            exact ⟨rfl, HP3.out⟩
          · have hnn := digit_nonneg L bn
            have hbit := digit_eq0 L bn
            obtain ⟨D, HD⟩ : ∃ D, Hid (L.testBit bn = D) := ⟨_, Lib.hid rfl⟩
            rw [HD.out] at hbit
            have har : ar < 0 := of_decide_eq_true hF
            cases D
            · have hBf : B = false := HBK.out (fun h => by
                have := (h.2 rfl).2
                rw [Int.toNat_natCast, HD.out] at this
                cases this)
              subst hBf
              rw [Bool.not_false] at hbit
              clear hw hws
              go_wp2
              go_ret
              exact ⟨rfl, HP3.out⟩
            · rw [Bool.not_true] at hbit
              have HLN := Lib.hid ((HLE.out (fun h => absurd h.1 (by decide))).trans (del_0P L))
              have HPN := Lib.hid (HNX.out (by decide) (fun _ => ⟨har, by rw [Int.toNat_natCast]; exact HD.out⟩))
              clear hw hws
              go_wp2
              go_roundg (cs.length - (k + 1))
              case measure => have := Hgk.out; omega
              case rel => exact ⟨k + 1, by have := Hgk.out; omega, by go_num, by rw [HLN.out], HPN.out, HP3.out⟩
        have d9 : (op == 9) = false := by rw [beq_eq_false_iff_ne]; exact h9
        have HPN := Lib.hid (HNX.out h8 (fun h => absurd h h9))
        have hs := shl_pw (x := (an : Int)) (by omega) ha3
        have hpl := pw_lt (x := (an : Int)) ha3
        obtain ⟨pa, Hpa⟩ : ∃ pa, Hid (pw (an : Int) = pa) := ⟨_, Lib.hid rfl⟩
        rw [Hpa.out] at hs hpl HL2
        rw [Int.toNat_natCast] at hs
        have hor : bits .or .i64 (L : Int) (pa : Int) = ((L ||| pa : Nat) : Int) := bits_or (lt16P hl16) (lt16P hpl)
        have han : bits .andNot .i64 (L : Int) (pa : Int) = ((L ^^^ (L &&& pa) : Nat) : Int) := bits_andNot (lt16P hl16) (lt16P hpl)
        obtain ⟨Lo, HLo⟩ : ∃ Lo, Hid ((L ||| pa : Nat) = Lo) := ⟨_, Lib.hid rfl⟩
        obtain ⟨La, HLa⟩ : ∃ La, Hid ((L ^^^ (L &&& pa) : Nat) = La) := ⟨_, Lib.hid rfl⟩
        rw [HLo.out] at hor HL2
        rw [HLa.out] at han
        by_cases hwr : op ≤ 7
        · have hw : wrg ⟨op, (an : Int), cb, cc⟩ = (an : Int) := wrg_yes (c := ⟨op, (an : Int), cb, cc⟩) hop1 (le8P hwr)
          have hws : wst ⟨op, (an : Int), cb, cc⟩ = pw (an : Int) := wst_yes (c := ⟨op, (an : Int), cb, cc⟩) hop1 (le8P hwr)
          rw [hw]
          rw [hws, Hpa.out] at HLE
          have HLD : Hid (del L pa = La) := Lib.hid (by rw [← HLa.out]; rfl)
          by_cases h2 : op = 2
          · subst h2
            cases F
            · have HLN := Lib.hid ((HLE.out (fun h => by rw [decide_eq_false_iff_not] at hF; exact hF h.2)).trans HLD.out)
              clear hw hws hwr h8 h9
              go_wp2
              go_roundg (cs.length - (k + 1))
              case measure => have := Hgk.out; omega
              case rel => exact ⟨k + 1, by have := Hgk.out; omega, by go_num, by rw [HLN.out], HPN.out, HP3.out⟩
            · have HLN := Lib.hid (HL2.out rfl (of_decide_eq_true hF))
              clear hw hws hwr h8 h9
              go_wp2
              go_roundg (cs.length - (k + 1))
              case measure => have := Hgk.out; omega
              case rel => exact ⟨k + 1, by have := Hgk.out; omega, by go_num, by rw [HLN.out], HPN.out, HP3.out⟩
          · have d2 : (op == 2) = false := by rw [beq_eq_false_iff_ne]; exact h2
            have HLN := Lib.hid ((HLE.out (fun h => h2 h.1)).trans HLD.out)
            clear hw hws hwr h8 h9 h2
            go_wp2
            go_roundg (cs.length - (k + 1))
            case measure => have := Hgk.out; omega
            case rel => exact ⟨k + 1, by have := Hgk.out; omega, by go_num, by rw [HLN.out], HPN.out, HP3.out⟩
        · have hw : wrg ⟨op, (an : Int), cb, cc⟩ = -1 := wrg_no (c := ⟨op, (an : Int), cb, cc⟩) (gt8P hwr h8)
          have hws : wst ⟨op, (an : Int), cb, cc⟩ = 0 := wst_no (c := ⟨op, (an : Int), cb, cc⟩) (gt8P hwr h8)
          rw [hw]
          rw [hws] at HLE
          have d2 : (op == 2) = false := by rw [beq_eq_false_iff_ne]; exact fun e => hwr (by rw [e]; decide)
          have HLN := Lib.hid ((HLE.out (fun h => hwr (by have e : op = 2 := h.1; rw [e]; decide))).trans (del_0P L))
          clear hw hws hwr h8 h9
          go_wp2
          go_roundg (cs.length - (k + 1))
          case measure => have := Hgk.out; omega
          case rel => exact ⟨k + 1, by have := Hgk.out; omega, by go_num, by rw [HLN.out], HPN.out, HP3.out⟩
      · have hkl : k = cs.length := by omega
        have hBt : B = true := HB.out.2 ⟨HV.out, by rw [← hkl]; exact HPR.out⟩
        subst hBt
        go_wp2
        go_ret
        exact ⟨rfl, HP.out⟩

end Go.Proofs.Ytonmndojlnohcaa
