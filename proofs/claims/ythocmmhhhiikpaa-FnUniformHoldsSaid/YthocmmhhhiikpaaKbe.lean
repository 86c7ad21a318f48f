/- Uniform registers: what the analysis computes, on trees. No program in sight. Uniform registers, as the reference finds them: what a range writes, one instruction. Uniform registers, as the reference finds them: the walk through a program. Uniform registers, as the program finds them: what a range writes, a block. No condition. -/
import Derived.Test.YthocmmhhhiikpaaKac
import Derived.Test.YthocmmhhhiikpaaKae
import Derived.Test.YthocmmhhhiikpaaKaf
import Derived.Test.YthocmmhhhiikpaaKag
import Derived.Test.YthocmmhhhiikpaaKah

namespace Go.Proofs.Ythocmmhhhiikpaa
open Go.RowKit

/-- Behind one instruction. -/
def uCode (c : Cd) (u : Nat) : Nat := if c.op = 2 ∨ rd c &&& u ≠ rd c then del u (wst c) else u ||| wst c
/-- What a tree writes. -/
def writ : Tr → Nat
  | .nil => 0
  | .op c k => wst c ||| writ k
  | .ite _ t k => writ t ||| writ k
  | .itee _ t e k => (writ t ||| writ e) ||| writ k
  | .loop _ _ t k => writ t ||| writ k
def iter (f : Nat → Nat) : Nat → Nat → Nat
  | 0, h => h
  | n + 1, h => iter f n (f h)
/-- The set behind a tree, and the sets at its places. -/
def uni : Tr → Nat → Nat × List Nat
  | .nil, u => (u, [])
  | .op c k, u => ((uni k (uCode c u)).1, u :: (uni k (uCode c u)).2)
  | .ite a t k, u =>
    let v := if u.testBit a.toNat then u &&& (uni t u).1 else del u (writ t)
    ((uni k v).1, u :: ((uni t u).2 ++ 0 :: (uni k v).2))
  | .itee a t e k, u =>
    let v := if u.testBit a.toNat then (uni t u).1 &&& (uni e u).1 else del u (writ t ||| writ e)
    ((uni k v).1, u :: ((uni t u).2 ++ 0 :: ((uni e u).2 ++ 0 :: (uni k v).2)))
  | .loop a _ t k, u =>
    let h := iter (fun h => h &&& (uni t h).1) 16 u
    let v := if h.testBit a.toNat then h else del u (writ t)
    ((uni k v).1, u :: ((uni t h).2 ++ 0 :: (uni k v).2))
/-- One turn of a loop's search, and its end. -/
def uTurn (t : Tr) (h : Nat) : Nat := h &&& (uni t h).1
def uHead (t : Tr) (u : Nat) : Nat := iter (uTurn t) 16 u
/-- Behind an OpIf, an OpIf with an OpElse, an OpLoop. -/
def uIf (a : Int) (t : Tr) (u : Nat) : Nat := if u.testBit a.toNat then u &&& (uni t u).1 else del u (writ t)
def uIfe (a : Int) (t e : Tr) (u : Nat) : Nat := if u.testBit a.toNat then (uni t u).1 &&& (uni e u).1 else del u (writ t ||| writ e)
def uLoop (a : Int) (t : Tr) (u : Nat) : Nat := if (uHead t u).testBit a.toNat then uHead t u else del u (writ t)
theorem uni_nil (u : Nat) : uni .nil u = (u, []) := rfl
theorem uni_op (c : Cd) (k : Tr) (u : Nat) : uni (.op c k) u = ((uni k (uCode c u)).1, u :: (uni k (uCode c u)).2) := rfl
theorem uni_ite (a : Int) (t k : Tr) (u : Nat) : uni (.ite a t k) u = ((uni k (uIf a t u)).1, u :: ((uni t u).2 ++ 0 :: (uni k (uIf a t u)).2)) := rfl
theorem uni_itee (a : Int) (t e k : Tr) (u : Nat) : uni (.itee a t e k) u = ((uni k (uIfe a t e u)).1, u :: ((uni t u).2 ++ 0 :: ((uni e u).2 ++ 0 :: (uni k (uIfe a t e u)).2))) := rfl
theorem uni_loop (a b : Int) (t k : Tr) (u : Nat) : uni (.loop a b t k) u = ((uni k (uLoop a t u)).1, u :: ((uni t (uHead t u)).2 ++ 0 :: (uni k (uLoop a t u)).2)) := rfl

theorem uni_len : ∀ (t : Tr) (u : Nat), (uni t u).2.length = t.len
  | .nil, _ => rfl
  | .op c k, u => by rw [uni_op, Tr.len_op]; simp [uni_len k]
  | .ite a t k, u => by rw [uni_ite, Tr.len_ite]; simp [uni_len k, uni_len t]; omega
  | .itee a t e k, u => by rw [uni_itee, Tr.len_itee]; simp [uni_len k, uni_len t, uni_len e]; omega
  | .loop a b t k, u => by rw [uni_loop, Tr.len_loop]; simp [uni_len k, uni_len t]; omega

theorem Plain.cdok {c : Cd} (h : Plain c) : CdOk c := h.1
theorem del_lt' {a w : Nat} (ha : a < 16) : del a w < 16 := Nat.lt_of_le_of_lt (Sub.le (fun i hi => by rw [del_bit] at hi; simp at hi; exact hi.1)) ha
theorem uCode_lt {c : Cd} {u : Nat} (h : CdOk c) (hu : u < 16) : uCode c u < 16 := by
  unfold uCode
  split
  · exact del_lt' hu
  · exact or_lt hu (wr_lt h)
theorem writ_lt : ∀ (t : Tr), t.Ok → writ t < 16
  | .nil, _ => by decide
  | .op c k, h => or_lt (wr_lt h.1.1) (writ_lt k h.2)
  | .ite _ t k, h => or_lt (writ_lt t h.2.1) (writ_lt k h.2.2)
  | .itee _ t e k, h => or_lt (or_lt (writ_lt t h.2.1) (writ_lt e h.2.2.1)) (writ_lt k h.2.2.2)
  | .loop _ _ t k, h => or_lt (writ_lt t h.2.2.1) (writ_lt k h.2.2.2)
theorem and_lt16 {a b : Nat} (ha : a < 16) : a &&& b < 16 := Nat.lt_of_le_of_lt Nat.and_le_left ha
theorem uTurn_le (t : Tr) (h : Nat) : uTurn t h ≤ h := Nat.and_le_left
theorem iter_le {f : Nat → Nat} (hf : ∀ h, f h ≤ h) : ∀ n h, iter f n h ≤ h
  | 0, _ => Nat.le_refl _
  | n + 1, h => Nat.le_trans (iter_le hf n (f h)) (hf h)
theorem iter_stop {f : Nat → Nat} {h : Nat} (e : f h = h) : ∀ n, iter f n h = h
  | 0 => rfl
  | n + 1 => by show iter f n (f h) = h; rw [e]; exact iter_stop e n
theorem iter_succ (f : Nat → Nat) : ∀ n h, iter f (n + 1) h = f (iter f n h)
  | 0, _ => rfl
  | n + 1, h => iter_succ f n (f h)
theorem iter_fix {f : Nat → Nat} (hf : ∀ h, f h ≤ h) : ∀ n h, h ≤ n → f (iter f n h) = iter f n h
  | 0, h, hn => by
    have e : f h = h := by have := hf h; omega
    exact e
  | n + 1, h, hn => by
    by_cases e : f h = h
    · rw [iter_stop e]; exact e
    · exact iter_fix hf n (f h) (by have := hf h; omega)
theorem uHead_fix (t : Tr) {u : Nat} (hu : u < 16) : uTurn t (uHead t u) = uHead t u := iter_fix (uTurn_le t) 16 u (by omega)
theorem uHead_turn (t : Tr) {u : Nat} (hu : u < 16) : uHead t (uTurn t u) = uHead t u := by
  show iter (uTurn t) 17 u = _
  rw [iter_succ]
  exact uHead_fix t hu
theorem uHead_stop {t : Tr} {u : Nat} (h : uTurn t u = u) : uHead t u = u := iter_stop h 16
theorem uHead_le (t : Tr) (u : Nat) : uHead t u ≤ u := iter_le (uTurn_le t) 16 u
theorem uni_lt : ∀ (t : Tr) (u : Nat), t.Ok → u < 16 → (uni t u).1 < 16
  | .nil, _, _, hu => hu
  | .op c k, u, h, hu => by rw [uni_op]; exact uni_lt k _ h.2 (uCode_lt h.1.1 hu)
  | .ite a t k, u, h, hu => by
    rw [uni_ite]
    refine uni_lt k _ h.2.2 ?_
    unfold uIf
    split
    · exact and_lt16 hu
    · exact del_lt' hu
  | .itee a t e k, u, h, hu => by
    rw [uni_itee]
    refine uni_lt k _ h.2.2.2 ?_
    unfold uIfe
    split
    · exact and_lt16 (uni_lt t u h.2.1 hu)
    · exact del_lt' hu
  | .loop a b t k, u, h, hu => by
    rw [uni_loop]
    refine uni_lt k _ h.2.2.2 ?_
    unfold uLoop
    split
    · exact Nat.lt_of_le_of_lt (uHead_le t u) hu
    · exact del_lt' hu

/-- The table with a tree's sets laid into it; places of OpElse and OpEnd keep theirs. -/
def lay (cs : List Cd) (live : Nat → Nat) (i : Nat) (xs : List Nat) : Nat → Nat :=
  fun j => if (i ≤ j ∧ j < i + xs.length) ∧ (cs.getD j default).op ≠ 12 ∧ (cs.getD j default).op ≠ 14 then xs.getD (j - i) 0 else live j
theorem lay_nil (cs : List Cd) (live : Nat → Nat) (i : Nat) : lay cs live i [] = live := by
  funext j
  unfold lay
  rw [if_neg]
  rintro ⟨⟨h1, h2⟩, _⟩
  simp at h2
  omega
theorem lay_cons {cs : List Cd} {live : Nat → Nat} {i x : Nat} {xs : List Nat} (h1 : (cs.getD i default).op ≠ 12) (h2 : (cs.getD i default).op ≠ 14) :
    lay cs live i (x :: xs) = lay cs (updL live i x) (i + 1) xs := by
  funext j
  unfold lay updL
  by_cases e : j = i
  · subst e
    rw [if_pos ⟨⟨by omega, by simp⟩, h1, h2⟩, if_neg (by omega), if_pos rfl]
    simp
  · by_cases hr : (i + 1 ≤ j ∧ j < i + 1 + xs.length) ∧ (cs.getD j default).op ≠ 12 ∧ (cs.getD j default).op ≠ 14
    · rw [if_pos hr, if_pos ⟨⟨by omega, by simp; omega⟩, hr.2⟩]
      obtain ⟨d, rfl⟩ : ∃ d, j = i + 1 + d := ⟨j - (i + 1), by omega⟩
      rw [show i + 1 + d - i = d + 1 by omega, show i + 1 + d - (i + 1) = d by omega]
      rfl
    · rw [if_neg hr, if_neg (by rintro ⟨⟨q1, q2⟩, q3⟩; simp at q2; exact hr ⟨⟨by omega, by omega⟩, q3⟩), if_neg e]
theorem lay_skip {cs : List Cd} {live : Nat → Nat} {i x : Nat} {xs : List Nat} (h : (cs.getD i default).op = 12 ∨ (cs.getD i default).op = 14) :
    lay cs live i (x :: xs) = lay cs live (i + 1) xs := by
  funext j
  unfold lay
  by_cases e : j = i
  · subst e
    rw [if_neg (by rintro ⟨_, q1, q2⟩; rcases h with h | h; exact q1 h; exact q2 h), if_neg (by omega)]
  · by_cases hr : (i + 1 ≤ j ∧ j < i + 1 + xs.length) ∧ (cs.getD j default).op ≠ 12 ∧ (cs.getD j default).op ≠ 14
    · rw [if_pos hr, if_pos ⟨⟨by omega, by simp; omega⟩, hr.2⟩]
      obtain ⟨d, rfl⟩ : ∃ d, j = i + 1 + d := ⟨j - (i + 1), by omega⟩
      rw [show i + 1 + d - i = d + 1 by omega, show i + 1 + d - (i + 1) = d by omega]
      rfl
    · rw [if_neg hr, if_neg (by rintro ⟨⟨q1, q2⟩, q3⟩; simp at q2; exact hr ⟨⟨by omega, by omega⟩, q3⟩)]
theorem lay_app (cs : List Cd) (live : Nat → Nat) (i : Nat) (xs ys : List Nat) : lay cs live i (xs ++ ys) = lay cs (lay cs live i xs) (i + xs.length) ys := by
  induction xs generalizing live i with
  | nil => rw [lay_nil]; rfl
  | cons x r ih =>
    by_cases h : (cs.getD i default).op = 12 ∨ (cs.getD i default).op = 14
    · rw [List.cons_append, lay_skip h, lay_skip h, ih, show i + 1 + r.length = i + (x :: r).length by simp; omega]
    · rw [not_or] at h
      rw [List.cons_append, lay_cons h.1 h.2, lay_cons h.1 h.2, ih, show i + 1 + r.length = i + (x :: r).length by simp; omega]
theorem lay_lay (cs : List Cd) (live : Nat → Nat) (i : Nat) {xs ys : List Nat} (h : xs.length = ys.length) : lay cs (lay cs live i xs) i ys = lay cs live i ys := by
  funext j
  unfold lay
  split
  · rfl
  · rename_i hn
    rw [if_neg]
    rw [h]
    exact hn

/-- What the instructions of a range write. -/
def wrTo (cs : List Cd) (i : Nat) : Nat → Nat
  | 0 => 0
  | n + 1 => wrTo cs i n ||| wst (cs.getD (i + n) default)
theorem wrTo_head (cs : List Cd) (i : Nat) : ∀ n, wrTo cs i (n + 1) = wst (cs.getD i default) ||| wrTo cs (i + 1) n
  | 0 => by simp [wrTo]
  | n + 1 => by
    show wrTo cs i (n + 1) ||| wst (cs.getD (i + (n + 1)) default) = _
    rw [wrTo_head cs i n, Nat.or_assoc]
    show _ = wst (cs.getD i default) ||| (wrTo cs (i + 1) n ||| wst (cs.getD (i + 1 + n) default))
    rw [show i + 1 + n = i + (n + 1) by omega]
theorem wrTo_add (cs : List Cd) (i n : Nat) : ∀ m, wrTo cs i (n + m) = wrTo cs i n ||| wrTo cs (i + n) m
  | 0 => by simp [wrTo]
  | m + 1 => by
    show wrTo cs i (n + m) ||| wst (cs.getD (i + (n + m)) default) = wrTo cs i n ||| (wrTo cs (i + n) m ||| wst (cs.getD (i + n + m) default))
    rw [wrTo_add cs i n m, Nat.or_assoc, Nat.add_assoc]
theorem wst_zero {c : Cd} (h : c.op = 11 ∨ c.op = 12 ∨ c.op = 13 ∨ c.op = 14) : wst c = 0 := by
  unfold wst
  rw [if_neg (by omega)]
theorem wrTo_tree {cs : List Cd} : ∀ (t : Tr) (i : Nat), Seg cs i t → wrTo cs i t.len = writ t
  | .nil, _, _ => rfl
  | .op c k, i, h => by
    rw [Tr.len_op, wrTo_head, h.op.1, wrTo_tree k _ h.op.2.2]; rfl
  | .ite a t k, i, h => by
    obtain ⟨h1, h2, h3, _, h5⟩ := h.ite
    rw [Tr.len_ite, show 1 + t.len + 1 + k.len = (t.len + (k.len + 1)) + 1 by omega, wrTo_head, h1, wrTo_add, wrTo_tree t _ h2, wrTo_head, h3, wrTo_tree k _ h5, wst_zero (.inl rfl), wst_zero (.inr (.inr (.inr rfl)))]
    simp [writ]
  | .itee a t e k, i, h => by
    obtain ⟨h1, h2, h3, h4, h5, _, h7⟩ := h.itee
    rw [Tr.len_itee, show 1 + t.len + 1 + e.len + 1 + k.len = (t.len + (e.len + (k.len + 1) + 1)) + 1 by omega, wrTo_head, h1, wrTo_add, wrTo_tree t _ h2, wrTo_head, h3, wrTo_add, wrTo_tree e _ h4, wrTo_head, h5, wrTo_tree k _ h7, wst_zero (.inl rfl), wst_zero (.inr (.inl rfl)), wst_zero (.inr (.inr (.inr rfl)))]
    simp [writ, Nat.or_assoc]
  | .loop a b t k, i, h => by
    obtain ⟨h1, h2, h3, _, h5⟩ := h.loop
    rw [Tr.len_loop, show 1 + t.len + 1 + k.len = (t.len + (k.len + 1)) + 1 by omega, wrTo_head, h1, wrTo_add, wrTo_tree t _ h2, wrTo_head, h3, wrTo_tree k _ h5, wst_zero (.inr (.inr (.inl rfl))), wst_zero (.inr (.inr (.inr rfl)))]
    simp [writ]
theorem wrTo_lt {cs : List Cd} (h : ∀ c ∈ cs, CdOk c) (i : Nat) : ∀ n, i + n ≤ cs.length → wrTo cs i n < 16
  | 0, _ => by show 0 < 16; decide
  | n + 1, hn => by
    refine or_lt (wrTo_lt h i n (by omega)) (wr_lt (h _ ?_))
    have hk : i + n < cs.length := by omega
    simp [List.getD_eq_getElem?_getD, hk]

theorem and16' : ∀ a b : Fin 16, bits .and .i64 (a.val : Int) (b.val : Int) = ((a.val &&& b.val : Nat) : Int) := by decide +kernel
theorem and16 {a b : Nat} (ha : a < 16) (hb : b < 16) : bits .and .i64 (a : Int) (b : Int) = ((a &&& b : Nat) : Int) := and16' ⟨a, ha⟩ ⟨b, hb⟩
theorem lay_if {cs : List Cd} {live : Nat → Nat} {i x : Nat} {a : Int} {t k : Tr} {xs ys : List Nat} (h : Seg cs i (.ite a t k)) (hl : xs.length = t.len) :
    lay cs live i (x :: (xs ++ 0 :: ys)) = lay cs (lay cs (updL live i x) (i + 1) xs) (i + 1 + t.len + 1) ys := by
  obtain ⟨h1, _, h3, _⟩ := h.ite
  rw [lay_cons (by rw [h1]; show ¬ (11 : Int) = 12; omega) (by rw [h1]; show ¬ (11 : Int) = 14; omega), lay_app, hl, lay_skip (.inr (by rw [h3]; rfl))]
theorem lay_loop {cs : List Cd} {live : Nat → Nat} {i x : Nat} {a b : Int} {t k : Tr} {xs ys : List Nat} (h : Seg cs i (.loop a b t k)) (hl : xs.length = t.len) :
    lay cs live i (x :: (xs ++ 0 :: ys)) = lay cs (lay cs (updL live i x) (i + 1) xs) (i + 1 + t.len + 1) ys := by
  obtain ⟨h1, _, h3, _⟩ := h.loop
  rw [lay_cons (by rw [h1]; show ¬ (13 : Int) = 12; omega) (by rw [h1]; show ¬ (13 : Int) = 14; omega), lay_app, hl, lay_skip (.inr (by rw [h3]; rfl))]
theorem lay_ife {cs : List Cd} {live : Nat → Nat} {i x : Nat} {a : Int} {t e k : Tr} {xs zs ys : List Nat} (h : Seg cs i (.itee a t e k)) (hl : xs.length = t.len) (hz : zs.length = e.len) :
    lay cs live i (x :: (xs ++ 0 :: (zs ++ 0 :: ys))) = lay cs (lay cs (lay cs (updL live i x) (i + 1) xs) (i + 1 + t.len + 1) zs) (i + 1 + t.len + 1 + e.len + 1) ys := by
  obtain ⟨h1, _, h3, _, h5, _⟩ := h.itee
  rw [lay_cons (by rw [h1]; show ¬ (11 : Int) = 12; omega) (by rw [h1]; show ¬ (11 : Int) = 14; omega), lay_app, hl, lay_skip (.inl (by rw [h3]; rfl)), lay_app, hz, lay_skip (.inr (by rw [h5]; rfl))]

end Go.Proofs.Ythocmmhhhiikpaa

namespace Go.Proofs.Ythocmmhhhiikpaa
open Go.RowKit

theorem wrg_two {x : Cd} (h : CdOk x) : (0 ≤ wrg x ∧ wrg x ≤ 3 ∧ wst x = pw (wrg x)) ∨ (wrg x = -1 ∧ wst x = 0) := by
  obtain ⟨⟨h1, h2⟩, _⟩ := h.regs
  unfold wrg wst
  split
  · exact .inl ⟨h1, h2, rfl⟩
  · exact .inr ⟨rfl, rfl⟩

set_option maxHeartbeats 1000000 in
theorem swritten_any (v : Value) (cs : List Cd) (i n : Nat) (w : World) (fr to : Int) (h : Codes w v cs) (hv : ∀ c ∈ cs, CdOk c) (hn : i + n ≤ cs.length) (hs : cs.length ≤ 64) (hfr : fr = (i : Nat)) (hto : to = ((i + n : Nat) : Int)) :
    Calls Try.prog 57 #[v, .int .i64 fr, .int .i64 to] w fun e w' => e = .returned (.int .i64 (wrTo cs i n : Nat)) ∧ Pure w w' := by
  have H := Lib.hid h
  have HV := Lib.hid hv
  obtain ⟨A, c, rfl, hnc, hcm⟩ := h.form
  subst hfr hto
  clear h hv
  go_enter Try.func57, Try.ntmps57
  go_wp2_with fail
  go_loopg [8, 7] n (fun gk kk s wr => ∃ j : Nat, gk + j = n ∧ kk = .int .i64 ((i + j : Nat) : Int) ∧ s = .int .i64 (wrTo cs i j : Nat) ∧ Pure w wr)
  case atStart => exact ⟨0, rfl, rfl, rfl, Pure.refl _⟩
  case round =>
    obtain ⟨j, hgk, rfl, rfl, hp⟩ := hrel
    have Hgk := Lib.hid hgk
    have hjn : j ≤ n := by omega
    clear hgk
    by_cases hj : j < n
    · obtain ⟨b, o, rfl, hb, hc⟩ := H.out.at_ (k := i + j) (by omega)
      obtain ⟨cd, Hcd⟩ : ∃ cd, Hid (cs.getD (i + j) default = cd) := ⟨_, rfl⟩
      rw [Hcd.out] at hc
      have hok : CdOk cd := by rw [← Hcd.out]; exact HV.out _ (cdOk_mem (by omega))
      have HOK := Lib.hid hok
      obtain ⟨q0, q1, q2, q3⟩ := hc.keep hp hb
      clear hc hok
      obtain ⟨k, Hk⟩ : ∃ k, Hid (i + j = k) := ⟨_, rfl⟩
      rw [Hk.out] at q0 q1 q2 q3 ⊢
      have hk : k < cs.length := by have := Hk.out; omega
      have hkn : k < i + n := by have := Hk.out; omega
      obtain ⟨s, Hs⟩ : ∃ s, Hid (wrTo cs i j = s) := ⟨_, rfl⟩
      rw [Hs.out]
      have hs16 : s < 16 := by rw [← Hs.out]; exact wrTo_lt HV.out i j (by omega)
      have hnext : wrTo cs i (j + 1) = s ||| wst cd := by
        show wrTo cs i j ||| wst (cs.getD (i + j) default) = _
        rw [Hs.out, Hcd.out]
      have Hnext := Lib.hid hnext
      clear hnext
      go_wp2_with fail
      refine (swrites_any cd _ HOK.out).mono ?_
      rintro e w3 ⟨rfl, hp3⟩
      have hpp := hp.trans hp3
      have hgc := wrg_two HOK.out
      rcases hgc with ⟨hg0, hg3, hgp⟩ | ⟨hg1, hgp⟩
      · obtain ⟨g, hg⟩ := Int.eq_ofNat_of_zero_le hg0
        rw [hg] at hg0 hg3 hgp ⊢
        obtain ⟨p, Hp⟩ : ∃ p, Hid (wst cd = p) := ⟨_, rfl⟩
        have Hnext2 : Hid (wrTo cs i (j + 1) = s ||| p) := Lib.hid (by rw [Hnext.out, Hp.out])
        rw [Hp.out] at hgp
        have hp16 : p < 16 := by rw [← Hp.out]; exact wr_lt HOK.out
        have hshl : wrap64 (2 ^ ((g : Int)).toNat) = (p : Int) := by rw [hgp]; exact shl_pw hg0 hg3
        have hor : bits .or .i64 (s : Int) (p : Int) = ((s ||| p : Nat) : Int) := or16 hs16 hp16
        simp only [Int.toNat_natCast] at hshl
        clear hgp hg
        go_wp2
        go_roundg (n - (j + 1))
        case measure => have := Hgk.out; omega
        case rel => exact ⟨j + 1, by have := Hgk.out; omega, by have := Hk.out; go_num, by rw [Hnext2.out, ← hor, ← hshl], hpp⟩
      · rw [hg1]
        have Hnext2 : Hid (wrTo cs i (j + 1) = s) := Lib.hid (by rw [Hnext.out, hgp]; simp)
        clear hg1 hgp
        go_wp2
        go_roundg (n - (j + 1))
        case measure => have := Hgk.out; omega
        case rel => exact ⟨j + 1, by have := Hgk.out; omega, by have := Hk.out; go_num, by rw [Hnext2.out], hpp⟩
    · have hjl : j = n := by omega
      subst hjl
      go_wp2
      go_ret
      exact ⟨rfl, hp⟩

set_option maxHeartbeats 1000000 in
theorem scode_any (x : Cd) (u : Nat) (w : World) (h : CdOk x) (hu : u < 16) :
    Calls Try.prog 55 #[cdv x, .int .i64 (u : Nat)] w fun e w' => e = .returned (.int .i64 (uCode x u : Nat)) ∧ Pure w w' := by
  obtain ⟨o, a, b, c⟩ := x
  have H := Lib.hid h
  obtain ⟨p, Hp⟩ : ∃ p, Hid (wst ⟨o, a, b, c⟩ = p) := ⟨_, rfl⟩
  obtain ⟨r, Hr⟩ : ∃ r, Hid (rd ⟨o, a, b, c⟩ = r) := ⟨_, rfl⟩
  have hp16 : p < 16 := by rw [← Hp.out]; exact wr_lt h
  have hr16 : r < 16 := by rw [← Hr.out]; exact rd_lt h
  have HU : Hid (uCode ⟨o, a, b, c⟩ u = if o = 2 ∨ r &&& u ≠ r then del u p else u ||| p) := Lib.hid (by unfold uCode; rw [Hp.out, Hr.out])
  have hgc := wrg_two h
  rw [Hp.out] at hgc
  obtain ⟨m, Hm⟩ : ∃ m, Hid (r &&& u = m) := ⟨_, rfl⟩
  rw [Hm.out] at HU
  have hand : bits .and .i64 (r : Int) (u : Int) = (m : Int) := by rw [and16 hr16 hu, Hm.out]
  have hor : bits .or .i64 (u : Int) (p : Int) = ((u ||| p : Nat) : Int) := or16 hu hp16
  have hdel : bits .andNot .i64 (u : Int) (p : Int) = ((del u p : Nat) : Int) := not16 hu hp16
  obtain ⟨x1, Hx1⟩ : ∃ x, Hid (u ||| p = x) := ⟨_, rfl⟩
  obtain ⟨x2, Hx2⟩ : ∃ x, Hid (del u p = x) := ⟨_, rfl⟩
  rw [Hx1.out] at hor
  rw [Hx2.out] at hdel
  rw [Hx1.out, Hx2.out] at HU
  clear h
  unfold cdv
  simp only
  rcases hgc with ⟨hg0, hg3, hgp⟩ | ⟨hg1, hg2⟩
  · obtain ⟨g, hg⟩ := Int.eq_ofNat_of_zero_le hg0
    have HG := Lib.hid hg
    rw [hg] at hg0 hg3 hgp
    have hshl : wrap64 (2 ^ ((g : Int)).toNat) = (p : Int) := by rw [hgp]; exact shl_pw hg0 hg3
    simp only [Int.toNat_natCast] at hshl
    clear hgp hg
    have h1 := Lib.hid (boxed (Pure.refl (w.alloc (.cells #[.int .i64 o, .int .i64 a, .int .i64 b, .int .i64 c] 38))))
    obtain ⟨y0, y1, y2, y3, _⟩ := h1.out
    go_enter Try.func55, Try.ntmps55
    go_wp2_with fail
    refine (swrites_any ⟨o, a, b, c⟩ _ H.out).mono ?_
    rintro e w1 ⟨rfl, hp1⟩
    rw [HG.out]
    have hq1 : Pure w w1 := (h1.out.2.2.2.2).trans hp1
    clear y0 y1 y2 y3
    obtain ⟨y0, y1, y2, y3, _⟩ := boxed hp1
    go_wp2_with fail
    refine (screads_any ⟨o, a, b, c⟩ _ H.out).mono ?_
    rintro e w2 ⟨rfl, hp2⟩
    rw [Hr.out]
    clear y0 y1 y2 y3
    obtain ⟨y0, y1, y2, y3, hq2⟩ := boxed (hp1.trans hp2)
    by_cases h2 : o = 2
    · subst h2
      have HU2 : Hid (uCode ⟨2, a, b, c⟩ u = x2) := Lib.hid (by rw [HU.out, if_pos (.inl rfl)])
      go_wp2
      go_ret
      exact ⟨by rw [HU2.out]; rfl, hq2⟩
    · have d2 : (o == 2) = false := by simp [h2]
      by_cases h3 : m = r
      · have d3 : ((m : Int) != (r : Int)) = false := by simp [h3]
        have HU2 : Hid (uCode ⟨o, a, b, c⟩ u = x1) := Lib.hid (by rw [HU.out, if_neg (by rintro (h | h); exact h2 h; exact h h3)])
        clear h2 h3
        go_wp2
        go_ret
        exact ⟨by rw [HU2.out]; rfl, hq2⟩
      · have d3 : ((m : Int) != (r : Int)) = true := by rw [bne_iff_ne]; omega
        have HU2 : Hid (uCode ⟨o, a, b, c⟩ u = x2) := Lib.hid (by rw [HU.out, if_pos (.inr h3)])
        clear h2 h3
        go_wp2
        go_ret
        exact ⟨by rw [HU2.out]; rfl, hq2⟩
  · have HG := Lib.hid hg1
    subst hg2
    have HU2 : Hid (uCode ⟨o, a, b, c⟩ u = u) := Lib.hid (by rw [HU.out, ← Hx1.out, ← Hx2.out, del_zero]; simp)
    clear hg1
    have h1 := Lib.hid (boxed (Pure.refl (w.alloc (.cells #[.int .i64 o, .int .i64 a, .int .i64 b, .int .i64 c] 38))))
    obtain ⟨y0, y1, y2, y3, _⟩ := h1.out
    go_enter Try.func55, Try.ntmps55
    go_wp2_with fail
    refine (swrites_any ⟨o, a, b, c⟩ _ H.out).mono ?_
    rintro e w1 ⟨rfl, hp1⟩
    rw [HG.out]
    have hq1 : Pure w w1 := (h1.out.2.2.2.2).trans hp1
    clear y0 y1 y2 y3
    go_wp2
    go_ret
    exact ⟨by rw [HU2.out]; rfl, hq1⟩

end Go.Proofs.Ythocmmhhhiikpaa

namespace Go.Proofs.Ythocmmhhhiikpaa
open Go.RowKit

/-- The table under way, in a block of the walk's own. -/
structure UR (w0 : World) (vl vo : Value) (cs : List Cd) (w : World) (live : Nat → Nat) : Prop where
  pure : Pure w0 w
  codes : Codes w0 vl cs
  own : OwnO w w0.heap.size 3 1 vo cs.length ((List.range cs.length).map fun j => .int .i64 (live j : Nat))
section
variable {w0 w w' : World} {vl vo : Value} {cs : List Cd} {live : Nat → Nat}
theorem UR.keep (h : UR w0 vl vo cs w live) (hp : Pure w w') : UR w0 vl vo cs w' live := ⟨h.pure.trans hp, h.codes, h.own.pure hp⟩
theorem UR.put {g off c k v : Nat} (h : UR w0 vl (.slice (some ⟨g, off, none⟩) cs.length c) cs w live) (hk : k < cs.length) :
    UR w0 vl (.slice (some ⟨g, off, none⟩) cs.length c) cs (w.setCell ⟨g, off + k, none⟩ (.int .i64 (v : Nat))) (updL live k v) := by
  refine ⟨Pure.setCell h.pure (h.own.lt g rfl).1 _, h.codes, ?_⟩
  have hs := h.own.stored k (.int .i64 (v : Nat))
  have e : ((List.range cs.length).map fun j => Value.int .i64 (live j : Nat)).set k (.int .i64 (v : Nat)) = (List.range cs.length).map fun j => Value.int .i64 (updL live k v j : Nat) := by
    apply List.ext_getElem?
    intro j
    by_cases hj : j < cs.length
    · by_cases hjk : j = k
      · subst hjk
        rw [List.getElem?_set_self (by simpa using hj)]
        simp [hj, updL]
      · rw [List.getElem?_set_ne (by omega)]
        simp [hj, updL, hjk]
    · rw [List.getElem?_eq_none (by simp; omega), List.getElem?_eq_none (by simp; omega)]
  rw [← e]
  exact hs
theorem UR.facts {g off c k : Nat} (h : UR w0 vl (.slice (some ⟨g, off, none⟩) cs.length c) cs w live) (hk : k < cs.length) :
    w.cell? ⟨g, off + k, none⟩ = some (.int .i64 (live k : Nat)) ∧ w.frozen? ⟨g, off + k, none⟩ = false ∧ w0.heap.size ≤ g ∧ g < w.heap.size := by
  have h1 := h.own.cell k (by omega)
  rw [List.getElem?_map, List.getElem?_range hk] at h1
  exact ⟨h1, h.own.frozen _, (h.own.lt g rfl).1, (h.own.lt g rfl).2⟩
end
/-- A code in a block of its own. -/
structure UBox (w : World) (g : Nat) (c : Cd) : Prop where
  c0 : w.cell? ⟨g, 0, none⟩ = some (.int .i64 c.op)
  c1 : w.cell? ⟨g, 1, none⟩ = some (.int .i64 c.a)
  c2 : w.cell? ⟨g, 2, none⟩ = some (.int .i64 c.b)
  c3 : w.cell? ⟨g, 3, none⟩ = some (.int .i64 c.c)
theorem UBox.lt {w : World} {g : Nat} {c : Cd} (h : UBox w g c) : g < w.heap.size := World.block_lt_of_cell? _ _ h.1
theorem UBox.chg {S : Nat → Prop} {w w' : World} {g : Nat} {c : Cd} (h : UBox w g c) (hc : Chg S w w') (hn : ¬ S g) : UBox w' g c :=
  ⟨(hc.cell h.lt hn).trans h.1, (hc.cell h.lt hn).trans h.2, (hc.cell h.lt hn).trans h.3, (hc.cell h.lt hn).trans h.4⟩
theorem UBox.pure {w w' : World} {g : Nat} {c : Cd} (h : UBox w g c) (hp : Pure w w') : UBox w' g c := h.chg (S := fun _ => False) (Chg.of_pure hp) id
theorem UBox.new (w : World) (c : Cd) {w' : World} (hp : Pure (w.alloc (.cells #[.int .i64 c.op, .int .i64 c.a, .int .i64 c.b, .int .i64 c.c] 38)) w') : UBox w' w.heap.size c ∧ Pure w w' := by
  obtain ⟨h0, h1, h2, h3, h4⟩ := boxed hp
  exact ⟨⟨h0, h1, h2, h3⟩, h4⟩

def UWPost (w0 : World) (vl vo : Value) (cs : List Cd) (t : Tr) (i u : Nat) (live : Nat → Nat) (w : World) (e : Ending) (w' : World) : Prop :=
  e = .returned (.int .i64 ((uni t u).1 : Nat)) ∧ UR w0 vl vo cs w' (lay cs live i (uni t u).2) ∧ Chg (fun k => vo.ownBlock = some k) w w'

theorem Tr.len_zero' {t : Tr} (h : t.len = 0) : t = .nil := by
  cases t
  · rfl
  · rw [Tr.len_op] at h; omega
  · rw [Tr.len_ite] at h; omega
  · rw [Tr.len_itee] at h; omega
  · rw [Tr.len_loop] at h; omega

set_option maxHeartbeats 2000000 in
set_option maxRecDepth 100000 in
theorem swalk_nil (w0 : World) (vl vo : Value) (cs : List Cd) (i u : Nat) (live : Nat → Nat) (w : World) (fr to : Int) (hrun : UR w0 vl vo cs w live) (hfr : fr = (i : Nat)) (hto : to = (i : Nat)) :
    Calls Try.prog 34 #[vl, .int .i64 fr, .int .i64 to, .int .i64 (u : Nat), vo] w (UWPost w0 vl vo cs .nil i u live w) := by
  have HR := Lib.hid hrun
  subst hfr hto
  clear hrun
  go_enter Try.func34, Try.ntmps34
  go_wp2_with fail
  go_loopg [11, 3] 0 (fun gk i' u' wr => i' = .int .i64 i ∧ u' = .int .i64 u ∧ wr = w)
  case atStart => exact ⟨rfl, rfl, rfl⟩
  case round =>
    obtain ⟨rfl, rfl, rfl⟩ := hrel
    go_wp2_with fail
    go_ret
    exact ⟨rfl, by rw [uni_nil, lay_nil]; exact HR.out, Chg.refl _ _⟩

set_option maxHeartbeats 8000000 in
set_option maxRecDepth 100000 in
theorem swalk_any (w0 : World) (vl vo : Value) (cs : List Cd) (hv : PValid cs) : ∀ (sz : Nat) (t : Tr) (i u : Nat) (live : Nat → Nat) (w : World) (fr to : Int), t.len ≤ sz → t.Ok → Seg cs i t → i + t.len ≤ cs.length → u < 16 →
    UR w0 vl vo cs w live → fr = (i : Nat) → to = ((i + t.len : Nat) : Int) →
    Calls Try.prog 34 #[vl, .int .i64 fr, .int .i64 to, .int .i64 (u : Nat), vo] w (UWPost w0 vl vo cs t i u live w) := by
  intro sz
  induction sz with
  | zero =>
    intro t i u live w fr to hsz hok hseg hic hu hrun hfr hto
    obtain rfl := Tr.len_zero' (show t.len = 0 by omega)
    exact swalk_nil w0 vl vo cs i u live w fr to hrun hfr hto
  | succ sz ih =>
    intro t i u live w fr to hsz hok hseg hic hu hrun hfr hto
    by_cases htz : t.len = 0
    · obtain rfl := Tr.len_zero' htz
      exact swalk_nil w0 vl vo cs i u live w fr to hrun hfr hto
    subst hfr
    obtain ⟨g, off, cg, rfl, hg1, hg2, hg3, hg4⟩ := hrun.own.formSome (by omega)
    obtain ⟨A, cA, rfl, hnc, hcm⟩ := hrun.codes.form
    have HIH := Lib.hid ih
    have HV := Lib.hid hv
    have HTO := Lib.hid hto
    have HR := Lib.hid hrun
    have HSEG := Lib.hid hseg
    have HOK := Lib.hid hok
    have HSZ := Lib.hid hsz
    have HUL := Lib.hid hu
    have hsmall := hv.2.1
    have htoc : to ≤ (cs.length : Int) := by rw [hto]; exact_mod_cast hic
    clear ih hv hto hrun hseg hok hsz hic hu htz hg4
    go_enter Try.func34, Try.ntmps34
    go_wp2_with fail
    go_loopg [11, 3] t.len (fun gk kk uu wr => ∃ (t' : Tr) (k u' : Nat) (live' : Nat → Nat), gk = t'.len ∧ ((k + t'.len : Nat) : Int) = to ∧ t'.len ≤ t.len ∧ kk = .int .i64 k ∧ uu = .int .i64 u' ∧ u' < 16 ∧ t'.Ok ∧ Seg cs k t' ∧ UR w0 (.slice A cs.length cA) (.slice (some ⟨g, off, none⟩) cs.length cg) cs wr live' ∧ Chg (fun k => (Value.slice (some ⟨g, off, none⟩) cs.length cg).ownBlock = some k) w wr ∧ (uni t' u').1 = (uni t u).1 ∧ lay cs live' k (uni t' u').2 = lay cs live i (uni t u).2)
    case atStart => exact ⟨t, i, u, live, rfl, HTO.out.symm, Nat.le_refl _, rfl, rfl, HUL.out, HOK.out, HSEG.out, HR.out, Chg.refl _ _, rfl, rfl⟩
    case round =>
      clear HR HSEG HOK HTO HUL
      obtain ⟨t', k, u', live', hgk, hto, htl, rfl, rfl, hu', hok, hseg, hr, hst, hn1, hn2⟩ := hrel
      have Hgk := Lib.hid hgk
      have Hto := Lib.hid hto
      have Htl := Lib.hid htl
      have Hok := Lib.hid hok
      have Hseg := Lib.hid hseg
      have Hr := Lib.hid hr
      have Hst := Lib.hid hst
      have HN1 := Lib.hid hn1
      have HN2 := Lib.hid hn2
      clear hgk hto htl hok hseg hst hn1 hn2
      by_cases hlt : (k : Int) < to
      case neg =>
        have hz : t' = .nil := Tr.len_zero' (by have := Hto.out; omega)
        subst hz
        have Hfin : Hid ((uni t u).1 = u') := Lib.hid (by rw [← HN1.out]; rfl)
        have Hfin2 : Hid (lay cs live i (uni t u).2 = live') := Lib.hid (by rw [← HN2.out, uni_nil, lay_nil])
        clear hr
        go_wp2_with fail
        go_ret
        exact ⟨by rw [Hfin.out]; rfl, by rw [Hfin2.out]; exact Hr.out, Hst.out⟩
      case pos =>
        have hk : k < cs.length := by omega
        obtain ⟨f0, f1, f2, f3⟩ := hr.facts hk
        obtain ⟨b, ob, rfl, hb, hc⟩ := hr.codes.at_ hk
        have hbg : b ≠ g := by omega
        obtain ⟨cd, Hcd⟩ : ∃ cd, Hid (cs.getD k default = cd) := ⟨_, rfl⟩
        rw [Hcd.out] at hc
        have HP1 := Lib.hid (hr.put (k := k) (v := u') hk)
        have hc' := hc.keep HP1.out.pure hb
        obtain ⟨c0, c1, c2, c3⟩ := hc'
        have hcok : CdOk cd := by rw [← Hcd.out]; exact HV.out.1 _ (cdOk_mem hk)
        have HCOK := Lib.hid hcok
        obtain ⟨op, ca, cb, cc⟩ := cd
        simp only at c0 c1 c2 c3
        have hg4 : g < wr.heap.size := f3
        have HCW : Hid (Chg (fun k => (Value.slice (some ⟨g, off, none⟩) cs.length cg).ownBlock = some k) wr (wr.setCell ⟨g, off + k, none⟩ (.int .i64 (u' : Nat)))) := Lib.hid (Chg.of_set wr g _ _ (by rfl))
        have hxb := (UBox.new (wr.setCell ⟨g, off + k, none⟩ (.int .i64 (u' : Nat))) ⟨op, ca, cb, cc⟩ (Pure.refl _))
        have hsc : (wr.setCell ⟨g, off + k, none⟩ (.int .i64 (u' : Nat))).heap.size = wr.heap.size := by simp
        rw [hsc] at hxb
        have HXB := Lib.hid hxb
        obtain ⟨y0, y1, y2, y3⟩ := HXB.out.1
        have HNB : Hid (¬ (Value.slice (some ⟨g, off, none⟩) cs.length cg).ownBlock = some wr.heap.size) := Lib.hid (fun e => by have e2 : g = wr.heap.size := Option.some.inj e; omega)
        clear hr hc hcok hxb hsc
        simp only at y0 y1 y2 y3
        go_wp2_with fail
        obtain ⟨B, HB⟩ : ∃ B, Hid (decide (Opens ⟨op, ca, cb, cc⟩) = B) := ⟨_, rfl⟩
        refine (l4Opens_any ⟨op, ca, cb, cc⟩ _ B (by rw [← HB.out]; simp)).mono ?_
        rintro e w4 ⟨rfl, hp4⟩
        have HX4 := Lib.hid (HXB.out.1.pure hp4)
        have H4 := Lib.hid (HP1.out.keep (HXB.out.2.trans hp4))
        have HS4 : Hid (Chg (fun k => (Value.slice (some ⟨g, off, none⟩) cs.length cg).ownBlock = some k) w w4) := Lib.hid (Hst.out.trans (HCW.out.trans (Chg.of_pure (HXB.out.2.trans hp4))))
        clear y0 y1 y2 y3 c0 c1 c2 c3 hp4 f0 f1
        obtain ⟨y0, y1, y2, y3⟩ := HX4.out
        have hby := HX4.out.lt
        simp only at y0 y1 y2 y3
        cases t' with
        | nil => exact absurd Hto.out (by have : Tr.nil.len = 0 := rfl; omega)
        | op c0 tk =>
          have hce : c0 = ⟨op, ca, cb, cc⟩ := Hseg.out.op.1.symm.trans Hcd.out
          subst hce
          have HPL := Lib.hid Hok.out.1
          have hB : B = false := by rw [← HB.out]; have h := HPL.out; exact decide_eq_false (by rintro (h1 | h1); exact h.2.1 h1; exact h.2.2.2.1 h1)
          subst hB
          have HL := Lib.hid (Tr.len_op ⟨op, ca, cb, cc⟩ tk)
          go_wp2_with fail
          refine (scode_any ⟨op, ca, cb, cc⟩ u' _ HCOK.out hu').mono ?_
          rintro e w5 ⟨rfl, hp5⟩
          have HP5 := Lib.hid hp5
          obtain ⟨v, Hv⟩ : ∃ v, Hid (uCode ⟨op, ca, cb, cc⟩ u' = v) := ⟨_, rfl⟩
          have HV16 : Hid (v < 16) := Lib.hid (by rw [← Hv.out]; exact uCode_lt HCOK.out hu')
          rw [Hv.out]
          clear hp5
          go_wp2_with fail
          go_roundg tk.len
          case measure => have := Hgk.out; have := HL.out; omega
          case rel =>
            exact ⟨tk, k + 1, v, updL live' k u', rfl, by have := Hto.out; have := HL.out; omega, by have := Htl.out; have := HL.out; omega, by go_num, rfl, HV16.out, Hok.out.2, Hseg.out.op.2.2, H4.out.keep HP5.out, HS4.out.trans (Chg.of_pure HP5.out), by rw [← HN1.out, uni_op, Hv.out], by rw [← HN2.out, uni_op, Hv.out, lay_cons (by rw [Hcd.out]; exact HPL.out.2.2.1) (by rw [Hcd.out]; exact HPL.out.2.2.2.2)]⟩
        | ite a t1 tk =>
          have hce : (⟨op, ca, cb, cc⟩ : Cd) = cIf a := Hcd.out.symm.trans Hseg.out.ite.1
          injection hce with e1 e2 e3 e4
          subst e1 e2 e3 e4
          have hB : B = true := by rw [← HB.out]; exact decide_eq_true (.inl rfl)
          subst hB
          obtain ⟨ha0, ha3⟩ := Hok.out.1
          obtain ⟨an, rfl⟩ := Int.eq_ofNat_of_zero_le ha0
          have han : an < 4 := by omega
          have hend := (end_ite Hok.out Hseg.out).1
          obtain ⟨en, Hen⟩ : ∃ en, Hid (k + 1 + t1.len = en) := ⟨_, rfl⟩
          rw [Hen.out] at hend
          have HL := Lib.hid (Tr.len_ite (an : Int) t1 tk)
          have hen1 : en < cs.length := by rw [← Hen.out]; exact Hseg.out.ite.2.2.2.1
          have hkn : k < en := by have := Hen.out; omega
          go_wp2_with fail
          refine (l4End_any _ cs k _ _ (H4.out.codes.keep H4.out.pure) (by omega) hk hend).mono ?_
          rintro e w5 ⟨rfl, hp5⟩
          clear hend y0 y1 y2 y3
          have HX5 := Lib.hid (HX4.out.pure hp5)
          have H5 := Lib.hid (H4.out.keep hp5)
          have HS5 := Lib.hid (HS4.out.trans (Chg.of_pure hp5))
          obtain ⟨y0, y1, y2, y3⟩ := HX5.out
          have hby5 := HX5.out.lt
          simp only at y0 y1 y2 y3
          clear hp5
          go_wp2_with fail
          refine (HIH.out t1 (k + 1) u' (updL live' k u') _ _ _ (by have := HL.out; have := HSZ.out; have := Htl.out; omega) Hok.out.2.1 Hseg.out.ite.2.1 (by have := Hen.out; omega) hu' H5.out (by omega) (by have := Hen.out; omega)).mono ?_
          rintro e w6 ⟨rfl, hr6, hs6⟩
          have H6 := Lib.hid hr6
          have HS6 := Lib.hid (HS5.out.trans hs6)
          clear y0 y1 y2 y3
          have HX6 := Lib.hid (HX5.out.chg hs6 HNB.out)
          obtain ⟨y0, y1, y2, y3⟩ := HX6.out
          have hby6 := HX6.out.lt
          simp only at y0 y1 y2 y3
          clear hr6 hs6
          obtain ⟨m, Hm⟩ : ∃ m, Hid ((uni t1 u').1 = m) := ⟨_, rfl⟩
          have hm16 : m < 16 := by rw [← Hm.out]; exact uni_lt t1 u' Hok.out.2.1 hu'
          rw [Hm.out]
          obtain ⟨x, Hx⟩ : ∃ x, Hid (u' &&& m = x) := ⟨_, rfl⟩
          have hand : bits .and .i64 (u' : Int) (m : Int) = (x : Int) := by rw [and16 hu' hm16, Hx.out]
          have hnn := digit_nonneg u' an
          have hbit := digit_eq0 u' an
          have HUI : Hid (uIf (an : Int) t1 u' = if u'.testBit an then x else del u' (writ t1)) := Lib.hid (by unfold uIf; rw [Int.toNat_natCast, Hm.out, Hx.out])
          obtain ⟨D, HD⟩ : ∃ D, Hid (u'.testBit an = D) := ⟨_, rfl⟩
          rw [HD.out] at hbit HUI
          cases D
          · have hbit' : (((u' : Int) / 2 ^ an) % 2 == 0) = true := hbit
            have hwr : wrTo cs (k + 1) t1.len = writ t1 := wrTo_tree t1 _ Hseg.out.ite.2.1
            obtain ⟨q, Hq⟩ : ∃ q, Hid (writ t1 = q) := ⟨_, rfl⟩
            have hq16 : q < 16 := by rw [← Hq.out]; exact writ_lt t1 Hok.out.2.1
            rw [Hq.out] at hwr
            have HWR := Lib.hid hwr
            obtain ⟨v, Hv⟩ : ∃ v, Hid (del u' q = v) := ⟨_, rfl⟩
            have hdel : bits .andNot .i64 (u' : Int) (q : Int) = (v : Int) := by rw [not16 hu' hq16]; exact congrArg _ Hv.out
            have HV16 : Hid (v < 16) := Lib.hid (by rw [← Hv.out]; exact del_lt' hu')
            have HUI2 : Hid (uIf (an : Int) t1 u' = v) := Lib.hid (by rw [HUI.out, Hq.out, Hv.out]; rfl)
            clear hbit hwr
            go_wp2_with fail
            refine (swritten_any _ cs (k + 1) t1.len _ _ _ (H6.out.codes.keep H6.out.pure) HV.out.1 (by have := Hen.out; omega) (by omega) (by omega) (by have := Hen.out; omega)).mono ?_
            rintro e w7 ⟨rfl, hp7⟩
            rw [HWR.out]
            have HP7 := Lib.hid hp7
            clear hp7
            go_wp2_with fail
            go_roundg tk.len
            case measure => have := Hgk.out; have := HL.out; omega
            case rel =>
              exact ⟨tk, en + 1, v, _, rfl, by have := Hto.out; have := HL.out; have := Hen.out; omega, by have := Htl.out; have := HL.out; omega, by go_num, rfl, HV16.out, Hok.out.2.2, by rw [← Hen.out]; exact Hseg.out.ite.2.2.2.2, H6.out.keep HP7.out, HS6.out.trans (Chg.of_pure HP7.out), by rw [← HN1.out, uni_ite, HUI2.out], by rw [← HN2.out, uni_ite, HUI2.out, lay_if Hseg.out (uni_len t1 u'), Hen.out]⟩
          · have hbit' : (((u' : Int) / 2 ^ an) % 2 == 0) = false := hbit
            have HUI2 : Hid (uIf (an : Int) t1 u' = x) := Lib.hid (by rw [HUI.out]; rfl)
            have HX16 : Hid (x < 16) := Lib.hid (by rw [← Hx.out]; exact and_lt16 hu')
            clear hbit
            go_wp2_with fail
            go_roundg tk.len
            case measure => have := Hgk.out; have := HL.out; omega
            case rel =>
              exact ⟨tk, en + 1, x, _, rfl, by have := Hto.out; have := HL.out; have := Hen.out; omega, by have := Htl.out; have := HL.out; omega, by go_num, rfl, HX16.out, Hok.out.2.2, by rw [← Hen.out]; exact Hseg.out.ite.2.2.2.2, H6.out, HS6.out, by rw [← HN1.out, uni_ite, HUI2.out], by rw [← HN2.out, uni_ite, HUI2.out, lay_if Hseg.out (uni_len t1 u'), Hen.out]⟩
        | itee a t1 t2 tk =>
          have hce : (⟨op, ca, cb, cc⟩ : Cd) = cIf a := Hcd.out.symm.trans Hseg.out.itee.1
          injection hce with e1 e2 e3 e4
          subst e1 e2 e3 e4
          have hB : B = true := by rw [← HB.out]; exact decide_eq_true (.inl rfl)
          subst hB
          obtain ⟨ha0, ha3⟩ := Hok.out.1
          obtain ⟨an, rfl⟩ := Int.eq_ofNat_of_zero_le ha0
          have han : an < 4 := by omega
          have hend := (end_itee Hok.out Hseg.out).1
          obtain ⟨on, Hon⟩ : ∃ on, Hid (k + 1 + t1.len = on) := ⟨_, rfl⟩
          obtain ⟨en, Hen⟩ : ∃ en, Hid (k + 1 + t1.len + 1 + t2.len = en) := ⟨_, rfl⟩
          rw [Hen.out, Hon.out] at hend
          have HL := Lib.hid (Tr.len_itee (an : Int) t1 t2 tk)
          have hen1 : en < cs.length := by rw [← Hen.out]; exact Hseg.out.itee.2.2.2.2.2.1
          have hon1 : on < en := by have := Hen.out; have := Hon.out; omega
          have hkn : k < on := by have := Hon.out; omega
          go_wp2_with fail
          refine (l4End_any _ cs k _ _ (H4.out.codes.keep H4.out.pure) (by omega) hk hend).mono ?_
          rintro e w5 ⟨rfl, hp5⟩
          clear hend y0 y1 y2 y3
          have HX5 := Lib.hid (HX4.out.pure hp5)
          have H5 := Lib.hid (H4.out.keep hp5)
          have HS5 := Lib.hid (HS4.out.trans (Chg.of_pure hp5))
          obtain ⟨y0, y1, y2, y3⟩ := HX5.out
          have hby5 := HX5.out.lt
          simp only at y0 y1 y2 y3
          clear hp5
          go_wp2_with fail
          refine (HIH.out t1 (k + 1) u' (updL live' k u') _ _ _ (by have := HL.out; have := HSZ.out; have := Htl.out; omega) Hok.out.2.1 Hseg.out.itee.2.1 (by have := Hon.out; omega) hu' H5.out (by omega) (by have := Hon.out; omega)).mono ?_
          rintro e w6 ⟨rfl, hr6, hs6⟩
          have H6 := Lib.hid hr6
          have HS6 := Lib.hid (HS5.out.trans hs6)
          clear y0 y1 y2 y3
          have HX6 := Lib.hid (HX5.out.chg hs6 HNB.out)
          clear hr6 hs6
          obtain ⟨m, Hm⟩ : ∃ m, Hid ((uni t1 u').1 = m) := ⟨_, rfl⟩
          have hm16 : m < 16 := by rw [← Hm.out]; exact uni_lt t1 u' Hok.out.2.1 hu'
          rw [Hm.out]
          go_wp2_with fail
          refine (HIH.out t2 (on + 1) u' (lay cs (updL live' k u') (k + 1) (uni t1 u').2) _ _ _ (by have := HL.out; have := HSZ.out; have := Htl.out; omega) Hok.out.2.2.1 (by rw [← Hon.out]; exact Hseg.out.itee.2.2.2.1) (by have := Hon.out; have := Hen.out; omega) hu' H6.out (by omega) (by have := Hon.out; have := Hen.out; omega)).mono ?_
          rintro e w7 ⟨rfl, hr7, hs7⟩
          have H7 := Lib.hid hr7
          have HS7 := Lib.hid (HS6.out.trans hs7)
          have HX7 := Lib.hid (HX6.out.chg hs7 HNB.out)
          clear hr7 hs7
          obtain ⟨y0, y1, y2, y3⟩ := HX7.out
          have hby7 := HX7.out.lt
          simp only at y0 y1 y2 y3
          obtain ⟨m2, Hm2⟩ : ∃ m, Hid ((uni t2 u').1 = m) := ⟨_, rfl⟩
          have hm216 : m2 < 16 := by rw [← Hm2.out]; exact uni_lt t2 u' Hok.out.2.2.1 hu'
          rw [Hm2.out]
          obtain ⟨x, Hx⟩ : ∃ x, Hid (m &&& m2 = x) := ⟨_, rfl⟩
          have hand : bits .and .i64 (m : Int) (m2 : Int) = (x : Int) := by rw [and16 hm16 hm216, Hx.out]
          have hnn := digit_nonneg u' an
          have hbit := digit_eq0 u' an
          have HUI : Hid (uIfe (an : Int) t1 t2 u' = if u'.testBit an then x else del u' (writ t1 ||| writ t2)) := Lib.hid (by unfold uIfe; rw [Int.toNat_natCast, Hm.out, Hm2.out, Hx.out])
          obtain ⟨D, HD⟩ : ∃ D, Hid (u'.testBit an = D) := ⟨_, rfl⟩
          rw [HD.out] at hbit HUI
          cases D
          · have hbit' : (((u' : Int) / 2 ^ an) % 2 == 0) = true := hbit
            have hwr : wrTo cs (k + 1) (t1.len + (t2.len + 1)) = writ t1 ||| writ t2 := by
              obtain ⟨_, q2, q3, q4, _⟩ := Hseg.out.itee
              rw [wrTo_add, wrTo_tree t1 _ q2, wrTo_head, q3, wrTo_tree t2 _ q4, wst_zero (.inr (.inl rfl)), Nat.zero_or]
            obtain ⟨q, Hq⟩ : ∃ q, Hid (writ t1 ||| writ t2 = q) := ⟨_, rfl⟩
            have hq16 : q < 16 := by rw [← Hq.out]; exact or_lt (writ_lt t1 Hok.out.2.1) (writ_lt t2 Hok.out.2.2.1)
            rw [Hq.out] at hwr
            have HWR := Lib.hid hwr
            obtain ⟨v, Hv⟩ : ∃ v, Hid (del u' q = v) := ⟨_, rfl⟩
            have hdel : bits .andNot .i64 (u' : Int) (q : Int) = (v : Int) := by rw [not16 hu' hq16]; exact congrArg _ Hv.out
            have HV16 : Hid (v < 16) := Lib.hid (by rw [← Hv.out]; exact del_lt' hu')
            have HUI2 : Hid (uIfe (an : Int) t1 t2 u' = v) := Lib.hid (by rw [HUI.out, Hq.out, Hv.out]; rfl)
            clear hbit hwr
            go_wp2_with fail
            refine (swritten_any _ cs (k + 1) (t1.len + (t2.len + 1)) _ _ _ (H7.out.codes.keep H7.out.pure) HV.out.1 (by have := Hen.out; omega) (by omega) (by omega) (by have := Hen.out; omega)).mono ?_
            rintro e w8 ⟨rfl, hp8⟩
            rw [HWR.out]
            have HP8 := Lib.hid hp8
            clear hp8
            go_wp2_with fail
            go_roundg tk.len
            case measure => have := Hgk.out; have := HL.out; omega
            case rel =>
              exact ⟨tk, en + 1, v, _, rfl, by have := Hto.out; have := HL.out; have := Hen.out; omega, by have := Htl.out; have := HL.out; omega, by go_num, rfl, HV16.out, Hok.out.2.2.2, by rw [← Hen.out]; exact Hseg.out.itee.2.2.2.2.2.2, H7.out.keep HP8.out, HS7.out.trans (Chg.of_pure HP8.out), by rw [← HN1.out, uni_itee, HUI2.out], by rw [← HN2.out, uni_itee, HUI2.out, lay_ife Hseg.out (uni_len t1 u') (uni_len t2 u'), Hen.out, Hon.out]⟩
          · have hbit' : (((u' : Int) / 2 ^ an) % 2 == 0) = false := hbit
            have HUI2 : Hid (uIfe (an : Int) t1 t2 u' = x) := Lib.hid (by rw [HUI.out]; rfl)
            have HX16 : Hid (x < 16) := Lib.hid (by rw [← Hx.out]; exact and_lt16 hm16)
            clear hbit
            go_wp2_with fail
            go_roundg tk.len
            case measure => have := Hgk.out; have := HL.out; omega
            case rel =>
              exact ⟨tk, en + 1, x, _, rfl, by have := Hto.out; have := HL.out; have := Hen.out; omega, by have := Htl.out; have := HL.out; omega, by go_num, rfl, HX16.out, Hok.out.2.2.2, by rw [← Hen.out]; exact Hseg.out.itee.2.2.2.2.2.2, H7.out, HS7.out, by rw [← HN1.out, uni_itee, HUI2.out], by rw [← HN2.out, uni_itee, HUI2.out, lay_ife Hseg.out (uni_len t1 u') (uni_len t2 u'), Hen.out, Hon.out]⟩
        | loop a lb t1 tk =>
          have hce : (⟨op, ca, cb, cc⟩ : Cd) = cLoop a lb := Hcd.out.symm.trans Hseg.out.loop.1
          injection hce with e1 e2 e3 e4
          subst e1 e2 e3 e4
          have hB : B = true := by rw [← HB.out]; exact decide_eq_true (.inr rfl)
          subst hB
          obtain ⟨ha0, ha3⟩ := Hok.out.1
          obtain ⟨an, rfl⟩ := Int.eq_ofNat_of_zero_le ha0
          have han : an < 4 := by omega
          have hend := (end_loop Hok.out Hseg.out).1
          obtain ⟨en, Hen⟩ : ∃ en, Hid (k + 1 + t1.len = en) := ⟨_, rfl⟩
          rw [Hen.out] at hend
          have HL := Lib.hid (Tr.len_loop (an : Int) cb t1 tk)
          have hen1 : en < cs.length := by rw [← Hen.out]; exact Hseg.out.loop.2.2.2.1
          have hkn : k < en := by have := Hen.out; omega
          go_wp2_with fail
          refine (l4End_any _ cs k _ _ (H4.out.codes.keep H4.out.pure) (by omega) hk hend).mono ?_
          rintro e w5 ⟨rfl, hp5⟩
          clear hend y0 y1 y2 y3
          have HX5 := Lib.hid (HX4.out.pure hp5)
          have H5 := Lib.hid (H4.out.keep hp5)
          have HS5 := Lib.hid (HS4.out.trans (Chg.of_pure hp5))
          obtain ⟨y0, y1, y2, y3⟩ := HX5.out
          have hby5 := HX5.out.lt
          simp only at y0 y1 y2 y3
          clear hp5
          go_wp2_with fail
          refine (HIH.out t1 (k + 1) u' (updL live' k u') _ _ _ (by have := HL.out; have := HSZ.out; have := Htl.out; omega) Hok.out.2.2.1 Hseg.out.loop.2.1 (by have := Hen.out; omega) hu' H5.out (by omega) (by have := Hen.out; omega)).mono ?_
          rintro e w6 ⟨rfl, hr6, hs6⟩
          have H6 := Lib.hid hr6
          have HS6 := Lib.hid (HS5.out.trans hs6)
          clear y0 y1 y2 y3
          have HX6 := Lib.hid (HX5.out.chg hs6 HNB.out)
          clear hr6 hs6
          obtain ⟨gb, Hgb⟩ : ∃ gb, Hid (wr.heap.size = gb) := ⟨_, rfl⟩
          rw [Hgb.out]
          go_wp2_with fail
          go_loopg [17, 16] u' (fun g2 ee hh wq => ∃ h : Nat, g2 = h ∧ ee = .int .i64 ((uni t1 h).1 : Nat) ∧ hh = .int .i64 (h : Nat) ∧ h < 16 ∧ uHead t1 h = uHead t1 u' ∧ UR w0 (.slice (some ⟨b, ob, none⟩) cs.length cA) (.slice (some ⟨g, off, none⟩) cs.length cg) cs wq (lay cs (updL live' k u') (k + 1) (uni t1 h).2) ∧ Chg (fun k => (Value.slice (some ⟨g, off, none⟩) cs.length cg).ownBlock = some k) w wq ∧ UBox wq gb ⟨13, an, cb, 0⟩)
          case atStart => exact ⟨u', rfl, rfl, rfl, hu', rfl, H6.out, HS6.out, by rw [← Hgb.out]; exact HX6.out⟩
          case round =>
            obtain ⟨h, hg2e, rfl, rfl, hh16, hhd, hrq, hsq, hxq⟩ := hrel
            have Hg2 := Lib.hid hg2e
            have HHD := Lib.hid hhd
            have HRQ := Lib.hid hrq
            have HSQ := Lib.hid hsq
            have HXQ := Lib.hid hxq
            clear hg2e hhd hrq hsq hxq H6 HS6 HX6
            obtain ⟨m, Hm⟩ : ∃ m, Hid ((uni t1 h).1 = m) := ⟨_, rfl⟩
            have hm16 : m < 16 := by rw [← Hm.out]; exact uni_lt t1 h Hok.out.2.2.1 hh16
            rw [Hm.out]
            obtain ⟨x, Hx⟩ : ∃ x, Hid (uTurn t1 h = x) := ⟨_, rfl⟩
            have hand1 : bits .and .i64 (m : Int) (h : Int) = (x : Int) := by rw [and16 hm16 hh16, Nat.and_comm, ← Hm.out]; exact congrArg _ Hx.out
            have hand2 : bits .and .i64 (h : Int) (m : Int) = (x : Int) := by rw [and16 hh16 hm16, ← Hm.out]; exact congrArg _ Hx.out
            have hxle : x ≤ h := by rw [← Hx.out]; exact uTurn_le t1 h
            by_cases hxh : x = h
            · subst hxh
              have hne : ((x : Int) != (x : Int)) = false := by simp
              have hfix : uHead t1 u' = x := by rw [← HHD.out]; exact uHead_stop Hx.out
              have HFIX := Lib.hid hfix
              obtain ⟨y0, y1, y2, y3⟩ := HXQ.out
              have hbyq := HXQ.out.lt
              simp only at y0 y1 y2 y3
              clear hfix
              have hnn := digit_nonneg x an
              have hbit := digit_eq0 x an
              have HUI : Hid (uLoop (an : Int) t1 u' = if x.testBit an then x else del u' (writ t1)) := Lib.hid (by unfold uLoop; rw [Int.toNat_natCast, HFIX.out])
              obtain ⟨D, HD⟩ : ∃ D, Hid (x.testBit an = D) := ⟨_, rfl⟩
              rw [HD.out] at hbit HUI
              cases D
              · have hbit' : (((x : Int) / 2 ^ an) % 2 == 0) = true := hbit
                have hwr : wrTo cs (k + 1) t1.len = writ t1 := wrTo_tree t1 _ Hseg.out.loop.2.1
                obtain ⟨q, Hq⟩ : ∃ q, Hid (writ t1 = q) := ⟨_, rfl⟩
                have hq16 : q < 16 := by rw [← Hq.out]; exact writ_lt t1 Hok.out.2.2.1
                rw [Hq.out] at hwr
                have HWR := Lib.hid hwr
                obtain ⟨v, Hv⟩ : ∃ v, Hid (del u' q = v) := ⟨_, rfl⟩
                have hdel : bits .andNot .i64 (u' : Int) (q : Int) = (v : Int) := by rw [not16 hu' hq16]; exact congrArg _ Hv.out
                have HV16 : Hid (v < 16) := Lib.hid (by rw [← Hv.out]; exact del_lt' hu')
                have HUI2 : Hid (uLoop (an : Int) t1 u' = v) := Lib.hid (by rw [HUI.out, Hq.out, Hv.out]; rfl)
                clear hbit hwr
                go_wp2_with fail
                refine (swritten_any _ cs (k + 1) t1.len _ _ _ (HRQ.out.codes.keep HRQ.out.pure) HV.out.1 (by have := Hen.out; omega) (by omega) (by omega) (by have := Hen.out; omega)).mono ?_
                rintro e w7 ⟨rfl, hp7⟩
                rw [HWR.out]
                have HP7 := Lib.hid hp7
                clear hp7
                go_wp2_with fail
                go_roundg tk.len
                case measure => have := Hgk.out; have := HL.out; omega
                case rel =>
                  exact ⟨tk, en + 1, v, _, rfl, by have := Hto.out; have := HL.out; have := Hen.out; omega, by have := Htl.out; have := HL.out; omega, by go_num, rfl, HV16.out, Hok.out.2.2.2, by rw [← Hen.out]; exact Hseg.out.loop.2.2.2.2, HRQ.out.keep HP7.out, HSQ.out.trans (Chg.of_pure HP7.out), by rw [← HN1.out, uni_loop, HUI2.out], by rw [← HN2.out, uni_loop, HUI2.out, lay_loop Hseg.out (uni_len t1 _), Hen.out, HFIX.out]⟩
              · have hbit' : (((x : Int) / 2 ^ an) % 2 == 0) = false := hbit
                have HUI2 : Hid (uLoop (an : Int) t1 u' = x) := Lib.hid (by rw [HUI.out]; rfl)
                clear hbit
                go_wp2_with fail
                go_roundg tk.len
                case measure => have := Hgk.out; have := HL.out; omega
                case rel =>
                  exact ⟨tk, en + 1, x, _, rfl, by have := Hto.out; have := HL.out; have := Hen.out; omega, by have := Htl.out; have := HL.out; omega, by go_num, rfl, hh16, Hok.out.2.2.2, by rw [← Hen.out]; exact Hseg.out.loop.2.2.2.2, HRQ.out, HSQ.out, by rw [← HN1.out, uni_loop, HUI2.out], by rw [← HN2.out, uni_loop, HUI2.out, lay_loop Hseg.out (uni_len t1 _), Hen.out, HFIX.out]⟩
            · have hne : ((x : Int) != (h : Int)) = true := by rw [bne_iff_ne]; omega
              have hx16 : x < 16 := by omega
              have hlt2 : x < h := by omega
              clear hxh
              go_wp2_with fail
              refine (HIH.out t1 (k + 1) x _ _ _ _ (by have := HL.out; have := HSZ.out; have := Htl.out; omega) Hok.out.2.2.1 Hseg.out.loop.2.1 (by have := Hen.out; omega) hx16 HRQ.out (by omega) (by have := Hen.out; omega)).mono ?_
              rintro e w7 ⟨rfl, hr7, hs7⟩
              rw [lay_lay cs _ _ (by rw [uni_len, uni_len])] at hr7
              have H7 := Lib.hid hr7
              have HS7 := Lib.hid (HSQ.out.trans hs7)
              have HX7 := Lib.hid (HXQ.out.chg hs7 (by rw [← Hgb.out]; exact HNB.out))
              clear hr7 hs7
              go_wp2_with fail
              go_roundg x
              case measure => have := Hg2.out; omega
              case rel => exact ⟨x, rfl, rfl, rfl, hx16, by rw [← Hx.out, uHead_turn t1 hh16, HHD.out], H7.out, HS7.out, HX7.out⟩

end Go.Proofs.Ythocmmhhhiikpaa

namespace Go.Proofs.Ythocmmhhhiikpaa
open Go.RowKit

/-- The table under way, with the object that the program keeps. -/
structure UI (w0 : World) (vl va vn vo : Value) (p : Nat) (cs : List Cd) (w : World) (live : Nat → Nat) : Prop where
  ur : UR w0 vl vo cs w live
  tabs : Tabs w0 va vn cs
  lo : w0.heap.size ≤ p
  o0 : w.cell? ⟨p, 0, none⟩ = some vl
  o1 : w.cell? ⟨p, 1, none⟩ = some vn
  o2 : w.cell? ⟨p, 2, none⟩ = some vo
  ne : ¬ vo.ownBlock = some p
section
variable {w0 w w' : World} {vl va vn vo : Value} {p : Nat} {cs : List Cd} {live : Nat → Nat}
theorem UI.lt (h : UI w0 vl va vn vo p cs w live) : p < w.heap.size := World.block_lt_of_cell? _ _ h.o0
theorem UI.keep (h : UI w0 vl va vn vo p cs w live) (hp : Pure w w') : UI w0 vl va vn vo p cs w' live :=
  ⟨h.ur.keep hp, h.tabs, h.lo, (hp.cell _ _ h.lt).trans h.o0, (hp.cell _ _ h.lt).trans h.o1, (hp.cell _ _ h.lt).trans h.o2, h.ne⟩
theorem UI.put {g off c k v : Nat} (h : UI w0 vl va vn (.slice (some ⟨g, off, none⟩) cs.length c) p cs w live) (hk : k < cs.length) :
    UI w0 vl va vn (.slice (some ⟨g, off, none⟩) cs.length c) p cs (w.setCell ⟨g, off + k, none⟩ (.int .i64 (v : Nat))) (updL live k v) := by
  have hc : Chg (fun k => (Value.slice (some ⟨g, off, none⟩) cs.length c).ownBlock = some k) w (w.setCell ⟨g, off + k, none⟩ (.int .i64 (v : Nat))) := Chg.of_set w g _ _ (by rfl)
  exact ⟨h.ur.put hk, h.tabs, h.lo, (hc.cell h.lt h.ne).trans h.o0, (hc.cell h.lt h.ne).trans h.o1, (hc.cell h.lt h.ne).trans h.o2, h.ne⟩
end

set_option maxHeartbeats 1000000 in
theorem iwritin_any (w0 : World) (vl va vn vo : Value) (p : Nat) (cs : List Cd) (live : Nat → Nat) (i n : Nat) (w : World) (fr to : Int) (h : UI w0 vl va vn vo p cs w live) (hv : ∀ c ∈ cs, CdOk c) (hn0 : 0 < n) (hn : i + n ≤ cs.length) (hs : cs.length ≤ 64) (hfr : fr = (i : Nat)) (hto : to = ((i + n : Nat) : Int)) :
    Calls Try.prog 93 #[.pointer (some ⟨p, 0, none⟩), .int .i64 fr, .int .i64 to] w fun e w' => e = .returned (.int .i64 (wrTo cs i n : Nat)) ∧ Pure w w' := by
  have H := Lib.hid h
  have HV := Lib.hid hv
  obtain ⟨A, cA, rfl, hnc, hcm⟩ := h.ur.codes.form
  obtain ⟨b, o, rfl, hb, _⟩ := h.ur.codes.at_ (k := i) (by omega)
  have hbw : b < w.heap.size := Nat.lt_of_lt_of_le hb h.ur.pure.size
  have q0 := h.o0
  obtain ⟨en, Hen⟩ : ∃ en, Hid (i + n = en) := ⟨_, rfl⟩
  subst hfr hto
  rw [Hen.out]
  have hie : i < en := by have := Hen.out; omega
  have hel : en ≤ cs.length := by have := Hen.out; omega
  have hz1 : ¬ ((cA : Int) - (i : Int) = 0) := by omega
  have hz2 : ¬ (cA - i = 0) := by omega
  have hz3 : ¬ (cA = i) := by omega
  have hz4 : ¬ ((cA : Int) = (i : Int)) := by omega
  clear h hv
  go_enter Try.func93, Try.ntmps93
  go_wp2_with fail
  go_loopg [18, 7] n (fun gk kk s wr => ∃ j : Nat, gk + j = n ∧ kk = .int .i64 (j : Nat) ∧ s = .int .i64 (wrTo cs i j : Nat) ∧ Pure w wr)
  case atStart => exact ⟨0, rfl, rfl, rfl, Pure.refl _⟩
  case round =>
    obtain ⟨j, hgk, rfl, rfl, hp⟩ := hrel
    have Hgk := Lib.hid hgk
    have hjn : j ≤ n := by omega
    clear hgk
    by_cases hj : j < n
    · obtain ⟨b2, o2, hbe, _, hc⟩ := H.out.ur.codes.at_ (k := i + j) (by omega)
      injection hbe with hbe
      injection hbe with e1 e2
      subst e1 e2
      obtain ⟨cd, Hcd⟩ : ∃ cd, Hid (cs.getD (i + j) default = cd) := ⟨_, rfl⟩
      rw [Hcd.out] at hc
      have hok : CdOk cd := by rw [← Hcd.out]; exact HV.out _ (cdOk_mem (by omega))
      have HOK := Lib.hid hok
      rw [show o + (i + j) * 4 = o + i * 4 + j * 4 by omega] at hc
      obtain ⟨q0', q1, q2, q3⟩ := hc.keep (H.out.ur.pure.trans hp) hb
      obtain ⟨s, Hs⟩ : ∃ s, Hid (wrTo cs i j = s) := ⟨_, rfl⟩
      rw [Hs.out]
      have hs16 : s < 16 := by rw [← Hs.out]; exact wrTo_lt HV.out i j (by omega)
      obtain ⟨op, ca, cb, cc⟩ := cd
      simp only at q0' q1 q2 q3
      have hx := UBox.new wr ⟨op, ca, cb, cc⟩ (Pure.refl _)
      obtain ⟨y0, y1, y2, y3⟩ := hx.1
      have hpx := Lib.hid (hp.trans hx.2)
      simp only at y0 y1 y2 y3
      obtain ⟨x, Hx⟩ : ∃ x, Hid (wst ⟨op, ca, cb, cc⟩ = x) := ⟨_, rfl⟩
      have hx16 : x < 16 := by rw [← Hx.out]; exact wr_lt hok
      have hnext : wrTo cs i (j + 1) = s ||| x := by
        show wrTo cs i j ||| wst (cs.getD (i + j) default) = _
        rw [Hs.out, Hcd.out, Hx.out]
      have Hnext := Lib.hid hnext
      have hor : bits .or .i64 (s : Int) (x : Int) = ((s ||| x : Nat) : Int) := or16 hs16 hx16
      obtain ⟨z, Hz⟩ : ∃ z, Hid (s ||| x = z) := ⟨_, rfl⟩
      rw [Hz.out] at hor
      have hkn : (j : Int) < (en : Int) - (i : Int) := by have := Hen.out; omega
      clear hnext hc hok hx hp
      go_wp2_with fail
      refine (iwritten_any ⟨op, ca, cb, cc⟩ _ HOK.out).mono ?_
      rintro e w3 ⟨rfl, hp3⟩
      rw [Hx.out]
      have hpp := hpx.out.trans hp3
      go_wp2
      go_roundg (n - (j + 1))
      case measure => have := Hgk.out; omega
      case rel => exact ⟨j + 1, by have := Hgk.out; omega, by go_num, by rw [Hnext.out, Hz.out], hpp⟩
    · have hjl : j = n := by omega
      subst hjl
      have hkn : ¬ ((j : Int) < (en : Int) - (i : Int)) := by have := Hen.out; omega
      go_wp2
      go_ret
      exact ⟨rfl, hp⟩

/-- The contract of the walk, for trees up to a length. -/
def RunU (w0 : World) (vl va vn vo : Value) (p : Nat) (cs : List Cd) (sz : Nat) : Prop :=
  ∀ (t : Tr) (i u : Nat) (live : Nat → Nat) (w : World) (fr to : Int), t.len ≤ sz → t.Ok → Seg cs i t → i + t.len ≤ cs.length → u < 16 →
    UI w0 vl va vn vo p cs w live → fr = (i : Nat) → to = ((i + t.len : Nat) : Int) →
    Calls Try.prog 59 #[.pointer (some ⟨p, 0, none⟩), .int .i64 fr, .int .i64 to, .int .i64 (u : Nat)] w
      fun e w' => e = .returned (.int .i64 ((uni t u).1 : Nat)) ∧ UI w0 vl va vn vo p cs w' (lay cs live i (uni t u).2) ∧ Chg (fun k => vo.ownBlock = some k) w w'

end Go.Proofs.Ythocmmhhhiikpaa
