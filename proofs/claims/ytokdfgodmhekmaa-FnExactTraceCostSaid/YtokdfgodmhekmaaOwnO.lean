/- A slice of the call's own that may begin behind its block's head: read, cut at its front, appended to. No condition. -/
import Derived.Test.YtokdfgodmhekmaaBase
namespace Go.Proofs.Ytokdfgodmhekmaa
open Go.RowKit

def OwnO (w : World) (B e s : Nat) (v : Value) (n : Nat) (xs : List Value) : Prop :=
  xs.length = n * s ∧ ((v = .slice none 0 0 ∧ n = 0) ∨ ∃ g off cap cur, v = .slice (some ⟨g, off, none⟩) n cap ∧ B ≤ g ∧ w.heap[g]? = some (.cells cur e (0, 0)) ∧ n ≤ cap ∧ cap ≤ 9223372036854775807 ∧ off + cap * s ≤ cur.size ∧ ∀ j u, xs[j]? = some u → cur[off + j]? = some u)

section
variable {w w' : World} {B e s n : Nat} {v : Value} {xs : List Value}
theorem OwnO.of_own (h : w.ownsRow B e s v n xs) : OwnO w B e s v n xs := by
  refine ⟨h.1, ?_⟩
  rcases h.2 with h | ⟨g, cap, cur, rfl, h1, h2, h3, h4, h5, h6⟩
  · exact .inl h
  · refine .inr ⟨g, 0, cap, cur, rfl, h1, h2, h3, by unfold maxLen at h4; omega, by omega, fun j u hu => ?_⟩
    rw [← h6, List.getElem?_take] at hu
    split at hu
    · simpa using hu
    · cases hu
theorem OwnO.kept {row : Option Nat} (h : OwnO w B e s v n xs) (hg : w.grownBy w' row) (hne : ∀ g, v.ownBlock = some g → some g ≠ row) : OwnO w' B e s v n xs := by
  refine ⟨h.1, ?_⟩
  rcases h.2 with h | ⟨g, off, cap, cur, rfl, h1, h2, h3⟩
  · exact .inl h
  · exact .inr ⟨g, off, cap, cur, rfl, h1, by rw [hg.block g (Array.getElem?_eq_some_iff.1 h2).1 (hne g rfl)]; exact h2, h3⟩
theorem OwnO.pure (h : OwnO w B e s v n xs) (hp : Pure w w') : OwnO w' B e s v n xs := h.kept (hp.grownBy none) (fun _ _ => by simp)
theorem OwnO.lt (h : OwnO w B e s v n xs) (k : Nat) (hk : v.ownBlock = some k) : B ≤ k ∧ k < w.heap.size := by
  rcases h.2 with ⟨rfl, _⟩ | ⟨g, off, cap, cur, rfl, h1, h2, h3⟩
  · simp [Value.ownBlock] at hk
  · simp [Value.ownBlock] at hk; subst hk
    exact ⟨h1, (Array.getElem?_eq_some_iff.1 h2).1⟩
theorem OwnO.form (h : OwnO w B e s v n xs) : ∃ A c, v = .slice A n c := by
  rcases h.2 with ⟨rfl, rfl⟩ | ⟨g, off, cap, cur, rfl, _⟩
  · exact ⟨_, _, rfl⟩
  · exact ⟨_, _, rfl⟩
theorem OwnO.formSome (h : OwnO w B e s v n xs) (hn : 0 < n) : ∃ g off c, v = .slice (some ⟨g, off, none⟩) n c ∧ n ≤ c ∧ c ≤ 9223372036854775807 ∧ B ≤ g ∧ g < w.heap.size := by
  rcases h.2 with ⟨rfl, rfl⟩ | ⟨g, off, cap, cur, rfl, h1, h2, h3, h4, _⟩
  · omega
  · exact ⟨_, _, _, rfl, h3, h4, h1, (Array.getElem?_eq_some_iff.1 h2).1⟩
theorem OwnO.cell {g off c : Nat} (h : OwnO w B e s (.slice (some ⟨g, off, none⟩) n c) n xs) (j : Nat) (hj : j < n * s) : w.cell? ⟨g, off + j, none⟩ = xs[j]? := by
  rcases h.2 with ⟨hv, _⟩ | ⟨g', off', cap, cur, hv, h1, h2, h3, h4, h5, h6⟩
  · cases hv
  · injection hv with hv _ hc
    injection hv with hv
    injection hv with e1 e2
    subst e1 e2 hc
    rw [cell_of_row w g _ cur e (0, 0) h2]
    have hl : j < xs.length := by rw [h.1]; exact hj
    rw [List.getElem?_eq_getElem hl]
    exact h6 j _ (List.getElem?_eq_getElem hl)
theorem OwnO.cellSome {g off c : Nat} (h : OwnO w B e s (.slice (some ⟨g, off, none⟩) n c) n xs) (j : Nat) (hj : j < n * s) : ∃ u, w.cell? ⟨g, off + j, none⟩ = some u := by
  rw [h.cell j hj]
  exact ⟨_, List.getElem?_eq_getElem (by rw [h.1]; exact hj)⟩
theorem OwnO.frozen {g off c : Nat} (h : OwnO w B e s (.slice (some ⟨g, off, none⟩) n c) n xs) (j : Nat) : w.frozen? ⟨g, j, none⟩ = false := by
  rcases h.2 with ⟨hv, _⟩ | ⟨g', off', cap, cur, hv, h1, h2, _⟩
  · cases hv
  · injection hv with hv _ hc
    injection hv with hv
    injection hv with e1 e2
    subst e1 e2 hc
    exact frozen_of_row w g _ cur e h2
theorem OwnO.stored {g off c : Nat} (h : OwnO w B e s (.slice (some ⟨g, off, none⟩) n c) n xs) (j : Nat) (u : Value) :
    OwnO (w.setCell ⟨g, off + j, none⟩ u) B e s (.slice (some ⟨g, off, none⟩) n c) n (xs.set j u) := by
  refine ⟨by simpa using h.1, .inr ?_⟩
  rcases h.2 with ⟨hv, _⟩ | ⟨g', off', cap, cur, hv, h1, h2, h3, h4, h5, h6⟩
  · cases hv
  · injection hv with hv _ hc
    injection hv with hv
    injection hv with e1 e2
    subst e1 e2 hc
    refine ⟨g, off, c, _, rfl, h1, heap_setCell_same w g (off + j) cur e u h2, h3, h4, by simpa using h5, fun i v hv => ?_⟩
    rw [List.getElem?_set] at hv
    by_cases hji : j = i
    · subst hji
      rw [if_pos rfl] at hv
      split at hv
      · rename_i hlt
        simp only [Option.some.injEq] at hv
        subst hv
        have : off + j < cur.size := by
          have := Nat.mul_le_mul_right s h3
          have := h.1
          omega
        rw [Array.getElem?_setIfInBounds_self_of_lt this]
      · cases hv
    · rw [if_neg hji] at hv
      rw [Array.getElem?_setIfInBounds_ne (by omega)]
      exact h6 i v hv
theorem OwnO.ne {B' e' s' n' : Nat} {v' : Value} {xs' : List Value} (h : OwnO w B e s v n xs) (h' : OwnO w B' e' s' v' n' xs') (hne : e ≠ e') : ∀ g, v.ownBlock = some g → some g ≠ v'.ownBlock := by
  intro g hg
  rcases h.2 with ⟨rfl, _⟩ | ⟨g1, off, cap, cur, rfl, h1, h2, _⟩
  · simp [Value.ownBlock] at hg
  · simp [Value.ownBlock] at hg; subst hg
    rcases h'.2 with ⟨rfl, _⟩ | ⟨g1', off', cap', cur', rfl, h1', h2', _⟩
    · simp [Value.ownBlock]
    · simp only [Value.ownBlock, ne_eq, Option.some.injEq]
      rintro rfl
      rw [h2] at h2'
      simp only [Option.some.injEq, Obj.cells.injEq] at h2'
      exact hne h2'.2.1
theorem OwnO.alloc (h : OwnO w B e s v n xs) (o : Obj) : OwnO (w.alloc o) B e s v n xs := h.pure (Pure.alloc (Pure.refl _) o)
theorem OwnO.drewN (h : OwnO w B e s v n xs) (k : Nat) : OwnO (w.drewN k) B e s v n xs := h.pure (Pure.drewN (Pure.refl _) k)
theorem OwnO.lit (w : World) (cs : Array Value) (n : Nat) (hB : B ≤ w.heap.size) (hn : n ≤ 9223372036854775807) (hs : cs.size = n * s) : OwnO (w.alloc (.cells cs e)) B e s (.slice (some ⟨w.heap.size, 0, none⟩) n n) n cs.toList :=
  OwnO.of_own (World.ownsRow_lit (e := e) w cs n hB (by unfold maxLen; omega) hs)
theorem OwnO.empty_lit {w : World} {B e s : Nat} (hB : B ≤ w.heap.size) : OwnO (w.alloc (.cells #[] e)) B e s (.slice (some ⟨w.heap.size, 0, none⟩) 0 0) 0 [] :=
  OwnO.lit w #[] 0 hB (by omega) (by simp)
theorem Cells.of_ownO {f : Nat → Value} (h : OwnO w B e s v n xs) (hf : ∀ j, j < n * s → xs[j]? = some (f j)) : Cells w v n s f := by
  rcases h.2 with ⟨rfl, rfl⟩ | ⟨g, off, cap, cur, rfl, h1, h2, h3, h4, h5, h6⟩
  · exact ⟨none, 0, rfl, Nat.le_refl _, by omega, fun h => absurd h (by omega)⟩
  · exact ⟨_, cap, rfl, h3, h4, fun hn => ⟨g, off, rfl, (Array.getElem?_eq_some_iff.1 h2).1, fun j hj => by rw [h.cell j hj]; exact hf j hj⟩⟩
theorem OwnO.take {g off c : Nat} (h : OwnO w B e s (.slice (some ⟨g, off, none⟩) n c) n xs) {k : Nat} (hk : k ≤ n) :
    OwnO w B e s (.slice (some ⟨g, off, none⟩) k c) k (xs.take (k * s)) := by
  have hle := Nat.mul_le_mul_right s hk
  refine ⟨by rw [List.length_take, h.1]; omega, .inr ?_⟩
  rcases h.2 with ⟨hv, _⟩ | ⟨g', off', cap, cur, hv, h1, h2, h3, h4, h5, h6⟩
  · cases hv
  · injection hv with hv _ hc
    injection hv with hv
    injection hv with e1 e2
    subst e1 e2 hc
    refine ⟨g, off, c, cur, rfl, h1, h2, by omega, h4, h5, fun j u hu => ?_⟩
    rw [List.getElem?_take] at hu
    split at hu
    · exact h6 j u hu
    · cases hu
theorem OwnO.drop {g off c : Nat} (h : OwnO w B e s (.slice (some ⟨g, off, none⟩) n c) n xs) {k : Nat} (hk : k ≤ n) :
    OwnO w B e s (.slice (some (if c = k then ⟨g, off, none⟩ else ⟨g, off + k * s, none⟩)) (n - k) (c - k)) (n - k) (xs.drop (k * s)) := by
  refine ⟨by rw [List.length_drop, h.1, Nat.sub_mul], .inr ?_⟩
  rcases h.2 with ⟨hv, _⟩ | ⟨g', off', cap, cur, hv, h1, h2, h3, h4, h5, h6⟩
  · cases hv
  · injection hv with hv _ hc
    injection hv with hv
    injection hv with e1 e2
    subst e1 e2 hc
    by_cases hck : c = k
    · refine ⟨g, off, c - k, cur, by rw [if_pos hck], h1, h2, by omega, by omega, by rw [hck, Nat.sub_self]; omega, fun j u hu => ?_⟩
      rw [List.getElem?_drop, List.getElem?_eq_none (by rw [h.1]; have := Nat.mul_le_mul_right s h3; rw [hck] at this; omega)] at hu
      cases hu
    · refine ⟨g, off + k * s, c - k, cur, by rw [if_neg hck], h1, h2, by omega, by omega, ?_, fun j u hu => ?_⟩
      · have : k * s + (c - k) * s = c * s := by rw [← Nat.add_mul, Nat.add_sub_cancel' (by omega)]
        omega
      · rw [List.getElem?_drop] at hu
        rw [Nat.add_assoc]
        exact h6 _ u hu
end

section
variable {P : Program} {t e : TypeId} {s : Nat} {z : List Value} {bytes : Nat}
theorem heap_setCells_same (g : Nat) : ∀ (vs : List Value) (o : Nat) (w : World) (cur : Array Value) (t : TypeId), w.heap[g]? = some (.cells cur t (0, 0)) → o + vs.length ≤ cur.size →
    ∃ cur', (w.setCells g o vs).heap[g]? = some (.cells cur' t (0, 0)) ∧ cur'.size = cur.size ∧ (∀ j, j < o → cur'[j]? = cur[j]?) ∧ ∀ j u, vs[j]? = some u → cur'[o + j]? = some u
  | [], o, w, cur, t, h, _ => ⟨cur, h, rfl, fun _ _ => rfl, fun j u hu => by simp at hu⟩
  | v :: r, o, w, cur, t, h, hl => by
    simp only [List.length_cons] at hl
    have h1 := heap_setCell_same w g o cur t v h
    obtain ⟨cur', a1, a2, a3, a4⟩ := heap_setCells_same g r (o + 1) _ _ t h1 (by simp; omega)
    refine ⟨cur', a1, by rw [a2]; simp, fun j hj => ?_, fun j u hu => ?_⟩
    · rw [a3 j (by omega)]
      rw [Array.getElem?_setIfInBounds_ne (by omega)]
    · cases j with
      | zero =>
        simp at hu; subst hu
        rw [Nat.add_zero, a3 o (by omega)]
        simp [Array.getElem?_setIfInBounds_self_of_lt (show o < cur.size by omega)]
      | succ j =>
        have := a4 j u (by simpa using hu)
        rwa [show o + 1 + j = o + (j + 1) by omega] at this

theorem grown_setCells (g : Nat) : ∀ (vs : List Value) (o : Nat) (w : World), w.grownBy (w.setCells g o vs) (some g)
  | [], _, w => ⟨rfl, rfl, rfl, Nat.le_refl _, fun _ _ _ => rfl⟩
  | v :: r, o, w => by
    have h1 := grown_setCell w ⟨g, o, none⟩ v
    have h2 := grown_setCells g r (o + 1) (w.setCell ⟨g, o, none⟩ v)
    exact ⟨h2.os.trans h1.os, h2.tape.trans h1.tape, h2.output.trans h1.output, Nat.le_trans h1.size h2.size, fun k hk hne => (h2.block k (Nat.lt_of_lt_of_le hk h1.size) hne).trans (h1.block k hk hne)⟩

theorem wl_appendO (E : ElT P t e s z bytes) {w : World} {ops : Array Oper} {rest : List Oper} {o : Oper} {a : Act} {Q : Exit → Act → World → Prop}
    (hgd : o.guard = none) (sl x : Operand) (ho : o.op = .call { callee := .builtin .append, args := #[sl, x], argTypes := #[t, t] })
    (B : Nat) (v : Value) (n : Nat) (xs : List Value) (hs : a.eval sl = v) (hown : OwnO w B e s v n xs)
    (b m c : Nat) (news : List Value) (hx : a.eval x = .slice (some ⟨b, 0, none⟩) m c) (hl : news.length = m * s) (hnews : ∀ j u, news[j]? = some u → w.cell? ⟨b, j, none⟩ = some u) (h1 : ∀ u ∈ news, u.oneCell' = true)
    (hbytes : (n + m) * bytes ≤ 140737488355328) (h63 : n + m ≤ 9223372036854775807) (hB : B ≤ w.heap.size)
    (h : ∀ v' w', OwnO w' B e s v' (n + m) (xs ++ news) → w.grownBy w' v.ownBlock → wpList P ops Q rest (a.put o.dst v') w') : wpList P ops Q (o :: rest) a w := by
  obtain ⟨i, zv, h2, h3, h4, h5, h6, h7⟩ := E.parts
  rcases hown.2 with ⟨rfl, rfl⟩ | ⟨g, off, cap, cur, rfl, q1, q2, q3, q4, q5, q6⟩
  · have hx0 : xs = [] := List.eq_nil_of_length_eq_zero (by simpa using hown.1)
    subst hx0
    exact wl_append E hgd sl x ho B _ 0 [] hs (World.ownsRow_nil w B e s) b m c news hx hl hnews h1 hbytes h63 hB fun v' w' r1 r2 => h v' w' (OwnO.of_own r1) r2
  · have hcell : ∀ j u, cur[j]? = some u → w.cell? ⟨g, j, none⟩ = some u := fun j u hu => by rw [cell_of_row w g _ cur e (0, 0) q2]; exact hu
    refine wpList_append_arg w hgd sl x t ho e i zv s bytes E.ht h2 h3 h4 h5 (by rw [h6]; simpa using h7) E.hs g off n cap xs hs hown.1 (fun j u hu => hcell _ _ (q6 j u hu)) ⟨b, 0, none⟩ m c news hx hl
      (fun j u hu => by rw [Addr.add_lit]; simpa using hnews j u hu) h1 (fun hr j hj => ?_) (by unfold maxLen; omega) hbytes (fun hr => ?_) (fun hg v' w' r1 r2 => ?_)
    · have hlt : off + n * s + j < cur.size := by
        have : n * s + m * s ≤ cap * s := by rw [← Nat.add_mul]; exact Nat.mul_le_mul_right s hr
        omega
      exact ⟨by rw [hcell _ _ (Array.getElem?_eq_getElem hlt)]; rfl, frozen_of_row w g _ cur e q2⟩
    · have hle : off + n * s + news.length ≤ cur.size := by
        have : n * s + m * s ≤ cap * s := by rw [← Nat.add_mul]; exact Nat.mul_le_mul_right s hr
        omega
      obtain ⟨cur', a1, a2, a3, a4⟩ := heap_setCells_same g news (off + n * s) w cur e q2 hle
      refine h _ _ ⟨by rw [List.length_append, hown.1, hl, Nat.add_mul], .inr ⟨g, off, cap, cur', rfl, q1, a1, hr, q4, by omega, fun j u hu => ?_⟩⟩ (grown_setCells g news _ w)
      rw [List.getElem?_append] at hu
      split at hu
      · rename_i hj
        rw [a3 _ (by rw [hown.1] at hj; omega)]
        exact q6 j u hu
      · rename_i hj
        have := a4 _ u hu
        rwa [show off + n * s + (j - xs.length) = off + j by rw [hown.1] at hj ⊢; omega] at this
    · have r1' := OwnO.of_own r1
      have hw : OwnO w' B e s v' (n + m) (xs ++ news) := by
        refine ⟨r1'.1, ?_⟩
        rcases r1'.2 with h | ⟨g', off', cap', cur', e1, e2, e3⟩
        · exact .inl h
        · exact .inr ⟨g', off', cap', cur', e1, by omega, e3⟩
      exact h v' w' hw ⟨r2.os, r2.tape, r2.output, r2.size, fun k hk _ => r2.block k hk (by simp)⟩
/-- append of one element, just laid in a new block. -/
theorem wl_append1 (E : ElT P t e s z bytes) {w : World} {ops : Array Oper} {rest : List Oper} {o : Oper} {a : Act} {Q : Exit → Act → World → Prop} {et : TypeId}
    (hgd : o.guard = none) (sl x : Operand) (ho : o.op = .call { callee := .builtin .append, args := #[sl, x], argTypes := #[t, t] })
    (B : Nat) (v : Value) (n : Nat) (xs : List Value) (hs : a.eval sl = v) (hown : OwnO w B e s v n xs)
    (b c : Nat) (news : List Value) (hx : a.eval x = .slice (some ⟨b, 0, none⟩) 1 c) (hb : b = w.heap.size) (hl : news.length = s) (h1 : news.all (·.oneCell') = true)
    (hby : bytes ≤ 128) (hn : n + 1 ≤ 1099511627776) (hB : B ≤ w.heap.size)
    (h : ∀ v' w', OwnO w' B e s v' (n + 1) (xs ++ news) → w.grownBy w' v.ownBlock → wpList P ops Q rest (a.put o.dst v') w') : wpList P ops Q (o :: rest) a (w.alloc (.cells news.toArray et)) := by
  subst hb
  refine wl_appendO E hgd sl x ho B v n xs hs (hown.alloc _) w.heap.size 1 c news hx (by omega) (fun j u hu => ?_) (fun u hu => (List.all_eq_true.1 h1) u hu) ?_ (by omega) (Nat.le_trans hB (Pure.alloc (Pure.refl w) _).size)
    (fun v' w' r1 r2 => h v' w' r1 ?_)
  · have := cell_of_row (w.alloc (.cells news.toArray et)) w.heap.size j news.toArray et (0, 0) (heap_alloc_new w _)
    rw [this]
    simpa using hu
  · have := Nat.mul_le_mul hn hby
    omega
  · have h0 := World.grownBy_alloc w (.cells news.toArray et) v.ownBlock
    exact ⟨r2.os.trans h0.os, r2.tape.trans h0.tape, r2.output.trans h0.output, Nat.le_trans h0.size r2.size, fun k hk hne => (r2.block k (Nat.lt_of_lt_of_le hk h0.size) hne).trans (h0.block k hk hne)⟩
end

end Go.Proofs.Ytokdfgodmhekmaa
