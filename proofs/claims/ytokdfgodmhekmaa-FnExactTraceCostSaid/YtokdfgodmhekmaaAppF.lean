/- append, and where the grown slice lies: in the block where it was, or in a new one; from whatever source. No condition. -/
import Derived.Test.YtokdfgodmhekmaaOwnO
import Derived.Maps.AppendAt
namespace Go.Proofs.Ytokdfgodmhekmaa
open Go.RowKit

section
variable {P : Program} {t e : TypeId} {s : Nat} {z : List Value} {bytes : Nat}

/-- Where an append leaves its slice. -/
def Lies (w : World) (v v' : Value) : Prop := ∀ g, v'.ownBlock = some g → v.ownBlock = some g ∨ w.heap.size ≤ g

theorem wl_appendF (E : ElT P t e s z bytes) {w : World} {ops : Array Oper} {rest : List Oper} {o : Oper} {a : Act} {Q : Exit → Act → World → Prop}
    (hgd : o.guard = none) (sl x : Operand) (ho : o.op = .call { callee := .builtin .append, args := #[sl, x], argTypes := #[t, t] })
    (B : Nat) (v : Value) (n : Nat) (xs : List Value) (hs : a.eval sl = v) (hown : OwnO w B e s v n xs)
    (b off m c : Nat) (news : List Value) (hx : a.eval x = .slice (some ⟨b, off, none⟩) m c) (hl : news.length = m * s) (hnews : ∀ j u, news[j]? = some u → w.cell? ⟨b, off + j, none⟩ = some u) (h1 : ∀ u ∈ news, u.oneCell' = true)
    (hbytes : (n + m) * bytes ≤ 140737488355328) (h63 : n + m ≤ 9223372036854775807) (hB : B ≤ w.heap.size)
    (h : ∀ v' w', OwnO w' B e s v' (n + m) (xs ++ news) → w.grownBy w' v.ownBlock → Lies w v v' → wpList P ops Q rest (a.put o.dst v') w') : wpList P ops Q (o :: rest) a w := by
  obtain ⟨i, zv, h2, h3, h4, h5, h6, h7⟩ := E.parts
  have hsrc : ∀ j u, news[j]? = some u → w.cell? ((⟨b, off, none⟩ : Addr).add j) = some u := fun j u hu => by rw [add_mid]; exact hnews j u hu
  rcases hown.2 with ⟨rfl, rfl⟩ | ⟨g, off2, cap, cur, rfl, q1, q2, q3, q4, q5, q6⟩
  · have hx0 : xs = [] := List.eq_nil_of_length_eq_zero (by simpa using hown.1)
    subst hx0
    refine wpList_append_own_at w hgd sl x t ho B e i zv s bytes E.ht h2 h3 h4 h5 (by rw [h6]; simpa using h7) E.hs _ 0 [] hs (World.ownsRow_nil w B e s) ⟨b, off, none⟩ m c news hx hl hsrc h1 (by unfold maxLen; omega) hbytes hB fun v' w' r1 r2 _ r4 => h v' w' (OwnO.of_own r1) r2 fun k hk => ?_
    rcases r4 with r4 | r4
    · rw [r4] at hk; exact .inl hk
    · rw [r4] at hk; injection hk with hk; right; omega
  · have hcell : ∀ j u, cur[j]? = some u → w.cell? ⟨g, j, none⟩ = some u := fun j u hu => by rw [cell_of_row w g _ cur e (0, 0) q2]; exact hu
    refine wpList_append_arg w hgd sl x t ho e i zv s bytes E.ht h2 h3 h4 h5 (by rw [h6]; simpa using h7) E.hs g off2 n cap xs hs hown.1 (fun j u hu => hcell _ _ (q6 j u hu)) ⟨b, off, none⟩ m c news hx hl
      hsrc h1 (fun hr j hj => ?_) (by unfold maxLen; omega) hbytes (fun hr => ?_) (fun hg v' w' r1 r2 => ?_)
    · have hlt : off2 + n * s + j < cur.size := by
        have : n * s + m * s ≤ cap * s := by rw [← Nat.add_mul]; exact Nat.mul_le_mul_right s hr
        omega
      exact ⟨by rw [hcell _ _ (Array.getElem?_eq_getElem hlt)]; rfl, frozen_of_row w g _ cur e q2⟩
    · have hle : off2 + n * s + news.length ≤ cur.size := by
        have : n * s + m * s ≤ cap * s := by rw [← Nat.add_mul]; exact Nat.mul_le_mul_right s hr
        omega
      obtain ⟨cur', a1, a2, a3, a4⟩ := heap_setCells_same g news (off2 + n * s) w cur e q2 hle
      refine h _ _ ⟨by rw [List.length_append, hown.1, hl, Nat.add_mul], .inr ⟨g, off2, cap, cur', rfl, q1, a1, hr, q4, by omega, fun j u hu => ?_⟩⟩ (grown_setCells g news _ w) (fun k hk => .inl hk)
      rw [List.getElem?_append] at hu
      split at hu
      · rename_i hj
        rw [a3 _ (by rw [hown.1] at hj; omega)]
        exact q6 j u hu
      · rename_i hj
        have := a4 _ u hu
        rwa [show off2 + n * s + (j - xs.length) = off2 + j by rw [hown.1] at hj ⊢; omega] at this
    · have r1' := OwnO.of_own r1
      refine h v' w' ⟨r1'.1, ?_⟩ ⟨r2.os, r2.tape, r2.output, r2.size, fun k hk _ => r2.block k hk (by simp)⟩ (fun k hk => .inr (r1'.lt k hk).1)
      rcases r1'.2 with h | ⟨g', off', cap', cur', e1, e2, e3⟩
      · exact .inl h
      · exact .inr ⟨g', off', cap', cur', e1, by omega, e3⟩

/-- append of one element, just laid in a new block; and where the slice lies then. -/
theorem wl_append1F (E : ElT P t e s z bytes) {w : World} {ops : Array Oper} {rest : List Oper} {o : Oper} {a : Act} {Q : Exit → Act → World → Prop} {et : TypeId}
    (hgd : o.guard = none) (sl x : Operand) (ho : o.op = .call { callee := .builtin .append, args := #[sl, x], argTypes := #[t, t] })
    (B : Nat) (v : Value) (n : Nat) (xs : List Value) (hs : a.eval sl = v) (hown : OwnO w B e s v n xs)
    (b c : Nat) (news : List Value) (hx : a.eval x = .slice (some ⟨b, 0, none⟩) 1 c) (hb : b = w.heap.size) (hl : news.length = s) (h1 : news.all (·.oneCell') = true)
    (hby : bytes ≤ 128) (hn : n + 1 ≤ 1099511627776) (hB : B ≤ w.heap.size)
    (h : ∀ v' w', OwnO w' B e s v' (n + 1) (xs ++ news) → w.grownBy w' v.ownBlock → Lies w v v' → wpList P ops Q rest (a.put o.dst v') w') : wpList P ops Q (o :: rest) a (w.alloc (.cells news.toArray et)) := by
  subst hb
  refine wl_appendF E hgd sl x ho B v n xs hs (hown.alloc _) w.heap.size 0 1 c news hx (by omega) (fun j u hu => ?_) (fun u hu => (List.all_eq_true.1 h1) u hu) ?_ (by omega) (Nat.le_trans hB (Pure.alloc (Pure.refl w) _).size)
    (fun v' w' r1 r2 r3 => h v' w' r1 ?_ (fun k hk => (r3 k hk).imp id fun h => Nat.le_trans (Pure.alloc (Pure.refl w) _).size h))
  · have := cell_of_row (w.alloc (.cells news.toArray et)) w.heap.size j news.toArray et (0, 0) (heap_alloc_new w _)
    rw [Nat.zero_add, this]
    simpa using hu
  · have := Nat.mul_le_mul hn hby
    omega
  · have h0 := World.grownBy_alloc w (.cells news.toArray et) v.ownBlock
    exact ⟨r2.os.trans h0.os, r2.tape.trans h0.tape, r2.output.trans h0.output, Nat.le_trans h0.size r2.size, fun k hk hne => (r2.block k (Nat.lt_of_lt_of_le hk h0.size) hne).trans (h0.block k hk hne)⟩

/-- append of all that a slice of the call's own holds (it may be nil) to a new empty one. -/
theorem wl_copyF (E : ElT P t e s z bytes) {w : World} {ops : Array Oper} {rest : List Oper} {o : Oper} {a : Act} {Q : Exit → Act → World → Prop} {et : TypeId}
    (hgd : o.guard = none) (sl x : Operand) (ho : o.op = .call { callee := .builtin .append, args := #[sl, x], argTypes := #[t, t] })
    (b : Nat) (hs : a.eval sl = .slice (some ⟨b, 0, none⟩) 0 0) (hb : b = w.heap.size) (vx : Value) (hx : a.eval x = vx) (f : Nat → Value) (m : Nat) (hc : Cells w vx m s f) (h1 : ∀ j, j < m * s → (f j).oneCell' = true)
    (hby : bytes ≤ 128) (hn : m ≤ 1099511627776) (het : et = e)
    (h : ∀ v' w', OwnO w' w.heap.size e s v' m ((List.range (m * s)).map f) → Pure w w' → wpList P ops Q rest (a.put o.dst v') w') : wpList P ops Q (o :: rest) a (w.alloc (.cells #[] et)) := by
  subst hb het
  have hE : OwnO (w.alloc (.cells #[] et)) w.heap.size et s (.slice (some ⟨w.heap.size, 0, none⟩) 0 0) 0 [] := OwnO.empty_lit (Nat.le_refl _)
  obtain ⟨A, c, rfl, hmc, hcm, hrd⟩ := hc
  have hp0 : Pure w (w.alloc (.cells #[] et)) := Pure.alloc (Pure.refl _) _
  rcases A with _ | ⟨b, off, sp⟩
  · have hm0 : m = 0 := by
      rcases Nat.eq_zero_or_pos m with h0 | h0
      · exact h0
      · obtain ⟨_, _, h, _⟩ := hrd h0; cases h
    subst hm0
    obtain ⟨i, zv, h2, h3, h4, h5, h6, h7⟩ := E.parts
    refine wpList_plain hgd fun K hK' => ?_
    have hrun : (Builtin.append_ #[t, t] o.type #[.slice (some ⟨w.heap.size, 0, none⟩) 0 0, .slice none 0 c]).run P (w.alloc (.cells #[] et)) = .ok (.slice (some ⟨w.heap.size, 0, none⟩) 0 0) (w.alloc (.cells #[] et)) := by
      simp [Builtin.append_, run_underlying E.ht, sizeOf, typeInfo, h2, Builtin.lenOf, Builtin.firstCells, storeCells]
    unfold Oper.wp execOp
    simp only [ho, resolve, invoke, builtin, Sem.run_bind, Sem.run_pure, Result.andThen_ok, List.map_toArray, List.map_cons, List.map_nil, hs, hx, hrun]
    exact hK' _ _ (h _ _ (by simpa using hE) hp0)
  · rcases Nat.eq_zero_or_pos m with h0 | h0
    · subst h0
      obtain ⟨i, zv, h2, h3, h4, h5, h6, h7⟩ := E.parts
      refine wpList_plain hgd fun K hK' => ?_
      have hrun : (Builtin.append_ #[t, t] o.type #[.slice (some ⟨w.heap.size, 0, none⟩) 0 0, .slice (some ⟨b, off, sp⟩) 0 c]).run P (w.alloc (.cells #[] et)) = .ok (.slice (some ⟨w.heap.size, 0, none⟩) 0 0) (w.alloc (.cells #[] et)) := by
        simp [Builtin.append_, run_underlying E.ht, sizeOf, typeInfo, h2, Builtin.lenOf, Builtin.firstCells, storeCells, loadCells, loadCellsFrom]
      unfold Oper.wp execOp
      simp only [ho, resolve, invoke, builtin, Sem.run_bind, Sem.run_pure, Result.andThen_ok, List.map_toArray, List.map_cons, List.map_nil, hs, hx, hrun]
      exact hK' _ _ (h _ _ (by simpa using hE) hp0)
    · obtain ⟨b', o', he, hbl, hcc⟩ := hrd h0
      injection he with he
      injection he with e1 e2 e3
      subst e1 e2 e3
      have hmul : m * bytes ≤ 1099511627776 * 128 := Nat.mul_le_mul hn hby
      refine wl_appendF E hgd sl x ho w.heap.size _ 0 [] hs hE b off m c ((List.range (m * s)).map f) hx (by simp) (fun j u hu => ?_) (fun u hu => ?_) (by rw [Nat.zero_add]; omega) (by omega) hp0.size
        (fun v' w' r1 r2 r3 => h v' w' (by simpa using r1) (hp0.grown r2 (fun k hk => by simp [Value.ownBlock] at hk; omega)))
      · rw [hp0.cell b (off + j) hbl]
        have hj : j < m * s := by
          rcases Nat.lt_or_ge j (m * s) with h | h
          · exact h
          · rw [List.getElem?_eq_none (by simpa using h)] at hu; cases hu
        rw [hcc j hj, ← hu]
        simp [hj]
      · obtain ⟨j, hj, rfl⟩ := List.mem_map.1 hu
        exact h1 j (by simpa using hj)
end
end Go.Proofs.Ytokdfgodmhekmaa
