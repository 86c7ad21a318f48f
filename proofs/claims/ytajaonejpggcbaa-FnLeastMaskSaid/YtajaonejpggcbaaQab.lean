/- append, and where the grown slice lies: in the block where it was, or in a new one; from whatever source. The state of the program's search for blocks, and how each step of it turns the state. How each step of the program's search for blocks turns its state. No condition. -/
import Derived.Maps.AppendAt
import Derived.Test.YtajaonejpggcbaaQaa

namespace Go.Proofs.Ytajaonejpggcbaa
open Go.RowKit

section
variable {P : Program} {t e : TypeId} {s : Nat} {z : List Value} {bytes : Nat}

/-- Where an append leaves its slice. -/
def Lies (w : World) (v v' : Value) : Prop := ∀ g, v'.ownBlock = some g → v.ownBlock = some g ∨ w.heap.size ≤ g

theorem wl_appendF (E : ElT P t e s z bytes) {w : World} {ops : Array Oper} {rest : List Oper} {o : Oper} {a : Act} {Q : Exit → Act → World → Prop}
    (hgd : o.guard = none) (sl x : Operand) (ho : o.op = .call { callee := .builtin .append, args := #[sl, x], argTypes := #[t, t] })
    (B : Nat) (v : Value) (n : Nat) (xs : List Value) (hs : a.eval sl = v) (hown : OwnO w B e s v n xs)
    (b off m c : Nat) (news : List Value) (hx : a.eval x = .slice (some ⟨b, off, none⟩) m c) (hl : news.length = m * s) (hnews : ∀ j u, news[j]? = some u → w.cell? ⟨b, off + j, none⟩ = some u) (h1 : ∀ u ∈ news, u.oneCell' = true)
    (hbytes : (n + m) * bytes ≤ 140737488355328) (h63 : n + m ≤ 9223372036854775807) (hB : B ≤ w.heap.size)
    (h : ∀ v' w', OwnO w' B e s v' (n + m) (xs ++ news) → w.grownBy w' v.ownBlock → Lies w v v' → wpList P ops Q rest (a.put o.dst v') w') : wpList P ops Q (o :: rest) a w := by
  obtain ⟨i, zv, h2, h3, h4, h5, h6, h7⟩ := E.parts
  have hsrc : ∀ j u, news[j]? = some u → w.cell? ((⟨b, off, none⟩ : Addr).add j) = some u := fun j u hu => by rw [add_mid]; exact hnews j u hu
  rcases hown.2 with ⟨rfl, rfl⟩ | ⟨g, off2, cap, cur, rfl, q1, q2, q3, q4, q5, q6⟩
  · have hx0 : xs = [] := List.eq_nil_of_length_eq_zero (by simpa using hown.1)
    subst hx0
    refine wpList_append_own_at w hgd sl x t ho B e i zv s bytes E.ht h2 h3 h4 h5 (by rw [h6]; simpa using h7) E.hs _ 0 [] hs (World.ownsRow_nil w B e s) ⟨b, off, none⟩ m c news hx hl hsrc h1 (by unfold maxLen; omega) hbytes hB fun v' w' r1 r2 _ r4 => h v' w' (OwnO.of_own r1) r2 fun k hk => ?_
    rcases r4 with r4 | r4
    · rw [r4] at hk; exact .inl hk
    · rw [r4] at hk; injection hk with hk; right; omega
  · have hcell : ∀ j u, cur[j]? = some u → w.cell? ⟨g, j, none⟩ = some u := fun j u hu => by rw [cell_of_row w g _ cur e (0, 0) q2]; exact hu
    refine wpList_append_arg w hgd sl x t ho e i zv s bytes E.ht h2 h3 h4 h5 (by rw [h6]; simpa using h7) E.hs g off2 n cap xs hs hown.1 (fun j u hu => hcell _ _ (q6 j u hu)) ⟨b, off, none⟩ m c news hx hl
      hsrc h1 (fun hr j hj => ?_) (by unfold maxLen; omega) hbytes (fun hr => ?_) (fun hg v' w' r1 r2 => ?_)
    · have hlt : off2 + n * s + j < cur.size := by
        have : n * s + m * s ≤ cap * s := by rw [← Nat.add_mul]; exact Nat.mul_le_mul_right s hr
        omega
      exact ⟨by rw [hcell _ _ (Array.getElem?_eq_getElem hlt)]; rfl, frozen_of_row w g _ cur e q2⟩
    · have hle : off2 + n * s + news.length ≤ cur.size := by
        have : n * s + m * s ≤ cap * s := by rw [← Nat.add_mul]; exact Nat.mul_le_mul_right s hr
        omega
      obtain ⟨cur', a1, a2, a3, a4⟩ := heap_setCells_same g news (off2 + n * s) w cur e q2 hle
      refine h _ _ ⟨by rw [List.length_append, hown.1, hl, Nat.add_mul], .inr ⟨g, off2, cap, cur', rfl, q1, a1, hr, q4, by omega, fun j u hu => ?_⟩⟩ (grown_setCells g news _ w) (fun k hk => .inl hk)
      rw [List.getElem?_append] at hu
      split at hu
      · rename_i hj
        rw [a3 _ (by rw [hown.1] at hj; omega)]
        exact q6 j u hu
      · rename_i hj
        have := a4 _ u hu
        rwa [show off2 + n * s + (j - xs.length) = off2 + j by rw [hown.1] at hj ⊢; omega] at this
    · have r1' := OwnO.of_own r1
      refine h v' w' ⟨r1'.1, ?_⟩ ⟨r2.os, r2.tape, r2.output, r2.size, fun k hk _ => r2.block k hk (by simp)⟩ (fun k hk => .inr (r1'.lt k hk).1)
      rcases r1'.2 with h | ⟨g', off', cap', cur', e1, e2, e3⟩
      · exact .inl h
      · exact .inr ⟨g', off', cap', cur', e1, by omega, e3⟩

/-- append of one element, just laid in a new block; and where the slice lies then. -/
theorem wl_append1F (E : ElT P t e s z bytes) {w : World} {ops : Array Oper} {rest : List Oper} {o : Oper} {a : Act} {Q : Exit → Act → World → Prop} {et : TypeId}
    (hgd : o.guard = none) (sl x : Operand) (ho : o.op = .call { callee := .builtin .append, args := #[sl, x], argTypes := #[t, t] })
    (B : Nat) (v : Value) (n : Nat) (xs : List Value) (hs : a.eval sl = v) (hown : OwnO w B e s v n xs)
    (b c : Nat) (news : List Value) (hx : a.eval x = .slice (some ⟨b, 0, none⟩) 1 c) (hb : b = w.heap.size) (hl : news.length = s) (h1 : news.all (·.oneCell') = true)
    (hby : bytes ≤ 128) (hn : n + 1 ≤ 1099511627776) (hB : B ≤ w.heap.size)
    (h : ∀ v' w', OwnO w' B e s v' (n + 1) (xs ++ news) → w.grownBy w' v.ownBlock → Lies w v v' → wpList P ops Q rest (a.put o.dst v') w') : wpList P ops Q (o :: rest) a (w.alloc (.cells news.toArray et)) := by
  subst hb
  refine wl_appendF E hgd sl x ho B v n xs hs (hown.alloc _) w.heap.size 0 1 c news hx (by omega) (fun j u hu => ?_) (fun u hu => (List.all_eq_true.1 h1) u hu) ?_ (by omega) (Nat.le_trans hB (Pure.alloc (Pure.refl w) _).size)
    (fun v' w' r1 r2 r3 => h v' w' r1 ?_ (fun k hk => (r3 k hk).imp id fun h => Nat.le_trans (Pure.alloc (Pure.refl w) _).size h))
  · have := cell_of_row (w.alloc (.cells news.toArray et)) w.heap.size j news.toArray et (0, 0) (heap_alloc_new w _)
    rw [Nat.zero_add, this]
    simpa using hu
  · have := Nat.mul_le_mul hn hby
    omega
  · have h0 := World.grownBy_alloc w (.cells news.toArray et) v.ownBlock
    exact ⟨r2.os.trans h0.os, r2.tape.trans h0.tape, r2.output.trans h0.output, Nat.le_trans h0.size r2.size, fun k hk hne => (r2.block k (Nat.lt_of_lt_of_le hk h0.size) hne).trans (h0.block k hk hne)⟩

/-- append of all that a slice of the call's own holds (it may be nil) to a new empty one. -/
theorem wl_copyF (E : ElT P t e s z bytes) {w : World} {ops : Array Oper} {rest : List Oper} {o : Oper} {a : Act} {Q : Exit → Act → World → Prop} {et : TypeId}
    (hgd : o.guard = none) (sl x : Operand) (ho : o.op = .call { callee := .builtin .append, args := #[sl, x], argTypes := #[t, t] })
    (b : Nat) (hs : a.eval sl = .slice (some ⟨b, 0, none⟩) 0 0) (hb : b = w.heap.size) (vx : Value) (hx : a.eval x = vx) (f : Nat → Value) (m : Nat) (hc : Cells w vx m s f) (h1 : ∀ j, j < m * s → (f j).oneCell' = true)
    (hby : bytes ≤ 128) (hn : m ≤ 1099511627776) (het : et = e)
    (h : ∀ v' w', OwnO w' w.heap.size e s v' m ((List.range (m * s)).map f) → Pure w w' → wpList P ops Q rest (a.put o.dst v') w') : wpList P ops Q (o :: rest) a (w.alloc (.cells #[] et)) := by
  subst hb het
  have hE : OwnO (w.alloc (.cells #[] et)) w.heap.size et s (.slice (some ⟨w.heap.size, 0, none⟩) 0 0) 0 [] := OwnO.empty_lit (Nat.le_refl _)
  obtain ⟨A, c, rfl, hmc, hcm, hrd⟩ := hc
  have hp0 : Pure w (w.alloc (.cells #[] et)) := Pure.alloc (Pure.refl _) _
  rcases A with _ | ⟨b, off, sp⟩
  · have hm0 : m = 0 := by
      rcases Nat.eq_zero_or_pos m with h0 | h0
      · exact h0
      · obtain ⟨_, _, h, _⟩ := hrd h0; cases h
    subst hm0
    obtain ⟨i, zv, h2, h3, h4, h5, h6, h7⟩ := E.parts
    refine wpList_plain hgd fun K hK' => ?_
    have hrun : (Builtin.append_ #[t, t] o.type #[.slice (some ⟨w.heap.size, 0, none⟩) 0 0, .slice none 0 c]).run P (w.alloc (.cells #[] et)) = .ok (.slice (some ⟨w.heap.size, 0, none⟩) 0 0) (w.alloc (.cells #[] et)) := by
      simp [Builtin.append_, run_underlying E.ht, sizeOf, typeInfo, h2, Builtin.lenOf, Builtin.firstCells, storeCells]
    unfold Oper.wp execOp
    simp only [ho, resolve, invoke, builtin, Sem.run_bind, Sem.run_pure, Result.andThen_ok, List.map_toArray, List.map_cons, List.map_nil, hs, hx, hrun]
    exact hK' _ _ (h _ _ (by simpa using hE) hp0)
  · rcases Nat.eq_zero_or_pos m with h0 | h0
    · subst h0
      obtain ⟨i, zv, h2, h3, h4, h5, h6, h7⟩ := E.parts
      refine wpList_plain hgd fun K hK' => ?_
      have hrun : (Builtin.append_ #[t, t] o.type #[.slice (some ⟨w.heap.size, 0, none⟩) 0 0, .slice (some ⟨b, off, sp⟩) 0 c]).run P (w.alloc (.cells #[] et)) = .ok (.slice (some ⟨w.heap.size, 0, none⟩) 0 0) (w.alloc (.cells #[] et)) := by
        simp [Builtin.append_, run_underlying E.ht, sizeOf, typeInfo, h2, Builtin.lenOf, Builtin.firstCells, storeCells, loadCells, loadCellsFrom]
      unfold Oper.wp execOp
      simp only [ho, resolve, invoke, builtin, Sem.run_bind, Sem.run_pure, Result.andThen_ok, List.map_toArray, List.map_cons, List.map_nil, hs, hx, hrun]
      exact hK' _ _ (h _ _ (by simpa using hE) hp0)
    · obtain ⟨b', o', he, hbl, hcc⟩ := hrd h0
      injection he with he
      injection he with e1 e2 e3
      subst e1 e2 e3
      have hmul : m * bytes ≤ 1099511627776 * 128 := Nat.mul_le_mul hn hby
      refine wl_appendF E hgd sl x ho w.heap.size _ 0 [] hs hE b off m c ((List.range (m * s)).map f) hx (by simp) (fun j u hu => ?_) (fun u hu => ?_) (by rw [Nat.zero_add]; omega) (by omega) hp0.size
        (fun v' w' r1 r2 r3 => h v' w' (by simpa using r1) (hp0.grown r2 (fun k hk => by simp [Value.ownBlock] at hk; omega)))
      · rw [hp0.cell b (off + j) hbl]
        have hj : j < m * s := by
          rcases Nat.lt_or_ge j (m * s) with h | h
          · exact h
          · rw [List.getElem?_eq_none (by simpa using h)] at hu; cases hu
        rw [hcc j hj, ← hu]
        simp [hj]
      · obtain ⟨j, hj, rfl⟩ := List.mem_map.1 hu
        exact h1 j (by simpa using hj)
end
end Go.Proofs.Ytajaonejpggcbaa

namespace Go.Proofs.Ytajaonejpggcbaa
open Go.RowKit

theorem elPtr : ElT Try.prog 116 145 1 [.pointer none] 8 := ⟨by kernel_rfl, ⟨.pointer none, by kernel_rfl, by kernel_rfl, rfl⟩, by decide⟩
theorem elPtrs : ElT Try.prog 115 116 1 [.slice none 0 0] 24 := ⟨by kernel_rfl, ⟨.slice none 0 0, by kernel_rfl, by kernel_rfl, rfl⟩, by decide⟩

def upd {α : Type} (f : Nat → α) (k : Nat) (v : α) : Nat → α := fun x => if x = k then v else f x
theorem upd_same {α : Type} (f : Nat → α) (k : Nat) (v : α) : upd f k v k = v := if_pos rfl
theorem upd_ne {α : Type} (f : Nat → α) {k x : Nat} (v : α) (h : x ≠ k) : upd f k v x = f x := if_neg h
def ptr (pb : Nat → Nat) (p : Nat) : Value := .pointer (some ⟨pb p, 0, none⟩)
def ownOf (cs : List Cd) (k : Nat) : Option Nat :=
  if Opens (cs.getD k default) then some k else if (cs.getD k default).op = 12 ∨ (cs.getD k default).op = 14 then some (aroundAt cs k).toNat else none
def ownV (pb : Nat → Nat) : Option Nat → Value
  | some p => ptr pb p
  | none => .pointer none
/-- The places of the blocks that are open at place j, the outermost one first. -/
def stkPos (cs : List Cd) (j : Nat) : List Nat := (((sscan (cs.take j) 0 []).getD []).map (·.1)).reverse
def Blk (w : World) (g : Nat) (p : Nat) (x : Int × Int) : Prop := w.heap[g]? = some (.cells #[.int .i64 (p : Int), .int .i64 x.1, .int .i64 x.2] 147 (0, 0))
def RowOk (w : World) (B go : Nat) (q : Value) (pb : Nat → Nat) (r : Value) (ps : List Nat) : Prop :=
  OwnO w B 145 1 r ps.length (ps.map (ptr pb)) ∧ ∀ g, r.ownBlock = some g → g ≠ go ∧ some g ≠ q.ownBlock

structure BInv (cs : List Cd) (B : Nat) (w wr : World) (ga go : Nat) (q : Value) (k ka : Nat) (st : List (Nat × Int)) (pb : Nat → Nat) (bv : Nat → Int × Int) : Prop where
  pure : Pure w wr
  hB : B = w.heap.size
  sc : sscan (cs.take k) 0 [] = some st
  stk : Stk cs k st
  own : ∃ ys, OwnO wr B 145 1 (.slice (some ⟨go, 0, none⟩) cs.length cs.length) cs.length ys ∧ (∀ j, j < k → ys[j]? = some (ownV pb (ownOf cs j))) ∧ ∀ j, k ≤ j → j < cs.length → ys[j]? = some (.pointer none)
  aro : ∃ zs, OwnO wr B 116 1 (.slice (some ⟨ga, 0, none⟩) cs.length cs.length) cs.length zs ∧ ∀ j, j < ka → ∃ r, zs[j]? = some r ∧ RowOk wr B go q pb r (stkPos cs j)
  que : OwnO wr B 145 1 q st.length ((st.map fun x => ptr pb x.1).reverse)
  qne : ∀ g, q.ownBlock = some g → g ≠ go
  blk : ∀ p, p < k → Opens (cs.getD p default) → B ≤ pb p ∧ Blk wr (pb p) p (bv p)
  inj : ∀ p p', p < k → p' < k → Opens (cs.getD p default) → Opens (cs.getD p' default) → pb p = pb p' → p = p'
  opn : ∀ i (h : i < st.length), Opens (cs.getD st[i].1 default) ∧ (bv st[i].1).2 = -1 ∧ endAt cs st[i].1 = eScan (cs.drop k) k i (bv st[i].1).1 ∧ ((0 ≤ (bv st[i].1).1) ↔ st[i].2 = 12) ∧ (st[i].2 = 13 ↔ (cs.getD st[i].1 default).op = 13)
  cls : ∀ p, p < k → Opens (cs.getD p default) → (∀ i (h : i < st.length), st[i].1 ≠ p) → endAt cs p = ((bv p).2, (bv p).1)

theorem Blk.keep {w w' : World} {g p : Nat} {x : Int × Int} {row : Option Nat} (h : Blk w g p x) (hg : w.grownBy w' row) (hne : some g ≠ row) : Blk w' g p x := by
  unfold Blk at h ⊢
  rw [hg.block g (Array.getElem?_eq_some_iff.1 h).1 hne]; exact h
theorem RowOk.keep {w w' : World} {B go : Nat} {q : Value} {pb : Nat → Nat} {r : Value} {ps : List Nat} {row : Option Nat} (h : RowOk w B go q pb r ps) (hg : w.grownBy w' row) (hne : ∀ g, r.ownBlock = some g → some g ≠ row) : RowOk w' B go q pb r ps :=
  ⟨h.1.kept hg hne, h.2⟩
theorem OwnO.heap {w : World} {B e s n : Nat} {v : Value} {xs : List Value} (h : OwnO w B e s v n xs) {g : Nat} (hg : v.ownBlock = some g) : ∃ cur, w.heap[g]? = some (.cells cur e (0, 0)) := by
  rcases h.2 with ⟨rfl, _⟩ | ⟨g', off, cap, cur, rfl, h1, h2, _⟩
  · simp [Value.ownBlock] at hg
  · simp [Value.ownBlock] at hg; subst hg; exact ⟨cur, h2⟩
theorem Blk.ne_own {w : World} {g p : Nat} {x : Int × Int} (h : Blk w g p x) {B e s n : Nat} {v : Value} {xs : List Value} (h' : OwnO w B e s v n xs) (hne : e ≠ 147) {g' : Nat} (hg : v.ownBlock = some g') : g ≠ g' := by
  rintro rfl
  obtain ⟨cur, hc⟩ := h'.heap hg
  unfold Blk at h
  rw [h] at hc
  injection hc with hc
  injection hc with _ hc
  exact hne hc.symm

section
variable {cs : List Cd} {B : Nat} {w wr : World} {ga go : Nat} {q : Value} {k ka : Nat} {st : List (Nat × Int)} {pb : Nat → Nat} {bv : Nat → Int × Int}

theorem BInv.keepPure {w' : World} (h : BInv cs B w wr ga go q k ka st pb bv) (hp : Pure wr w') : BInv cs B w w' ga go q k ka st pb bv := by
  obtain ⟨h1, h2, h3, h4, ⟨ys, h5, h6⟩, ⟨zs, h7, h8⟩, h9, h10, h11, h12, h13, h14⟩ := h
  refine ⟨h1.trans hp, h2, h3, h4, ⟨ys, h5.pure hp, h6⟩, ⟨zs, h7.pure hp, fun j hj => ?_⟩, h9.pure hp, h10, fun p hp1 hp2 => ⟨(h11 p hp1 hp2).1, (h11 p hp1 hp2).2.keep (hp.grownBy none) (by simp)⟩, h12, h13, h14⟩
  obtain ⟨r, a, b⟩ := h8 j hj
  exact ⟨r, a, b.keep (hp.grownBy none) (by simp)⟩

/-- around[k] is stored. -/
theorem BInv.storeRow {w2 : World} {r : Value} (h : BInv cs B w wr ga go q k k st pb bv) (hk : k < cs.length) (hp : Pure wr w2) (hr : OwnO w2 wr.heap.size 145 1 r st.length ((st.map fun x => ptr pb x.1).reverse)) :
    BInv cs B w (w2.setCell ⟨ga, k, none⟩ r) ga go q k (k + 1) st pb bv := by
  have h' := h.keepPure hp
  have hsz := h.pure.size
  have hlt1 := h.que.lt
  obtain ⟨ys0, ho0, _⟩ := h.own
  have hgo := (ho0.lt go rfl).2
  obtain ⟨h1, h2, h3, h4, ⟨ys, h5, h6⟩, ⟨zs, h7, h8⟩, h9, h10, h11, h12, h13, h14⟩ := h'
  have hg := grown_setCell w2 ⟨ga, k, none⟩ r
  have hga := h7.lt ga rfl
  have hs := h7.stored k r
  rw [Nat.zero_add] at hs
  have hrB : OwnO w2 B 145 1 r st.length ((st.map fun x => ptr pb x.1).reverse) := by
    refine ⟨hr.1, ?_⟩
    rcases hr.2 with h | ⟨g, off, cap, cur, e1, e2, e3⟩
    · exact .inl h
    · exact .inr ⟨g, off, cap, cur, e1, by omega, e3⟩
  have hra : ∀ g, r.ownBlock = some g → some g ≠ some ga := fun g hg => hrB.ne h7 (by decide) g hg
  have hpos : stkPos cs k = (st.map (·.1)).reverse := by unfold stkPos; rw [h3]; rfl
  refine ⟨h1.setCell (show w.heap.size ≤ ga by omega) _, h2, h3, h4, ⟨ys, h5.kept hg (fun g hg => h5.ne h7 (by decide) g hg), h6⟩, ⟨_, hs, fun j hj => ?_⟩, h9.kept hg (fun g hg => h9.ne h7 (by decide) g hg), h10, fun p hp1 hp2 => ⟨(h11 p hp1 hp2).1, (h11 p hp1 hp2).2.keep hg (fun e => (h11 p hp1 hp2).2.ne_own h7 (by decide) rfl (by injection e))⟩, h12, h13, h14⟩
  have hzl : zs.length = cs.length := by have := h7.1; omega
  by_cases e : j = k
  · subst e
    refine ⟨r, by rw [List.getElem?_set_self (by omega)], ?_⟩
    rw [hpos]
    refine ⟨?_, fun g hg2 => ?_⟩
    · have hr' := hrB.kept hg (fun g hg => hra g hg)
      rw [List.length_reverse, List.length_map, List.map_reverse, List.map_map]
      exact hr'
    · have := hr.lt g hg2
      refine ⟨by omega, fun e => ?_⟩
      have := hlt1 g e.symm
      omega
  · obtain ⟨r', a, b⟩ := h8 j (by omega)
    refine ⟨r', by rw [List.getElem?_set_ne (by omega)]; exact a, b.keep hg (fun g hg => b.1.ne h7 (by decide) g hg)⟩

/-- own[k] is stored; nothing else has turned yet. -/
theorem own_store {u : Value} (h : BInv cs B w wr ga go q k ka st pb bv) :
    (∃ zs, OwnO (wr.setCell ⟨go, k, none⟩ u) B 116 1 (.slice (some ⟨ga, 0, none⟩) cs.length cs.length) cs.length zs ∧ ∀ j, j < ka → ∃ r, zs[j]? = some r ∧ RowOk (wr.setCell ⟨go, k, none⟩ u) B go q pb r (stkPos cs j)) ∧
    OwnO (wr.setCell ⟨go, k, none⟩ u) B 145 1 q st.length ((st.map fun x => ptr pb x.1).reverse) ∧
    (∀ p, p < k → Opens (cs.getD p default) → B ≤ pb p ∧ Blk (wr.setCell ⟨go, k, none⟩ u) (pb p) p (bv p)) ∧ Pure w (wr.setCell ⟨go, k, none⟩ u) := by
  obtain ⟨h1, h2, h3, h4, ⟨ys, h5, h6⟩, ⟨zs, h7, h8⟩, h9, h10, h11, h12, h13, h14⟩ := h
  have hg := grown_setCell wr ⟨go, k, none⟩ u
  have hgo := h5.lt go rfl
  refine ⟨⟨zs, h7.kept hg (fun g hg => h7.ne h5 (by decide) g hg), fun j hj => ?_⟩, h9.kept hg (fun g hg e => h10 g hg (by injection e)), fun p hp1 hp2 => ⟨(h11 p hp1 hp2).1, (h11 p hp1 hp2).2.keep hg (fun e => (h11 p hp1 hp2).2.ne_own h5 (by decide) rfl (by injection e))⟩, h1.setCell (show w.heap.size ≤ go by omega) _⟩
  obtain ⟨r, a, b⟩ := h8 j hj
  exact ⟨r, a, b.keep hg (fun g hg e => (b.2 g hg).1 (by injection e))⟩
end

theorem bScan_lt (cs : List Cd) : ∀ (k d : Nat), bScan cs k d < k
  | 0, _ => by simp [bScan]
  | k + 1, d => by
    unfold bScan
    split
    · have := bScan_lt cs k (d + 1); omega
    · split
      · split
        · omega
        · have := bScan_lt cs k (d - 1); omega
      · have := bScan_lt cs k d; omega
theorem ownOf_le {cs : List Cd} {j p : Nat} (h : ownOf cs j = some p) : p ≤ j := by
  unfold ownOf at h
  split at h
  · injection h with h; omega
  · split at h
    · injection h with h
      have : aroundAt cs j < j := bScan_lt cs j 0
      omega
    · cases h

end Go.Proofs.Ytajaonejpggcbaa

namespace Go.Proofs.Ytajaonejpggcbaa
open Go.RowKit

section
variable {cs : List Cd} {B : Nat} {w wr : World} {ga go : Nat} {q : Value} {k : Nat} {st : List (Nat × Int)} {pb : Nat → Nat} {bv : Nat → Int × Int}

theorem sc_step (h : BInv cs B w wr ga go q k (k + 1) st pb bv) (hk : k < cs.length) {st' : List (Nat × Int)} (hs : sstep st k (cs.getD k default) = some st') : sscan (cs.take (k + 1)) 0 [] = some st' ∧ Stk cs (k + 1) st' :=
  ⟨by rw [sscan_take hk h.sc]; exact hs, h.stk.step hk hs⟩

/-- An instruction that is no part of the structure. -/
theorem BInv.other (h : BInv cs B w wr ga go q k (k + 1) st pb bv) (hk : k < cs.length) (h1 : ¬ Opens (cs.getD k default)) (h2 : (cs.getD k default).op ≠ 12) (h3 : (cs.getD k default).op ≠ 14) :
    BInv cs B w wr ga go q (k + 1) (k + 1) st pb bv := by
  have hs : sstep st k (cs.getD k default) = some st := sstep_other h1 h2 h3
  obtain ⟨s1, s2⟩ := sc_step h hk hs
  have hdr := drop_cons hk
  obtain ⟨a1, a2, a3, a4, ⟨ys, a5, a6, a7⟩, a8, a9, a10, a11, a12, a13, a14⟩ := h
  have hlt : ∀ p, p < k + 1 → Opens (cs.getD p default) → p < k := fun p hp ho => by
    by_cases e : p = k
    · subst e; exact absurd ho h1
    · omega
  refine ⟨a1, a2, s1, s2, ⟨ys, a5, fun j hj => ?_, fun j hj hj2 => a7 j (by omega) hj2⟩, a8, a9, a10, fun p hp ho => a11 p (hlt p hp ho) ho, fun p p' hp hp' ho ho' => a12 p p' (hlt p hp ho) (hlt p' hp' ho') ho ho', fun i hi => ?_, fun p hp ho hn => a14 p (hlt p hp ho) ho hn⟩
  · by_cases e : j = k
    · subst e
      rw [a7 j (Nat.le_refl _) hk]
      unfold ownOf
      rw [if_neg h1, if_neg (by omega)]; rfl
    · exact a6 j (by omega)
  · obtain ⟨b1, b2, b3, b4, b5⟩ := a13 i hi
    refine ⟨b1, b2, ?_, b4, b5⟩
    rw [b3, hdr, eScan_cons, if_neg h1, if_neg (fun h => h2 h.1), if_neg (fun h => h3 h.1), if_neg h3]

/-- An else. -/
theorem BInv.els {p : Nat} {r : List (Nat × Int)} (h : BInv cs B w wr ga go q k (k + 1) ((p, 11) :: r) pb bv) (hk : k < cs.length) (h1 : (cs.getD k default).op = 12) :
    BInv cs B w ((wr.setCell ⟨go, k, none⟩ (ptr pb p)).setCell ⟨pb p, 1, none⟩ (.int .i64 (k : Int))) ga go q (k + 1) (k + 1) ((p, 12) :: r) pb (upd bv p ((k : Int), (bv p).2)) := by
  have hno : ¬ Opens (cs.getD k default) := by unfold Opens; omega
  have hs : sstep ((p, 11) :: r) k (cs.getD k default) = some ((p, 12) :: r) := by rw [sstep_else h1]; simp
  obtain ⟨s1, s2⟩ := sc_step h hk hs
  have hdr := drop_cons hk
  obtain ⟨⟨zs, t1, t2⟩, t3, t4, t5⟩ := own_store (u := ptr pb p) h
  have haro := h.stk.around 0
  obtain ⟨a1, a2, a3, a4, ⟨ys, a5, a6, a7⟩, a8, a9, a10, a11, a12, a13, a14⟩ := h
  have hst := a5.stored k (ptr pb p)
  rw [Nat.zero_add] at hst
  have hpk : p < k := a4.lt 0 (by simp)
  have hpo := (a13 0 (by simp)).1
  simp only [List.getElem_cons_zero] at hpo
  obtain ⟨hpB, hpblk⟩ := t4 p hpk hpo
  have hg := grown_setCell (wr.setCell ⟨go, k, none⟩ (ptr pb p)) ⟨pb p, 1, none⟩ (.int .i64 (k : Int))
  have hnb : ∀ {e s n : Nat} {v : Value} {xs : List Value}, OwnO (wr.setCell ⟨go, k, none⟩ (ptr pb p)) B e s v n xs → e ≠ 147 → OwnO ((wr.setCell ⟨go, k, none⟩ (ptr pb p)).setCell ⟨pb p, 1, none⟩ (.int .i64 (k : Int))) B e s v n xs := fun ho hne => ho.kept hg (fun g hg2 e => hpblk.ne_own ho hne hg2 (by injection e with e; exact e.symm))
  have hyl : ys.length = cs.length := by have := a5.1; omega
  have hlt : ∀ x, x < k + 1 → Opens (cs.getD x default) → x < k := fun x hx ho => by
    by_cases e : x = k
    · subst e; exact absurd ho hno
    · omega
  have hmono := List.pairwise_cons.1 a4.mono
  refine ⟨t5.setCell (show w.heap.size ≤ pb p by omega) _, a2, s1, s2, ⟨_, hnb hst (by decide), fun j hj => ?_, fun j hj hj2 => ?_⟩, ⟨zs, hnb t1 (by decide), fun j hj => ?_⟩, hnb t3 (by decide), a10, fun x hx ho => ?_, fun x x' hx hx' ho ho' => a12 x x' (hlt x hx ho) (hlt x' hx' ho') ho ho', fun i hi => ?_, fun x hx ho hn => ?_⟩
  · by_cases e : j = k
    · subst e
      rw [List.getElem?_set_self (by omega)]
      have : ownOf cs j = some p := by
        unfold ownOf aroundAt
        rw [if_neg hno, if_pos (.inl h1), haro]; simp
      rw [this]; rfl
    · rw [List.getElem?_set_ne (by omega)]; exact a6 j (by omega)
  · rw [List.getElem?_set_ne (by omega)]; exact a7 j (by omega) hj2
  · obtain ⟨r', c1, c2⟩ := t2 j hj
    exact ⟨r', c1, c2.keep hg (fun g hg2 e => hpblk.ne_own c2.1 (by decide) hg2 (by injection e with e; exact e.symm))⟩
  · obtain ⟨c1, c2⟩ := t4 x (hlt x hx ho) ho
    refine ⟨c1, ?_⟩
    by_cases e : x = p
    · subst e
      rw [upd_same]
      exact heap_setCell_same _ _ 1 _ _ _ c2
    · rw [upd_ne _ _ e]
      exact c2.keep hg (fun e2 => e (a12 x p (hlt x hx ho) hpk ho hpo (by injection e2)))
  · cases i with
    | zero =>
      obtain ⟨b1, b2, b3, b4, b5⟩ := a13 0 (by simp)
      simp only [List.getElem_cons_zero] at b1 b2 b3 b4 b5 ⊢
      rw [upd_same]
      refine ⟨b1, b2, ?_, ⟨fun _ => by trivial, fun _ => by simp⟩, ⟨fun h => by omega, fun h => ?_⟩⟩
      · rw [b3, hdr]; rw [eScan_cons, if_neg hno, if_pos ⟨h1, rfl⟩]
      · have := b5.2 h; omega
    | succ i =>
      obtain ⟨b1, b2, b3, b4, b5⟩ := a13 (i + 1) (by simpa using hi)
      have hne : (r[i]'(by simpa using hi)).1 ≠ p := by
        have := hmono.1 _ (List.getElem_mem (by simpa using hi : i < r.length))
        simp only at this; omega
      simp only [List.getElem_cons_succ] at b1 b2 b3 b4 b5 ⊢
      rw [upd_ne _ _ hne]
      refine ⟨b1, b2, ?_, b4, b5⟩
      rw [b3, hdr]; rw [eScan_cons, if_neg hno, if_neg (fun h => by cases h.2), if_neg (fun h => by cases h.2), if_neg (by omega)]
  · have hn' : ∀ i (h : i < ((p, (11 : Int)) :: r).length), (((p, (11 : Int)) :: r)[i]).1 ≠ x := fun i hi => by
      cases i with
      | zero => exact hn 0 (by simp)
      | succ i => exact hn (i + 1) (by simpa using hi)
    have hxp : x ≠ p := fun e => hn' 0 (by simp) e.symm
    rw [upd_ne _ _ hxp]
    exact a14 x (hlt x hx ho) ho hn'

/-- An end. -/
theorem BInv.fin {p : Nat} {m : Int} {r : List (Nat × Int)} {q' : Value} (h : BInv cs B w wr ga go q k (k + 1) ((p, m) :: r) pb bv) (hk : k < cs.length) (h1 : (cs.getD k default).op = 14)
    (hq : OwnO wr B 145 1 q' r.length ((r.map fun x => ptr pb x.1).reverse)) (hqb : q'.ownBlock = q.ownBlock) :
    BInv cs B w ((wr.setCell ⟨go, k, none⟩ (ptr pb p)).setCell ⟨pb p, 2, none⟩ (.int .i64 (k : Int))) ga go q' (k + 1) (k + 1) r pb (upd bv p ((bv p).1, (k : Int))) := by
  have hno : ¬ Opens (cs.getD k default) := by unfold Opens; omega
  have hs : sstep ((p, m) :: r) k (cs.getD k default) = some r := by rw [sstep_end h1]
  obtain ⟨s1, s2⟩ := sc_step h hk hs
  have hdr := drop_cons hk
  obtain ⟨⟨zs, t1, t2⟩, t3, t4, t5⟩ := own_store (u := ptr pb p) h
  have haro := h.stk.around 0
  obtain ⟨a1, a2, a3, a4, ⟨ys, a5, a6, a7⟩, a8, a9, a10, a11, a12, a13, a14⟩ := h
  have hst := a5.stored k (ptr pb p)
  rw [Nat.zero_add] at hst
  have hpk : p < k := a4.lt 0 (by simp)
  have hpo := (a13 0 (by simp)).1
  simp only [List.getElem_cons_zero] at hpo
  obtain ⟨hpB, hpblk⟩ := t4 p hpk hpo
  have hg0 := grown_setCell wr ⟨go, k, none⟩ (ptr pb p)
  have hq2 : OwnO (wr.setCell ⟨go, k, none⟩ (ptr pb p)) B 145 1 q' r.length ((r.map fun x => ptr pb x.1).reverse) := hq.kept hg0 (fun g hg e => a10 g (by rw [← hqb]; exact hg) (by injection e))
  have hg := grown_setCell (wr.setCell ⟨go, k, none⟩ (ptr pb p)) ⟨pb p, 2, none⟩ (.int .i64 (k : Int))
  have hnb : ∀ {e s n : Nat} {v : Value} {xs : List Value}, OwnO (wr.setCell ⟨go, k, none⟩ (ptr pb p)) B e s v n xs → e ≠ 147 → OwnO ((wr.setCell ⟨go, k, none⟩ (ptr pb p)).setCell ⟨pb p, 2, none⟩ (.int .i64 (k : Int))) B e s v n xs := fun ho hne => ho.kept hg (fun g hg2 e => hpblk.ne_own ho hne hg2 (by injection e with e; exact e.symm))
  have hyl : ys.length = cs.length := by have := a5.1; omega
  have hlt : ∀ x, x < k + 1 → Opens (cs.getD x default) → x < k := fun x hx ho => by
    by_cases e : x = k
    · subst e; exact absurd ho hno
    · omega
  have hmono := List.pairwise_cons.1 a4.mono
  refine ⟨t5.setCell (show w.heap.size ≤ pb p by omega) _, a2, s1, s2, ⟨_, hnb hst (by decide), fun j hj => ?_, fun j hj hj2 => ?_⟩, ⟨zs, hnb t1 (by decide), fun j hj => ?_⟩, hnb hq2 (by decide), fun g hg => a10 g (by rw [← hqb]; exact hg), fun x hx ho => ?_, fun x x' hx hx' ho ho' => a12 x x' (hlt x hx ho) (hlt x' hx' ho') ho ho', fun i hi => ?_, fun x hx ho hn => ?_⟩
  · by_cases e : j = k
    · subst e
      rw [List.getElem?_set_self (by omega)]
      have : ownOf cs j = some p := by
        unfold ownOf aroundAt
        rw [if_neg hno, if_pos (.inr h1), haro]; simp
      rw [this]; rfl
    · rw [List.getElem?_set_ne (by omega)]; exact a6 j (by omega)
  · rw [List.getElem?_set_ne (by omega)]; exact a7 j (by omega) hj2
  · obtain ⟨r', c1, c2⟩ := t2 j hj
    have c3 := c2.keep hg (fun g hg2 e => hpblk.ne_own c2.1 (by decide) hg2 (by injection e with e; exact e.symm))
    exact ⟨r', c1, c3.1, fun g hg => by rw [hqb]; exact c3.2 g hg⟩
  · obtain ⟨c1, c2⟩ := t4 x (hlt x hx ho) ho
    refine ⟨c1, ?_⟩
    by_cases e : x = p
    · subst e
      rw [upd_same]
      exact heap_setCell_same _ _ 2 _ _ _ c2
    · rw [upd_ne _ _ e]
      exact c2.keep hg (fun e2 => e (a12 x p (hlt x hx ho) hpk ho hpo (by injection e2)))
  · obtain ⟨b1, b2, b3, b4, b5⟩ := a13 (i + 1) (by simpa using hi)
    have hne : (r[i]'hi).1 ≠ p := by
      have := hmono.1 _ (List.getElem_mem hi)
      simp only at this; omega
    simp only [List.getElem_cons_succ] at b1 b2 b3 b4 b5 ⊢
    rw [upd_ne _ _ hne]
    refine ⟨b1, b2, ?_, b4, b5⟩
    rw [b3, hdr]; rw [eScan_cons, if_neg hno, if_neg (fun h => by omega), if_neg (fun h => by cases h.2), if_pos h1]
    simp only [Nat.add_sub_cancel]
  · by_cases hxp : x = p
    · subst hxp
      obtain ⟨b1, b2, b3, b4, b5⟩ := a13 0 (by simp)
      simp only [List.getElem_cons_zero] at b3
      rw [upd_same, b3, hdr]; rw [eScan_cons, if_neg hno, if_neg (fun h => by omega), if_pos ⟨h1, rfl⟩]
    · rw [upd_ne _ _ hxp]
      refine a14 x (hlt x hx ho) ho fun i hi => ?_
      cases i with
      | zero => exact fun e => hxp e.symm
      | succ i => exact hn i (by simpa using hi)

/-- A block opens. -/
theorem BInv.open_ {gb : Nat} {q' : Value} {wE : World} (h : BInv cs B w wr ga go q k (k + 1) st pb bv) (hk : k < cs.length) (h1 : Opens (cs.getD k default)) (h3 : st.length < 3) (hgb : gb = wr.heap.size)
    (hq : OwnO wE B 145 1 q' (st.length + 1) ((st.map fun x => ptr pb x.1).reverse ++ [.pointer (some ⟨gb, 0, none⟩)]))
    (hg : ((wr.alloc (.cells #[.int .i64 (k : Int), .int .i64 (-1), .int .i64 (-1)] 147)).setCell ⟨go, k, none⟩ (.pointer (some ⟨gb, 0, none⟩))).grownBy wE q.ownBlock)
    (hl : Lies ((wr.alloc (.cells #[.int .i64 (k : Int), .int .i64 (-1), .int .i64 (-1)] 147)).setCell ⟨go, k, none⟩ (.pointer (some ⟨gb, 0, none⟩))) q q') :
    BInv cs B w wE ga go q' (k + 1) (k + 1) ((k, (cs.getD k default).op) :: st) (upd pb k gb) (upd bv k (-1, -1)) := by
  have hs : sstep st k (cs.getD k default) = some ((k, (cs.getD k default).op) :: st) := by rw [sstep_open h1, if_pos h3]
  obtain ⟨s1, s2⟩ := sc_step h hk hs
  have hdr := drop_cons hk
  have h14 : (cs.getD k default).op ≠ 14 := by unfold Opens at h1; omega
  have hpA : Pure wr (wr.alloc (.cells #[.int .i64 (k : Int), .int .i64 (-1), .int .i64 (-1)] 147)) := Pure.alloc (Pure.refl _) _
  have hA := h.keepPure hpA
  have hnew : Blk (wr.alloc (.cells #[.int .i64 (k : Int), .int .i64 (-1), .int .i64 (-1)] 147)) gb k (-1, -1) := by rw [hgb]; exact heap_alloc_new wr _
  generalize hwA : wr.alloc (.cells #[.int .i64 (k : Int), .int .i64 (-1), .int .i64 (-1)] 147) = wA at *
  obtain ⟨⟨zs, t1, t2⟩, t3, t4, t5⟩ := own_store (u := .pointer (some ⟨gb, 0, none⟩)) hA
  have hwrsz := h.pure.size
  have hgoN : go < wr.heap.size := by obtain ⟨ys, o, _⟩ := h.own; exact (o.lt go rfl).2
  have hqlt := h.que.lt
  have hblt : ∀ p, p < k → Opens (cs.getD p default) → pb p < wr.heap.size := fun p hp ho => by
    have := (h.blk p hp ho).2
    exact (Array.getElem?_eq_some_iff.1 this).1
  have hrows : ∀ j r, j < k + 1 → RowOk wA B go q pb r (stkPos cs j) → True := fun _ _ _ _ => trivial
  have hstkpos : ∀ j, j < k + 1 → ∀ p, p ∈ stkPos cs j → p ≠ k := fun j hj p hp => by
    have hpre : ∃ st', sscan (cs.take j) 0 [] = some st' := by
      cases hsj : sscan (cs.take j) 0 [] with
      | some x => exact ⟨x, rfl⟩
      | none =>
        have h2 : (cs.take k).take j = cs.take j := by rw [List.take_take]; congr 1; omega
        have := sscan_none (cs := cs.take k) (k := j) (by rw [h2]; exact hsj)
        rw [h.sc] at this; cases this
    obtain ⟨st', hst'⟩ := hpre
    unfold stkPos at hp
    rw [hst'] at hp
    simp only [Option.getD_some, List.mem_reverse, List.mem_map] at hp
    obtain ⟨x, hx, rfl⟩ := hp
    have := sscan_lt hst' x hx
    have hjl : (cs.take j).length ≤ j := by simp; omega
    omega
  have hrowV : ∀ j, j < k + 1 → (stkPos cs j).map (ptr pb) = (stkPos cs j).map (ptr (upd pb k gb)) := fun j hj => by
    refine List.map_congr_left fun p hp => ?_
    unfold ptr
    rw [upd_ne _ _ (hstkpos j hj p hp)]
  obtain ⟨a1, a2, a3, a4, ⟨ys, a5, a6, a7⟩, ⟨zs0, a8, a8'⟩, a9, a10, a11, a12, a13, a14⟩ := hA
  have hst := a5.stored k (.pointer (some ⟨gb, 0, none⟩))
  rw [Nat.zero_add] at hst
  have hyl : ys.length = cs.length := by have := a5.1; omega
  have hgbA : gb ≠ go := by omega
  have hnew2 : Blk (wA.setCell ⟨go, k, none⟩ (.pointer (some ⟨gb, 0, none⟩))) gb k (-1, -1) := hnew.keep (grown_setCell _ _ _) (fun e => hgbA (by injection e))
  have hstlt : ∀ x ∈ st, x.1 ≠ k := fun x hx => by
    obtain ⟨i, hi, e⟩ := List.mem_iff_getElem.1 hx
    have := a4.lt i hi
    rw [e] at this
    omega
  refine ⟨t5.grown hg (fun g hg => by have := t3.lt g hg; omega), a2, s1, s2, ⟨_, hst.kept hg (fun g hg2 e => ?_), fun j hj => ?_, fun j hj hj2 => ?_⟩, ⟨zs, t1.kept hg (fun g hg2 => t1.ne t3 (by decide) g hg2), fun j hj => ?_⟩, ?_, fun g hg2 => ?_, fun x hx ho => ?_, fun x x' hx hx' ho ho' he => ?_, fun i hi => ?_, fun x hx ho hn => ?_⟩
  · simp [Value.ownBlock] at hg2
    subst hg2
    exact a10 _ e.symm rfl
  · by_cases e : j = k
    · subst e
      rw [List.getElem?_set_self (by omega)]
      have : ownOf cs j = some j := by unfold ownOf; rw [if_pos h1]
      rw [this]; show _ = some (ptr (upd pb j gb) j); unfold ptr; rw [upd_same]
    · rw [List.getElem?_set_ne (by omega), a6 j (by omega)]
      cases ho : ownOf cs j with
      | none => rfl
      | some p =>
        have := ownOf_le ho
        show some (ptr pb p) = some (ptr (upd pb k gb) p)
        unfold ptr; rw [upd_ne _ _ (by omega)]
  · rw [List.getElem?_set_ne (by omega)]; exact a7 j (by omega) hj2
  · obtain ⟨r', c1, c2⟩ := t2 j hj
    refine ⟨r', c1, ?_, fun g hg2 => ⟨(c2.2 g hg2).1, fun e => ?_⟩⟩
    · rw [← hrowV j hj]
      exact c2.1.kept hg (fun g hg2 => (c2.2 g hg2).2)
    · rcases hl g e.symm with h | h
      · exact (c2.2 g hg2).2 h.symm
      · have := (c2.1.lt g hg2).2; omega
  · have : (((k, (cs.getD k default).op) :: st).map fun x => ptr (upd pb k gb) x.1).reverse = (st.map fun x => ptr pb x.1).reverse ++ [.pointer (some ⟨gb, 0, none⟩)] := by
      rw [List.map_cons, List.reverse_cons]
      congr 1
      · congr 1
        refine List.map_congr_left fun x hx => ?_
        unfold ptr; rw [upd_ne _ _ (hstlt x hx)]
      · unfold ptr; rw [upd_same]
    rw [this]
    exact hq
  · rcases hl g hg2 with h | h
    · exact a10 g h
    · have : (wA.setCell ⟨go, k, none⟩ (.pointer (some ⟨gb, 0, none⟩))).heap.size = wA.heap.size := by simp [World.setCell]
      have := hpA.size
      omega
  · by_cases e : x = k
    · subst e
      rw [upd_same, upd_same]
      exact ⟨by omega, hnew2.keep hg (fun e2 => by have := hqlt gb e2.symm; omega)⟩
    · rw [upd_ne _ _ e, upd_ne _ _ e]
      obtain ⟨c1, c2⟩ := t4 x (by omega) ho
      exact ⟨c1, c2.keep hg (fun e2 => c2.ne_own t3 (by decide) e2.symm rfl)⟩
  · by_cases e : x = k
    · by_cases e' : x' = k
      · omega
      · rw [e, upd_same, upd_ne _ _ e'] at he
        have := hblt x' (by omega) ho'
        omega
    · by_cases e' : x' = k
      · rw [upd_ne _ _ e, e', upd_same] at he
        have := hblt x (by omega) ho
        omega
      · rw [upd_ne _ _ e, upd_ne _ _ e'] at he
        exact a12 x x' (by omega) (by omega) ho ho' he
  · cases i with
    | zero =>
      simp only [List.getElem_cons_zero]
      rw [upd_same]
      refine ⟨h1, by trivial, rfl, ⟨fun h => by omega, fun h => ?_⟩, by trivial⟩
      unfold Opens at h1; omega
    | succ i =>
      have hi' : i < st.length := by simpa using hi
      obtain ⟨b1, b2, b3, b4, b5⟩ := a13 i hi'
      have hne : (st[i]'hi').1 ≠ k := hstlt _ (List.getElem_mem hi')
      simp only [List.getElem_cons_succ] at b1 b2 b3 b4 b5 ⊢
      rw [upd_ne _ _ hne]
      refine ⟨b1, b2, ?_, b4, b5⟩
      rw [b3, hdr, eScan_cons, if_pos h1]
  · have hxk : x ≠ k := fun e => hn 0 (by simp) (by simp [e])
    rw [upd_ne _ _ hxk]
    exact a14 x (by omega) ho (fun i hi => hn (i + 1) (by simpa using hi))

end
end Go.Proofs.Ytajaonejpggcbaa
