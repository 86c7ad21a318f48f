/- The program's new lanes, and crowds of them. append of any slice to any owned one, and where it lies; two slices of one's own, side by side. The reference's new lanes, and crowds of them. No condition. -/
import Derived.Test.YtajaonejpggcbaaQah
import Derived.Test.YtajaonejpggcbaaQba

namespace Go.Proofs.Ytajaonejpggcbaa
open Go.RowKit

theorem elLane : ElT Try.prog 31 55 4 [.slice none 0 0, .int .i64 0, .slice none 0 0, .bool false] 64 := ⟨by kernel_rfl, ⟨.agg #[.slice none 0 0, .int .i64 0, .slice none 0 0, .bool false], by kernel_rfl, by kernel_rfl, rfl⟩, by decide⟩
def lane0 (g : Nat) : Value := .agg #[.slice (some ⟨g, 0, none⟩) 4 4, .int .i64 0, .slice none 0 0, .bool false]
def lane0L (g : Nat) : List Value := [.slice (some ⟨g, 0, none⟩) 4 4, .int .i64 0, .slice none 0 0, .bool false]
def zero4 : Array Value := #[.int .i64 0, .int .i64 0, .int .i64 0, .int .i64 0]
def NewP (w : World) (e : Ending) (w' : World) : Prop := ∃ g, e = .returned (lane0 g) ∧ w.heap.size ≤ g ∧ w'.heap[g]? = some (.cells zero4 3 (0, 0)) ∧ Pure w w'

/-- New lanes so far, in a slice. -/
def laneLs (rows : Nat → Nat) (j : Nat) : List Value := (List.range j).flatMap fun i => lane0L (rows i)
theorem laneLs_len (rows : Nat → Nat) : ∀ j, (laneLs rows j).length = j * 4
  | 0 => rfl
  | j + 1 => by
    have := laneLs_len rows j
    unfold laneLs at this ⊢
    rw [List.range_succ, List.flatMap_append, List.length_append, this]
    simp [lane0L]; omega
theorem laneLs_succ (rows : Nat → Nat) (j : Nat) : laneLs rows (j + 1) = laneLs rows j ++ lane0L (rows j) := by
  unfold laneLs; rw [List.range_succ, List.flatMap_append]; simp
theorem laneLs_congr {rows rows' : Nat → Nat} {j : Nat} (h : ∀ i, i < j → rows i = rows' i) : laneLs rows j = laneLs rows' j := by
  induction j with
  | zero => rfl
  | succ j ih => rw [laneLs_succ, laneLs_succ, ih fun i hi => h i (by omega), h j (by omega)]
theorem laneLs_at (rows : Nat → Nat) : ∀ {j k i : Nat}, k < j → i < 4 → (laneLs rows j)[k * 4 + i]? = (lane0L (rows k))[i]?
  | 0, _, _, h, _ => by omega
  | j + 1, k, i, h, hi => by
    rw [laneLs_succ]
    by_cases e : k = j
    · subst e
      rw [List.getElem?_append_right (by rw [laneLs_len]; omega), laneLs_len]
      congr 1; omega
    · rw [List.getElem?_append_left (by rw [laneLs_len]; omega)]
      exact laneLs_at rows (by omega) hi
structure CrB (B : Nat) (w : World) (vL : Value) (j : Nat) (rows : Nat → Nat) (gm : Nat) : Prop where
  own : w.ownsRow B 55 4 vL j (laneLs rows j)
  lo : ∀ i, i < j → B ≤ rows i
  row : ∀ i, i < j → w.heap[rows i]? = some (.cells zero4 3 (0, 0))
  inj : ∀ i k, i < j → k < j → rows i = rows k → i = k
  ne : ∀ i, i < j → rows i ≠ gm
theorem CrB.pure {w w' : World} {B j gm : Nat} {vL : Value} {rows : Nat → Nat} (h : CrB B w vL j rows gm) (hp : Pure w w') : CrB B w' vL j rows gm :=
  ⟨own_pure h.own hp, h.lo, fun i hi => (Chg.of_pure (S := fun _ => False) hp).heap (h.row i hi) id, h.inj, h.ne⟩
theorem CrB.chg {S : Nat → Prop} {w w' : World} {B j gm : Nat} {vL : Value} {rows : Nat → Nat} (h : CrB B w vL j rows gm) (hc : Chg S w w') (h1 : ∀ g, vL.ownBlock = some g → ¬ S g) (h2 : ∀ i, i < j → ¬ S (rows i)) : CrB B w' vL j rows gm := by
  refine ⟨⟨h.own.1, ?_⟩, h.lo, fun i hi => hc.heap (h.row i hi) (h2 i hi), h.inj, h.ne⟩
  rcases h.own.2 with q | ⟨g, cap, cur, rfl, q1, q2, q3⟩
  · exact .inl q
  · exact .inr ⟨g, cap, cur, rfl, q1, hc.heap q2 (h1 g rfl), q3⟩
theorem CrB.base {w : World} {B B' j gm : Nat} {vL : Value} {rows : Nat → Nat} (h : CrB B w vL j rows gm) (hB : B' ≤ B) : CrB B' w vL j rows gm := by
  refine ⟨⟨h.own.1, ?_⟩, fun i hi => Nat.le_trans hB (h.lo i hi), h.row, h.inj, h.ne⟩
  rcases h.own.2 with q | ⟨g, cap, cur, rfl, q1, q2, q3⟩
  · exact .inl q
  · exact .inr ⟨g, cap, cur, rfl, Nat.le_trans hB q1, q2, q3⟩
theorem CrB.push {w w1 w2 : World} {B j g gm : Nat} {vL vL' : Value} {rows : Nat → Nat} (h : CrB B w vL j rows gm) (hp : Pure w w1) (hg : w.heap.size ≤ g) (hB : B ≤ w.heap.size) (hgm : gm < w.heap.size) (hz : w1.heap[g]? = some (.cells zero4 3 (0, 0)))
    (ho : w2.ownsRow B 55 4 vL' (j + 1) (laneLs rows j ++ lane0L g)) (hgr : w1.grownBy w2 vL.ownBlock) : CrB B w2 vL' (j + 1) (fun i => if i = j then g else rows i) gm := by
  have h1 := h.pure hp
  have hc : Chg (fun k => vL.ownBlock = some k) w1 w2 := Chg.of_grown hgr (fun k hk => hk)
  have hlt : ∀ i, i < j → rows i < w.heap.size := fun i hi => (Array.getElem?_eq_some_iff.1 (h.row i hi)).1
  refine ⟨?_, fun i hi => ?_, fun i hi => ?_, fun i k hi hk e => ?_, fun i hi => ?_⟩
  · rw [laneLs_succ, if_pos rfl, laneLs_congr (rows' := rows) (fun i hi => if_neg (by omega))]; exact ho
  · show B ≤ if i = j then g else rows i
    split
    · omega
    · exact h.lo i (by omega)
  · show w2.heap[if i = j then g else rows i]? = _
    split
    · exact hc.heap hz (fun e => own_ne_heap h1.own hz (by decide) _ e rfl)
    · exact hc.heap (h1.row i (by omega)) (fun e => own_ne_heap h1.own (h1.row i (by omega)) (by decide) _ e rfl)
  · try simp only at e
    by_cases e1 : i = j
    · by_cases e2 : k = j
      · omega
      · rw [if_pos e1, if_neg e2] at e
        have := hlt k (by omega); omega
    · by_cases e2 : k = j
      · rw [if_neg e1, if_pos e2] at e
        have := hlt i (by omega); omega
      · rw [if_neg e1, if_neg e2] at e
        exact h.inj i k (by omega) (by omega) e
  · show (if i = j then g else rows i) ≠ gm
    split
    · omega
    · exact h.ne i (by omega)

/-- A lane more in a crowd. -/
theorem crowd_next {wq wr w1 w5 : World} {B' j g gm cm n : Nat} {vL v5 : Value} {rows : Nat → Nat} {xs : List Value} (h : CrB wq.heap.size wr vL j rows gm) (hp : Pure wr w1) (hqr : Pure wq wr) (hg : wr.heap.size ≤ g) (hgm : gm < wr.heap.size) (hz : w1.heap[g]? = some (.cells zero4 3 (0, 0)))
    (hO : wr.heap[wq.heap.size]? = some (.cells #[vL, .slice (some ⟨gm, 0, none⟩) n cm] 33 (0, 0))) (hM : OwnO wr B' 3 1 (.slice (some ⟨gm, 0, none⟩) n cm) n xs)
    (ho : w5.ownsRow wq.heap.size 55 4 v5 (j + 1) (laneLs rows j ++ lane0L g)) (hgr : w1.grownBy w5 vL.ownBlock) :
    Pure wq (w5.setCell ⟨wq.heap.size, 0, none⟩ v5) ∧ CrB wq.heap.size (w5.setCell ⟨wq.heap.size, 0, none⟩ v5) v5 (j + 1) (fun i => if i = j then g else rows i) gm ∧
    (w5.setCell ⟨wq.heap.size, 0, none⟩ v5).heap[wq.heap.size]? = some (.cells #[v5, .slice (some ⟨gm, 0, none⟩) n cm] 33 (0, 0)) ∧ OwnO (w5.setCell ⟨wq.heap.size, 0, none⟩ v5) B' 3 1 (.slice (some ⟨gm, 0, none⟩) n cm) n xs := by
  have hc5 : Chg (fun k => vL.ownBlock = some k) w1 w5 := Chg.of_grown hgr (fun k hk => hk)
  have hvlp : ∀ k, vL.ownBlock = some k → k ≠ wq.heap.size := own_ne_heap h.own hO (by decide)
  have hO5 : w5.heap[wq.heap.size]? = some (.cells #[vL, .slice (some ⟨gm, 0, none⟩) n cm] 33 (0, 0)) := hc5.heap ((Chg.of_pure (S := fun _ => False) hp).heap hO id) (fun e => hvlp _ e rfl)
  have hR5 := h.push hp hg hqr.size hgm hz ho hgr
  have hM1 := hM.pure hp
  have hM5 := hM1.chg hc5 (fun k hk e => (OwnO.of_own (own_pure h.own hp)).ne hM1 (by decide) k e hk.symm)
  have hP5 : Pure wq w5 := Chg.pure (hqr.trans hp) hc5 (fun k hk => (own_lt h.own k hk).1)
  have hc6 : Chg (fun k => k = wq.heap.size) w5 (w5.setCell ⟨wq.heap.size, 0, none⟩ v5) := Chg.of_set w5 _ _ _ rfl
  refine ⟨Chg.pure hP5 hc6 (fun k hk => by rw [hk]; exact Nat.le_refl _), hR5.chg hc6 (fun g hg e => own_ne_heap hR5.own hO5 (by decide) g hg e) (fun i hi e => ne_of_heap (hR5.row i hi) hO5 (by decide) e), ?_, hM5.chg hc6 (fun g hg e => hM5.ne_heap hO5 (by decide) g hg e)⟩
  rw [heap_setCell_same w5 wq.heap.size 0 _ _ _ hO5]; rfl

/-- A new crowd: its lanes and its memory. -/
def CrowdP (B : Nat) (w : World) (n : Nat) (mem : List Int) (gl cl gm cm : Nat) (rows : Nat → Nat) : Prop :=
  CrB B w (.slice (some ⟨gl, 0, none⟩) n cl) n rows gm ∧ OwnO w B 3 1 (.slice (some ⟨gm, 0, none⟩) mem.length cm) mem.length ((List.range mem.length).map fun j => .int .i64 (mem.getD j 0))
def NewC (n : Nat) (mem : List Int) (w : World) (e : Ending) (w' : World) : Prop :=
  ∃ gl cl gm cm rows, e = .returned (.agg #[.slice (some ⟨gl, 0, none⟩) n cl, .slice (some ⟨gm, 0, none⟩) mem.length cm]) ∧ CrowdP w.heap.size w' n mem gl cl gm cm rows ∧ n ≤ cl ∧ cl ≤ 9223372036854775807 ∧ Pure w w'

end Go.Proofs.Ytajaonejpggcbaa

namespace Go.Proofs.Ytajaonejpggcbaa
open Go.RowKit

section
variable {P : Program} {t e s : Nat} {z : List Value} {bytes : Nat}
theorem wl_appendR (E : ElT P t e s z bytes) {w : World} {ops : Array Oper} {rest : List Oper} {o : Oper} {a : Act} {Q : Exit → Act → World → Prop}
    (hgd : o.guard = none) (sl x : Operand) (ho : o.op = .call { callee := .builtin .append, args := #[sl, x], argTypes := #[t, t] })
    (B : Nat) (v : Value) (n : Nat) (xs : List Value) (hs : a.eval sl = v) (hown : w.ownsRow B e s v n xs) (vx : Value) (hx : a.eval x = vx) (f : Nat → Value) (m : Nat) (hc : Cells w vx m s f) (h1 : ∀ j, j < m * s → (f j).oneCell' = true)
    (hby : bytes ≤ 128) (hn : n + m ≤ 1099511627776) (hB : B ≤ w.heap.size)
    (h : ∀ v' w', w'.ownsRow B e s v' (n + m) (xs ++ (List.range (m * s)).map f) → w.grownBy w' v.ownBlock → Lies w v v' → wpList P ops Q rest (a.put o.dst v') w') : wpList P ops Q (o :: rest) a w := by
  obtain ⟨A, c, rfl, hmc, hcm, hrd⟩ := hc
  have hold := hown
  obtain ⟨hxl, hown⟩ := hown
  obtain ⟨i, zv, h2, h3, h4, h5, h6, h7⟩ := E.parts
  rcases Nat.eq_zero_or_pos m with h0 | h0
  · subst h0
    refine wpList_plain hgd fun K hK' => ?_
    have hrun : (Builtin.append_ #[t, t] o.type #[v, .slice A 0 c]).run P w = .ok v w := by
      rcases hown with ⟨rfl, rfl⟩ | ⟨g0, c0, cur, rfl, hb1, hb2, hb3, hb4, hb5, hb6⟩
      · rcases A with _ | ⟨b, off, sp⟩
        · simp [Builtin.append_, run_underlying E.ht, sizeOf, typeInfo, h2, Builtin.lenOf, Builtin.firstCells]
        · simp [Builtin.append_, run_underlying E.ht, sizeOf, typeInfo, h2, Builtin.lenOf, Builtin.firstCells, loadCells, loadCellsFrom]
      · rcases A with _ | ⟨b, off, sp⟩
        · simp [Builtin.append_, run_underlying E.ht, sizeOf, typeInfo, h2, Builtin.lenOf, Builtin.firstCells, storeCells, hb3]
        · simp [Builtin.append_, run_underlying E.ht, sizeOf, typeInfo, h2, Builtin.lenOf, Builtin.firstCells, storeCells, loadCells, loadCellsFrom, hb3]
    unfold Oper.wp execOp
    simp only [ho, resolve, invoke, builtin, Sem.run_bind, Sem.run_pure, Result.andThen_ok, List.map_toArray, List.map_cons, List.map_nil, hs, hx, hrun]
    exact hK' _ _ (h _ _ (by simpa using hold) ((Pure.refl _).grownBy _) (fun _ hg => .inl hg))
  · obtain ⟨b', o', rfl, hbl, hcc⟩ := hrd h0
    have hmul : (n + m) * bytes ≤ 1099511627776 * 128 := Nat.mul_le_mul hn hby
    have hfj : ∀ j u, ((List.range (m * s)).map f)[j]? = some u → j < m * s ∧ f j = u := fun j u hu => by
      have hj : j < m * s := by
        rcases Nat.lt_or_ge j (m * s) with h | h
        · exact h
        · rw [List.getElem?_eq_none (by simpa using h)] at hu; cases hu
      refine ⟨hj, ?_⟩
      simpa [hj] using hu
    refine wpList_append_own_at w hgd sl x t ho B e i zv s bytes E.ht h2 h3 h4 h5 (by rw [h6]; simpa using h7) E.hs v n xs hs hold ⟨b', o', none⟩ m c ((List.range (m * s)).map f) hx (by simp) (fun j u hu => ?_) (fun u hu => ?_) (by unfold maxLen; omega) (by omega) hB
      (fun v' w' r1 r2 _ r4 => h v' w' r1 r2 fun g hg => ?_)
    · obtain ⟨hj, rfl⟩ := hfj j u hu
      rw [add_mid]; exact hcc j hj
    · obtain ⟨j, hj, rfl⟩ := List.mem_map.1 hu
      exact h1 j (by simpa using hj)
    · rcases r4 with r4 | r4
      · rw [r4] at hg; exact .inl hg
      · rw [r4] at hg; injection hg with hg; right; omega
end
theorem own_empty {w : World} {B e s : Nat} (hB : B ≤ w.heap.size) : (w.alloc (.cells #[] e)).ownsRow B e s (.slice (some ⟨w.heap.size, 0, none⟩) 0 0) 0 [] :=
  ⟨by simp, .inr ⟨w.heap.size, 0, #[], rfl, hB, heap_alloc_new w _, Nat.le_refl _, by unfold maxLen; omega, by simp, by simp⟩⟩
theorem own_chg {S : Nat → Prop} {w w' : World} {B e s n : Nat} {v : Value} {xs : List Value} (h : w.ownsRow B e s v n xs) (hc : Chg S w w') (hS : ∀ g, v.ownBlock = some g → ¬ S g) : w'.ownsRow B e s v n xs := by
  refine ⟨h.1, ?_⟩
  rcases h.2 with q | ⟨g, cap, cur, rfl, q1, q2, q3⟩
  · exact .inl q
  · exact .inr ⟨g, cap, cur, rfl, q1, hc.heap q2 (hS g rfl), q3⟩

/-- Two slices of one's own in different blocks. -/
structure Two (w0 w : World) (B e s : Nat) (v : Value) (n : Nat) (xs : List Value) (v' : Value) (n' : Nat) (xs' : List Value) : Prop where
  pure : Pure w0 w
  l : w.ownsRow B e s v n xs
  r : w.ownsRow B e s v' n' xs'
  ne : ∀ g, v.ownBlock = some g → v'.ownBlock ≠ some g
section
variable {w0 w w' : World} {B e s n n' k : Nat} {v v' u : Value} {xs xs' ys : List Value}
theorem Two.swap (h : Two w0 w B e s v n xs v' n' xs') : Two w0 w B e s v' n' xs' v n xs := ⟨h.pure, h.r, h.l, fun g h1 h2 => h.ne g h2 h1⟩
theorem Two.keep (h : Two w0 w B e s v n xs v' n' xs') (hp : Pure w w') : Two w0 w' B e s v n xs v' n' xs' := ⟨h.pure.trans hp, own_pure h.l hp, own_pure h.r hp, h.ne⟩
theorem Two.first (hp : Pure w0 w) (h : w.ownsRow B e s v n xs) (hB : B ≤ w.heap.size) : Two w0 (w.alloc (.cells #[] e)) B e s v n xs (.slice (some ⟨w.heap.size, 0, none⟩) 0 0) 0 [] :=
  ⟨hp.alloc _, own_pure h ((Pure.refl w).alloc _), own_empty hB, fun g h1 h2 => by simp [Value.ownBlock] at h2; have := (own_lt h g h1).2; omega⟩
theorem Two.left (h : Two w0 w B e s v n xs v' n' xs') (hB : w0.heap.size ≤ B) (h1 : w'.ownsRow B e s u k ys) (h2 : w.grownBy w' v.ownBlock) (h3 : Lies w v u) : Two w0 w' B e s u k ys v' n' xs' :=
  ⟨h.pure.grown h2 (fun k hk => Nat.le_trans hB (own_lt h.l k hk).1), h1, own_chg h.r (Chg.of_grown h2 (fun k hk => hk)) (fun g hg e => h.ne g e hg), fun g hg e => (h3 g hg).elim (fun q => h.ne g q e) (fun q => absurd (own_lt h.r g e).2 (by omega))⟩
theorem Two.right (h : Two w0 w B e s v n xs v' n' xs') (hB : w0.heap.size ≤ B) (h1 : w'.ownsRow B e s u k ys) (h2 : w.grownBy w' v'.ownBlock) (h3 : Lies w v' u) : Two w0 w' B e s v n xs u k ys := (h.swap.left hB h1 h2 h3).swap
end

end Go.Proofs.Ytajaonejpggcbaa

namespace Go.Proofs.Ytajaonejpggcbaa
open Go.RowKit

theorem MemOk.small {mem : List Int} (h : MemOk mem) : 1 ≤ mem.length ∧ mem.length ≤ 32 := h.1
set_option maxHeartbeats 1000000 in
theorem snewlane_any (w : World) : Calls Try.prog 126 #[] w (NewP w) := by
  have hx := heap_alloc_new w (.cells #[.slice none 0 0, .int .i64 0, .slice none 0 0, .bool false] 55)
  have HX := Lib.hid hx
  clear hx
  go_enter Try.func126, Try.ntmps126
  go_wp2_with (at_make; refine wl_make elInt rfl _ _ rfl w.heap.size _ _ _ _ 4 rfl rfl rfl rfl (by decide) (by decide) (by simp) ?_; intro w4 hown4 hp4 hsz4; have HZ4 := Lib.hid (own_zero4 hown4); have HP4 := Lib.hid hp4; have hb4 := (Chg.of_pure (S := fun _ => False) hp4).heap HX.out id; have k0 := cell_of_row _ _ 0 _ _ _ hb4; have k1 := cell_of_row _ _ 1 _ _ _ hb4; have k2 := cell_of_row _ _ 2 _ _ _ hb4; have k3 := cell_of_row _ _ 3 _ _ _ hb4; simp only [List.getElem?_toArray, List.getElem?_cons_zero, List.getElem?_cons_succ] at k0 k1 k2 k3; have kf := fun j => frozen_of_row _ _ j _ _ hb4; have kf0 := kf 0; have kf1 := kf 1; have kf2 := kf 2; have kf3 := kf 3; clear hown4 hp4 hb4 kf)
  refine bodyPost_ret (v := lane0 (w.heap.size + 1)) (by simp [results, Try.results126, lane0, go_sem, k0, k1, k2, k3]) rfl ?_
  have hz : w4.heap[w.heap.size + 1]? = some (.cells zero4 3 (0, 0)) := by have := HZ4.out; simpa [zero4] using this
  refine ⟨w.heap.size + 1, rfl, by omega, ?_, ?_⟩
  · have hc : ∀ (u : World) (j : Nat) (x : Value), Chg (fun b => b = w.heap.size) u (u.setCell ⟨w.heap.size, j, none⟩ x) := fun u j x => Chg.of_set u _ _ _ rfl
    exact (hc _ _ _).heap ((hc _ _ _).heap ((hc _ _ _).heap ((hc _ _ _).heap hz (by omega)) (by omega)) (by omega)) (by omega)
  · have hp : Pure w w4 := ((Pure.refl w).alloc _).trans HP4.out
    exact (by repeat (first | assumption | exact Pure.refl _ | refine Pure.drewN ?_ _ | refine Pure.drew ?_ | refine Pure.alloc ?_ _ | refine Pure.setCell ?_ (by simp <;> omega) _))

set_option maxHeartbeats 4000000 in
set_option maxRecDepth 100000 in
theorem snewcrowd_any (v : Value) (mem : List Int) (n : Nat) (w : World) (h : Ints w v mem) (hmok : MemOk mem) (hn1 : 1 ≤ n) (hn8 : n ≤ 8) : Calls Try.prog 91 #[.int .i64 (n : Nat), v] w (NewC n mem w) := by
  have H := Lib.hid h
  obtain ⟨hm1, hm2⟩ := hmok.small
  have HMK := Lib.hid hmok
  obtain ⟨A, c, rfl⟩ := h.form
  have hx := heap_alloc_new w (.cells #[.slice none 0 0, .slice none 0 0] 33)
  have HX := Lib.hid hx
  clear h hx hmok
  go_enter Try.func91, Try.ntmps91
  go_wp2_with fail
  refine (l1In_any _ _ _ _ true (by simp only [true_iff]; omega)).mono ?_
  rintro e wz ⟨rfl, rfl⟩
  go_wp2_with fail
  refine (smem_any _ mem _ (H.out.keep (by repeat (first | assumption | exact Pure.refl _ | refine Pure.drewN ?_ _ | refine Pure.drew ?_ | refine Pure.alloc ?_ _ | refine Pure.setCell ?_ (by simp <;> omega) _))) (by omega) true (by simp only [true_iff]; exact HMK.out)).mono ?_
  rintro e w1 ⟨rfl, hp1⟩
  have HP1 := Lib.hid hp1
  have HRES1 := Lib.hid ((Chg.of_pure (S := fun _ => False) hp1).heap HX.out id)
  have hsz1 : w.heap.size + 1 ≤ w1.heap.size := by have := hp1.size; simpa using this
  clear hp1
  have hE := own_empty (w := w1) (B := w.heap.size) (e := 3) (s := 1) (by omega)
  have HEM := Lib.hid hE
  have HCM := Lib.hid (show Cells (w1.alloc (.cells #[] 3)) (.slice A mem.length c) mem.length 1 (fun j => .int .i64 (mem.getD j 0)) from (H.out.keep (show Pure w (w.alloc (.cells #[.slice none 0 0, .slice none 0 0] 33)) from (by repeat (first | assumption | exact Pure.refl _ | refine Pure.drewN ?_ _ | refine Pure.drew ?_ | refine Pure.alloc ?_ _ | refine Pure.setCell ?_ (by simp <;> omega) _)))).keep (HP1.out.trans (show Pure w1 (w1.alloc (.cells #[] 3)) from (by repeat (first | assumption | exact Pure.refl _ | refine Pure.drewN ?_ _ | refine Pure.drew ?_ | refine Pure.alloc ?_ _ | refine Pure.setCell ?_ (by simp <;> omega) _)))))
  clear hE
  go_wp2_with (at_builtin; go_must (refine wl_appendR elInt rfl _ _ rfl w.heap.size _ 0 [] rfl HEM.out _ rfl _ mem.length HCM.out (fun j _ => rfl) (by decide) (by omega) (by simp; omega) ?_); intro vm9 wq r1 r2 r3; go_must (obtain ⟨gm, cmm, hvm, hgm1, hgm2, hcm1, hcm2⟩ := own_form r1 (by omega); subst hvm; have HOW := Lib.hid r1; have HPq := Lib.hid (HP1.out.trans ((show Pure w1 (w1.alloc (.cells #[] 3)) from (by repeat (first | assumption | exact Pure.refl _ | refine Pure.drewN ?_ _ | refine Pure.drew ?_ | refine Pure.alloc ?_ _ | refine Pure.setCell ?_ (by simp <;> omega) _))).grown r2 (fun k hk => by have hk2 : some w1.heap.size = some k := hk; injection hk2 with hk2; omega))); clear r1 r2 r3))
  have HRES := Lib.hid ((Chg.of_pure (S := fun _ => False) HPq.out).heap HX.out id)
  have HOWN := Lib.hid (show OwnO wq w.heap.size 3 1 (.slice (some ⟨gm, 0, none⟩) mem.length cmm) mem.length ((List.range mem.length).map fun j => .int .i64 (mem.getD j 0)) by have := OwnO.of_own HOW.out; simpa using this)
  have HP := HPq
  clear HRES1 HEM HCM HOW
  have HPo : Hid ((wq.alloc (.cells #[.slice none 0 0, .slice (some ⟨gm, 0, none⟩) mem.length cmm] 33)).heap[wq.heap.size]? = some (.cells #[.slice none 0 0, .slice (some ⟨gm, 0, none⟩) mem.length cmm] 33 (0, 0))) := Lib.hid (heap_alloc_new wq _)
  have hwq : w.heap.size + 1 ≤ wq.heap.size := by have := HP.out.size; simpa using this
  go_loopg [6] n (fun gk i wr => ∃ (j : Nat) (vL : Value) (rows : Nat → Nat), gk + j = n ∧ i = .int .i64 j ∧ Pure wq wr ∧ CrB wq.heap.size wr vL j rows gm ∧
    wr.heap[wq.heap.size]? = some (.cells #[vL, .slice (some ⟨gm, 0, none⟩) mem.length cmm] 33 (0, 0)) ∧
    OwnO wr w.heap.size 3 1 (.slice (some ⟨gm, 0, none⟩) mem.length cmm) mem.length ((List.range mem.length).map fun j => .int .i64 (mem.getD j 0)))
  case atStart =>
    refine ⟨0, .slice none 0 0, fun _ => 0, rfl, rfl, by exact (by repeat (first | assumption | exact Pure.refl _ | refine Pure.drewN ?_ _ | refine Pure.drew ?_ | refine Pure.alloc ?_ _ | refine Pure.setCell ?_ (by simp <;> omega) _)), ⟨World.ownsRow_nil _ _ _ _, fun i hi => absurd hi (by omega), fun i hi => absurd hi (by omega), fun i k hi => absurd hi (by omega), fun i hi => absurd hi (by omega)⟩, HPo.out, (OwnO.base HOWN.out (by simp)).pure (by exact (by repeat (first | assumption | exact Pure.refl _ | refine Pure.drewN ?_ _ | refine Pure.drew ?_ | refine Pure.alloc ?_ _ | refine Pure.setCell ?_ (by simp <;> omega) _)))⟩
  case round =>
    obtain ⟨j, vL, rows, hgk, rfl, hp, hcr, hobj, hmem⟩ := hrel
    have Hgk := Lib.hid hgk
    have HCr := Lib.hid hcr
    have HO := Lib.hid hobj
    have HMe := Lib.hid hmem
    have HPr := Lib.hid hp
    have hjn : j ≤ n := by omega
    clear hgk hcr hmem HPo
    have p0 := (cell_of_row wr wq.heap.size 0 _ _ _ hobj).trans rfl
    have p1 := (cell_of_row wr wq.heap.size 1 _ _ _ hobj).trans rfl
    have hpfr := frozen_of_row wr wq.heap.size 0 _ _ hobj
    have hplt : wq.heap.size < wr.heap.size := (Array.getElem?_eq_some_iff.1 hobj).1
    clear hobj
    by_cases hlt : j < n
    · have hgmr : gm < wr.heap.size := Nat.lt_of_lt_of_le hgm2 hp.size
      have hwr : w.heap.size ≤ wr.heap.size := Nat.le_trans (by omega) hp.size
      go_wp2
      refine region_way (fun w' => w'.cell? ⟨wq.heap.size, 0, none⟩ = some vL) [0] 6 6 (fun l => l.take 1) (by kernel_rfl) (by kernel_rfl) (by kernel_rfl) (fun c a d v w h => by cases d <;> exact h) (by exact p0) ?_
      simp only [List.take_succ_cons, List.take_zero]
      apply held_of
      · exact rfl
      · intro w' hS
        go_simp
        try exact rfl
      try go_simp
      refine held_nil ?_
      refine anyK_two (i := 1) (j := 2) (by kernel_rfl) rfl rfl ?_ ?_
      · go_wp2
        refine And.intro (by first | exact fun _ => keepPc (show Pure wr wr.drew from (by repeat (first | assumption | exact Pure.refl _ | refine Pure.drewN ?_ _ | refine Pure.drew ?_ | refine Pure.alloc ?_ _ | refine Pure.setCell ?_ (by simp <;> omega) _))) p0 | exact keepPc (show Pure wr wr.drew from (by repeat (first | assumption | exact Pure.refl _ | refine Pure.drewN ?_ _ | refine Pure.drew ?_ | refine Pure.alloc ?_ _ | refine Pure.setCell ?_ (by simp <;> omega) _))) p0) ?_
        refine anyK_one (i := 2) (by kernel_rfl) rfl ?_
        go_wp2_with fail
        refine (snewlane_any _).mono ?_
        rintro e wc ⟨g, rfl, hg, hz, hpc⟩
        have HPc := Lib.hid ((show Pure wr wr.drew from (by repeat (first | assumption | exact Pure.refl _ | refine Pure.drewN ?_ _ | refine Pure.drew ?_ | refine Pure.alloc ?_ _ | refine Pure.setCell ?_ (by simp <;> omega) _))).trans hpc)
        have HZ := Lib.hid hz
        have hgr : wr.heap.size ≤ g := Nat.le_trans (show Pure wr wr.drew from (by repeat (first | assumption | exact Pure.refl _ | refine Pure.drewN ?_ _ | refine Pure.drew ?_ | refine Pure.alloc ?_ _ | refine Pure.setCell ?_ (by simp <;> omega) _))).size hg
        have z0 := (HPc.out.cell _ _ hplt).trans p0
        clear hz hpc
        unfold lane0
        go_wp2
        refine And.intro (by first | exact fun _ => z0 | exact z0) ?_
        refine anyK_one (i := 3) (by kernel_rfl) rfl ?_
        go_wp2
        refine And.intro (by first | exact fun _ => keepPc (show Pure wc _ from (by repeat (first | assumption | exact Pure.refl _ | refine Pure.drewN ?_ _ | refine Pure.drew ?_ | refine Pure.alloc ?_ _ | refine Pure.setCell ?_ (by simp <;> omega) _))) z0 | exact keepPc (show Pure wc _ from (by repeat (first | assumption | exact Pure.refl _ | refine Pure.drewN ?_ _ | refine Pure.drew ?_ | refine Pure.alloc ?_ _ | refine Pure.setCell ?_ (by simp <;> omega) _))) z0) ?_
        refine anyK_one (i := 4) (by kernel_rfl) rfl ?_
        have hgx := heap_alloc_new wc (.cells #[.slice (some ⟨g, 0, none⟩) 4 4, .int .i64 0, .slice none 0 0, .bool false] 55)
        have HPl := Lib.hid (HPc.out.trans (show Pure wc (wc.alloc (.cells #[.slice (some ⟨g, 0, none⟩) 4 4, .int .i64 0, .slice none 0 0, .bool false] 55)) from (by repeat (first | assumption | exact Pure.refl _ | refine Pure.drewN ?_ _ | refine Pure.drew ?_ | refine Pure.alloc ?_ _ | refine Pure.setCell ?_ (by simp <;> omega) _))))
        refine wl_append elLane rfl _ _ rfl wq.heap.size vL j _ rfl (own_pure HCr.out.own HPl.out) wc.heap.size 1 1 (lane0L g) rfl rfl (fun i u hu => ?_) (by intro u hu; simp [lane0L] at hu; rcases hu with rfl | rfl | rfl | rfl <;> rfl) (by omega) (by omega) (Nat.le_trans HPr.out.size HPl.out.size) ?_
        · exact (cell_of_row _ _ i _ _ _ hgx).trans (by rw [List.getElem?_toArray]; exact hu)
        intro v5 w5 hown5 hg5
        obtain ⟨g5, c5, hv5, _, _, _, _⟩ := own_form hown5 (by omega)
        subst hv5
        have hc5 : Chg (fun k => vL.ownBlock = some k) (wc.alloc (.cells #[.slice (some ⟨g, 0, none⟩) 4 4, .int .i64 0, .slice none 0 0, .bool false] 55)) w5 := Chg.of_grown hg5 (fun k hk => hk)
        have hvlp : ∀ k, vL.ownBlock = some k → k ≠ wq.heap.size := own_ne_heap HCr.out.own HO.out (by decide)
        have hO5 : w5.heap[wq.heap.size]? = some (.cells #[vL, .slice (some ⟨gm, 0, none⟩) mem.length cmm] 33 (0, 0)) := hc5.heap ((Chg.of_pure (S := fun _ => False) HPl.out).heap HO.out id) (fun e => hvlp _ e rfl)
        have HO5 := Lib.hid hO5
        have z5 := (cell_of_row w5 wq.heap.size 0 _ _ _ hO5).trans (show _ = some vL from rfl)
        have zf5 := frozen_of_row w5 wq.heap.size 0 _ _ hO5
        have HN5 := Lib.hid (crowd_next HCr.out HPl.out HPr.out hgr hgmr ((Chg.of_pure (S := fun _ => False) (show Pure wc (wc.alloc (.cells #[.slice (some ⟨g, 0, none⟩) 4 4, .int .i64 0, .slice none 0 0, .bool false] 55)) from (by repeat (first | assumption | exact Pure.refl _ | refine Pure.drewN ?_ _ | refine Pure.drew ?_ | refine Pure.alloc ?_ _ | refine Pure.setCell ?_ (by simp <;> omega) _)))).heap HZ.out id) HO.out HMe.out hown5 hg5)
        clear hown5 hg5 hc5 hO5 hgx
        go_wp2
        refine And.intro (by first | exact fun _ => z5 | exact z5) ?_
        refine anyK_one (i := 5) (by kernel_rfl) rfl ?_
        go_wp2
        refine And.intro (by first | exact fun _ => z5 | exact z5) ?_
        refine anyK_one (i := 6) (by kernel_rfl) rfl ?_
        go_wp2
        refine And.intro (by first | exact fun h => absurd rfl h | exact fun h => h.elim | simp) ?_
        refine anyK_end (by kernel_rfl) ?_
        go_wp2
        go_roundg (n - (j + 1))
        case measure => have := Hgk.out; omega
        case rel =>
          exact ⟨j + 1, _, _, by have := Hgk.out; omega, by go_num, HN5.out⟩
      · go_wp2_with fail
        refine (snewlane_any _).mono ?_
        rintro e wc ⟨g, rfl, hg, hz, hpc⟩
        have HPc := Lib.hid ((show Pure wr wr.drew from (by repeat (first | assumption | exact Pure.refl _ | refine Pure.drewN ?_ _ | refine Pure.drew ?_ | refine Pure.alloc ?_ _ | refine Pure.setCell ?_ (by simp <;> omega) _))).trans hpc)
        have HZ := Lib.hid hz
        have hgr : wr.heap.size ≤ g := Nat.le_trans (show Pure wr wr.drew from (by repeat (first | assumption | exact Pure.refl _ | refine Pure.drewN ?_ _ | refine Pure.drew ?_ | refine Pure.alloc ?_ _ | refine Pure.setCell ?_ (by simp <;> omega) _))).size hg
        have z0 := (HPc.out.cell _ _ hplt).trans p0
        clear hz hpc
        unfold lane0
        go_wp2
        refine And.intro (by first | exact fun _ => z0 | exact z0) ?_
        refine anyK_two (i := 1) (j := 3) (by kernel_rfl) rfl rfl ?_ ?_
        · go_wp2
          refine And.intro (by first | exact fun _ => z0 | exact z0) ?_
          refine anyK_one (i := 3) (by kernel_rfl) rfl ?_
          go_wp2
          refine And.intro (by first | exact fun _ => keepPc (show Pure wc _ from (by repeat (first | assumption | exact Pure.refl _ | refine Pure.drewN ?_ _ | refine Pure.drew ?_ | refine Pure.alloc ?_ _ | refine Pure.setCell ?_ (by simp <;> omega) _))) z0 | exact keepPc (show Pure wc _ from (by repeat (first | assumption | exact Pure.refl _ | refine Pure.drewN ?_ _ | refine Pure.drew ?_ | refine Pure.alloc ?_ _ | refine Pure.setCell ?_ (by simp <;> omega) _))) z0) ?_
          refine anyK_one (i := 4) (by kernel_rfl) rfl ?_
          have hgx := heap_alloc_new wc (.cells #[.slice (some ⟨g, 0, none⟩) 4 4, .int .i64 0, .slice none 0 0, .bool false] 55)
          have HPl := Lib.hid (HPc.out.trans (show Pure wc (wc.alloc (.cells #[.slice (some ⟨g, 0, none⟩) 4 4, .int .i64 0, .slice none 0 0, .bool false] 55)) from (by repeat (first | assumption | exact Pure.refl _ | refine Pure.drewN ?_ _ | refine Pure.drew ?_ | refine Pure.alloc ?_ _ | refine Pure.setCell ?_ (by simp <;> omega) _))))
          refine wl_append elLane rfl _ _ rfl wq.heap.size vL j _ rfl (own_pure HCr.out.own HPl.out) wc.heap.size 1 1 (lane0L g) rfl rfl (fun i u hu => ?_) (by intro u hu; simp [lane0L] at hu; rcases hu with rfl | rfl | rfl | rfl <;> rfl) (by omega) (by omega) (Nat.le_trans HPr.out.size HPl.out.size) ?_
          · exact (cell_of_row _ _ i _ _ _ hgx).trans (by rw [List.getElem?_toArray]; exact hu)
          intro v5 w5 hown5 hg5
          obtain ⟨g5, c5, hv5, _, _, _, _⟩ := own_form hown5 (by omega)
          subst hv5
          have hc5 : Chg (fun k => vL.ownBlock = some k) (wc.alloc (.cells #[.slice (some ⟨g, 0, none⟩) 4 4, .int .i64 0, .slice none 0 0, .bool false] 55)) w5 := Chg.of_grown hg5 (fun k hk => hk)
          have hvlp : ∀ k, vL.ownBlock = some k → k ≠ wq.heap.size := own_ne_heap HCr.out.own HO.out (by decide)
          have hO5 : w5.heap[wq.heap.size]? = some (.cells #[vL, .slice (some ⟨gm, 0, none⟩) mem.length cmm] 33 (0, 0)) := hc5.heap ((Chg.of_pure (S := fun _ => False) HPl.out).heap HO.out id) (fun e => hvlp _ e rfl)
          have HO5 := Lib.hid hO5
          have z5 := (cell_of_row w5 wq.heap.size 0 _ _ _ hO5).trans (show _ = some vL from rfl)
          have zf5 := frozen_of_row w5 wq.heap.size 0 _ _ hO5
          have HN5 := Lib.hid (crowd_next HCr.out HPl.out HPr.out hgr hgmr ((Chg.of_pure (S := fun _ => False) (show Pure wc (wc.alloc (.cells #[.slice (some ⟨g, 0, none⟩) 4 4, .int .i64 0, .slice none 0 0, .bool false] 55)) from (by repeat (first | assumption | exact Pure.refl _ | refine Pure.drewN ?_ _ | refine Pure.drew ?_ | refine Pure.alloc ?_ _ | refine Pure.setCell ?_ (by simp <;> omega) _)))).heap HZ.out id) HO.out HMe.out hown5 hg5)
          clear hown5 hg5 hc5 hO5 hgx
          go_wp2
          refine And.intro (by first | exact fun _ => z5 | exact z5) ?_
          refine anyK_one (i := 5) (by kernel_rfl) rfl ?_
          go_wp2
          refine And.intro (by first | exact fun _ => z5 | exact z5) ?_
          refine anyK_one (i := 6) (by kernel_rfl) rfl ?_
          go_wp2
          refine And.intro (by first | exact fun h => absurd rfl h | exact fun h => h.elim | simp) ?_
          refine anyK_end (by kernel_rfl) ?_
          go_wp2
          go_roundg (n - (j + 1))
          case measure => have := Hgk.out; omega
          case rel =>
            exact ⟨j + 1, _, _, by have := Hgk.out; omega, by go_num, HN5.out⟩
        · go_wp2
          refine And.intro (by first | exact fun _ => keepPc (show Pure wc _ from (by repeat (first | assumption | exact Pure.refl _ | refine Pure.drewN ?_ _ | refine Pure.drew ?_ | refine Pure.alloc ?_ _ | refine Pure.setCell ?_ (by simp <;> omega) _))) z0 | exact keepPc (show Pure wc _ from (by repeat (first | assumption | exact Pure.refl _ | refine Pure.drewN ?_ _ | refine Pure.drew ?_ | refine Pure.alloc ?_ _ | refine Pure.setCell ?_ (by simp <;> omega) _))) z0) ?_
          have z0' := keepPc (show Pure wc (wc.alloc (.cells #[.slice (some ⟨g, 0, none⟩) 4 4, .int .i64 0, .slice none 0 0, .bool false] 55)) from (by repeat (first | assumption | exact Pure.refl _ | refine Pure.drewN ?_ _ | refine Pure.drew ?_ | refine Pure.alloc ?_ _ | refine Pure.setCell ?_ (by simp <;> omega) _))) z0
          refine anyK_one (i := 1) (by kernel_rfl) rfl ?_
          go_wp2
          refine And.intro (by first | exact fun _ => z0' | exact z0') ?_
          refine anyK_one (i := 4) (by kernel_rfl) rfl ?_
          have hgx := heap_alloc_new wc (.cells #[.slice (some ⟨g, 0, none⟩) 4 4, .int .i64 0, .slice none 0 0, .bool false] 55)
          have HPl := Lib.hid (HPc.out.trans (show Pure wc (wc.alloc (.cells #[.slice (some ⟨g, 0, none⟩) 4 4, .int .i64 0, .slice none 0 0, .bool false] 55)) from (by repeat (first | assumption | exact Pure.refl _ | refine Pure.drewN ?_ _ | refine Pure.drew ?_ | refine Pure.alloc ?_ _ | refine Pure.setCell ?_ (by simp <;> omega) _))))
          refine wl_append elLane rfl _ _ rfl wq.heap.size vL j _ rfl (own_pure HCr.out.own HPl.out) wc.heap.size 1 1 (lane0L g) rfl rfl (fun i u hu => ?_) (by intro u hu; simp [lane0L] at hu; rcases hu with rfl | rfl | rfl | rfl <;> rfl) (by omega) (by omega) (Nat.le_trans HPr.out.size HPl.out.size) ?_
          · exact (cell_of_row _ _ i _ _ _ hgx).trans (by rw [List.getElem?_toArray]; exact hu)
          intro v5 w5 hown5 hg5
          obtain ⟨g5, c5, hv5, _, _, _, _⟩ := own_form hown5 (by omega)
          subst hv5
          have hc5 : Chg (fun k => vL.ownBlock = some k) (wc.alloc (.cells #[.slice (some ⟨g, 0, none⟩) 4 4, .int .i64 0, .slice none 0 0, .bool false] 55)) w5 := Chg.of_grown hg5 (fun k hk => hk)
          have hvlp : ∀ k, vL.ownBlock = some k → k ≠ wq.heap.size := own_ne_heap HCr.out.own HO.out (by decide)
          have hO5 : w5.heap[wq.heap.size]? = some (.cells #[vL, .slice (some ⟨gm, 0, none⟩) mem.length cmm] 33 (0, 0)) := hc5.heap ((Chg.of_pure (S := fun _ => False) HPl.out).heap HO.out id) (fun e => hvlp _ e rfl)
          have HO5 := Lib.hid hO5
          have z5 := (cell_of_row w5 wq.heap.size 0 _ _ _ hO5).trans (show _ = some vL from rfl)
          have zf5 := frozen_of_row w5 wq.heap.size 0 _ _ hO5
          have HN5 := Lib.hid (crowd_next HCr.out HPl.out HPr.out hgr hgmr ((Chg.of_pure (S := fun _ => False) (show Pure wc (wc.alloc (.cells #[.slice (some ⟨g, 0, none⟩) 4 4, .int .i64 0, .slice none 0 0, .bool false] 55)) from (by repeat (first | assumption | exact Pure.refl _ | refine Pure.drewN ?_ _ | refine Pure.drew ?_ | refine Pure.alloc ?_ _ | refine Pure.setCell ?_ (by simp <;> omega) _)))).heap HZ.out id) HO.out HMe.out hown5 hg5)
          clear hown5 hg5 hc5 hO5 hgx
          go_wp2
          refine And.intro (by first | exact fun _ => z5 | exact z5) ?_
          refine anyK_one (i := 5) (by kernel_rfl) rfl ?_
          go_wp2
          refine And.intro (by first | exact fun _ => z5 | exact z5) ?_
          refine anyK_one (i := 6) (by kernel_rfl) rfl ?_
          go_wp2
          refine And.intro (by first | exact fun h => absurd rfl h | exact fun h => h.elim | simp) ?_
          refine anyK_end (by kernel_rfl) ?_
          go_wp2
          go_roundg (n - (j + 1))
          case measure => have := Hgk.out; omega
          case rel =>
            exact ⟨j + 1, _, _, by have := Hgk.out; omega, by go_num, HN5.out⟩
    · have hjl : j = n := by omega
      subst hjl
      obtain ⟨gl, cl, hvl, hg1, hg2, hg3, hg4⟩ := own_form HCr.out.own (by omega)
      subst hvl
      have hres := (Chg.of_pure (S := fun _ => False) HPr.out).heap HRES.out id
      have k0 := cell_of_row _ _ 0 _ _ _ hres
      have k1 := cell_of_row _ _ 1 _ _ _ hres
      simp only [List.getElem?_toArray, List.getElem?_cons_zero, List.getElem?_cons_succ] at k0 k1
      have kf0 := frozen_of_row _ _ 0 _ _ hres
      have kf1 := frozen_of_row _ _ 1 _ _ hres
      have hwwq : w.heap.size ≠ wq.heap.size := by omega
      have hgmw : gm ≠ w.heap.size := fun e => ne_of_heap (HMe.out.heap rfl).choose_spec hres (by decide) e
      clear hres
      go_wp2
      refine bodyPost_ret (v := .agg #[.slice (some ⟨gl, 0, none⟩) j cl, .slice (some ⟨gm, 0, none⟩) mem.length cmm]) (by simp [results, Try.results91, go_sem, k0, k1]) rfl ?_
      have hcw : ∀ (u : World) (i : Nat) (x : Value), Chg (fun b => b = w.heap.size) u (u.setCell ⟨w.heap.size, i, none⟩ x) := fun u i x => Chg.of_set u _ _ _ rfl
      have hcc := (hcw wr 0 (.slice (some ⟨gl, 0, none⟩) j cl)).trans (hcw (wr.setCell ⟨w.heap.size, 0, none⟩ (.slice (some ⟨gl, 0, none⟩) j cl)) 1 (.slice (some ⟨gm, 0, none⟩) mem.length cmm))
      have hw0 : Pure w wr := ((show Pure w (w.alloc (.cells #[.slice none 0 0, .slice none 0 0] 33)) from (by repeat (first | assumption | exact Pure.refl _ | refine Pure.drewN ?_ _ | refine Pure.drew ?_ | refine Pure.alloc ?_ _ | refine Pure.setCell ?_ (by simp <;> omega) _))).trans HP.out).trans HPr.out
      refine ⟨gl, cl, gm, cmm, rows, rfl, ⟨(HCr.out.base (by omega)).chg hcc (fun g hg e => ?_) (fun i hi e => ?_), HMe.out.chg hcc (fun g hg e => ?_)⟩, hg3, hg4, Chg.pure hw0 hcc (fun k hk => by rw [hk]; exact Nat.le_refl _)⟩
      · have := (own_lt HCr.out.own g hg).1; omega
      · have := HCr.out.lo i hi; omega
      · simp [Value.ownBlock] at hg; omega

end Go.Proofs.Ytajaonejpggcbaa
