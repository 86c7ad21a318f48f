/- Words on memory that all walks of this seat use: slices that read as lists, worlds that only grow. The element types of this seat's slices. A slice of the call's own that may begin behind its block's head: read, cut at its front, appended to. Instructions and programs, plainly: which are valid, where blocks end, which block is around a place. No program in sight. Slices of instructions in memory; the laws' helpers on them: size, copy, comparison. The laws' helpers on []int and [][]int: sizes, copies, comparisons. Lanes and crowds that came in; the laws' helpers on them: sizes, copies, comparisons. No condition. -/
import Derived.WalkKit
import Derived.WalkSpells
import Derived.WalkLawsBesides
import Derived.Lib.Hide
import Derived.Deep.QuietTactic
import Derived.BigQuiet
import Derived.Test.YtajaonejpggcbaaRows
import Derived.Deep.LoopGhost
import Derived.Deep.RegionWith

namespace Go.Proofs.Ytajaonejpggcbaa
open Go.RowKit

theorem add_mid (b o j : Nat) : (⟨b, o, none⟩ : Addr).add j = ⟨b, o + j, none⟩ := by unfold Addr.add; split <;> simp_all
theorem ret_bool {a b : Bool} (h : a = b) : Ending.returned (.bool a) = Ending.returned (.bool b) := by rw [h]
theorem ret_int {k : IntKind} {a b : Int} (h : a = b) : Ending.returned (.int k a) = Ending.returned (.int k b) := by rw [h]

/-- w' is w, but for new blocks and draws. -/
def Pure (w w' : World) : Prop := Below w.heap.size w w'

theorem Pure.refl (w : World) : Pure w w := Below.refl _ _
theorem Pure.trans {a b c : World} (h : Pure a b) (k : Pure b c) : Pure a c :=
  Below.trans h (Below.mono (show Below b.heap.size b c from k) (show Below a.heap.size a b from h).size)
theorem Pure.drew {a w : World} (h : Pure a w) : Pure a w.drew := Below.drew h
theorem Pure.drewN {a w : World} (h : Pure a w) (n : Nat) : Pure a (w.drewN n) := ⟨h.os, h.tape, h.output, h.size, h.block⟩
theorem Pure.alloc {a w : World} (h : Pure a w) (o : Obj) : Pure a (w.alloc o) := Below.alloc h h.size o
theorem Pure.size {a w : World} (h : Pure a w) : a.heap.size ≤ w.heap.size := Below.size h
theorem Pure.below {a w : World} (h : Pure a w) : Below a.heap.size a w := h
theorem Pure.cell {a w : World} (h : Pure a w) (b o : Nat) (hb : b < a.heap.size) : w.cell? ⟨b, o, none⟩ = a.cell? ⟨b, o, none⟩ := Below.cell (p := ⟨b, o, none⟩) h hb
theorem Pure.frozen {a w : World} (h : Pure a w) (b o : Nat) (hb : b < a.heap.size) : w.frozen? ⟨b, o, none⟩ = a.frozen? ⟨b, o, none⟩ := Below.frozen (p := ⟨b, o, none⟩) h hb

/-- The slice value v has n elements of s cells each; cell j holds f j. -/
def Cells (w : World) (v : Value) (n s : Nat) (f : Nat → Value) : Prop :=
  ∃ A c, v = .slice A n c ∧ n ≤ c ∧ c ≤ 9223372036854775807 ∧ (0 < n → ∃ b o, A = some ⟨b, o, none⟩ ∧ b < w.heap.size ∧ ∀ j, j < n * s → w.cell? ⟨b, o + j, none⟩ = some (f j))

theorem Cells.keep {w w' : World} {v : Value} {n s : Nat} {f : Nat → Value} (h : Cells w v n s f) (hp : Pure w w') : Cells w' v n s f := by
  obtain ⟨A, c, h1, h2, h3, h4⟩ := h
  refine ⟨A, c, h1, h2, h3, fun hn => ?_⟩
  obtain ⟨b, o, e, hb, hc⟩ := h4 hn
  exact ⟨b, o, e, Nat.lt_of_lt_of_le hb hp.size, fun j hj => (hp.cell b _ hb).trans (hc j hj)⟩

def Ints (w : World) (v : Value) (xs : List Int) : Prop := Cells w v xs.length 1 (fun j => .int .i64 (xs.getD j 0))
theorem Ints.keep {w w' : World} {v : Value} {xs : List Int} (h : Ints w v xs) (hp : Pure w w') : Ints w' v xs := Cells.keep h hp

/-- A slice of slices of numbers. -/
def IntRows (w : World) (v : Value) (xss : List (List Int)) : Prop :=
  ∃ A c, v = .slice A xss.length c ∧ xss.length ≤ c ∧ c ≤ 9223372036854775807 ∧ (0 < xss.length → ∃ b o, A = some ⟨b, o, none⟩ ∧ b < w.heap.size ∧ ∀ k, k < xss.length → ∃ r, w.cell? ⟨b, o + k, none⟩ = some r ∧ Ints w r (xss.getD k []))

theorem IntRows.keep {w w' : World} {v : Value} {xss : List (List Int)} (h : IntRows w v xss) (hp : Pure w w') : IntRows w' v xss := by
  obtain ⟨A, c, h1, h2, h3, h4⟩ := h
  refine ⟨A, c, h1, h2, h3, fun hn => ?_⟩
  obtain ⟨b, o, e, hb, hc⟩ := h4 hn
  refine ⟨b, o, e, Nat.lt_of_lt_of_le hb hp.size, fun k hk => ?_⟩
  obtain ⟨r, h5, h6⟩ := hc k hk
  exact ⟨r, (hp.cell b _ hb).trans h5, h6.keep hp⟩

/-- What a slice type's elements are. -/
structure ElT (P : Program) (t e : TypeId) (s : Nat) (z : List Value) (bytes : Nat) : Prop where
  ht : P.underlying t = some (.slice e)
  hi : ∃ zv, (P.info? e).map (fun i => (i.zero, i.size, i.bytes)) = some (some zv, s, bytes) ∧ zv.cells = z.toArray ∧ z.length = s
  hs : 0 < s

section
variable {P : Program} {t e : TypeId} {s : Nat} {z : List Value} {bytes : Nat}

theorem ElT.parts (E : ElT P t e s z bytes) : ∃ i zv, P.info? e = some i ∧ i.zero = some zv ∧ i.size = s ∧ i.bytes = bytes ∧ zv.cells = z.toArray ∧ z.length = s := by
  obtain ⟨zv, h, h2, h3⟩ := E.hi
  obtain ⟨i, a, b, c, d⟩ := info_parts h
  exact ⟨i, zv, a, b, c, d, h2, h3⟩

/-- n zero elements. -/
def zeros (z : List Value) (n : Nat) : List Value := (madeCells z.toArray (n * z.length)).toList
theorem zeros_length (z : List Value) (n : Nat) : (zeros z n).length = n * z.length := by simp [zeros, size_madeCells]
theorem zeros_get (z : List Value) (n j : Nat) (hj : j < n * z.length) : (zeros z n)[j]? = z[j % z.length]? := by
  have hz : 0 < z.length := by
    rcases Nat.eq_zero_or_pos z.length with h | h
    · rw [h] at hj; simp at hj
    · exact h
  have hm := Nat.mod_lt j hz
  simp [zeros, madeCells, hj, hm]

theorem wl_make (E : ElT P t e s z bytes) {w : World} {ops : Array Oper} {rest : List Oper} {o : Oper} {a : Act} {Q : Exit → Act → World → Prop}
    (hg : o.guard = none) (l c : Operand) (hop : o.op = Op.makeSlice t l c) (B : Nat) (kl kc : IntKind) (L C : Int) (n : Nat) (hl : a.eval l = .int kl L) (hc : a.eval c = .int kc C) (hL : L = (n : Int)) (hC : C = (n : Int))
    (b2 : n * bytes ≤ 281474976710656) (b3 : n ≤ 9223372036854775807) (b4 : B ≤ w.heap.size)
    (hK : ∀ w', w'.ownsRow B e s (.slice (some ⟨w.heap.size, 0, none⟩) n n) n (zeros z n) → Pure w w' → w.heap.size < w'.heap.size → wpList P ops Q rest (a.put o.dst (.slice (some ⟨w.heap.size, 0, none⟩) n n)) w') :
    wpList P ops Q (o :: rest) a w := by
  obtain ⟨i, zv, h2, h3, h4, h5, h6, h7⟩ := E.parts
  refine wpList_make_full w hg l c t hop B e i zv s E.ht h2 h3 h4 kl kc L C n hl hc hL hC (by rw [h5, Nat.mul_comm]; exact b2) (by unfold maxLen; omega) b4 fun w' hown hgr => ?_
  rw [h6, ← h7] at hown
  rw [h7] at hown
  have hown' : w'.ownsRow B e s (.slice (some ⟨w.heap.size, 0, none⟩) n n) n (zeros z n) := by
    unfold zeros; rw [h7]; exact hown
  refine hK w' hown' ((Below.refl _ _).grown hgr (Nat.le_refl _) (fun k hk => by cases hk)) ?_
  exact (hown.lt w.heap.size rfl).2

theorem wl_append (E : ElT P t e s z bytes) {w : World} {ops : Array Oper} {rest : List Oper} {o : Oper} {a : Act} {Q : Exit → Act → World → Prop}
    (hgd : o.guard = none) (sl x : Operand) (ho : o.op = .call { callee := .builtin .append, args := #[sl, x], argTypes := #[t, t] })
    (B : Nat) (v : Value) (n : Nat) (xs : List Value) (hs : a.eval sl = v) (hown : w.ownsRow B e s v n xs)
    (b m c : Nat) (news : List Value) (hx : a.eval x = .slice (some ⟨b, 0, none⟩) m c) (hl : news.length = m * s) (hnews : ∀ j u, news[j]? = some u → w.cell? ⟨b, j, none⟩ = some u) (h1 : ∀ u ∈ news, u.oneCell' = true)
    (hbytes : (n + m) * bytes ≤ 140737488355328) (h63 : n + m ≤ 9223372036854775807) (hB : B ≤ w.heap.size)
    (h : ∀ v' w', w'.ownsRow B e s v' (n + m) (xs ++ news) → w.grownBy w' v.ownBlock → wpList P ops Q rest (a.put o.dst v') w') : wpList P ops Q (o :: rest) a w := by
  obtain ⟨i, zv, h2, h3, h4, h5, h6, h7⟩ := E.parts
  refine wpList_append_own w hgd sl x t ho B e i zv s bytes E.ht h2 h3 h4 h5 (by rw [h6]; simpa using h7) E.hs v n xs hs hown ⟨b, 0, none⟩ m c news hx hl (fun j u hu => ?_) h1 (by unfold maxLen; omega) hbytes hB fun v' w' q1 q2 _ => h v' w' q1 q2
  rw [Addr.add_lit]
  simpa using hnews j u hu
end

theorem Pure.grown {w0 w w' : World} {row : Option Nat} (h : Pure w0 w) (hg : w.grownBy w' row) (hr : ∀ k, row = some k → w0.heap.size ≤ k) : Pure w0 w' :=
  Below.grown h hg h.size hr
theorem Pure.setCell {a w : World} (h : Pure a w) {p : Addr} (hp : a.heap.size ≤ p.block) (u : Value) : Pure a (w.setCell p u) := Below.setCell h hp u
theorem Pure.grownBy {a w : World} (h : Pure a w) (row : Option Nat) : a.grownBy w row := ⟨h.os, h.tape, h.output, h.size, fun k hk _ => h.block k hk⟩

section
variable {w w' : World} {B e s n : Nat} {v : Value} {xs : List Value}
theorem own_pure (h : w.ownsRow B e s v n xs) (hp : Pure w w') : w'.ownsRow B e s v n xs := h.kept (hp.grownBy none) (by cases hv : v.ownBlock <;> simp)
theorem own_lt (h : w.ownsRow B e s v n xs) (k : Nat) (hk : v.ownBlock = some k) : B ≤ k ∧ k < w.heap.size := h.lt k hk
end

theorem Cells.of_own {w : World} {B e s n : Nat} {v : Value} {xs : List Value} {f : Nat → Value} (h : w.ownsRow B e s v n xs) (hf : ∀ j, j < n * s → xs[j]? = some (f j)) : Cells w v n s f := by
  rcases h.2 with ⟨rfl, rfl⟩ | ⟨g, cap, cur, rfl, _, hg, hnc, hcm, _⟩
  · exact ⟨none, 0, rfl, Nat.le_refl _, by omega, fun h => absurd h (by omega)⟩
  · refine ⟨_, cap, rfl, hnc, by unfold maxLen at hcm; omega, fun hn => ⟨g, 0, rfl, (Array.getElem?_eq_some_iff.1 hg).1, fun j hj => ?_⟩⟩
    rw [Nat.zero_add, h.cellAt j hj]
    exact hf j hj

theorem Ints.of_own {w : World} {B e n : Nat} {v : Value} {xs : List Value} {ys : List Int} (h : w.ownsRow B e 1 v n xs) (hn : n = ys.length) (hf : ∀ j, j < ys.length → xs[j]? = some (.int .i64 (ys.getD j 0))) : Ints w v ys := by
  subst hn
  exact Cells.of_own h (fun j hj => hf j (by simpa using hj))

theorem Cells.other {w w' : World} {v : Value} {n s : Nat} {f : Nat → Value} {row : Option Nat} (h : Cells w v n s f) (hg : w.grownBy w' row) (hne : ∀ g, v.ownBlock = some g → some g ≠ row) : Cells w' v n s f := by
  obtain ⟨A, c, rfl, h2, h3, h4⟩ := h
  refine ⟨A, c, rfl, h2, h3, fun hn => ?_⟩
  obtain ⟨b, o, rfl, hb, hc⟩ := h4 hn
  exact ⟨b, o, rfl, Nat.lt_of_lt_of_le hb hg.size, fun j hj => (World.cell?_of_block (a := ⟨b, o + j, none⟩) (hg.block b hb (hne b rfl))).trans (hc j hj)⟩
theorem Ints.other {w w' : World} {v : Value} {xs : List Int} {row : Option Nat} (h : Ints w v xs) (hg : w.grownBy w' row) (hne : ∀ g, v.ownBlock = some g → some g ≠ row) : Ints w' v xs := Cells.other h hg hne
theorem grown_setCell (w : World) (p : Addr) (u : Value) : w.grownBy (w.setCell p u) (some p.block) :=
  ⟨rfl, rfl, rfl, by simp [World.setCell], fun k _ hne => Below.heap_setCell w p u k (fun e => hne (by rw [e]))⟩

theorem Ints.of_map {w : World} {B e : Nat} {v : Value} {ys : List Int} (h : w.ownsRow B e 1 v ys.length (ys.map (.int .i64))) : Ints w v ys :=
  Ints.of_own h rfl (fun j hj => by simp [hj])
theorem Ints.form {w : World} {v : Value} {ys : List Int} (h : Ints w v ys) : ∃ A c, v = .slice A ys.length c := by
  obtain ⟨A, c, h, _⟩ := h
  exact ⟨A, c, h⟩

end Go.Proofs.Ytajaonejpggcbaa

namespace Go.Proofs.Ytajaonejpggcbaa
open Go.RowKit

theorem elInt : ElT Try.prog 23 3 1 [.int .i64 0] 8 := ⟨by kernel_rfl, ⟨.int .i64 0, by kernel_rfl, by kernel_rfl, rfl⟩, by decide⟩

theorem elCode : ElT Try.prog 35 68 4 [.int .i64 0, .int .i64 0, .int .i64 0, .int .i64 0] 32 := ⟨by kernel_rfl, ⟨.agg #[.int .i64 0, .int .i64 0, .int .i64 0, .int .i64 0], by kernel_rfl, by kernel_rfl, rfl⟩, by decide⟩

end Go.Proofs.Ytajaonejpggcbaa

namespace Go.Proofs.Ytajaonejpggcbaa
open Go.RowKit

def OwnO (w : World) (B e s : Nat) (v : Value) (n : Nat) (xs : List Value) : Prop :=
  xs.length = n * s ∧ ((v = .slice none 0 0 ∧ n = 0) ∨ ∃ g off cap cur, v = .slice (some ⟨g, off, none⟩) n cap ∧ B ≤ g ∧ w.heap[g]? = some (.cells cur e (0, 0)) ∧ n ≤ cap ∧ cap ≤ 9223372036854775807 ∧ off + cap * s ≤ cur.size ∧ ∀ j u, xs[j]? = some u → cur[off + j]? = some u)

section
variable {w w' : World} {B e s n : Nat} {v : Value} {xs : List Value}
theorem OwnO.of_own (h : w.ownsRow B e s v n xs) : OwnO w B e s v n xs := by
  refine ⟨h.1, ?_⟩
  rcases h.2 with h | ⟨g, cap, cur, rfl, h1, h2, h3, h4, h5, h6⟩
  · exact .inl h
  · refine .inr ⟨g, 0, cap, cur, rfl, h1, h2, h3, by unfold maxLen at h4; omega, by omega, fun j u hu => ?_⟩
    rw [← h6, List.getElem?_take] at hu
    split at hu
    · simpa using hu
    · cases hu
theorem OwnO.kept {row : Option Nat} (h : OwnO w B e s v n xs) (hg : w.grownBy w' row) (hne : ∀ g, v.ownBlock = some g → some g ≠ row) : OwnO w' B e s v n xs := by
  refine ⟨h.1, ?_⟩
  rcases h.2 with h | ⟨g, off, cap, cur, rfl, h1, h2, h3⟩
  · exact .inl h
  · exact .inr ⟨g, off, cap, cur, rfl, h1, by rw [hg.block g (Array.getElem?_eq_some_iff.1 h2).1 (hne g rfl)]; exact h2, h3⟩
theorem OwnO.pure (h : OwnO w B e s v n xs) (hp : Pure w w') : OwnO w' B e s v n xs := h.kept (hp.grownBy none) (fun _ _ => by simp)
theorem OwnO.lt (h : OwnO w B e s v n xs) (k : Nat) (hk : v.ownBlock = some k) : B ≤ k ∧ k < w.heap.size := by
  rcases h.2 with ⟨rfl, _⟩ | ⟨g, off, cap, cur, rfl, h1, h2, h3⟩
  · simp [Value.ownBlock] at hk
  · simp [Value.ownBlock] at hk; subst hk
    exact ⟨h1, (Array.getElem?_eq_some_iff.1 h2).1⟩
theorem OwnO.form (h : OwnO w B e s v n xs) : ∃ A c, v = .slice A n c := by
  rcases h.2 with ⟨rfl, rfl⟩ | ⟨g, off, cap, cur, rfl, _⟩
  · exact ⟨_, _, rfl⟩
  · exact ⟨_, _, rfl⟩
theorem OwnO.formSome (h : OwnO w B e s v n xs) (hn : 0 < n) : ∃ g off c, v = .slice (some ⟨g, off, none⟩) n c ∧ n ≤ c ∧ c ≤ 9223372036854775807 ∧ B ≤ g ∧ g < w.heap.size := by
  rcases h.2 with ⟨rfl, rfl⟩ | ⟨g, off, cap, cur, rfl, h1, h2, h3, h4, _⟩
  · omega
  · exact ⟨_, _, _, rfl, h3, h4, h1, (Array.getElem?_eq_some_iff.1 h2).1⟩
theorem OwnO.cell {g off c : Nat} (h : OwnO w B e s (.slice (some ⟨g, off, none⟩) n c) n xs) (j : Nat) (hj : j < n * s) : w.cell? ⟨g, off + j, none⟩ = xs[j]? := by
  rcases h.2 with ⟨hv, _⟩ | ⟨g', off', cap, cur, hv, h1, h2, h3, h4, h5, h6⟩
  · cases hv
  · injection hv with hv _ hc
    injection hv with hv
    injection hv with e1 e2
    subst e1 e2 hc
    rw [cell_of_row w g _ cur e (0, 0) h2]
    have hl : j < xs.length := by rw [h.1]; exact hj
    rw [List.getElem?_eq_getElem hl]
    exact h6 j _ (List.getElem?_eq_getElem hl)
theorem OwnO.cellSome {g off c : Nat} (h : OwnO w B e s (.slice (some ⟨g, off, none⟩) n c) n xs) (j : Nat) (hj : j < n * s) : ∃ u, w.cell? ⟨g, off + j, none⟩ = some u := by
  rw [h.cell j hj]
  exact ⟨_, List.getElem?_eq_getElem (by rw [h.1]; exact hj)⟩
theorem OwnO.frozen {g off c : Nat} (h : OwnO w B e s (.slice (some ⟨g, off, none⟩) n c) n xs) (j : Nat) : w.frozen? ⟨g, j, none⟩ = false := by
  rcases h.2 with ⟨hv, _⟩ | ⟨g', off', cap, cur, hv, h1, h2, _⟩
  · cases hv
  · injection hv with hv _ hc
    injection hv with hv
    injection hv with e1 e2
    subst e1 e2 hc
    exact frozen_of_row w g _ cur e h2
theorem OwnO.stored {g off c : Nat} (h : OwnO w B e s (.slice (some ⟨g, off, none⟩) n c) n xs) (j : Nat) (u : Value) :
    OwnO (w.setCell ⟨g, off + j, none⟩ u) B e s (.slice (some ⟨g, off, none⟩) n c) n (xs.set j u) := by
  refine ⟨by simpa using h.1, .inr ?_⟩
  rcases h.2 with ⟨hv, _⟩ | ⟨g', off', cap, cur, hv, h1, h2, h3, h4, h5, h6⟩
  · cases hv
  · injection hv with hv _ hc
    injection hv with hv
    injection hv with e1 e2
    subst e1 e2 hc
    refine ⟨g, off, c, _, rfl, h1, heap_setCell_same w g (off + j) cur e u h2, h3, h4, by simpa using h5, fun i v hv => ?_⟩
    rw [List.getElem?_set] at hv
    by_cases hji : j = i
    · subst hji
      rw [if_pos rfl] at hv
      split at hv
      · rename_i hlt
        simp only [Option.some.injEq] at hv
        subst hv
        have : off + j < cur.size := by
          have := Nat.mul_le_mul_right s h3
          have := h.1
          omega
        rw [Array.getElem?_setIfInBounds_self_of_lt this]
      · cases hv
    · rw [if_neg hji] at hv
      rw [Array.getElem?_setIfInBounds_ne (by omega)]
      exact h6 i v hv
theorem OwnO.ne {B' e' s' n' : Nat} {v' : Value} {xs' : List Value} (h : OwnO w B e s v n xs) (h' : OwnO w B' e' s' v' n' xs') (hne : e ≠ e') : ∀ g, v.ownBlock = some g → some g ≠ v'.ownBlock := by
  intro g hg
  rcases h.2 with ⟨rfl, _⟩ | ⟨g1, off, cap, cur, rfl, h1, h2, _⟩
  · simp [Value.ownBlock] at hg
  · simp [Value.ownBlock] at hg; subst hg
    rcases h'.2 with ⟨rfl, _⟩ | ⟨g1', off', cap', cur', rfl, h1', h2', _⟩
    · simp [Value.ownBlock]
    · simp only [Value.ownBlock, ne_eq, Option.some.injEq]
      rintro rfl
      rw [h2] at h2'
      simp only [Option.some.injEq, Obj.cells.injEq] at h2'
      exact hne h2'.2.1
theorem OwnO.alloc (h : OwnO w B e s v n xs) (o : Obj) : OwnO (w.alloc o) B e s v n xs := h.pure (Pure.alloc (Pure.refl _) o)
theorem OwnO.drewN (h : OwnO w B e s v n xs) (k : Nat) : OwnO (w.drewN k) B e s v n xs := h.pure (Pure.drewN (Pure.refl _) k)
theorem OwnO.lit (w : World) (cs : Array Value) (n : Nat) (hB : B ≤ w.heap.size) (hn : n ≤ 9223372036854775807) (hs : cs.size = n * s) : OwnO (w.alloc (.cells cs e)) B e s (.slice (some ⟨w.heap.size, 0, none⟩) n n) n cs.toList :=
  OwnO.of_own (World.ownsRow_lit (e := e) w cs n hB (by unfold maxLen; omega) hs)
theorem OwnO.empty_lit {w : World} {B e s : Nat} (hB : B ≤ w.heap.size) : OwnO (w.alloc (.cells #[] e)) B e s (.slice (some ⟨w.heap.size, 0, none⟩) 0 0) 0 [] :=
  OwnO.lit w #[] 0 hB (by omega) (by simp)
theorem Cells.of_ownO {f : Nat → Value} (h : OwnO w B e s v n xs) (hf : ∀ j, j < n * s → xs[j]? = some (f j)) : Cells w v n s f := by
  rcases h.2 with ⟨rfl, rfl⟩ | ⟨g, off, cap, cur, rfl, h1, h2, h3, h4, h5, h6⟩
  · exact ⟨none, 0, rfl, Nat.le_refl _, by omega, fun h => absurd h (by omega)⟩
  · exact ⟨_, cap, rfl, h3, h4, fun hn => ⟨g, off, rfl, (Array.getElem?_eq_some_iff.1 h2).1, fun j hj => by rw [h.cell j hj]; exact hf j hj⟩⟩
theorem OwnO.take {g off c : Nat} (h : OwnO w B e s (.slice (some ⟨g, off, none⟩) n c) n xs) {k : Nat} (hk : k ≤ n) :
    OwnO w B e s (.slice (some ⟨g, off, none⟩) k c) k (xs.take (k * s)) := by
  have hle := Nat.mul_le_mul_right s hk
  refine ⟨by rw [List.length_take, h.1]; omega, .inr ?_⟩
  rcases h.2 with ⟨hv, _⟩ | ⟨g', off', cap, cur, hv, h1, h2, h3, h4, h5, h6⟩
  · cases hv
  · injection hv with hv _ hc
    injection hv with hv
    injection hv with e1 e2
    subst e1 e2 hc
    refine ⟨g, off, c, cur, rfl, h1, h2, by omega, h4, h5, fun j u hu => ?_⟩
    rw [List.getElem?_take] at hu
    split at hu
    · exact h6 j u hu
    · cases hu
theorem OwnO.drop {g off c : Nat} (h : OwnO w B e s (.slice (some ⟨g, off, none⟩) n c) n xs) {k : Nat} (hk : k ≤ n) :
    OwnO w B e s (.slice (some (if c = k then ⟨g, off, none⟩ else ⟨g, off + k * s, none⟩)) (n - k) (c - k)) (n - k) (xs.drop (k * s)) := by
  refine ⟨by rw [List.length_drop, h.1, Nat.sub_mul], .inr ?_⟩
  rcases h.2 with ⟨hv, _⟩ | ⟨g', off', cap, cur, hv, h1, h2, h3, h4, h5, h6⟩
  · cases hv
  · injection hv with hv _ hc
    injection hv with hv
    injection hv with e1 e2
    subst e1 e2 hc
    by_cases hck : c = k
    · refine ⟨g, off, c - k, cur, by rw [if_pos hck], h1, h2, by omega, by omega, by rw [hck, Nat.sub_self]; omega, fun j u hu => ?_⟩
      rw [List.getElem?_drop, List.getElem?_eq_none (by rw [h.1]; have := Nat.mul_le_mul_right s h3; rw [hck] at this; omega)] at hu
      cases hu
    · refine ⟨g, off + k * s, c - k, cur, by rw [if_neg hck], h1, h2, by omega, by omega, ?_, fun j u hu => ?_⟩
      · have : k * s + (c - k) * s = c * s := by rw [← Nat.add_mul, Nat.add_sub_cancel' (by omega)]
        omega
      · rw [List.getElem?_drop] at hu
        rw [Nat.add_assoc]
        exact h6 _ u hu
end

section
variable {P : Program} {t e : TypeId} {s : Nat} {z : List Value} {bytes : Nat}
theorem heap_setCells_same (g : Nat) : ∀ (vs : List Value) (o : Nat) (w : World) (cur : Array Value) (t : TypeId), w.heap[g]? = some (.cells cur t (0, 0)) → o + vs.length ≤ cur.size →
    ∃ cur', (w.setCells g o vs).heap[g]? = some (.cells cur' t (0, 0)) ∧ cur'.size = cur.size ∧ (∀ j, j < o → cur'[j]? = cur[j]?) ∧ ∀ j u, vs[j]? = some u → cur'[o + j]? = some u
  | [], o, w, cur, t, h, _ => ⟨cur, h, rfl, fun _ _ => rfl, fun j u hu => by simp at hu⟩
  | v :: r, o, w, cur, t, h, hl => by
    simp only [List.length_cons] at hl
    have h1 := heap_setCell_same w g o cur t v h
    obtain ⟨cur', a1, a2, a3, a4⟩ := heap_setCells_same g r (o + 1) _ _ t h1 (by simp; omega)
    refine ⟨cur', a1, by rw [a2]; simp, fun j hj => ?_, fun j u hu => ?_⟩
    · rw [a3 j (by omega)]
      rw [Array.getElem?_setIfInBounds_ne (by omega)]
    · cases j with
      | zero =>
        simp at hu; subst hu
        rw [Nat.add_zero, a3 o (by omega)]
        simp [Array.getElem?_setIfInBounds_self_of_lt (show o < cur.size by omega)]
      | succ j =>
        have := a4 j u (by simpa using hu)
        rwa [show o + 1 + j = o + (j + 1) by omega] at this

theorem grown_setCells (g : Nat) : ∀ (vs : List Value) (o : Nat) (w : World), w.grownBy (w.setCells g o vs) (some g)
  | [], _, w => ⟨rfl, rfl, rfl, Nat.le_refl _, fun _ _ _ => rfl⟩
  | v :: r, o, w => by
    have h1 := grown_setCell w ⟨g, o, none⟩ v
    have h2 := grown_setCells g r (o + 1) (w.setCell ⟨g, o, none⟩ v)
    exact ⟨h2.os.trans h1.os, h2.tape.trans h1.tape, h2.output.trans h1.output, Nat.le_trans h1.size h2.size, fun k hk hne => (h2.block k (Nat.lt_of_lt_of_le hk h1.size) hne).trans (h1.block k hk hne)⟩

theorem wl_appendO (E : ElT P t e s z bytes) {w : World} {ops : Array Oper} {rest : List Oper} {o : Oper} {a : Act} {Q : Exit → Act → World → Prop}
    (hgd : o.guard = none) (sl x : Operand) (ho : o.op = .call { callee := .builtin .append, args := #[sl, x], argTypes := #[t, t] })
    (B : Nat) (v : Value) (n : Nat) (xs : List Value) (hs : a.eval sl = v) (hown : OwnO w B e s v n xs)
    (b m c : Nat) (news : List Value) (hx : a.eval x = .slice (some ⟨b, 0, none⟩) m c) (hl : news.length = m * s) (hnews : ∀ j u, news[j]? = some u → w.cell? ⟨b, j, none⟩ = some u) (h1 : ∀ u ∈ news, u.oneCell' = true)
    (hbytes : (n + m) * bytes ≤ 140737488355328) (h63 : n + m ≤ 9223372036854775807) (hB : B ≤ w.heap.size)
    (h : ∀ v' w', OwnO w' B e s v' (n + m) (xs ++ news) → w.grownBy w' v.ownBlock → wpList P ops Q rest (a.put o.dst v') w') : wpList P ops Q (o :: rest) a w := by
  obtain ⟨i, zv, h2, h3, h4, h5, h6, h7⟩ := E.parts
  rcases hown.2 with ⟨rfl, rfl⟩ | ⟨g, off, cap, cur, rfl, q1, q2, q3, q4, q5, q6⟩
  · have hx0 : xs = [] := List.eq_nil_of_length_eq_zero (by simpa using hown.1)
    subst hx0
    exact wl_append E hgd sl x ho B _ 0 [] hs (World.ownsRow_nil w B e s) b m c news hx hl hnews h1 hbytes h63 hB fun v' w' r1 r2 => h v' w' (OwnO.of_own r1) r2
  · have hcell : ∀ j u, cur[j]? = some u → w.cell? ⟨g, j, none⟩ = some u := fun j u hu => by rw [cell_of_row w g _ cur e (0, 0) q2]; exact hu
    refine wpList_append_arg w hgd sl x t ho e i zv s bytes E.ht h2 h3 h4 h5 (by rw [h6]; simpa using h7) E.hs g off n cap xs hs hown.1 (fun j u hu => hcell _ _ (q6 j u hu)) ⟨b, 0, none⟩ m c news hx hl
      (fun j u hu => by rw [Addr.add_lit]; simpa using hnews j u hu) h1 (fun hr j hj => ?_) (by unfold maxLen; omega) hbytes (fun hr => ?_) (fun hg v' w' r1 r2 => ?_)
    · have hlt : off + n * s + j < cur.size := by
        have : n * s + m * s ≤ cap * s := by rw [← Nat.add_mul]; exact Nat.mul_le_mul_right s hr
        omega
      exact ⟨by rw [hcell _ _ (Array.getElem?_eq_getElem hlt)]; rfl, frozen_of_row w g _ cur e q2⟩
    · have hle : off + n * s + news.length ≤ cur.size := by
        have : n * s + m * s ≤ cap * s := by rw [← Nat.add_mul]; exact Nat.mul_le_mul_right s hr
        omega
      obtain ⟨cur', a1, a2, a3, a4⟩ := heap_setCells_same g news (off + n * s) w cur e q2 hle
      refine h _ _ ⟨by rw [List.length_append, hown.1, hl, Nat.add_mul], .inr ⟨g, off, cap, cur', rfl, q1, a1, hr, q4, by omega, fun j u hu => ?_⟩⟩ (grown_setCells g news _ w)
      rw [List.getElem?_append] at hu
      split at hu
      · rename_i hj
        rw [a3 _ (by rw [hown.1] at hj; omega)]
        exact q6 j u hu
      · rename_i hj
        have := a4 _ u hu
        rwa [show off + n * s + (j - xs.length) = off + j by rw [hown.1] at hj ⊢; omega] at this
    · have r1' := OwnO.of_own r1
      have hw : OwnO w' B e s v' (n + m) (xs ++ news) := by
        refine ⟨r1'.1, ?_⟩
        rcases r1'.2 with h | ⟨g', off', cap', cur', e1, e2, e3⟩
        · exact .inl h
        · exact .inr ⟨g', off', cap', cur', e1, by omega, e3⟩
      exact h v' w' hw ⟨r2.os, r2.tape, r2.output, r2.size, fun k hk _ => r2.block k hk (by simp)⟩
/-- append of one element, just laid in a new block. -/
theorem wl_append1 (E : ElT P t e s z bytes) {w : World} {ops : Array Oper} {rest : List Oper} {o : Oper} {a : Act} {Q : Exit → Act → World → Prop} {et : TypeId}
    (hgd : o.guard = none) (sl x : Operand) (ho : o.op = .call { callee := .builtin .append, args := #[sl, x], argTypes := #[t, t] })
    (B : Nat) (v : Value) (n : Nat) (xs : List Value) (hs : a.eval sl = v) (hown : OwnO w B e s v n xs)
    (b c : Nat) (news : List Value) (hx : a.eval x = .slice (some ⟨b, 0, none⟩) 1 c) (hb : b = w.heap.size) (hl : news.length = s) (h1 : news.all (·.oneCell') = true)
    (hby : bytes ≤ 128) (hn : n + 1 ≤ 1099511627776) (hB : B ≤ w.heap.size)
    (h : ∀ v' w', OwnO w' B e s v' (n + 1) (xs ++ news) → w.grownBy w' v.ownBlock → wpList P ops Q rest (a.put o.dst v') w') : wpList P ops Q (o :: rest) a (w.alloc (.cells news.toArray et)) := by
  subst hb
  refine wl_appendO E hgd sl x ho B v n xs hs (hown.alloc _) w.heap.size 1 c news hx (by omega) (fun j u hu => ?_) (fun u hu => (List.all_eq_true.1 h1) u hu) ?_ (by omega) (Nat.le_trans hB (Pure.alloc (Pure.refl w) _).size)
    (fun v' w' r1 r2 => h v' w' r1 ?_)
  · have := cell_of_row (w.alloc (.cells news.toArray et)) w.heap.size j news.toArray et (0, 0) (heap_alloc_new w _)
    rw [this]
    simpa using hu
  · have := Nat.mul_le_mul hn hby
    omega
  · have h0 := World.grownBy_alloc w (.cells news.toArray et) v.ownBlock
    exact ⟨r2.os.trans h0.os, r2.tape.trans h0.tape, r2.output.trans h0.output, Nat.le_trans h0.size r2.size, fun k hk hne => (r2.block k (Nat.lt_of_lt_of_le hk h0.size) hne).trans (h0.block k hk hne)⟩
end

end Go.Proofs.Ytajaonejpggcbaa

namespace Go.Proofs.Ytajaonejpggcbaa

structure Cd where
  op : Int
  a : Int
  b : Int
  c : Int
deriving DecidableEq, Inhabited

def Reg (x : Int) : Prop := 0 ≤ x ∧ x ≤ 3
def Word (x : Int) : Prop := 0 ≤ x ∧ x ≤ 255
def CdOk (c : Cd) : Prop :=
  (c.op = 1 ∧ Reg c.a ∧ Word c.b ∧ c.c = 0) ∨ ((c.op = 2 ∨ c.op = 11) ∧ Reg c.a ∧ c.b = 0 ∧ c.c = 0) ∨
  ((c.op = 3 ∨ c.op = 4 ∨ c.op = 5 ∨ c.op = 8 ∨ c.op = 9) ∧ Reg c.a ∧ Reg c.b ∧ c.c = 0) ∨
  ((c.op = 6 ∨ c.op = 7) ∧ Reg c.a ∧ Reg c.b ∧ Reg c.c) ∨ (c.op = 13 ∧ Reg c.a ∧ (1 ≤ c.b ∧ c.b ≤ 4) ∧ c.c = 0) ∨
  ((c.op = 10 ∨ c.op = 12 ∨ c.op = 14) ∧ c.a = 0 ∧ c.b = 0 ∧ c.c = 0)
def Opens (c : Cd) : Prop := c.op = 11 ∨ c.op = 13
instance (c : Cd) : Decidable (Opens c) := by unfold Opens; infer_instance

/-- A step of the scan: the open blocks, the innermost one first: its place, and 11 (an if), 12 (an if behind its else) or 13 (a loop). -/
def sstep (st : List (Nat × Int)) (k : Nat) (c : Cd) : Option (List (Nat × Int)) :=
  if c.op = 11 ∨ c.op = 13 then (if st.length < 3 then some ((k, c.op) :: st) else none)
  else if c.op = 12 then (match st with | (p, m) :: r => if m = 11 then some ((p, 12) :: r) else none | [] => none)
  else if c.op = 14 then (match st with | _ :: r => some r | [] => none)
  else some st
theorem sstep_open {st : List (Nat × Int)} {k : Nat} {c : Cd} (h : Opens c) : sstep st k c = if st.length < 3 then some ((k, c.op) :: st) else none := by
  unfold sstep; exact if_pos h
theorem sstep_else {st : List (Nat × Int)} {k : Nat} {c : Cd} (h : c.op = 12) : sstep st k c = (match st with | (p, m) :: r => if m = 11 then some ((p, 12) :: r) else none | [] => none) := by
  unfold sstep; rw [if_neg (by omega), if_pos h]
theorem sstep_end {st : List (Nat × Int)} {k : Nat} {c : Cd} (h : c.op = 14) : sstep st k c = (match st with | _ :: r => some r | [] => none) := by
  unfold sstep; rw [if_neg (by omega), if_neg (by omega), if_pos h]
theorem sstep_other {st : List (Nat × Int)} {k : Nat} {c : Cd} (h1 : ¬ Opens c) (h2 : c.op ≠ 12) (h3 : c.op ≠ 14) : sstep st k c = some st := by
  unfold Opens at h1
  unfold sstep; rw [if_neg h1, if_neg h2, if_neg h3]
def sscan : List Cd → Nat → List (Nat × Int) → Option (List (Nat × Int))
  | [], _, st => some st
  | c :: r, k, st => (sstep st k c).bind (sscan r (k + 1))
theorem sscan_append (l m : List Cd) (k : Nat) (st : List (Nat × Int)) : sscan (l ++ m) k st = (sscan l k st).bind (sscan m (k + l.length)) := by
  induction l generalizing k st with
  | nil => simp [sscan]
  | cons c r ih =>
    simp only [List.cons_append, sscan, List.length_cons]
    cases sstep st k c with
    | none => rfl
    | some st' => simp only [Option.bind_some]; rw [ih, show k + 1 + r.length = k + (r.length + 1) by omega]
theorem sscan_take {cs : List Cd} {k : Nat} (hk : k < cs.length) {st : List (Nat × Int)} (h : sscan (cs.take k) 0 [] = some st) : sscan (cs.take (k + 1)) 0 [] = sstep st k (cs.getD k default) := by
  rw [List.take_succ_eq_append_getElem hk, sscan_append, h]
  simp only [Option.bind_some, List.length_take, sscan, List.getD_eq_getElem?_getD, List.getElem?_eq_getElem hk, Option.getD_some]
  rw [show 0 + min k cs.length = k by omega]
  cases sstep st k cs[k] <;> rfl
theorem sscan_none {cs : List Cd} {k : Nat} (h : sscan (cs.take k) 0 [] = none) : sscan cs 0 [] = none := by
  have := sscan_append (cs.take k) (cs.drop k) 0 []
  rw [List.take_append_drop] at this
  rw [this, h]; rfl

theorem sscan_lt' : ∀ (l : List Cd) (k : Nat) (st st' : List (Nat × Int)), (∀ x ∈ st, x.1 < k) → sscan l k st = some st' → ∀ x ∈ st', x.1 < k + l.length
  | [], k, st, st', h, hs => by
    simp only [sscan, Option.some.injEq] at hs
    subst hs
    simpa using h
  | c :: r, k, st, st', h, hs => by
    simp only [sscan] at hs
    cases hc : sstep st k c with
    | none => rw [hc] at hs; cases hs
    | some st1 =>
      rw [hc] at hs
      have h1 : ∀ x ∈ st1, x.1 < k + 1 := by
        unfold sstep at hc
        split at hc
        · split at hc
          · injection hc with hc; subst hc
            intro x hx
            rcases List.mem_cons.1 hx with rfl | hx
            · simp
            · have := h x hx; omega
          · cases hc
        · split at hc
          · split at hc
            · rename_i p m r'
              split at hc
              · injection hc with hc; subst hc
                intro x hx
                rcases List.mem_cons.1 hx with rfl | hx
                · have := h (p, m) (by simp); simp at this ⊢; omega
                · have := h x (by simp [hx]); omega
              · cases hc
            · cases hc
          · split at hc
            · split at hc
              · injection hc with hc; subst hc
                intro x hx
                have := h x (by simp [hx]); omega
              · cases hc
            · injection hc with hc; subst hc
              intro x hx
              have := h x hx; omega
      have := sscan_lt' r (k + 1) st1 st' h1 hs
      intro x hx
      have := this x hx
      simp only [List.length_cons]; omega
theorem sscan_lt {l : List Cd} {st : List (Nat × Int)} (h : sscan l 0 [] = some st) : ∀ x ∈ st, x.1 < l.length := by
  intro x hx
  have := sscan_lt' l 0 [] st (by simp) h x hx
  omega
def PValid (cs : List Cd) : Prop := (∀ c ∈ cs, CdOk c) ∧ cs.length ≤ 40 ∧ sscan cs 0 [] = some []

/-- Where the block ends whose instructions follow, and where it is divided. -/
def eScan : List Cd → Nat → Nat → Int → Int × Int
  | [], _, _, o => (-1, o)
  | c :: r, k, d, o =>
    if Opens c then eScan r (k + 1) (d + 1) o
    else if c.op = 12 ∧ d = 0 then eScan r (k + 1) d k
    else if c.op = 14 ∧ d = 0 then (k, o)
    else if c.op = 14 then eScan r (k + 1) (d - 1) o
    else eScan r (k + 1) d o
theorem eScan_cons (c : Cd) (r : List Cd) (k d : Nat) (o : Int) : eScan (c :: r) k d o =
    if Opens c then eScan r (k + 1) (d + 1) o
    else if c.op = 12 ∧ d = 0 then eScan r (k + 1) d k
    else if c.op = 14 ∧ d = 0 then (k, o)
    else if c.op = 14 then eScan r (k + 1) (d - 1) o
    else eScan r (k + 1) d o := rfl
def endAt (cs : List Cd) (p : Nat) : Int × Int := eScan (cs.drop (p + 1)) (p + 1) 0 (-1)

/-- The place that opens the innermost block around place k, but for d blocks within. -/
def bScan (cs : List Cd) : Nat → Nat → Int
  | 0, _ => -1
  | k + 1, d =>
    if (cs.getD k default).op = 14 then bScan cs k (d + 1)
    else if Opens (cs.getD k default) then (if d = 0 then (k : Int) else bScan cs k (d - 1))
    else bScan cs k d
def aroundAt (cs : List Cd) (k : Nat) : Int := bScan cs k 0

/-- What the scan's stack knows of the blocks that are open at place k. -/
structure Stk (cs : List Cd) (k : Nat) (st : List (Nat × Int)) : Prop where
  len : st.length ≤ 3
  lt : ∀ i (h : i < st.length), (st[i]).1 < k
  mono : st.Pairwise (fun x y => y.1 < x.1)
  around : ∀ i, bScan cs k i = (match st[i]? with | some x => (x.1 : Int) | none => -1)
  ends : ∀ i (h : i < st.length), ∃ o : Int, endAt cs (st[i]).1 = eScan (cs.drop k) k i o ∧
    ((st[i].2 = 11 ∧ (cs.getD st[i].1 default).op = 11 ∧ o = -1) ∨ (st[i].2 = 12 ∧ (cs.getD st[i].1 default).op = 11 ∧ (st[i].1 : Int) < o ∧ o < k) ∨ (st[i].2 = 13 ∧ (cs.getD st[i].1 default).op = 13 ∧ o = -1))

theorem Stk.nil (cs : List Cd) : Stk cs 0 [] := ⟨by simp, by simp, .nil, fun i => by simp [bScan], by simp⟩

theorem drop_cons {cs : List Cd} {k : Nat} (hk : k < cs.length) : cs.drop k = cs.getD k default :: cs.drop (k + 1) := by
  rw [List.drop_eq_getElem_cons hk]; simp [List.getD_eq_getElem?_getD, hk]

theorem Stk.step {cs : List Cd} {k : Nat} {st st' : List (Nat × Int)} (h : Stk cs k st) (hk : k < cs.length) (hs : sstep st k (cs.getD k default) = some st') : Stk cs (k + 1) st' := by
  have hd := drop_cons hk
  generalize hc : cs.getD k default = c at hs hd
  unfold sstep at hs
  by_cases h1 : c.op = 11 ∨ c.op = 13
  · rw [if_pos h1] at hs
    by_cases h3 : st.length < 3
    · rw [if_pos h3] at hs
      injection hs with hs
      subst hs
      have hop : Opens c := h1
      have h14 : c.op ≠ 14 := by rcases h1 with h | h <;> omega
      refine ⟨by simp; omega, ?_, ?_, ?_, ?_⟩
      · intro i hi
        cases i with
        | zero => simp
        | succ i => have := h.lt i (by simpa using hi); simp; omega
      · refine List.pairwise_cons.2 ⟨fun x hx => ?_, h.mono⟩
        obtain ⟨i, hi, e⟩ := List.mem_iff_getElem.1 hx
        have := h.lt i hi
        rw [e] at this
        exact this
      · intro i
        simp only [bScan, hc, if_neg h14, if_pos hop]
        cases i with
        | zero => simp
        | succ i => simp [h.around i]
      · intro i hi
        cases i with
        | zero =>
          refine ⟨-1, rfl, ?_⟩
          simp only [List.getElem_cons_zero, hc]
          rcases h1 with h1 | h1
          · exact .inl ⟨h1, h1, by trivial⟩
          · exact .inr (.inr ⟨h1, h1, by trivial⟩)
        | succ i =>
          obtain ⟨o, e, hm⟩ := h.ends i (by simpa using hi)
          refine ⟨o, ?_, ?_⟩
          · simp only [List.getElem_cons_succ]
            rw [e, hd]
            simp only [eScan, if_pos hop]
          · simp only [List.getElem_cons_succ]
            rcases hm with hm | ⟨a, b, c, d⟩ | hm
            · exact .inl hm
            · exact .inr (.inl ⟨a, b, c, by omega⟩)
            · exact .inr (.inr hm)
    · rw [if_neg h3] at hs; cases hs
  · rw [if_neg h1] at hs
    have hop : ¬ Opens c := h1
    by_cases h2 : c.op = 12
    · rw [if_pos h2] at hs
      have h14 : c.op ≠ 14 := by omega
      cases st with
      | nil => cases hs
      | cons x r =>
        obtain ⟨p, m⟩ := x
        simp only at hs
        by_cases hm : m = 11
        · rw [if_pos hm] at hs
          injection hs with hs
          subst hs hm
          refine ⟨by simpa using h.len, ?_, ?_, ?_, ?_⟩
          · intro i hi
            cases i with
            | zero => have := h.lt 0 (by simp); simp at this ⊢; omega
            | succ i => have := h.lt (i + 1) (by simpa using hi); simp at this ⊢; omega
          · have := List.pairwise_cons.1 h.mono
            exact List.pairwise_cons.2 ⟨this.1, this.2⟩
          · intro i
            simp only [bScan, hc, if_neg h14, if_neg hop]
            rw [h.around i]
            cases i <;> simp
          · intro i hi
            cases i with
            | zero =>
              obtain ⟨o, e, hm⟩ := h.ends 0 (by simp)
              have hlt := h.lt 0 (by simp)
              simp only [List.getElem_cons_zero] at e hm hlt ⊢
              refine ⟨k, ?_, ?_⟩
              · rw [e, hd]
                simp only [eScan, if_neg hop, h2, true_and, if_true]
              · rcases hm with hm | hm | hm
                · exact .inr (.inl ⟨by trivial, hm.2.1, by omega, by omega⟩)
                · omega
                · omega
            | succ i =>
              obtain ⟨o, e, hm⟩ := h.ends (i + 1) (by simpa using hi)
              simp only [List.getElem_cons_succ] at e hm ⊢
              refine ⟨o, ?_, ?_⟩
              · rw [e, hd]
                simp only [eScan, if_neg hop, h2]
                simp
              · rcases hm with hm | ⟨a, b, c, d⟩ | hm
                · exact .inl hm
                · exact .inr (.inl ⟨a, b, c, by omega⟩)
                · exact .inr (.inr hm)
        · rw [if_neg hm] at hs; cases hs
    · rw [if_neg h2] at hs
      by_cases h4 : c.op = 14
      · rw [if_pos h4] at hs
        cases st with
        | nil => cases hs
        | cons x r =>
          simp only at hs
          injection hs with hs
          subst hs
          refine ⟨by have := h.len; simp at this; omega, ?_, (List.pairwise_cons.1 h.mono).2, ?_, ?_⟩
          · intro i hi
            have := h.lt (i + 1) (by simpa using hi)
            simp at this ⊢; omega
          · intro i
            simp only [bScan, hc, if_pos h4]
            rw [h.around (i + 1)]
            simp
          · intro i hi
            obtain ⟨o, e, hm⟩ := h.ends (i + 1) (by simpa using hi)
            simp only [List.getElem_cons_succ] at e hm
            refine ⟨o, ?_, ?_⟩
            · rw [e, hd]
              simp only [eScan, if_neg hop, h4]
              simp
            · rcases hm with hm | ⟨a, b, c, d⟩ | hm
              · exact .inl hm
              · exact .inr (.inl ⟨a, b, c, by omega⟩)
              · exact .inr (.inr hm)
      · rw [if_neg h4] at hs
        injection hs with hs
        subst hs
        refine ⟨h.len, ?_, h.mono, ?_, ?_⟩
        · intro i hi
          have := h.lt i hi
          omega
        · intro i
          simp only [bScan, hc, if_neg h4, if_neg hop]
          exact h.around i
        · intro i hi
          obtain ⟨o, e, hm⟩ := h.ends i hi
          refine ⟨o, ?_, ?_⟩
          · rw [e, hd]
            simp only [eScan, if_neg hop, h2, h4, false_and, if_false]
          · rcases hm with hm | ⟨a, b, c, d⟩ | hm
            · exact .inl hm
            · exact .inr (.inl ⟨a, b, c, by omega⟩)
            · exact .inr (.inr hm)

end Go.Proofs.Ytajaonejpggcbaa

namespace Go.Proofs.Ytajaonejpggcbaa
open Go.RowKit

def cdCells (c : Cd) : List Value := [.int .i64 c.op, .int .i64 c.a, .int .i64 c.b, .int .i64 c.c]
def cdv (c : Cd) : Value := .agg #[.int .i64 c.op, .int .i64 c.a, .int .i64 c.b, .int .i64 c.c]
def cdf (cs : List Cd) (j : Nat) : Value := (cdCells (cs.getD (j / 4) default)).getD (j % 4) undef
def Codes (w : World) (v : Value) (cs : List Cd) : Prop := Cells w v cs.length 4 (cdf cs)
theorem Codes.keep {w w' : World} {v : Value} {cs : List Cd} (h : Codes w v cs) (hp : Pure w w') : Codes w' v cs := Cells.keep h hp
theorem Codes.form {w : World} {v : Value} {cs : List Cd} (h : Codes w v cs) : ∃ A c, v = .slice A cs.length c ∧ cs.length ≤ c ∧ c ≤ 9223372036854775807 := by
  obtain ⟨A, c, h, h1, h2, _⟩ := h
  exact ⟨A, c, h, h1, h2⟩

/-- An instruction lies in block b from offset o on. -/
structure CodeAt (w : World) (b o : Nat) (c : Cd) : Prop where
  c0 : w.cell? ⟨b, o, none⟩ = some (.int .i64 c.op)
  c1 : w.cell? ⟨b, o + 1, none⟩ = some (.int .i64 c.a)
  c2 : w.cell? ⟨b, o + 2, none⟩ = some (.int .i64 c.b)
  c3 : w.cell? ⟨b, o + 3, none⟩ = some (.int .i64 c.c)
theorem CodeAt.keep {w w' : World} {b o : Nat} {c : Cd} (h : CodeAt w b o c) (hp : Pure w w') (hb : b < w.heap.size) : CodeAt w' b o c :=
  ⟨(hp.cell b _ hb).trans h.c0, (hp.cell b _ hb).trans h.c1, (hp.cell b _ hb).trans h.c2, (hp.cell b _ hb).trans h.c3⟩

theorem cdf_at (cs : List Cd) (k i : Nat) (hi : i < 4) : cdf cs (k * 4 + i) = (cdCells (cs.getD k default)).getD i undef := by
  unfold cdf
  rw [show (k * 4 + i) / 4 = k by omega, show (k * 4 + i) % 4 = i by omega]

theorem Codes.at_ {w : World} {A : Option Addr} {n c : Nat} {cs : List Cd} (h : Codes w (.slice A n c) cs) {k : Nat} (hk : k < cs.length) :
    ∃ b o, A = some ⟨b, o, none⟩ ∧ b < w.heap.size ∧ CodeAt w b (o + k * 4) (cs.getD k default) := by
  obtain ⟨A', c', hv, _, _, h4⟩ := h
  injection hv with e1 e2 e3
  subst e1
  obtain ⟨b, o, rfl, hb, hc⟩ := h4 (by omega)
  refine ⟨b, o, rfl, hb, ?_, ?_, ?_, ?_⟩
  · have := hc (k * 4 + 0) (by omega); rw [cdf_at _ _ _ (by omega)] at this; exact this
  · have := hc (k * 4 + 1) (by omega); rw [cdf_at _ _ _ (by omega)] at this; rw [Nat.add_assoc]; exact this
  · have := hc (k * 4 + 2) (by omega); rw [cdf_at _ _ _ (by omega)] at this; rw [Nat.add_assoc]; exact this
  · have := hc (k * 4 + 3) (by omega); rw [cdf_at _ _ _ (by omega)] at this; rw [Nat.add_assoc]; exact this

theorem Codes.of_ownO {w : World} {B e n : Nat} {v : Value} {xs : List Value} {cs : List Cd} (h : OwnO w B e 4 v n xs) (hn : n = cs.length) (hf : ∀ j, j < cs.length * 4 → xs[j]? = some (cdf cs j)) : Codes w v cs := by
  subst hn
  exact Cells.of_ownO h hf

end Go.Proofs.Ytajaonejpggcbaa

namespace Go.Proofs.Ytajaonejpggcbaa
open Go.RowKit

theorem IntRows.of_own {w : World} {B e n : Nat} {v : Value} {xs : List Value} {xss : List (List Int)} (h : w.ownsRow B e 1 v n xs) (hn : n = xss.length) (hf : ∀ j, j < xss.length → ∃ r, xs[j]? = some r ∧ Ints w r (xss.getD j [])) : IntRows w v xss := by
  subst hn
  rcases h.2 with ⟨rfl, h0⟩ | ⟨g, cap, cur, rfl, _, hg, hnc, hcm, _⟩
  · exact ⟨none, 0, by rw [h0], by omega, by omega, fun h => absurd h (by omega)⟩
  · refine ⟨_, cap, rfl, hnc, by unfold maxLen at hcm; omega, fun hn => ⟨g, 0, rfl, (Array.getElem?_eq_some_iff.1 hg).1, fun j hj => ?_⟩⟩
    obtain ⟨r, h1, h2⟩ := hf j hj
    exact ⟨r, by rw [Nat.zero_add, h.cellAt j (by omega)]; exact h1, h2⟩

end Go.Proofs.Ytajaonejpggcbaa

namespace Go.Proofs.Ytajaonejpggcbaa
open Go.RowKit

/-- A lane, of any kind. -/
structure Lx where
  rs : List Int
  at_ : Int
  ts : List Int
  wt : Bool
deriving Inhabited
/-- A crowd, of any kind. -/
structure Cx where
  ls : List Lx
  mem : List Int

/-- The four cells of a lane, and its rows. -/
structure LnAt (w : World) (b o : Nat) (l : Lx) (R T : Value) : Prop where
  c0 : w.cell? ⟨b, o, none⟩ = some R
  c1 : w.cell? ⟨b, o + 1, none⟩ = some (.int .i64 l.at_)
  c2 : w.cell? ⟨b, o + 2, none⟩ = some T
  c3 : w.cell? ⟨b, o + 3, none⟩ = some (.bool l.wt)
  r : Ints w R l.rs
  t : Ints w T l.ts
theorem LnAt.keep {w w' : World} {b o : Nat} {l : Lx} {R T : Value} (h : LnAt w b o l R T) (hp : Pure w w') : LnAt w' b o l R T := by
  have hb : b < w.heap.size := World.block_lt_of_cell? _ _ h.c0
  exact ⟨(hp.cell b _ hb).trans h.c0, (hp.cell b _ hb).trans h.c1, (hp.cell b _ hb).trans h.c2, (hp.cell b _ hb).trans h.c3, h.r.keep hp, h.t.keep hp⟩
def Lanes (w : World) (v : Value) (ls : List Lx) : Prop :=
  ∃ A c, v = .slice A ls.length c ∧ ls.length ≤ c ∧ c ≤ 9223372036854775807 ∧ (0 < ls.length → ∃ b o, A = some ⟨b, o, none⟩ ∧ b < w.heap.size ∧ ∀ k, k < ls.length → ∃ R T, LnAt w b (o + k * 4) (ls.getD k default) R T)
theorem Lanes.keep {w w' : World} {v : Value} {ls : List Lx} (h : Lanes w v ls) (hp : Pure w w') : Lanes w' v ls := by
  obtain ⟨A, c, h1, h2, h3, h4⟩ := h
  refine ⟨A, c, h1, h2, h3, fun hn => ?_⟩
  obtain ⟨b, o, e, hb, hc⟩ := h4 hn
  refine ⟨b, o, e, Nat.lt_of_lt_of_le hb hp.size, fun k hk => ?_⟩
  obtain ⟨R, T, h⟩ := hc k hk
  exact ⟨R, T, h.keep hp⟩
theorem Lanes.form {w : World} {v : Value} {ls : List Lx} (h : Lanes w v ls) : ∃ A c, v = .slice A ls.length c ∧ ls.length ≤ c ∧ c ≤ 9223372036854775807 := by
  obtain ⟨A, c, h, h1, h2, _⟩ := h
  exact ⟨A, c, h, h1, h2⟩
theorem Lanes.at_ {w : World} {A : Option Addr} {n c : Nat} {ls : List Lx} (h : Lanes w (.slice A n c) ls) {k : Nat} (hk : k < ls.length) : ∃ b o, A = some ⟨b, o, none⟩ ∧ b < w.heap.size ∧ ∃ R T, LnAt w b (o + k * 4) (ls.getD k default) R T := by
  obtain ⟨A', c', hv, _, _, h4⟩ := h
  injection hv with e1 e2 e3
  subst e1
  obtain ⟨b, o, rfl, hb, hc⟩ := h4 (by omega)
  exact ⟨b, o, rfl, hb, hc k hk⟩
def Crowd (w : World) (v : Value) (c : Cx) : Prop := ∃ vl vm, v = .agg #[vl, vm] ∧ Lanes w vl c.ls ∧ Ints w vm c.mem
theorem Crowd.keep {w w' : World} {v : Value} {c : Cx} (h : Crowd w v c) (hp : Pure w w') : Crowd w' v c := by
  obtain ⟨vl, vm, e, h1, h2⟩ := h
  exact ⟨vl, vm, e, h1.keep hp, h2.keep hp⟩
def lnVX (R : Value) (a : Int) (T : Value) (b : Bool) : Value := .agg #[R, .int .i64 a, T, .bool b]

end Go.Proofs.Ytajaonejpggcbaa
