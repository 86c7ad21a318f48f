/- Words on memory that all walks of this seat use: slices that read as lists, worlds that only grow. No condition. -/
import Derived.WalkKit
import Derived.WalkSpells
import Derived.WalkLawsBesides
import Derived.Lib.Hide
import Derived.Deep.QuietTactic
import Derived.BigQuiet
namespace Go.Proofs.Ytokdfgodmhekmaa
open Go.RowKit

theorem add_mid (b o j : Nat) : (⟨b, o, none⟩ : Addr).add j = ⟨b, o + j, none⟩ := by unfold Addr.add; split <;> simp_all
theorem ret_bool {a b : Bool} (h : a = b) : Ending.returned (.bool a) = Ending.returned (.bool b) := by rw [h]
theorem ret_int {k : IntKind} {a b : Int} (h : a = b) : Ending.returned (.int k a) = Ending.returned (.int k b) := by rw [h]

/-- w' is w, but for new blocks and draws. -/
def Pure (w w' : World) : Prop := Below w.heap.size w w'

theorem Pure.refl (w : World) : Pure w w := Below.refl _ _
theorem Pure.trans {a b c : World} (h : Pure a b) (k : Pure b c) : Pure a c :=
  Below.trans h (Below.mono (show Below b.heap.size b c from k) (show Below a.heap.size a b from h).size)
theorem Pure.drew {a w : World} (h : Pure a w) : Pure a w.drew := Below.drew h
theorem Pure.drewN {a w : World} (h : Pure a w) (n : Nat) : Pure a (w.drewN n) := ⟨h.os, h.tape, h.output, h.size, h.block⟩
theorem Pure.alloc {a w : World} (h : Pure a w) (o : Obj) : Pure a (w.alloc o) := Below.alloc h h.size o
theorem Pure.size {a w : World} (h : Pure a w) : a.heap.size ≤ w.heap.size := Below.size h
theorem Pure.below {a w : World} (h : Pure a w) : Below a.heap.size a w := h
theorem Pure.cell {a w : World} (h : Pure a w) (b o : Nat) (hb : b < a.heap.size) : w.cell? ⟨b, o, none⟩ = a.cell? ⟨b, o, none⟩ := Below.cell (p := ⟨b, o, none⟩) h hb
theorem Pure.frozen {a w : World} (h : Pure a w) (b o : Nat) (hb : b < a.heap.size) : w.frozen? ⟨b, o, none⟩ = a.frozen? ⟨b, o, none⟩ := Below.frozen (p := ⟨b, o, none⟩) h hb

/-- The slice value v has n elements of s cells each; cell j holds f j. -/
def Cells (w : World) (v : Value) (n s : Nat) (f : Nat → Value) : Prop :=
  ∃ A c, v = .slice A n c ∧ n ≤ c ∧ c ≤ 9223372036854775807 ∧ (0 < n → ∃ b o, A = some ⟨b, o, none⟩ ∧ b < w.heap.size ∧ ∀ j, j < n * s → w.cell? ⟨b, o + j, none⟩ = some (f j))

theorem Cells.keep {w w' : World} {v : Value} {n s : Nat} {f : Nat → Value} (h : Cells w v n s f) (hp : Pure w w') : Cells w' v n s f := by
  obtain ⟨A, c, h1, h2, h3, h4⟩ := h
  refine ⟨A, c, h1, h2, h3, fun hn => ?_⟩
  obtain ⟨b, o, e, hb, hc⟩ := h4 hn
  exact ⟨b, o, e, Nat.lt_of_lt_of_le hb hp.size, fun j hj => (hp.cell b _ hb).trans (hc j hj)⟩

def Ints (w : World) (v : Value) (xs : List Int) : Prop := Cells w v xs.length 1 (fun j => .int .i64 (xs.getD j 0))
theorem Ints.keep {w w' : World} {v : Value} {xs : List Int} (h : Ints w v xs) (hp : Pure w w') : Ints w' v xs := Cells.keep h hp

/-- A slice of slices of numbers. -/
def IntRows (w : World) (v : Value) (xss : List (List Int)) : Prop :=
  ∃ A c, v = .slice A xss.length c ∧ xss.length ≤ c ∧ c ≤ 9223372036854775807 ∧ (0 < xss.length → ∃ b o, A = some ⟨b, o, none⟩ ∧ b < w.heap.size ∧ ∀ k, k < xss.length → ∃ r, w.cell? ⟨b, o + k, none⟩ = some r ∧ Ints w r (xss.getD k []))

theorem IntRows.keep {w w' : World} {v : Value} {xss : List (List Int)} (h : IntRows w v xss) (hp : Pure w w') : IntRows w' v xss := by
  obtain ⟨A, c, h1, h2, h3, h4⟩ := h
  refine ⟨A, c, h1, h2, h3, fun hn => ?_⟩
  obtain ⟨b, o, e, hb, hc⟩ := h4 hn
  refine ⟨b, o, e, Nat.lt_of_lt_of_le hb hp.size, fun k hk => ?_⟩
  obtain ⟨r, h5, h6⟩ := hc k hk
  exact ⟨r, (hp.cell b _ hb).trans h5, h6.keep hp⟩


/-- What a slice type's elements are. -/
structure ElT (P : Program) (t e : TypeId) (s : Nat) (z : List Value) (bytes : Nat) : Prop where
  ht : P.underlying t = some (.slice e)
  hi : ∃ zv, (P.info? e).map (fun i => (i.zero, i.size, i.bytes)) = some (some zv, s, bytes) ∧ zv.cells = z.toArray ∧ z.length = s
  hs : 0 < s

section
variable {P : Program} {t e : TypeId} {s : Nat} {z : List Value} {bytes : Nat}

theorem ElT.parts (E : ElT P t e s z bytes) : ∃ i zv, P.info? e = some i ∧ i.zero = some zv ∧ i.size = s ∧ i.bytes = bytes ∧ zv.cells = z.toArray ∧ z.length = s := by
  obtain ⟨zv, h, h2, h3⟩ := E.hi
  obtain ⟨i, a, b, c, d⟩ := info_parts h
  exact ⟨i, zv, a, b, c, d, h2, h3⟩

/-- n zero elements. -/
def zeros (z : List Value) (n : Nat) : List Value := (madeCells z.toArray (n * z.length)).toList
theorem zeros_length (z : List Value) (n : Nat) : (zeros z n).length = n * z.length := by simp [zeros, size_madeCells]
theorem zeros_get (z : List Value) (n j : Nat) (hj : j < n * z.length) : (zeros z n)[j]? = z[j % z.length]? := by
  have hz : 0 < z.length := by
    rcases Nat.eq_zero_or_pos z.length with h | h
    · rw [h] at hj; simp at hj
    · exact h
  have hm := Nat.mod_lt j hz
  simp [zeros, madeCells, hj, hm]

theorem wl_make (E : ElT P t e s z bytes) {w : World} {ops : Array Oper} {rest : List Oper} {o : Oper} {a : Act} {Q : Exit → Act → World → Prop}
    (hg : o.guard = none) (l c : Operand) (hop : o.op = Op.makeSlice t l c) (B : Nat) (kl kc : IntKind) (L C : Int) (n : Nat) (hl : a.eval l = .int kl L) (hc : a.eval c = .int kc C) (hL : L = (n : Int)) (hC : C = (n : Int))
    (b2 : n * bytes ≤ 281474976710656) (b3 : n ≤ 9223372036854775807) (b4 : B ≤ w.heap.size)
    (hK : ∀ w', w'.ownsRow B e s (.slice (some ⟨w.heap.size, 0, none⟩) n n) n (zeros z n) → Pure w w' → w.heap.size < w'.heap.size → wpList P ops Q rest (a.put o.dst (.slice (some ⟨w.heap.size, 0, none⟩) n n)) w') :
    wpList P ops Q (o :: rest) a w := by
  obtain ⟨i, zv, h2, h3, h4, h5, h6, h7⟩ := E.parts
  refine wpList_make_full w hg l c t hop B e i zv s E.ht h2 h3 h4 kl kc L C n hl hc hL hC (by rw [h5, Nat.mul_comm]; exact b2) (by unfold maxLen; omega) b4 fun w' hown hgr => ?_
  rw [h6, ← h7] at hown
  rw [h7] at hown
  have hown' : w'.ownsRow B e s (.slice (some ⟨w.heap.size, 0, none⟩) n n) n (zeros z n) := by
    unfold zeros; rw [h7]; exact hown
  refine hK w' hown' ((Below.refl _ _).grown hgr (Nat.le_refl _) (fun k hk => by cases hk)) ?_
  exact (hown.lt w.heap.size rfl).2

theorem wl_append (E : ElT P t e s z bytes) {w : World} {ops : Array Oper} {rest : List Oper} {o : Oper} {a : Act} {Q : Exit → Act → World → Prop}
    (hgd : o.guard = none) (sl x : Operand) (ho : o.op = .call { callee := .builtin .append, args := #[sl, x], argTypes := #[t, t] })
    (B : Nat) (v : Value) (n : Nat) (xs : List Value) (hs : a.eval sl = v) (hown : w.ownsRow B e s v n xs)
    (b m c : Nat) (news : List Value) (hx : a.eval x = .slice (some ⟨b, 0, none⟩) m c) (hl : news.length = m * s) (hnews : ∀ j u, news[j]? = some u → w.cell? ⟨b, j, none⟩ = some u) (h1 : ∀ u ∈ news, u.oneCell' = true)
    (hbytes : (n + m) * bytes ≤ 140737488355328) (h63 : n + m ≤ 9223372036854775807) (hB : B ≤ w.heap.size)
    (h : ∀ v' w', w'.ownsRow B e s v' (n + m) (xs ++ news) → w.grownBy w' v.ownBlock → wpList P ops Q rest (a.put o.dst v') w') : wpList P ops Q (o :: rest) a w := by
  obtain ⟨i, zv, h2, h3, h4, h5, h6, h7⟩ := E.parts
  refine wpList_append_own w hgd sl x t ho B e i zv s bytes E.ht h2 h3 h4 h5 (by rw [h6]; simpa using h7) E.hs v n xs hs hown ⟨b, 0, none⟩ m c news hx hl (fun j u hu => ?_) h1 (by unfold maxLen; omega) hbytes hB fun v' w' q1 q2 _ => h v' w' q1 q2
  rw [Addr.add_lit]
  simpa using hnews j u hu
end

theorem Pure.grown {w0 w w' : World} {row : Option Nat} (h : Pure w0 w) (hg : w.grownBy w' row) (hr : ∀ k, row = some k → w0.heap.size ≤ k) : Pure w0 w' :=
  Below.grown h hg h.size hr
theorem Pure.setCell {a w : World} (h : Pure a w) {p : Addr} (hp : a.heap.size ≤ p.block) (u : Value) : Pure a (w.setCell p u) := Below.setCell h hp u
theorem Pure.grownBy {a w : World} (h : Pure a w) (row : Option Nat) : a.grownBy w row := ⟨h.os, h.tape, h.output, h.size, fun k hk _ => h.block k hk⟩

section
variable {w w' : World} {B e s n : Nat} {v : Value} {xs : List Value}
theorem own_pure (h : w.ownsRow B e s v n xs) (hp : Pure w w') : w'.ownsRow B e s v n xs := h.kept (hp.grownBy none) (by cases hv : v.ownBlock <;> simp)
theorem own_lt (h : w.ownsRow B e s v n xs) (k : Nat) (hk : v.ownBlock = some k) : B ≤ k ∧ k < w.heap.size := h.lt k hk
/-- Two owned rows of different element types lie in different blocks. -/
theorem own_ne {e' s' n' B' : Nat} {v' : Value} {xs' : List Value} (h : w.ownsRow B e s v n xs) (h' : w.ownsRow B' e' s' v' n' xs') (hne : e ≠ e') : v.ownBlock = none ∨ v.ownBlock ≠ v'.ownBlock := by
  rcases h.2 with ⟨rfl, _⟩ | ⟨g, cap, cur, rfl, _, hg, _⟩
  · exact .inl rfl
  · right
    rcases h'.2 with ⟨rfl, _⟩ | ⟨g', cap', cur', rfl, _, hg', _⟩
    · simp [Value.ownBlock]
    · simp only [Value.ownBlock, ne_eq, Option.some.injEq]
      rintro rfl
      rw [hg] at hg'
      simp only [Option.some.injEq, Obj.cells.injEq] at hg'
      exact hne hg'.2.1
end

theorem Cells.of_own {w : World} {B e s n : Nat} {v : Value} {xs : List Value} {f : Nat → Value} (h : w.ownsRow B e s v n xs) (hf : ∀ j, j < n * s → xs[j]? = some (f j)) : Cells w v n s f := by
  rcases h.2 with ⟨rfl, rfl⟩ | ⟨g, cap, cur, rfl, _, hg, hnc, hcm, _⟩
  · exact ⟨none, 0, rfl, Nat.le_refl _, by omega, fun h => absurd h (by omega)⟩
  · refine ⟨_, cap, rfl, hnc, by unfold maxLen at hcm; omega, fun hn => ⟨g, 0, rfl, (Array.getElem?_eq_some_iff.1 hg).1, fun j hj => ?_⟩⟩
    rw [Nat.zero_add, h.cellAt j hj]
    exact hf j hj

theorem Ints.of_own {w : World} {B e n : Nat} {v : Value} {xs : List Value} {ys : List Int} (h : w.ownsRow B e 1 v n xs) (hn : n = ys.length) (hf : ∀ j, j < ys.length → xs[j]? = some (.int .i64 (ys.getD j 0))) : Ints w v ys := by
  subst hn
  exact Cells.of_own h (fun j hj => hf j (by simpa using hj))

theorem Cells.other {w w' : World} {v : Value} {n s : Nat} {f : Nat → Value} {row : Option Nat} (h : Cells w v n s f) (hg : w.grownBy w' row) (hne : ∀ g, v.ownBlock = some g → some g ≠ row) : Cells w' v n s f := by
  obtain ⟨A, c, rfl, h2, h3, h4⟩ := h
  refine ⟨A, c, rfl, h2, h3, fun hn => ?_⟩
  obtain ⟨b, o, rfl, hb, hc⟩ := h4 hn
  exact ⟨b, o, rfl, Nat.lt_of_lt_of_le hb hg.size, fun j hj => (World.cell?_of_block (a := ⟨b, o + j, none⟩) (hg.block b hb (hne b rfl))).trans (hc j hj)⟩
theorem Ints.other {w w' : World} {v : Value} {xs : List Int} {row : Option Nat} (h : Ints w v xs) (hg : w.grownBy w' row) (hne : ∀ g, v.ownBlock = some g → some g ≠ row) : Ints w' v xs := Cells.other h hg hne
theorem grown_setCell (w : World) (p : Addr) (u : Value) : w.grownBy (w.setCell p u) (some p.block) :=
  ⟨rfl, rfl, rfl, by simp [World.setCell], fun k _ hne => Below.heap_setCell w p u k (fun e => hne (by rw [e]))⟩

theorem Pure.of_quiet {w w' : World} (h : ∃ n, w' = w.drewN n) : Pure w w' := by
  obtain ⟨n, rfl⟩ := h
  exact Pure.drewN (Pure.refl _) _

theorem Ints.of_map {w : World} {B e : Nat} {v : Value} {ys : List Int} (h : w.ownsRow B e 1 v ys.length (ys.map (.int .i64))) : Ints w v ys :=
  Ints.of_own h rfl (fun j hj => by simp [hj])
theorem Ints.form {w : World} {v : Value} {ys : List Int} (h : Ints w v ys) : ∃ A c, v = .slice A ys.length c := by
  obtain ⟨A, c, h, _⟩ := h
  exact ⟨A, c, h⟩

end Go.Proofs.Ytokdfgodmhekmaa
