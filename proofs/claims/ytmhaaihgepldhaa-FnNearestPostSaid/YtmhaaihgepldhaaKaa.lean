/- Words on memory that all walks of this seat use: slices that read as lists, worlds that only grow. The element types of this seat's slices. Graphs: which are valid, as the reference and the program find it. Graphs: the program's GraphValid, slices.Index and Contains, isNode, areNodes. A slice of the call's own that may begin behind its block's head: read, cut at its front, appended to. Plain facts on reachability in a graph, and on a search that goes breadth first. No program in sight. No condition. -/
import Derived.WalkKit
import Derived.WalkSpells
import Derived.WalkLawsBesides
import Derived.Lib.Hide
import Derived.Deep.QuietTactic
import Derived.BigQuiet
import Derived.Test.YtmhaaihgepldhaaRows

namespace Go.Proofs.Ytmhaaihgepldhaa
open Go.RowKit

theorem add_mid (b o j : Nat) : (⟨b, o, none⟩ : Addr).add j = ⟨b, o + j, none⟩ := by unfold Addr.add; split <;> simp_all
theorem ret_bool {a b : Bool} (h : a = b) : Ending.returned (.bool a) = Ending.returned (.bool b) := by rw [h]
theorem ret_int {k : IntKind} {a b : Int} (h : a = b) : Ending.returned (.int k a) = Ending.returned (.int k b) := by rw [h]

/-- w' is w, but for new blocks and draws. -/
def Pure (w w' : World) : Prop := Below w.heap.size w w'

theorem Pure.refl (w : World) : Pure w w := Below.refl _ _
theorem Pure.trans {a b c : World} (h : Pure a b) (k : Pure b c) : Pure a c :=
  Below.trans h (Below.mono (show Below b.heap.size b c from k) (show Below a.heap.size a b from h).size)
theorem Pure.drew {a w : World} (h : Pure a w) : Pure a w.drew := Below.drew h
theorem Pure.drewN {a w : World} (h : Pure a w) (n : Nat) : Pure a (w.drewN n) := ⟨h.os, h.tape, h.output, h.size, h.block⟩
theorem Pure.alloc {a w : World} (h : Pure a w) (o : Obj) : Pure a (w.alloc o) := Below.alloc h h.size o
theorem Pure.size {a w : World} (h : Pure a w) : a.heap.size ≤ w.heap.size := Below.size h
theorem Pure.below {a w : World} (h : Pure a w) : Below a.heap.size a w := h
theorem Pure.cell {a w : World} (h : Pure a w) (b o : Nat) (hb : b < a.heap.size) : w.cell? ⟨b, o, none⟩ = a.cell? ⟨b, o, none⟩ := Below.cell (p := ⟨b, o, none⟩) h hb
theorem Pure.frozen {a w : World} (h : Pure a w) (b o : Nat) (hb : b < a.heap.size) : w.frozen? ⟨b, o, none⟩ = a.frozen? ⟨b, o, none⟩ := Below.frozen (p := ⟨b, o, none⟩) h hb

/-- The slice value v has n elements of s cells each; cell j holds f j. -/
def Cells (w : World) (v : Value) (n s : Nat) (f : Nat → Value) : Prop :=
  ∃ A c, v = .slice A n c ∧ n ≤ c ∧ c ≤ 9223372036854775807 ∧ (0 < n → ∃ b o, A = some ⟨b, o, none⟩ ∧ b < w.heap.size ∧ ∀ j, j < n * s → w.cell? ⟨b, o + j, none⟩ = some (f j))

theorem Cells.keep {w w' : World} {v : Value} {n s : Nat} {f : Nat → Value} (h : Cells w v n s f) (hp : Pure w w') : Cells w' v n s f := by
  obtain ⟨A, c, h1, h2, h3, h4⟩ := h
  refine ⟨A, c, h1, h2, h3, fun hn => ?_⟩
  obtain ⟨b, o, e, hb, hc⟩ := h4 hn
  exact ⟨b, o, e, Nat.lt_of_lt_of_le hb hp.size, fun j hj => (hp.cell b _ hb).trans (hc j hj)⟩

def Ints (w : World) (v : Value) (xs : List Int) : Prop := Cells w v xs.length 1 (fun j => .int .i64 (xs.getD j 0))
theorem Ints.keep {w w' : World} {v : Value} {xs : List Int} (h : Ints w v xs) (hp : Pure w w') : Ints w' v xs := Cells.keep h hp

/-- A slice of slices of numbers. -/
def IntRows (w : World) (v : Value) (xss : List (List Int)) : Prop :=
  ∃ A c, v = .slice A xss.length c ∧ xss.length ≤ c ∧ c ≤ 9223372036854775807 ∧ (0 < xss.length → ∃ b o, A = some ⟨b, o, none⟩ ∧ b < w.heap.size ∧ ∀ k, k < xss.length → ∃ r, w.cell? ⟨b, o + k, none⟩ = some r ∧ Ints w r (xss.getD k []))

theorem IntRows.keep {w w' : World} {v : Value} {xss : List (List Int)} (h : IntRows w v xss) (hp : Pure w w') : IntRows w' v xss := by
  obtain ⟨A, c, h1, h2, h3, h4⟩ := h
  refine ⟨A, c, h1, h2, h3, fun hn => ?_⟩
  obtain ⟨b, o, e, hb, hc⟩ := h4 hn
  refine ⟨b, o, e, Nat.lt_of_lt_of_le hb hp.size, fun k hk => ?_⟩
  obtain ⟨r, h5, h6⟩ := hc k hk
  exact ⟨r, (hp.cell b _ hb).trans h5, h6.keep hp⟩


/-- What a slice type's elements are. -/
structure ElT (P : Program) (t e : TypeId) (s : Nat) (z : List Value) (bytes : Nat) : Prop where
  ht : P.underlying t = some (.slice e)
  hi : ∃ zv, (P.info? e).map (fun i => (i.zero, i.size, i.bytes)) = some (some zv, s, bytes) ∧ zv.cells = z.toArray ∧ z.length = s
  hs : 0 < s

section
variable {P : Program} {t e : TypeId} {s : Nat} {z : List Value} {bytes : Nat}

theorem ElT.parts (E : ElT P t e s z bytes) : ∃ i zv, P.info? e = some i ∧ i.zero = some zv ∧ i.size = s ∧ i.bytes = bytes ∧ zv.cells = z.toArray ∧ z.length = s := by
  obtain ⟨zv, h, h2, h3⟩ := E.hi
  obtain ⟨i, a, b, c, d⟩ := info_parts h
  exact ⟨i, zv, a, b, c, d, h2, h3⟩

/-- n zero elements. -/
def zeros (z : List Value) (n : Nat) : List Value := (madeCells z.toArray (n * z.length)).toList
theorem zeros_length (z : List Value) (n : Nat) : (zeros z n).length = n * z.length := by simp [zeros, size_madeCells]
theorem zeros_get (z : List Value) (n j : Nat) (hj : j < n * z.length) : (zeros z n)[j]? = z[j % z.length]? := by
  have hz : 0 < z.length := by
    rcases Nat.eq_zero_or_pos z.length with h | h
    · rw [h] at hj; simp at hj
    · exact h
  have hm := Nat.mod_lt j hz
  simp [zeros, madeCells, hj, hm]

theorem wl_make (E : ElT P t e s z bytes) {w : World} {ops : Array Oper} {rest : List Oper} {o : Oper} {a : Act} {Q : Exit → Act → World → Prop}
    (hg : o.guard = none) (l c : Operand) (hop : o.op = Op.makeSlice t l c) (B : Nat) (kl kc : IntKind) (L C : Int) (n : Nat) (hl : a.eval l = .int kl L) (hc : a.eval c = .int kc C) (hL : L = (n : Int)) (hC : C = (n : Int))
    (b2 : n * bytes ≤ 281474976710656) (b3 : n ≤ 9223372036854775807) (b4 : B ≤ w.heap.size)
    (hK : ∀ w', w'.ownsRow B e s (.slice (some ⟨w.heap.size, 0, none⟩) n n) n (zeros z n) → Pure w w' → w.heap.size < w'.heap.size → wpList P ops Q rest (a.put o.dst (.slice (some ⟨w.heap.size, 0, none⟩) n n)) w') :
    wpList P ops Q (o :: rest) a w := by
  obtain ⟨i, zv, h2, h3, h4, h5, h6, h7⟩ := E.parts
  refine wpList_make_full w hg l c t hop B e i zv s E.ht h2 h3 h4 kl kc L C n hl hc hL hC (by rw [h5, Nat.mul_comm]; exact b2) (by unfold maxLen; omega) b4 fun w' hown hgr => ?_
  rw [h6, ← h7] at hown
  rw [h7] at hown
  have hown' : w'.ownsRow B e s (.slice (some ⟨w.heap.size, 0, none⟩) n n) n (zeros z n) := by
    unfold zeros; rw [h7]; exact hown
  refine hK w' hown' ((Below.refl _ _).grown hgr (Nat.le_refl _) (fun k hk => by cases hk)) ?_
  exact (hown.lt w.heap.size rfl).2

theorem wl_append (E : ElT P t e s z bytes) {w : World} {ops : Array Oper} {rest : List Oper} {o : Oper} {a : Act} {Q : Exit → Act → World → Prop}
    (hgd : o.guard = none) (sl x : Operand) (ho : o.op = .call { callee := .builtin .append, args := #[sl, x], argTypes := #[t, t] })
    (B : Nat) (v : Value) (n : Nat) (xs : List Value) (hs : a.eval sl = v) (hown : w.ownsRow B e s v n xs)
    (b m c : Nat) (news : List Value) (hx : a.eval x = .slice (some ⟨b, 0, none⟩) m c) (hl : news.length = m * s) (hnews : ∀ j u, news[j]? = some u → w.cell? ⟨b, j, none⟩ = some u) (h1 : ∀ u ∈ news, u.oneCell' = true)
    (hbytes : (n + m) * bytes ≤ 140737488355328) (h63 : n + m ≤ 9223372036854775807) (hB : B ≤ w.heap.size)
    (h : ∀ v' w', w'.ownsRow B e s v' (n + m) (xs ++ news) → w.grownBy w' v.ownBlock → wpList P ops Q rest (a.put o.dst v') w') : wpList P ops Q (o :: rest) a w := by
  obtain ⟨i, zv, h2, h3, h4, h5, h6, h7⟩ := E.parts
  refine wpList_append_own w hgd sl x t ho B e i zv s bytes E.ht h2 h3 h4 h5 (by rw [h6]; simpa using h7) E.hs v n xs hs hown ⟨b, 0, none⟩ m c news hx hl (fun j u hu => ?_) h1 (by unfold maxLen; omega) hbytes hB fun v' w' q1 q2 _ => h v' w' q1 q2
  rw [Addr.add_lit]
  simpa using hnews j u hu
end

theorem Pure.grown {w0 w w' : World} {row : Option Nat} (h : Pure w0 w) (hg : w.grownBy w' row) (hr : ∀ k, row = some k → w0.heap.size ≤ k) : Pure w0 w' :=
  Below.grown h hg h.size hr
theorem Pure.setCell {a w : World} (h : Pure a w) {p : Addr} (hp : a.heap.size ≤ p.block) (u : Value) : Pure a (w.setCell p u) := Below.setCell h hp u
theorem Pure.grownBy {a w : World} (h : Pure a w) (row : Option Nat) : a.grownBy w row := ⟨h.os, h.tape, h.output, h.size, fun k hk _ => h.block k hk⟩

section
variable {w w' : World} {B e s n : Nat} {v : Value} {xs : List Value}
theorem own_pure (h : w.ownsRow B e s v n xs) (hp : Pure w w') : w'.ownsRow B e s v n xs := h.kept (hp.grownBy none) (by cases hv : v.ownBlock <;> simp)
theorem own_lt (h : w.ownsRow B e s v n xs) (k : Nat) (hk : v.ownBlock = some k) : B ≤ k ∧ k < w.heap.size := h.lt k hk
/-- Two owned rows of different element types lie in different blocks. -/
theorem own_ne {e' s' n' B' : Nat} {v' : Value} {xs' : List Value} (h : w.ownsRow B e s v n xs) (h' : w.ownsRow B' e' s' v' n' xs') (hne : e ≠ e') : v.ownBlock = none ∨ v.ownBlock ≠ v'.ownBlock := by
  rcases h.2 with ⟨rfl, _⟩ | ⟨g, cap, cur, rfl, _, hg, _⟩
  · exact .inl rfl
  · right
    rcases h'.2 with ⟨rfl, _⟩ | ⟨g', cap', cur', rfl, _, hg', _⟩
    · simp [Value.ownBlock]
    · simp only [Value.ownBlock, ne_eq, Option.some.injEq]
      rintro rfl
      rw [hg] at hg'
      simp only [Option.some.injEq, Obj.cells.injEq] at hg'
      exact hne hg'.2.1
end

theorem Cells.of_own {w : World} {B e s n : Nat} {v : Value} {xs : List Value} {f : Nat → Value} (h : w.ownsRow B e s v n xs) (hf : ∀ j, j < n * s → xs[j]? = some (f j)) : Cells w v n s f := by
  rcases h.2 with ⟨rfl, rfl⟩ | ⟨g, cap, cur, rfl, _, hg, hnc, hcm, _⟩
  · exact ⟨none, 0, rfl, Nat.le_refl _, by omega, fun h => absurd h (by omega)⟩
  · refine ⟨_, cap, rfl, hnc, by unfold maxLen at hcm; omega, fun hn => ⟨g, 0, rfl, (Array.getElem?_eq_some_iff.1 hg).1, fun j hj => ?_⟩⟩
    rw [Nat.zero_add, h.cellAt j hj]
    exact hf j hj

theorem Ints.of_own {w : World} {B e n : Nat} {v : Value} {xs : List Value} {ys : List Int} (h : w.ownsRow B e 1 v n xs) (hn : n = ys.length) (hf : ∀ j, j < ys.length → xs[j]? = some (.int .i64 (ys.getD j 0))) : Ints w v ys := by
  subst hn
  exact Cells.of_own h (fun j hj => hf j (by simpa using hj))

theorem Cells.other {w w' : World} {v : Value} {n s : Nat} {f : Nat → Value} {row : Option Nat} (h : Cells w v n s f) (hg : w.grownBy w' row) (hne : ∀ g, v.ownBlock = some g → some g ≠ row) : Cells w' v n s f := by
  obtain ⟨A, c, rfl, h2, h3, h4⟩ := h
  refine ⟨A, c, rfl, h2, h3, fun hn => ?_⟩
  obtain ⟨b, o, rfl, hb, hc⟩ := h4 hn
  exact ⟨b, o, rfl, Nat.lt_of_lt_of_le hb hg.size, fun j hj => (World.cell?_of_block (a := ⟨b, o + j, none⟩) (hg.block b hb (hne b rfl))).trans (hc j hj)⟩
theorem Ints.other {w w' : World} {v : Value} {xs : List Int} {row : Option Nat} (h : Ints w v xs) (hg : w.grownBy w' row) (hne : ∀ g, v.ownBlock = some g → some g ≠ row) : Ints w' v xs := Cells.other h hg hne
theorem grown_setCell (w : World) (p : Addr) (u : Value) : w.grownBy (w.setCell p u) (some p.block) :=
  ⟨rfl, rfl, rfl, by simp [World.setCell], fun k _ hne => Below.heap_setCell w p u k (fun e => hne (by rw [e]))⟩

theorem Pure.of_quiet {w w' : World} (h : ∃ n, w' = w.drewN n) : Pure w w' := by
  obtain ⟨n, rfl⟩ := h
  exact Pure.drewN (Pure.refl _) _

theorem Ints.of_map {w : World} {B e : Nat} {v : Value} {ys : List Int} (h : w.ownsRow B e 1 v ys.length (ys.map (.int .i64))) : Ints w v ys :=
  Ints.of_own h rfl (fun j hj => by simp [hj])
theorem Ints.form {w : World} {v : Value} {ys : List Int} (h : Ints w v ys) : ∃ A c, v = .slice A ys.length c := by
  obtain ⟨A, c, h, _⟩ := h
  exact ⟨A, c, h⟩

end Go.Proofs.Ytmhaaihgepldhaa

namespace Go.Proofs.Ytmhaaihgepldhaa
open Go.RowKit

theorem elInt : ElT Try.prog 53 3 1 [.int .i64 0] 8 := ⟨by kernel_rfl, ⟨.int .i64 0, by kernel_rfl, by kernel_rfl, rfl⟩, by decide⟩

theorem elBool : ElT Try.prog 41 4 1 [.bool false] 1 := ⟨by kernel_rfl, ⟨.bool false, by kernel_rfl, by kernel_rfl, rfl⟩, by decide⟩

theorem elInts : ElT Try.prog 22 53 1 [.slice none 0 0] 24 := ⟨by kernel_rfl, ⟨.slice none 0 0, by kernel_rfl, by kernel_rfl, rfl⟩, by decide⟩

theorem elCode : ElT Try.prog 31 65 4 [.int .i64 0, .int .i64 0, .int .i64 0, .int .i64 0] 32 := ⟨by kernel_rfl, ⟨.agg #[.int .i64 0, .int .i64 0, .int .i64 0, .int .i64 0], by kernel_rfl, by kernel_rfl, rfl⟩, by decide⟩

end Go.Proofs.Ytmhaaihgepldhaa

namespace Go.Proofs.Ytmhaaihgepldhaa
open Go.RowKit

set_option maxHeartbeats 400000 in
theorem l1In_t (n lo hi : Int) (w : World) (h : lo ≤ n ∧ n ≤ hi) :
    Calls Try.prog 48 #[.int .i64 n, .int .i64 lo, .int .i64 hi] w fun e w' => e = .returned (.bool true) ∧ w = w' := by
  obtain ⟨h1, h2⟩ := h
  go_enter Try.func48, Try.ntmps48
  go_wp2
  go_ret
  exact ⟨rfl, rfl⟩
set_option maxHeartbeats 400000 in
theorem l1In_f (n lo hi : Int) (w : World) (h : ¬ (lo ≤ n ∧ n ≤ hi)) :
    Calls Try.prog 48 #[.int .i64 n, .int .i64 lo, .int .i64 hi] w fun e w' => e = .returned (.bool false) ∧ w = w' := by
  by_cases h1 : lo ≤ n
  · have h2 : ¬ n ≤ hi := by omega
    clear h
    go_enter Try.func48, Try.ntmps48
    go_wp2
    go_ret
    exact ⟨rfl, rfl⟩
  · clear h
    go_enter Try.func48, Try.ntmps48
    go_wp2
    go_ret
    exact ⟨rfl, rfl⟩
theorem l1In_any (n lo hi : Int) (w : World) (B : Bool) (hB : B = true ↔ (lo ≤ n ∧ n ≤ hi)) :
    Calls Try.prog 48 #[.int .i64 n, .int .i64 lo, .int .i64 hi] w fun e w' => e = .returned (.bool B) ∧ w = w' := by
  cases B
  · exact l1In_f n lo hi w (fun h => by simp [h] at hB)
  · exact l1In_t n lo hi w (hB.1 rfl)

set_option maxHeartbeats 400000 in
theorem within_t (n lo hi : Int) (w : World) (h : lo ≤ n ∧ n ≤ hi) :
    Calls Try.prog 72 #[.int .i64 n, .int .i64 lo, .int .i64 hi] w fun e w' => e = .returned (.bool true) ∧ w = w' := by
  obtain ⟨h1, h2⟩ := h
  go_enter Try.func72, Try.ntmps72
  go_wp2
  go_ret
  exact ⟨rfl, rfl⟩
set_option maxHeartbeats 400000 in
theorem within_f (n lo hi : Int) (w : World) (h : ¬ (lo ≤ n ∧ n ≤ hi)) :
    Calls Try.prog 72 #[.int .i64 n, .int .i64 lo, .int .i64 hi] w fun e w' => e = .returned (.bool false) ∧ w = w' := by
  by_cases h1 : lo ≤ n
  · have h2 : ¬ n ≤ hi := by omega
    clear h
    go_enter Try.func72, Try.ntmps72
    go_wp2
    go_ret
    exact ⟨rfl, rfl⟩
  · clear h
    go_enter Try.func72, Try.ntmps72
    go_wp2
    go_ret
    exact ⟨rfl, rfl⟩
theorem within_any (n lo hi : Int) (w : World) (B : Bool) (hB : B = true ↔ (lo ≤ n ∧ n ≤ hi)) :
    Calls Try.prog 72 #[.int .i64 n, .int .i64 lo, .int .i64 hi] w fun e w' => e = .returned (.bool B) ∧ w = w' := by
  cases B
  · exact within_f n lo hi w (fun h => by simp [h] at hB)
  · exact within_t n lo hi w (hB.1 rfl)

def rowOk (n : Nat) (r : List Int) (m : Nat) : Prop := ∀ j, j < m → 0 ≤ r.getD j 0 ∧ r.getD j 0 ≤ (n : Int) - 1 ∧ ∀ i, i < j → r.getD i 0 ≠ r.getD j 0
def GValid (xss : List (List Int)) : Prop := (∀ k, k < xss.length → rowOk xss.length (xss.getD k []) (xss.getD k []).length) ∧ xss.length ≤ 64

theorem rowOk_step {n : Nat} {xs : List Int} {j : Nat} {x : Int} (h : rowOk n xs j) (hx : xs.getD j 0 = x) (h1 : 0 ≤ x) (h2 : x ≤ (n : Int) - 1) (hn : ∀ i, i < j → xs.getD i 0 ≠ x) : rowOk n xs (j + 1) := by
  intro j' hj'
  by_cases e : j' = j
  · subst e; rw [hx]; exact ⟨h1, h2, hn⟩
  · exact h j' (by omega)

set_option maxHeartbeats 1000000 in
set_option maxRecDepth 100000 in
theorem gv_any (v : Value) (xss : List (List Int)) (w : World) (h : IntRows w v xss) (B : Bool) (hB : B = true ↔ GValid xss) :
    Calls Try.prog 26 #[v] w fun e w' => e = .returned (.bool B) ∧ ∃ n, w' = w.drewN n := by
  obtain ⟨A, c, rfl, hnc, hcm, hread⟩ := h
  have HB := Lib.hid hB; clear hB
  go_enter Try.func26, Try.ntmps26
  go_wp2
  go_loopw [3] (fun a wr => ∃ k : Nat, k ≤ xss.length ∧ a = .int .i64 k ∧ (∀ k', k' < k → rowOk xss.length (xss.getD k' []) (xss.getD k' []).length) ∧ ∃ n, wr = w.drewN n) (fun a _ => xss.length - (intOf a).toNat)
  case atStart => exact ⟨0, Nat.zero_le _, rfl, (fun _ h => absurd h (by omega)), 0, rfl⟩
  case round =>
    obtain ⟨k, hk, rfl, hok, n0, rfl⟩ := hrel
    by_cases hlt : k < xss.length
    · obtain ⟨b, o, rfl, hb, hc⟩ := hread (by omega)
      obtain ⟨r, hr, A', c', rfl, hnc', hcm', hread'⟩ := hc k hlt
      have Hok := Lib.hid hok; clear hok hread hc
      obtain ⟨xs, Hxs⟩ : ∃ xs, Hid (xss.getD k [] = xs) := ⟨_, rfl⟩
      rw [Hxs.out] at hr hnc' hread'
      go_wp2
      go_loopw [4] (fun a wr => ∃ j : Nat, j ≤ xs.length ∧ a = .int .i64 j ∧ rowOk xss.length xs j ∧ ∃ n, wr = w.drewN n) (fun a _ => xs.length - (intOf a).toNat)
      case atStart => exact ⟨0, Nat.zero_le _, rfl, (fun _ h => absurd h (by omega)), _, rfl⟩
      case round =>
        obtain ⟨j, hj, rfl, hrow, n1, rfl⟩ := hrel
        by_cases hltj : j < xs.length
        · obtain ⟨b', o', rfl, hb', hc'⟩ := hread' (by omega)
          have Hrow := Lib.hid hrow; clear hrow hread'
          have hx := hc' j (by omega)
          have Hc' := Lib.hid hc'; clear hc'
          obtain ⟨x, Hx⟩ : ∃ x, Hid (xs.getD j 0 = x) := ⟨_, rfl⟩
          rw [Hx.out] at hx
          by_cases hin : 0 ≤ x ∧ x ≤ (xss.length : Int) - 1
          · go_wp2_with (go_at_call 48; refine (l1In_t _ _ _ _ hin).mono ?_; rintro e w' ⟨rfl, rfl⟩)
            obtain ⟨hin1, hin2⟩ := hin
            go_loopw [5] (fun a wr => ∃ i : Nat, i ≤ j ∧ a = .int .i64 i ∧ (∀ i', i' < i → xs.getD i' 0 ≠ x) ∧ ∃ n, wr = w.drewN n) (fun a _ => j - (intOf a).toNat)
            case atStart => exact ⟨0, Nat.zero_le _, rfl, (fun _ h => absurd h (by omega)), _, rfl⟩
            case round =>
              obtain ⟨i, hi, rfl, hne, n2, rfl⟩ := hrel
              have Hne := Lib.hid hne; clear hne
              by_cases hlti : i < j
              · have hy := Hc'.out i (by omega)
                obtain ⟨y, Hy⟩ : ∃ y, Hid (xs.getD i 0 = y) := ⟨_, rfl⟩
                rw [Hy.out] at hy
                by_cases hxy : y = x
                · have hd : (y == x) = true := by simp [hxy]
                  have Hxy := Lib.hid hxy; clear hxy
                  go_wp2
                  go_quiet (fail)
                  go_wp2
                  go_ret
                  refine ⟨ret_bool ?_, (by first | exact ⟨_, rfl⟩ | exact ⟨_, World.drewN_drewN _ _ _⟩ | exact ⟨0, rfl⟩)⟩
                  cases hb : B
                  · rfl
                  · have hg := (HB.out.1 hb).1 k hlt
                    rw [Hxs.out] at hg
                    exact absurd (Hy.out.trans (Hxy.out.trans Hx.out.symm)) ((hg j hltj).2.2 i hlti)
                · have hd : (y == x) = false := by simp [hxy]
                  have Hxy := Lib.hid hxy; clear hxy
                  go_wp2
                  go_quiet (fail)
                  go_wp2
                  go_roundw
                  case rel =>
                    refine ⟨i + 1, by omega, by go_num, fun i' hi' => ?_, (by first | exact ⟨_, rfl⟩ | exact ⟨_, World.drewN_drewN _ _ _⟩ | exact ⟨0, rfl⟩)⟩
                    by_cases e : i' = i
                    · subst e; rw [Hy.out]; exact Hxy.out
                    · exact Hne.out i' (by omega)
                  case measure => simp [intOf]; omega
              · go_wp2
                go_roundw
                case rel => exact ⟨j + 1, by omega, by go_num, rowOk_step Hrow.out Hx.out hin1 hin2 (fun i' hi' => Hne.out i' (by omega)), (by first | exact ⟨_, rfl⟩ | exact ⟨_, World.drewN_drewN _ _ _⟩ | exact ⟨0, rfl⟩)⟩
                case measure => simp [intOf]; omega
          · go_wp2_with (go_at_call 48; refine (l1In_f _ _ _ _ hin).mono ?_; rintro e w' ⟨rfl, rfl⟩)
            go_ret
            refine ⟨ret_bool ?_, (by first | exact ⟨_, rfl⟩ | exact ⟨_, World.drewN_drewN _ _ _⟩ | exact ⟨0, rfl⟩)⟩
            cases hb : B
            · rfl
            · have hg := (HB.out.1 hb).1 k hlt
              rw [Hxs.out] at hg
              have := hg j hltj
              rw [Hx.out] at this
              exact absurd ⟨this.1, this.2.1⟩ hin
        · have hj' : j = xs.length := by omega
          subst hj'
          have Hrow := Lib.hid hrow; clear hrow hread'
          go_wp2
          go_roundw
          case rel =>
            refine ⟨k + 1, by omega, by go_num, fun k' hk' => ?_, (by first | exact ⟨_, rfl⟩ | exact ⟨_, World.drewN_drewN _ _ _⟩ | exact ⟨0, rfl⟩)⟩
            by_cases e : k' = k
            · subst e; rw [Hxs.out]; exact Hrow.out
            · exact Hok.out k' (by omega)
          case measure => simp [intOf]; omega
    · have Hok := Lib.hid hok; clear hok
      go_wp2
      go_ret
      refine ⟨ret_bool ?_, (by first | exact ⟨_, rfl⟩ | exact ⟨_, World.drewN_drewN _ _ _⟩ | exact ⟨0, rfl⟩)⟩
      rw [Bool.eq_iff_iff, HB.out, decide_eq_true_iff]
      exact ⟨fun h => ⟨fun k' hk' => Hok.out k' (by omega), by omega⟩, fun h => by have := h.2; omega⟩

end Go.Proofs.Ytmhaaihgepldhaa

namespace Go.Proofs.Ytmhaaihgepldhaa
open Go.RowKit

def IdxPost (xs : List Int) (x : Int) (w : World) (e : Ending) (w' : World) : Prop := (∃ r : Int, e = .returned (.int .i64 r) ∧ (0 ≤ r ↔ x ∈ xs)) ∧ w = w'

theorem mem_getD {xs : List Int} {x : Int} : x ∈ xs ↔ ∃ j, j < xs.length ∧ xs.getD j 0 = x := by
  rw [List.mem_iff_getElem]
  constructor
  · rintro ⟨j, hj, h⟩; exact ⟨j, hj, by simpa [List.getD_eq_getElem?_getD, hj] using h⟩
  · rintro ⟨j, hj, h⟩; exact ⟨j, hj, by simpa [List.getD_eq_getElem?_getD, hj] using h⟩

set_option maxHeartbeats 400000 in
theorem index_any (v : Value) (xs : List Int) (x : Int) (w : World) (h : Ints w v xs) :
    Calls Try.prog 94 #[v, .int .i64 x] w (IdxPost xs x w) := by
  obtain ⟨A, c, rfl, hnc, hcm, hread⟩ := h
  go_enter Try.func94, Try.ntmps94
  go_wp2
  go_loop [8] (fun i => ∃ k : Nat, k ≤ xs.length ∧ i = .int .i64 k ∧ ∀ j, j < k → xs.getD j 0 ≠ x) (fun i => xs.length - (intOf i).toNat)
  case atStart => exact ⟨0, Nat.zero_le _, rfl, fun j hj => absurd hj (by omega)⟩
  case round =>
    obtain ⟨k, hk, rfl, hne⟩ := hrel
    have Hne := Lib.hid hne; clear hne
    by_cases hlt : k < xs.length
    · obtain ⟨b, o, rfl, hb, hc⟩ := hread (by omega)
      have hy := hc k (by omega)
      clear hread hc
      obtain ⟨y, Hy⟩ : ∃ y, Hid (xs.getD k 0 = y) := ⟨_, rfl⟩
      rw [Hy.out] at hy
      by_cases hxy : x = y
      · have hd : (x == y) = true := by simp [hxy]
        have Hxy := Lib.hid hxy; clear hxy
        go_wp2
        go_ret
        exact ⟨⟨_, rfl, ⟨fun _ => mem_getD.2 ⟨k, hlt, Hy.out.trans Hxy.out.symm⟩, fun _ => by omega⟩⟩, rfl⟩
      · have hd : (x == y) = false := by simp [hxy]
        have Hxy := Lib.hid hxy; clear hxy
        go_wp2
        go_round
        case rel =>
          refine ⟨k + 1, by omega, by go_num, fun j hj => ?_⟩
          by_cases e : j = k
          · subst e; rw [Hy.out]; exact fun e => Hxy.out e.symm
          · exact Hne.out j (by omega)
        case measure => simp [intOf]; omega
    · clear hread
      go_wp2
      go_ret
      refine ⟨⟨_, rfl, ⟨fun h => absurd h (by omega), fun h => ?_⟩⟩, rfl⟩
      obtain ⟨j, hj, e⟩ := mem_getD.1 h
      exact absurd e (Hne.out j (by omega))

set_option maxHeartbeats 400000 in
theorem contains_any (v : Value) (xs : List Int) (x : Int) (w : World) (h : Ints w v xs) (B : Bool) (hB : B = true ↔ x ∈ xs) :
    Calls Try.prog 85 #[v, .int .i64 x] w fun e w' => e = .returned (.bool B) ∧ w = w' := by
  have HB := Lib.hid hB; clear hB
  go_enter Try.func85, Try.ntmps85
  go_wp2_with (go_at_call 94; refine (index_any _ _ _ _ h).mono ?_; rintro e w' ⟨⟨r, rfl, hr⟩, rfl⟩; have Hr := Lib.hid hr; clear hr)
  go_ret
  refine ⟨ret_bool ?_, rfl⟩
  rw [Bool.eq_iff_iff, HB.out, decide_eq_true_iff]
  exact Hr.out

theorem Ints.take {w : World} {b o c : Nat} {xs : List Int} (h : Ints w (.slice (some ⟨b, o, none⟩) xs.length c) xs) {k : Nat} (hk : k ≤ xs.length) : Ints w (.slice (some ⟨b, o, none⟩) k c) (xs.take k) := by
  obtain ⟨A, c', hv, h2, h3, h4⟩ := h
  injection hv with e1 e2 e3
  subst e1 e3
  have hl : (xs.take k).length = k := by simp; omega
  refine ⟨_, c, by rw [hl], by omega, h3, fun hn => ?_⟩
  obtain ⟨b', o', e, hb, hc⟩ := h4 (by omega)
  injection e with e
  injection e with e1 e2
  subst e1 e2
  refine ⟨b, o, rfl, hb, fun j hj => ?_⟩
  rw [hl] at hj
  rw [hc j (by omega)]
  have h1 : j < xs.length := by omega
  have h2 : j < k := by omega
  simp [List.getD_eq_getElem?_getD, List.getElem?_take, h2]

set_option maxHeartbeats 1000000 in
set_option maxRecDepth 100000 in
theorem igv_any (v : Value) (xss : List (List Int)) (w : World) (h : IntRows w v xss) (B : Bool) (hB : B = true ↔ GValid xss) :
    Calls Try.prog 64 #[v] w fun e w' => e = .returned (.bool B) ∧ w = w' := by
  obtain ⟨A, c, rfl, hnc, hcm, hread⟩ := h
  have HB := Lib.hid hB; clear hB
  go_enter Try.func64, Try.ntmps64
  go_wp2
  go_loop [9] (fun a => ∃ k : Nat, k ≤ xss.length ∧ a = .int .i64 k ∧ (∀ k', k' < k → rowOk xss.length (xss.getD k' []) (xss.getD k' []).length)) (fun a => xss.length - (intOf a).toNat)
  case atStart => exact ⟨0, Nat.zero_le _, rfl, (fun _ h => absurd h (by omega))⟩
  case round =>
    obtain ⟨k, hk, rfl, hok⟩ := hrel
    have Hok := Lib.hid hok; clear hok
    by_cases hlt : k < xss.length
    · obtain ⟨b, o, rfl, hb, hc⟩ := hread (by omega)
      obtain ⟨r, hr, hrow⟩ := hc k hlt
      clear hread hc
      obtain ⟨xs, Hxs⟩ : ∃ xs, Hid (xss.getD k [] = xs) := ⟨_, rfl⟩
      rw [Hxs.out] at hrow
      have Hrow' := Lib.hid hrow
      obtain ⟨A', c', rfl, hnc', hcm', hread'⟩ := hrow
      go_wp2
      go_loop [15] (fun a => ∃ j : Nat, j ≤ xs.length ∧ a = .int .i64 j ∧ rowOk xss.length xs j) (fun a => xs.length - (intOf a).toNat)
      case atStart => exact ⟨0, Nat.zero_le _, rfl, (fun _ h => absurd h (by omega))⟩
      case round =>
        obtain ⟨j, hj, rfl, hrow⟩ := hrel
        have Hrow := Lib.hid hrow; clear hrow
        by_cases hltj : j < xs.length
        · obtain ⟨b', o', rfl, hb', hc'⟩ := hread' (by omega)
          have hx := hc' j (by omega)
          clear hread' hc'
          obtain ⟨x, Hx⟩ : ∃ x, Hid (xs.getD j 0 = x) := ⟨_, rfl⟩
          rw [Hx.out] at hx
          by_cases hin : 0 ≤ x ∧ x ≤ (xss.length : Int) - 1
          · have htk := Ints.take Hrow'.out hj
            by_cases hmem : x ∈ xs.take j
            · go_wp2_with (first | (go_at_call 72; refine (within_t _ _ _ _ hin).mono ?_; rintro e w' ⟨rfl, rfl⟩) | (go_at_call 85; refine (contains_any _ _ _ _ htk true (by simp [hmem])).mono ?_; rintro e w' ⟨rfl, rfl⟩))
              go_ret
              refine ⟨ret_bool ?_, rfl⟩
              cases hb : B
              · rfl
              · have hg := (HB.out.1 hb).1 k hlt
                rw [Hxs.out] at hg
                obtain ⟨i, hi, e⟩ := mem_getD.1 hmem
                have hi' : i < j := by simp at hi; omega
                have e' : xs.getD i 0 = x := by rw [← e]; simp [List.getD_eq_getElem?_getD, List.getElem?_take, hi']
                exact absurd (e'.trans Hx.out.symm) ((hg j hltj).2.2 i hi')
            · go_wp2_with (first | (go_at_call 72; refine (within_t _ _ _ _ hin).mono ?_; rintro e w' ⟨rfl, rfl⟩) | (go_at_call 85; refine (contains_any _ _ _ _ htk false (by simp [hmem])).mono ?_; rintro e w' ⟨rfl, rfl⟩))
              go_round
              case rel =>
                refine ⟨j + 1, by omega, by go_num, rowOk_step Hrow.out Hx.out hin.1 hin.2 (fun i hi e => hmem (mem_getD.2 ⟨i, by simp; omega, ?_⟩))⟩
                rw [← e]; simp [List.getD_eq_getElem?_getD, List.getElem?_take, hi]
              case measure => simp [intOf]; omega
          · go_wp2_with (go_at_call 72; refine (within_f _ _ _ _ hin).mono ?_; rintro e w' ⟨rfl, rfl⟩)
            go_ret
            refine ⟨ret_bool ?_, rfl⟩
            cases hb : B
            · rfl
            · have hg := (HB.out.1 hb).1 k hlt
              rw [Hxs.out] at hg
              have := hg j hltj
              rw [Hx.out] at this
              exact absurd ⟨this.1, this.2.1⟩ hin
        · have hj' : j = xs.length := by omega
          subst hj'
          go_wp2
          go_round
          case rel =>
            refine ⟨k + 1, by omega, by go_num, fun k' hk' => ?_⟩
            by_cases e : k' = k
            · subst e; rw [Hxs.out]; exact Hrow.out
            · exact Hok.out k' (by omega)
          case measure => simp [intOf]; omega
    · go_wp2
      go_ret
      refine ⟨ret_bool ?_, rfl⟩
      rw [Bool.eq_iff_iff, HB.out, decide_eq_true_iff]
      exact ⟨fun h => ⟨fun k' hk' => Hok.out k' (by omega), by omega⟩, fun h => by have := h.2; omega⟩

set_option maxHeartbeats 400000 in
theorem isNode_any (v : Value) (xss : List (List Int)) (x : Int) (w : World) (h : IntRows w v xss) (B : Bool) (hB : B = true ↔ (0 ≤ x ∧ x ≤ (xss.length : Int) - 1)) :
    Calls Try.prog 65 #[v, .int .i64 x] w fun e w' => e = .returned (.bool B) ∧ w = w' := by
  obtain ⟨A, c, rfl, hnc, hcm, hread⟩ := h
  have HB := Lib.hid hB; clear hB hread
  go_enter Try.func65, Try.ntmps65
  go_wp2_with (go_at_call 72; refine (within_any _ _ _ _ B HB.out).mono ?_; rintro e w' ⟨rfl, rfl⟩)
  go_ret
  exact ⟨rfl, rfl⟩

set_option maxHeartbeats 400000 in
theorem areNodes_any (v v' : Value) (xss : List (List Int)) (xs : List Int) (w : World) (h : IntRows w v xss) (h' : Ints w v' xs) (B : Bool) (hB : B = true ↔ (GValid xss ∧ ∀ x, x ∈ xs → 0 ≤ x ∧ x ≤ (xss.length : Int) - 1)) :
    Calls Try.prog 50 #[v, v'] w fun e w' => e = .returned (.bool B) ∧ w = w' := by
  obtain ⟨A, c, rfl, hnc, hcm, hread⟩ := h'
  have HB := Lib.hid hB; clear hB
  go_enter Try.func50, Try.ntmps50
  go_wp2
  go_loop [9] (fun i => ∃ k : Nat, k ≤ xs.length ∧ i = .int .i64 k ∧ ∀ j, j < k → 0 ≤ xs.getD j 0 ∧ xs.getD j 0 ≤ (xss.length : Int) - 1) (fun i => xs.length - (intOf i).toNat)
  case atStart => exact ⟨0, Nat.zero_le _, rfl, fun j hj => absurd hj (by omega)⟩
  case round =>
    obtain ⟨k, hk, rfl, hne⟩ := hrel
    have Hne := Lib.hid hne; clear hne
    by_cases hlt : k < xs.length
    · obtain ⟨b, o, rfl, hb, hc⟩ := hread (by omega)
      have hy := hc k (by omega)
      clear hread hc
      obtain ⟨y, Hy⟩ : ∃ y, Hid (xs.getD k 0 = y) := ⟨_, rfl⟩
      rw [Hy.out] at hy
      by_cases hin : 0 ≤ y ∧ y ≤ (xss.length : Int) - 1
      · go_wp2_with (go_at_call 65; refine (isNode_any _ _ _ _ h true (by simp [hin])).mono ?_; rintro e w' ⟨rfl, rfl⟩)
        go_round
        case rel =>
          refine ⟨k + 1, by omega, by go_num, fun j hj => ?_⟩
          by_cases e : j = k
          · subst e; rw [Hy.out]; exact hin
          · exact Hne.out j (by omega)
        case measure => simp [intOf]; omega
      · go_wp2_with (go_at_call 65; refine (isNode_any _ _ _ _ h false (by simp [hin])).mono ?_; rintro e w' ⟨rfl, rfl⟩)
        go_ret
        refine ⟨ret_bool ?_, rfl⟩
        cases hb : B
        · rfl
        · exact absurd ((HB.out.1 hb).2 y (mem_getD.2 ⟨k, hlt, Hy.out⟩)) hin
    · clear hread
      have hB2 : B = true ↔ GValid xss := by
        rw [HB.out]
        refine ⟨fun h => h.1, fun h => ⟨h, fun x hx => ?_⟩⟩
        obtain ⟨j, hj, e⟩ := mem_getD.1 hx
        rw [← e]
        exact Hne.out j (by omega)
      have HB2 := Lib.hid hB2; clear hB2
      go_wp2_with (go_at_call 64; refine (igv_any _ _ _ h B HB2.out).mono ?_; rintro e w' ⟨rfl, rfl⟩)
      go_ret
      exact ⟨rfl, rfl⟩

end Go.Proofs.Ytmhaaihgepldhaa

namespace Go.Proofs.Ytmhaaihgepldhaa
open Go.RowKit

def OwnO (w : World) (B e s : Nat) (v : Value) (n : Nat) (xs : List Value) : Prop :=
  xs.length = n * s ∧ ((v = .slice none 0 0 ∧ n = 0) ∨ ∃ g off cap cur, v = .slice (some ⟨g, off, none⟩) n cap ∧ B ≤ g ∧ w.heap[g]? = some (.cells cur e (0, 0)) ∧ n ≤ cap ∧ cap ≤ 9223372036854775807 ∧ off + cap * s ≤ cur.size ∧ ∀ j u, xs[j]? = some u → cur[off + j]? = some u)

section
variable {w w' : World} {B e s n : Nat} {v : Value} {xs : List Value}
theorem OwnO.of_own (h : w.ownsRow B e s v n xs) : OwnO w B e s v n xs := by
  refine ⟨h.1, ?_⟩
  rcases h.2 with h | ⟨g, cap, cur, rfl, h1, h2, h3, h4, h5, h6⟩
  · exact .inl h
  · refine .inr ⟨g, 0, cap, cur, rfl, h1, h2, h3, by unfold maxLen at h4; omega, by omega, fun j u hu => ?_⟩
    rw [← h6, List.getElem?_take] at hu
    split at hu
    · simpa using hu
    · cases hu
theorem OwnO.kept {row : Option Nat} (h : OwnO w B e s v n xs) (hg : w.grownBy w' row) (hne : ∀ g, v.ownBlock = some g → some g ≠ row) : OwnO w' B e s v n xs := by
  refine ⟨h.1, ?_⟩
  rcases h.2 with h | ⟨g, off, cap, cur, rfl, h1, h2, h3⟩
  · exact .inl h
  · exact .inr ⟨g, off, cap, cur, rfl, h1, by rw [hg.block g (Array.getElem?_eq_some_iff.1 h2).1 (hne g rfl)]; exact h2, h3⟩
theorem OwnO.pure (h : OwnO w B e s v n xs) (hp : Pure w w') : OwnO w' B e s v n xs := h.kept (hp.grownBy none) (fun _ _ => by simp)
theorem OwnO.lt (h : OwnO w B e s v n xs) (k : Nat) (hk : v.ownBlock = some k) : B ≤ k ∧ k < w.heap.size := by
  rcases h.2 with ⟨rfl, _⟩ | ⟨g, off, cap, cur, rfl, h1, h2, h3⟩
  · simp [Value.ownBlock] at hk
  · simp [Value.ownBlock] at hk; subst hk
    exact ⟨h1, (Array.getElem?_eq_some_iff.1 h2).1⟩
theorem OwnO.form (h : OwnO w B e s v n xs) : ∃ A c, v = .slice A n c := by
  rcases h.2 with ⟨rfl, rfl⟩ | ⟨g, off, cap, cur, rfl, _⟩
  · exact ⟨_, _, rfl⟩
  · exact ⟨_, _, rfl⟩
theorem OwnO.formSome (h : OwnO w B e s v n xs) (hn : 0 < n) : ∃ g off c, v = .slice (some ⟨g, off, none⟩) n c ∧ n ≤ c ∧ c ≤ 9223372036854775807 ∧ B ≤ g ∧ g < w.heap.size := by
  rcases h.2 with ⟨rfl, rfl⟩ | ⟨g, off, cap, cur, rfl, h1, h2, h3, h4, _⟩
  · omega
  · exact ⟨_, _, _, rfl, h3, h4, h1, (Array.getElem?_eq_some_iff.1 h2).1⟩
theorem OwnO.cell {g off c : Nat} (h : OwnO w B e s (.slice (some ⟨g, off, none⟩) n c) n xs) (j : Nat) (hj : j < n * s) : w.cell? ⟨g, off + j, none⟩ = xs[j]? := by
  rcases h.2 with ⟨hv, _⟩ | ⟨g', off', cap, cur, hv, h1, h2, h3, h4, h5, h6⟩
  · cases hv
  · injection hv with hv _ hc
    injection hv with hv
    injection hv with e1 e2
    subst e1 e2 hc
    rw [cell_of_row w g _ cur e (0, 0) h2]
    have hl : j < xs.length := by rw [h.1]; exact hj
    rw [List.getElem?_eq_getElem hl]
    exact h6 j _ (List.getElem?_eq_getElem hl)
theorem OwnO.cellSome {g off c : Nat} (h : OwnO w B e s (.slice (some ⟨g, off, none⟩) n c) n xs) (j : Nat) (hj : j < n * s) : ∃ u, w.cell? ⟨g, off + j, none⟩ = some u := by
  rw [h.cell j hj]
  exact ⟨_, List.getElem?_eq_getElem (by rw [h.1]; exact hj)⟩
theorem OwnO.frozen {g off c : Nat} (h : OwnO w B e s (.slice (some ⟨g, off, none⟩) n c) n xs) (j : Nat) : w.frozen? ⟨g, j, none⟩ = false := by
  rcases h.2 with ⟨hv, _⟩ | ⟨g', off', cap, cur, hv, h1, h2, _⟩
  · cases hv
  · injection hv with hv _ hc
    injection hv with hv
    injection hv with e1 e2
    subst e1 e2 hc
    exact frozen_of_row w g _ cur e h2
theorem OwnO.stored {g off c : Nat} (h : OwnO w B e s (.slice (some ⟨g, off, none⟩) n c) n xs) (j : Nat) (u : Value) :
    OwnO (w.setCell ⟨g, off + j, none⟩ u) B e s (.slice (some ⟨g, off, none⟩) n c) n (xs.set j u) := by
  refine ⟨by simpa using h.1, .inr ?_⟩
  rcases h.2 with ⟨hv, _⟩ | ⟨g', off', cap, cur, hv, h1, h2, h3, h4, h5, h6⟩
  · cases hv
  · injection hv with hv _ hc
    injection hv with hv
    injection hv with e1 e2
    subst e1 e2 hc
    refine ⟨g, off, c, _, rfl, h1, heap_setCell_same w g (off + j) cur e u h2, h3, h4, by simpa using h5, fun i v hv => ?_⟩
    rw [List.getElem?_set] at hv
    by_cases hji : j = i
    · subst hji
      rw [if_pos rfl] at hv
      split at hv
      · rename_i hlt
        simp only [Option.some.injEq] at hv
        subst hv
        have : off + j < cur.size := by
          have := Nat.mul_le_mul_right s h3
          have := h.1
          omega
        rw [Array.getElem?_setIfInBounds_self_of_lt this]
      · cases hv
    · rw [if_neg hji] at hv
      rw [Array.getElem?_setIfInBounds_ne (by omega)]
      exact h6 i v hv
theorem OwnO.ne {B' e' s' n' : Nat} {v' : Value} {xs' : List Value} (h : OwnO w B e s v n xs) (h' : OwnO w B' e' s' v' n' xs') (hne : e ≠ e') : ∀ g, v.ownBlock = some g → some g ≠ v'.ownBlock := by
  intro g hg
  rcases h.2 with ⟨rfl, _⟩ | ⟨g1, off, cap, cur, rfl, h1, h2, _⟩
  · simp [Value.ownBlock] at hg
  · simp [Value.ownBlock] at hg; subst hg
    rcases h'.2 with ⟨rfl, _⟩ | ⟨g1', off', cap', cur', rfl, h1', h2', _⟩
    · simp [Value.ownBlock]
    · simp only [Value.ownBlock, ne_eq, Option.some.injEq]
      rintro rfl
      rw [h2] at h2'
      simp only [Option.some.injEq, Obj.cells.injEq] at h2'
      exact hne h2'.2.1
theorem OwnO.alloc (h : OwnO w B e s v n xs) (o : Obj) : OwnO (w.alloc o) B e s v n xs := h.pure (Pure.alloc (Pure.refl _) o)
theorem OwnO.drewN (h : OwnO w B e s v n xs) (k : Nat) : OwnO (w.drewN k) B e s v n xs := h.pure (Pure.drewN (Pure.refl _) k)
theorem OwnO.lit (w : World) (cs : Array Value) (n : Nat) (hB : B ≤ w.heap.size) (hn : n ≤ 9223372036854775807) (hs : cs.size = n * s) : OwnO (w.alloc (.cells cs e)) B e s (.slice (some ⟨w.heap.size, 0, none⟩) n n) n cs.toList :=
  OwnO.of_own (World.ownsRow_lit (e := e) w cs n hB (by unfold maxLen; omega) hs)
theorem OwnO.empty_lit {w : World} {B e s : Nat} (hB : B ≤ w.heap.size) : OwnO (w.alloc (.cells #[] e)) B e s (.slice (some ⟨w.heap.size, 0, none⟩) 0 0) 0 [] :=
  OwnO.lit w #[] 0 hB (by omega) (by simp)
theorem Cells.of_ownO {f : Nat → Value} (h : OwnO w B e s v n xs) (hf : ∀ j, j < n * s → xs[j]? = some (f j)) : Cells w v n s f := by
  rcases h.2 with ⟨rfl, rfl⟩ | ⟨g, off, cap, cur, rfl, h1, h2, h3, h4, h5, h6⟩
  · exact ⟨none, 0, rfl, Nat.le_refl _, by omega, fun h => absurd h (by omega)⟩
  · exact ⟨_, cap, rfl, h3, h4, fun hn => ⟨g, off, rfl, (Array.getElem?_eq_some_iff.1 h2).1, fun j hj => by rw [h.cell j hj]; exact hf j hj⟩⟩
theorem OwnO.take {g off c : Nat} (h : OwnO w B e s (.slice (some ⟨g, off, none⟩) n c) n xs) {k : Nat} (hk : k ≤ n) :
    OwnO w B e s (.slice (some ⟨g, off, none⟩) k c) k (xs.take (k * s)) := by
  have hle := Nat.mul_le_mul_right s hk
  refine ⟨by rw [List.length_take, h.1]; omega, .inr ?_⟩
  rcases h.2 with ⟨hv, _⟩ | ⟨g', off', cap, cur, hv, h1, h2, h3, h4, h5, h6⟩
  · cases hv
  · injection hv with hv _ hc
    injection hv with hv
    injection hv with e1 e2
    subst e1 e2 hc
    refine ⟨g, off, c, cur, rfl, h1, h2, by omega, h4, h5, fun j u hu => ?_⟩
    rw [List.getElem?_take] at hu
    split at hu
    · exact h6 j u hu
    · cases hu
theorem OwnO.drop {g off c : Nat} (h : OwnO w B e s (.slice (some ⟨g, off, none⟩) n c) n xs) {k : Nat} (hk : k ≤ n) :
    OwnO w B e s (.slice (some (if c = k then ⟨g, off, none⟩ else ⟨g, off + k * s, none⟩)) (n - k) (c - k)) (n - k) (xs.drop (k * s)) := by
  refine ⟨by rw [List.length_drop, h.1, Nat.sub_mul], .inr ?_⟩
  rcases h.2 with ⟨hv, _⟩ | ⟨g', off', cap, cur, hv, h1, h2, h3, h4, h5, h6⟩
  · cases hv
  · injection hv with hv _ hc
    injection hv with hv
    injection hv with e1 e2
    subst e1 e2 hc
    by_cases hck : c = k
    · refine ⟨g, off, c - k, cur, by rw [if_pos hck], h1, h2, by omega, by omega, by rw [hck, Nat.sub_self]; omega, fun j u hu => ?_⟩
      rw [List.getElem?_drop, List.getElem?_eq_none (by rw [h.1]; have := Nat.mul_le_mul_right s h3; rw [hck] at this; omega)] at hu
      cases hu
    · refine ⟨g, off + k * s, c - k, cur, by rw [if_neg hck], h1, h2, by omega, by omega, ?_, fun j u hu => ?_⟩
      · have : k * s + (c - k) * s = c * s := by rw [← Nat.add_mul, Nat.add_sub_cancel' (by omega)]
        omega
      · rw [List.getElem?_drop] at hu
        rw [Nat.add_assoc]
        exact h6 _ u hu
end

section
variable {P : Program} {t e : TypeId} {s : Nat} {z : List Value} {bytes : Nat}
theorem heap_setCells_same (g : Nat) : ∀ (vs : List Value) (o : Nat) (w : World) (cur : Array Value) (t : TypeId), w.heap[g]? = some (.cells cur t (0, 0)) → o + vs.length ≤ cur.size →
    ∃ cur', (w.setCells g o vs).heap[g]? = some (.cells cur' t (0, 0)) ∧ cur'.size = cur.size ∧ (∀ j, j < o → cur'[j]? = cur[j]?) ∧ ∀ j u, vs[j]? = some u → cur'[o + j]? = some u
  | [], o, w, cur, t, h, _ => ⟨cur, h, rfl, fun _ _ => rfl, fun j u hu => by simp at hu⟩
  | v :: r, o, w, cur, t, h, hl => by
    simp only [List.length_cons] at hl
    have h1 := heap_setCell_same w g o cur t v h
    obtain ⟨cur', a1, a2, a3, a4⟩ := heap_setCells_same g r (o + 1) _ _ t h1 (by simp; omega)
    refine ⟨cur', a1, by rw [a2]; simp, fun j hj => ?_, fun j u hu => ?_⟩
    · rw [a3 j (by omega)]
      rw [Array.getElem?_setIfInBounds_ne (by omega)]
    · cases j with
      | zero =>
        simp at hu; subst hu
        rw [Nat.add_zero, a3 o (by omega)]
        simp [Array.getElem?_setIfInBounds_self_of_lt (show o < cur.size by omega)]
      | succ j =>
        have := a4 j u (by simpa using hu)
        rwa [show o + 1 + j = o + (j + 1) by omega] at this

theorem grown_setCells (g : Nat) : ∀ (vs : List Value) (o : Nat) (w : World), w.grownBy (w.setCells g o vs) (some g)
  | [], _, w => ⟨rfl, rfl, rfl, Nat.le_refl _, fun _ _ _ => rfl⟩
  | v :: r, o, w => by
    have h1 := grown_setCell w ⟨g, o, none⟩ v
    have h2 := grown_setCells g r (o + 1) (w.setCell ⟨g, o, none⟩ v)
    exact ⟨h2.os.trans h1.os, h2.tape.trans h1.tape, h2.output.trans h1.output, Nat.le_trans h1.size h2.size, fun k hk hne => (h2.block k (Nat.lt_of_lt_of_le hk h1.size) hne).trans (h1.block k hk hne)⟩

theorem wl_appendO (E : ElT P t e s z bytes) {w : World} {ops : Array Oper} {rest : List Oper} {o : Oper} {a : Act} {Q : Exit → Act → World → Prop}
    (hgd : o.guard = none) (sl x : Operand) (ho : o.op = .call { callee := .builtin .append, args := #[sl, x], argTypes := #[t, t] })
    (B : Nat) (v : Value) (n : Nat) (xs : List Value) (hs : a.eval sl = v) (hown : OwnO w B e s v n xs)
    (b m c : Nat) (news : List Value) (hx : a.eval x = .slice (some ⟨b, 0, none⟩) m c) (hl : news.length = m * s) (hnews : ∀ j u, news[j]? = some u → w.cell? ⟨b, j, none⟩ = some u) (h1 : ∀ u ∈ news, u.oneCell' = true)
    (hbytes : (n + m) * bytes ≤ 140737488355328) (h63 : n + m ≤ 9223372036854775807) (hB : B ≤ w.heap.size)
    (h : ∀ v' w', OwnO w' B e s v' (n + m) (xs ++ news) → w.grownBy w' v.ownBlock → wpList P ops Q rest (a.put o.dst v') w') : wpList P ops Q (o :: rest) a w := by
  obtain ⟨i, zv, h2, h3, h4, h5, h6, h7⟩ := E.parts
  rcases hown.2 with ⟨rfl, rfl⟩ | ⟨g, off, cap, cur, rfl, q1, q2, q3, q4, q5, q6⟩
  · have hx0 : xs = [] := List.eq_nil_of_length_eq_zero (by simpa using hown.1)
    subst hx0
    exact wl_append E hgd sl x ho B _ 0 [] hs (World.ownsRow_nil w B e s) b m c news hx hl hnews h1 hbytes h63 hB fun v' w' r1 r2 => h v' w' (OwnO.of_own r1) r2
  · have hcell : ∀ j u, cur[j]? = some u → w.cell? ⟨g, j, none⟩ = some u := fun j u hu => by rw [cell_of_row w g _ cur e (0, 0) q2]; exact hu
    refine wpList_append_arg w hgd sl x t ho e i zv s bytes E.ht h2 h3 h4 h5 (by rw [h6]; simpa using h7) E.hs g off n cap xs hs hown.1 (fun j u hu => hcell _ _ (q6 j u hu)) ⟨b, 0, none⟩ m c news hx hl
      (fun j u hu => by rw [Addr.add_lit]; simpa using hnews j u hu) h1 (fun hr j hj => ?_) (by unfold maxLen; omega) hbytes (fun hr => ?_) (fun hg v' w' r1 r2 => ?_)
    · have hlt : off + n * s + j < cur.size := by
        have : n * s + m * s ≤ cap * s := by rw [← Nat.add_mul]; exact Nat.mul_le_mul_right s hr
        omega
      exact ⟨by rw [hcell _ _ (Array.getElem?_eq_getElem hlt)]; rfl, frozen_of_row w g _ cur e q2⟩
    · have hle : off + n * s + news.length ≤ cur.size := by
        have : n * s + m * s ≤ cap * s := by rw [← Nat.add_mul]; exact Nat.mul_le_mul_right s hr
        omega
      obtain ⟨cur', a1, a2, a3, a4⟩ := heap_setCells_same g news (off + n * s) w cur e q2 hle
      refine h _ _ ⟨by rw [List.length_append, hown.1, hl, Nat.add_mul], .inr ⟨g, off, cap, cur', rfl, q1, a1, hr, q4, by omega, fun j u hu => ?_⟩⟩ (grown_setCells g news _ w)
      rw [List.getElem?_append] at hu
      split at hu
      · rename_i hj
        rw [a3 _ (by rw [hown.1] at hj; omega)]
        exact q6 j u hu
      · rename_i hj
        have := a4 _ u hu
        rwa [show off + n * s + (j - xs.length) = off + j by rw [hown.1] at hj ⊢; omega] at this
    · have r1' := OwnO.of_own r1
      have hw : OwnO w' B e s v' (n + m) (xs ++ news) := by
        refine ⟨r1'.1, ?_⟩
        rcases r1'.2 with h | ⟨g', off', cap', cur', e1, e2, e3⟩
        · exact .inl h
        · exact .inr ⟨g', off', cap', cur', e1, by omega, e3⟩
      exact h v' w' hw ⟨r2.os, r2.tape, r2.output, r2.size, fun k hk _ => r2.block k hk (by simp)⟩
/-- append of one element, just laid in a new block. -/
theorem wl_append1 (E : ElT P t e s z bytes) {w : World} {ops : Array Oper} {rest : List Oper} {o : Oper} {a : Act} {Q : Exit → Act → World → Prop} {et : TypeId}
    (hgd : o.guard = none) (sl x : Operand) (ho : o.op = .call { callee := .builtin .append, args := #[sl, x], argTypes := #[t, t] })
    (B : Nat) (v : Value) (n : Nat) (xs : List Value) (hs : a.eval sl = v) (hown : OwnO w B e s v n xs)
    (b c : Nat) (news : List Value) (hx : a.eval x = .slice (some ⟨b, 0, none⟩) 1 c) (hb : b = w.heap.size) (hl : news.length = s) (h1 : news.all (·.oneCell') = true)
    (hby : bytes ≤ 128) (hn : n + 1 ≤ 1099511627776) (hB : B ≤ w.heap.size)
    (h : ∀ v' w', OwnO w' B e s v' (n + 1) (xs ++ news) → w.grownBy w' v.ownBlock → wpList P ops Q rest (a.put o.dst v') w') : wpList P ops Q (o :: rest) a (w.alloc (.cells news.toArray et)) := by
  subst hb
  refine wl_appendO E hgd sl x ho B v n xs hs (hown.alloc _) w.heap.size 1 c news hx (by omega) (fun j u hu => ?_) (fun u hu => (List.all_eq_true.1 h1) u hu) ?_ (by omega) (Nat.le_trans hB (Pure.alloc (Pure.refl w) _).size)
    (fun v' w' r1 r2 => h v' w' r1 ?_)
  · have := cell_of_row (w.alloc (.cells news.toArray et)) w.heap.size j news.toArray et (0, 0) (heap_alloc_new w _)
    rw [this]
    simpa using hu
  · have := Nat.mul_le_mul hn hby
    omega
  · have h0 := World.grownBy_alloc w (.cells news.toArray et) v.ownBlock
    exact ⟨r2.os.trans h0.os, r2.tape.trans h0.tape, r2.output.trans h0.output, Nat.le_trans h0.size r2.size, fun k hk hne => (r2.block k (Nat.lt_of_lt_of_le hk h0.size) hne).trans (h0.block k hk hne)⟩
end

end Go.Proofs.Ytmhaaihgepldhaa

namespace Go.Proofs.Ytmhaaihgepldhaa

/-- From a, b is reached without wo. -/
inductive RC (xss : List (List Int)) (wo : Int) : Int → Int → Prop where
  | refl (a : Int) (h : a ≠ wo) : RC xss wo a a
  | step (a b c : Int) (h : RC xss wo a b) (hc : c ∈ xss.getD b.toNat []) (hw : c ≠ wo) : RC xss wo a c

theorem RC.ne_right {xss : List (List Int)} {wo a b : Int} (h : RC xss wo a b) : b ≠ wo := by
  cases h <;> assumption
theorem RC.ne_left {xss : List (List Int)} {wo a b : Int} (h : RC xss wo a b) : a ≠ wo := by
  induction h <;> assumption
theorem RC.trans {xss : List (List Int)} {wo a b c : Int} (h : RC xss wo a b) (k : RC xss wo b c) : RC xss wo a c := by
  induction k with
  | refl => exact h
  | step y z _ hc hw ih => exact .step _ _ _ ih hc hw
theorem RC.weaken {xss : List (List Int)} {wo a b : Int} (h : RC xss wo a b) (hneg : ∀ k, k < xss.length → ∀ c, c ∈ xss.getD k [] → 0 ≤ c) (ha : 0 ≤ a) : RC xss (-1) a b := by
  induction h with
  | refl => exact .refl _ (by omega)
  | step y z hy hc hw ih =>
    refine .step _ _ _ ih hc ?_
    by_cases hl : y.toNat < xss.length
    · have := hneg _ hl z hc; omega
    · rw [List.getD_eq_getElem?_getD, List.getElem?_eq_none (by omega)] at hc; simp at hc

theorem GValid.mem {xss : List (List Int)} (h : GValid xss) {k : Nat} {c : Int} (hc : c ∈ xss.getD k []) : 0 ≤ c ∧ c ≤ (xss.length : Int) - 1 := by
  by_cases hl : k < xss.length
  · obtain ⟨j, hj, e⟩ := List.mem_iff_getElem.1 hc
    have := h.1 k hl j hj
    rw [List.getD_eq_getElem?_getD (l := xss.getD k []), List.getElem?_eq_getElem hj] at this
    simp only [Option.getD_some, e] at this
    exact ⟨this.1, this.2.1⟩
  · rw [List.getD_eq_getElem?_getD, List.getElem?_eq_none (by omega)] at hc; simp at hc

/-- Numbers below n, each once, are at most n. -/
theorem nodup_len : ∀ (n : Nat) (L : List Int), L.Nodup → (∀ x ∈ L, 0 ≤ x ∧ x < n) → L.length ≤ n
  | 0, L, _, h => by
    cases L with
    | nil => simp
    | cons x l => have := h x (by simp); omega
  | n + 1, L, hd, h => by
    by_cases hm : (n : Int) ∈ L
    · have h1 := List.length_erase_of_mem hm
      have h2 : (L.erase (n : Int)).Nodup := hd.erase _
      have h3 := nodup_len n (L.erase (n : Int)) h2 (fun x hx => by
        have hx' : x ∈ L := List.mem_of_mem_erase hx
        have hne : x ≠ (n : Int) := by
          rintro rfl
          exact absurd hx (by simp [List.Nodup.mem_erase_iff hd])
        have := h x hx'
        omega)
      have : 0 < L.length := List.length_pos_of_mem hm
      omega
    · have h3 := nodup_len n L hd (fun x hx => by
        have := h x hx
        have : x ≠ (n : Int) := fun e => hm (e ▸ hx)
        omega)
      omega

structure Bfs (xss : List (List Int)) (wo fr : Int) (L : List Int) (k : Nat) : Prop where
  nd : L.Nodup
  rng : ∀ x ∈ L, 0 ≤ x ∧ x < xss.length
  rc : ∀ x ∈ L, RC xss wo fr x
  hk : k ≤ L.length
  cl : ∀ p, p < k → ∀ c ∈ xss.getD (L.getD p 0).toNat [], c ≠ wo → c ∈ L
  hfr : fr ≠ wo → fr ∈ L

section
variable {xss : List (List Int)} {wo fr : Int} {L : List Int} {k : Nat}
theorem Bfs.len (h : Bfs xss wo fr L k) : L.length ≤ xss.length := nodup_len _ _ h.nd h.rng
theorem Bfs.start (h0 : 0 ≤ fr) (h1 : fr < xss.length) (hne : fr ≠ wo) : Bfs xss wo fr [fr] 0 :=
  ⟨by simp, by simp [h0, h1], by intro x hx; simp at hx; subst hx; exact .refl _ hne, by simp, by simp, by simp⟩
theorem Bfs.empty (hne : fr = wo) : Bfs xss wo fr [] 0 := ⟨by simp, by simp, by simp, by simp, by simp, fun h => absurd hne h⟩
theorem getD_append_left' {L M : List Int} {p : Nat} (h : p < L.length) : (L ++ M).getD p 0 = L.getD p 0 := by
  simp [List.getD_eq_getElem?_getD, List.getElem?_append_left h]
theorem Bfs.push (h : Bfs xss wo fr L k) (hlt : k < L.length) {c : Int} (hc : c ∈ xss.getD (L.getD k 0).toNat []) (hr : 0 ≤ c ∧ c ≤ (xss.length : Int) - 1) (hw : c ≠ wo) (hn : c ∉ L) : Bfs xss wo fr (L ++ [c]) k := by
  have hm : L.getD k 0 ∈ L := by simp [List.getD_eq_getElem?_getD, hlt]
  refine ⟨?_, ?_, ?_, by simp; omega, ?_, fun hf => by simp [h.hfr hf]⟩
  · rw [List.nodup_append]
    refine ⟨h.nd, by simp, ?_⟩
    intro a ha b hb
    simp at hb; subst hb
    rintro rfl
    exact hn ha
  · intro x hx
    rcases List.mem_append.1 hx with hx | hx
    · exact h.rng x hx
    · simp at hx; subst hx; omega
  · intro x hx
    rcases List.mem_append.1 hx with hx | hx
    · exact h.rc x hx
    · simp at hx; subst hx; exact .step _ _ _ (h.rc _ hm) hc hw
  · intro p hp d hd hdw
    rw [getD_append_left' (by omega)] at hd
    exact List.mem_append_left _ (h.cl p hp d hd hdw)
theorem Bfs.next (h : Bfs xss wo fr L k) (hlt : k < L.length) (ha : ∀ c ∈ xss.getD (L.getD k 0).toNat [], c ≠ wo → c ∈ L) : Bfs xss wo fr L (k + 1) :=
  ⟨h.nd, h.rng, h.rc, by omega, fun p hp c hc hw => by
    by_cases e : p = k
    · subst e; exact ha c hc hw
    · exact h.cl p (by omega) c hc hw, h.hfr⟩
theorem Bfs.done (h : Bfs xss wo fr L L.length) (x : Int) : x ∈ L ↔ RC xss wo fr x := by
  refine ⟨h.rc x, fun hr => ?_⟩
  have hf := h.hfr hr.ne_left
  induction hr with
  | refl => exact hf
  | step b c hb hc hw ih =>
    obtain ⟨p, hp, e⟩ := List.mem_iff_getElem.1 ih
    have : L.getD p 0 = b := by simp [List.getD_eq_getElem?_getD, hp, e]
    exact h.cl p hp c (by rw [this]; exact hc) hw
end

end Go.Proofs.Ytmhaaihgepldhaa
