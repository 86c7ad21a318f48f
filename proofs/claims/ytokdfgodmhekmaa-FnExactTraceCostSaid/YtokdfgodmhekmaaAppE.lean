/- append to a slice that is still the empty one it began as, or the call's own. No condition. -/
import Derived.Test.YtokdfgodmhekmaaAppF
import Derived.ArgAppend
namespace Go.Proofs.Ytokdfgodmhekmaa
open Go.RowKit

/-- A slice of the call's own, or still the empty one (v0) that was there first. -/
def OwnE (v0 : Value) (w : World) (B e s : Nat) (v : Value) (n : Nat) (xs : List Value) : Prop := OwnO w B e s v n xs ∨ (n = 0 ∧ xs = [] ∧ v = v0)
theorem OwnE.pure {v0 : Value} {w w' : World} {B e s n : Nat} {v : Value} {xs : List Value} (h : OwnE v0 w B e s v n xs) (hp : Pure w w') : OwnE v0 w' B e s v n xs := h.imp (fun h => h.pure hp) id
theorem OwnE.start (v0 : Value) (w : World) (B e s : Nat) : OwnE v0 w B e s v0 0 [] := .inr ⟨rfl, rfl, rfl⟩
theorem OwnO.base' {w : World} {B B' e s n : Nat} {v : Value} {xs : List Value} (h : OwnO w B e s v n xs) (hB : B' ≤ B) : OwnO w B' e s v n xs := by
  refine ⟨h.1, ?_⟩
  rcases h.2 with h | ⟨g, off, cap, cur, e1, e2, e3⟩
  · exact .inl h
  · exact .inr ⟨g, off, cap, cur, e1, by omega, e3⟩
theorem OwnE.own {v0 : Value} {w : World} {B B0 e s n : Nat} {v : Value} {xs : List Value} (h : OwnE v0 w B e s v n xs) (h0 : OwnO w B0 e s v0 0 []) (hB : B0 ≤ B) : OwnO w B0 e s v n xs := by
  rcases h with h | ⟨rfl, rfl, rfl⟩
  · exact h.base' hB
  · exact h0
theorem OwnE.form {b : Nat} {w : World} {B e s n : Nat} {v : Value} {xs : List Value} (h : OwnE (.slice (some ⟨b, 0, none⟩) 0 0) w B e s v n xs) : ∃ A c, v = .slice A n c := by
  rcases h with h | ⟨rfl, rfl, rfl⟩
  · exact h.form
  · exact ⟨_, _, rfl⟩

section
variable {P : Program} {t e : TypeId} {s : Nat} {z : List Value} {bytes : Nat}
theorem wl_append1E (E : ElT P t e s z bytes) {w : World} {ops : Array Oper} {rest : List Oper} {o : Oper} {a : Act} {Q : Exit → Act → World → Prop} {et : TypeId}
    (hgd : o.guard = none) (sl x : Operand) (ho : o.op = .call { callee := .builtin .append, args := #[sl, x], argTypes := #[t, t] })
    (g0 B : Nat) (v : Value) (n : Nat) (xs : List Value) (hs : a.eval sl = v) (hown : OwnE (.slice (some ⟨g0, 0, none⟩) 0 0) w B e s v n xs)
    (b c : Nat) (news : List Value) (hx : a.eval x = .slice (some ⟨b, 0, none⟩) 1 c) (hb : b = w.heap.size) (hl : news.length = s) (h1 : news.all (·.oneCell') = true)
    (hby : bytes ≤ 128) (hn : n + 1 ≤ 1099511627776) (hB : B ≤ w.heap.size)
    (h : ∀ v' w', OwnO w' B e s v' (n + 1) (xs ++ news) → (∀ w0 : World, w0.heap.size ≤ B → Pure w0 w → Pure w0 w') → wpList P ops Q rest (a.put o.dst v') w') : wpList P ops Q (o :: rest) a (w.alloc (.cells news.toArray et)) := by
  rcases hown with hown | ⟨rfl, rfl, rfl⟩
  · refine wl_append1F E hgd sl x ho B v n xs hs hown b c news hx hb hl h1 hby hn hB fun v' w' r1 r2 _ => h v' w' r1 fun w0 h0 hp => ?_
    exact Pure.grown hp r2 (fun k hk => Nat.le_trans h0 (hown.lt k hk).1)
  · subst hb
    obtain ⟨i, zv, h2, h3, h4, h5, h6, h7⟩ := E.parts
    have hcell : ∀ j u, news[j]? = some u → (w.alloc (.cells news.toArray et)).cell? ((⟨w.heap.size, 0, none⟩ : Addr).add j) = some u := fun j u hu => by
      rw [add_mid, Nat.zero_add, cell_of_row (w.alloc (.cells news.toArray et)) w.heap.size j news.toArray et (0, 0) (heap_alloc_new w _)]
      simpa using hu
    refine wpList_append_grows (w.alloc (.cells news.toArray et)) hgd sl x t ho e i zv s bytes E.ht h2 h3 h4 h5 (by rw [h6]; simpa using h7) E.hs (some ⟨g0, 0, none⟩) 0 0 [] hs (fun hh => by cases hh) (by simp) (fun _ _ j u hu => by simp at hu)
      ⟨w.heap.size, 0, none⟩ 1 c news hx (by omega) hcell (fun u hu => (List.all_eq_true.1 h1) u hu) (by omega) (by unfold maxLen; omega) (by omega) fun v' w' r1 r2 => ?_
    have hsz : w.heap.size ≤ (w.alloc (.cells news.toArray et)).heap.size := (Pure.alloc (Pure.refl w) _).size
    refine h v' w' (by simpa using (OwnO.of_own r1).base' (Nat.le_trans hB hsz)) fun w0 _ hp => ?_
    exact (hp.alloc _).grown r2 (fun k hk => by cases hk)
end

end Go.Proofs.Ytokdfgodmhekmaa
