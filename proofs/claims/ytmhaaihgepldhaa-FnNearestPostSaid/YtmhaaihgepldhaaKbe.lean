/- A block of instructions in lockstep, as the reference walks through it. append of all that a slice holds to a new empty one: where the copy lies. Cells that are kept. No condition. -/
import Derived.Test.YtmhaaihgepldhaaKaf
import Derived.Test.YtmhaaihgepldhaaKah
import Derived.Test.YtmhaaihgepldhaaKai
import Derived.Test.YtmhaaihgepldhaaKbd

namespace Go.Proofs.Ytmhaaihgepldhaa
open Go.RowKit

end Go.Proofs.Ytmhaaihgepldhaa

namespace Go.Proofs.Ytmhaaihgepldhaa
open Go.RowKit

section
variable {P : Program} {t e : TypeId} {z : List Value} {bytes : Nat}
theorem wl_copyR (E : ElT P t e 1 z bytes) {w : World} {ops : Array Oper} {rest : List Oper} {o : Oper} {a : Act} {Q : Exit → Act → World → Prop} {et : TypeId}
    (hgd : o.guard = none) (sl x : Operand) (ho : o.op = .call { callee := .builtin .append, args := #[sl, x], argTypes := #[t, t] })
    (b : Nat) (hs : a.eval sl = .slice (some ⟨b, 0, none⟩) 0 0) (vx : Value) (hx : a.eval x = vx) (f : Nat → Value) (m : Nat) (hc : Cells w vx m 1 f) (h1 : ∀ j, j < m → (f j).oneCell' = true)
    (hby : bytes ≤ 128) (hm : 0 < m) (hn : m ≤ 1099511627776)
    (h : ∀ v' w', w'.ownsRow w.heap.size e 1 v' m ((List.range m).map f) → Pure w w' → wpList P ops Q rest (a.put o.dst v') w') : wpList P ops Q (o :: rest) a (w.alloc (.cells #[] et)) := by
  obtain ⟨A, c, rfl, hmc, hcm, hrd⟩ := hc
  obtain ⟨b', o', rfl, hbl, hcc⟩ := hrd hm
  have hp0 : Pure w (w.alloc (.cells #[] et)) := Pure.alloc (Pure.refl _) _
  obtain ⟨i, zv, h2, h3, h4, h5, h6, h7⟩ := E.parts
  have hmul : m * bytes ≤ 1099511627776 * 128 := Nat.mul_le_mul hn hby
  refine wpList_append_grows (w.alloc (.cells #[] et)) hgd sl x t ho e i zv 1 bytes E.ht h2 h3 h4 h5 (by rw [h6]; simpa using h7) (by decide) (some ⟨b, 0, none⟩) 0 0 [] hs (fun hh => by cases hh) (by simp) (fun _ _ j u hu => by simp at hu)
    ⟨b', o', none⟩ m c ((List.range m).map f) hx (by simp) (fun j u hu => ?_) (fun u hu => ?_) (by omega) (by unfold maxLen; omega) (by rw [Nat.zero_add]; omega) fun v' w' r1 r2 => ?_
  · rw [add_mid, hp0.cell b' (o' + j) hbl]
    have hj : j < m := by
      rcases Nat.lt_or_ge j m with h | h
      · exact h
      · rw [List.getElem?_eq_none (by simpa using h)] at hu; cases hu
    rw [hcc j (by omega), ← hu]
    simp [hj]
  · obtain ⟨j, hj, rfl⟩ := List.mem_map.1 hu
    exact h1 j (by simpa using hj)
  · have hsz : w.heap.size ≤ (w.alloc (.cells #[] et)).heap.size := hp0.size
    refine h v' w' ?_ (hp0.grown r2 (fun k hk => by cases hk))
    refine ⟨by simp, ?_⟩
    rcases r1.2 with ⟨rfl, h0⟩ | ⟨g, cap, cur, q1, q2, q3⟩
    · exact .inl ⟨rfl, by omega⟩
    · refine .inr ⟨g, cap, cur, by simpa using q1, by omega, ?_⟩
      simpa using q3
end

end Go.Proofs.Ytmhaaihgepldhaa

namespace Go.Proofs.Ytmhaaihgepldhaa
open Go.RowKit

theorem keepPc {w w' : World} {b i : Nat} {v : Value} (h : Pure w w') (hc : w.cell? ⟨b, i, none⟩ = some v) : w'.cell? ⟨b, i, none⟩ = some v := (h.cell b i (World.block_lt_of_cell? _ _ hc)).trans hc

end Go.Proofs.Ytmhaaihgepldhaa
