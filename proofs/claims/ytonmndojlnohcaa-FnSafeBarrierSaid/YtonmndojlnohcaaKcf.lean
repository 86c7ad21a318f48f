/- A region that draws its order: what only reads is taken first, then every order of the rest is walked. No condition. -/
import Derived.Test.YtonmndojlnohcaaKah

namespace Go.Proofs.Ytonmndojlnohcaa
open Go.RowKit

section
variable {P : Program} {ops : Array Oper} {Q : Exit → Act → World → Prop} {md : Region.Mode} {S : World → Prop}
theorem anyK_end {z f : Nat} {l : Array Bool} {a : Act} {w : World} (hr : Region.ready md ops l = []) (h : Q .normal a w) : AnyK P md ops Q S z f l a w := by
  cases f with
  | zero => exact ⟨hr, h⟩
  | succ f => exact ⟨fun _ => h, by rw [hr]; simp⟩
theorem anyK_one {z f i : Nat} {l : Array Bool} {a : Act} {w : World} {o : Oper} (hr : Region.ready md ops l = [i]) (ho : ops[i]? = some o)
    (h : wpList P ops (thenK Q fun b u => (i ≠ z → S u) ∧ AnyK P md ops Q S z f (l.setIfInBounds i true) b u) [o] a w) : AnyK P md ops Q S z (f + 1) l a w := by
  refine ⟨fun h0 => absurd hr (by rw [h0]; simp), fun j hj => ?_⟩
  rw [hr] at hj
  obtain rfl : j = i := by simpa using hj
  exact wpOp_of_one ho h
theorem anyK_two {z f i j : Nat} {l : Array Bool} {a : Act} {w : World} {o p : Oper} (hr : Region.ready md ops l = [i, j]) (ho : ops[i]? = some o) (hp : ops[j]? = some p)
    (h1 : wpList P ops (thenK Q fun b u => (i ≠ z → S u) ∧ AnyK P md ops Q S z f (l.setIfInBounds i true) b u) [o] a w)
    (h2 : wpList P ops (thenK Q fun b u => (j ≠ z → S u) ∧ AnyK P md ops Q S z f (l.setIfInBounds j true) b u) [p] a w) : AnyK P md ops Q S z (f + 1) l a w := by
  refine ⟨fun h0 => absurd hr (by rw [h0]; simp), fun k hk => ?_⟩
  rw [hr] at hk
  have hk' : k = i ∨ k = j := by simpa using hk
  rcases hk' with rfl | rfl
  · exact wpOp_of_one ho h1
  · exact wpOp_of_one hp h2
def setsB (l : Array Bool) : List Nat → Array Bool
  | [] => l
  | i :: r => setsB (l.setIfInBounds i true) r
def hdsW (md : Region.Mode) (ops : Array Oper) : List Nat → Array Bool → Bool
  | [], _ => true
  | i :: r, l => (Region.ready md ops l).contains i && Region.free md ops l i && decide (i + 1 < ops.size) && hdsW md ops r (l.setIfInBounds i true)
theorem heads_way {z k : Nat} (hz : z + 1 = ops.size) (hns : Region.noSelect ops = true) (hk : Region.sinkB md ops z = true) (hc : Region.chainB md ops z = true)
    (hQ : ∀ (c : _) (a : Act) (d : Option Tmp) (v : Value) (w : World), Q (.panic c) (a.put d v) w → Q (.panic c) a w) :
    ∀ (hs : List Nat) (hl : List Oper) (f : Nat) (l : Array Bool) (a : Act) (w : World), hs.map (ops[·]?) = hl.map some → hdsW md ops hs l = true → hs.length + k = f → HeadInv md ops z l → S w →
      Held P ops S (fun b => AnyK P md ops Q S z k (setsB l hs) b w) hl a → AnyK P md ops Q S z f l a w
  | [], hl, f, l, a, w, hm, _, hf, inv, hS, h => by
    obtain rfl : hl = [] := by cases hl with
      | nil => rfl
      | cons => simp at hm
    obtain rfl : k = f := by simpa using hf
    exact h
  | i :: hs, [], _, _, _, _, hm, _, _, _, _, _ => by simp at hm
  | i :: hs, o :: hl, 0, _, _, _, _, _, hf, _, _, _ => by simp at hf
  | i :: hs, o :: hl, f + 1, l, a, w, hm, hB, hf, inv, hS, h => by
    simp only [List.map_cons, List.cons.injEq] at hm
    simp only [hdsW, Bool.and_eq_true, decide_eq_true_eq] at hB
    obtain ⟨⟨⟨hr, hfr⟩, hlt⟩, hB⟩ := hB
    obtain ⟨v, hy, h⟩ := h
    have hr' : i ∈ Region.ready md ops l := by simpa using hr
    exact AnyK.first hm.1 hns (fun c b u => hQ c b o.dst v u) hk hc hz (by omega) f l a w inv (Region.free_spec hm.1 hfr) hr' hy hS
      (heads_way hz hns hk hc hQ hs hl f _ _ w hm.2 hB (by simp at hf; omega) (inv.set hr' (by omega)) hS h)
end
/-- A region: the operations hs only read where S holds; the rest comes in any order. -/
theorem region_way {P : Program} {id : Nat} {Q : Exit → Act → World → Prop} {a : Act} {w : World} {l : List Oper} (S : World → Prop) (hs : List Nat) (k z : Nat) (fH : List Oper → List Oper) (hm : P.follows .mixedOrders = true)
    (hB : (Region.noSelect l.toArray && Region.sinkB .any l.toArray z && Region.chainB .any l.toArray z && decide (z + 1 = l.toArray.size) && decide (hs.length + k = l.toArray.size) && hdsW .any l.toArray hs (Array.replicate l.toArray.size false)) = true)
    (hh : hs.map (l.toArray[·]?) = (fH l).map some)
    (hQ : ∀ (c : _) (a : Act) (d : Option Tmp) (v : Value) (w : World), Q (.panic c) (a.put d v) w → Q (.panic c) a w) (hS : S w.drew)
    (h : Held P l.toArray S (fun b => AnyK P .any l.toArray Q S z k (setsB (Array.replicate l.toArray.size false) hs) b w.drew) (fH l) a) : (Code.region id l.toArray true).wp P Q a w := by
  simp only [Bool.and_eq_true, decide_eq_true_eq] at hB
  obtain ⟨⟨⟨⟨⟨hns, hk⟩, hc⟩, h0⟩, hlen⟩, hB⟩ := hB
  have inv0 : HeadInv .any l.toArray z (Array.replicate l.toArray.size false) :=
    ⟨by simp, fun j p _ hx => (by rw [getD_replicate_false] at hx; cases hx), fun t _ hx => getD_in (by simpa using hx) (getD_replicate_false _ _)⟩
  exact wp_region_any hm (AnyK.any _ _ _ _ (heads_way h0 hns hk hc hQ hs (fH l) _ _ a w.drew hh hB hlen inv0 hS h))

end Go.Proofs.Ytonmndojlnohcaa
