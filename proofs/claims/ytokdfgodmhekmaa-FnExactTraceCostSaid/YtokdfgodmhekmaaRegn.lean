/- A region that draws its order, and ends in operations that make memory or write, in a forced order: what only reads may be taken first. No condition. -/
import Derived.Test.YtokdfgodmhekmaaBase
import Derived.StillTailTactics
import Derived.OrdersHeld
namespace Go.Proofs.Ytokdfgodmhekmaa
open Go.RowKit

section
variable {P : Program} {ops : Array Oper} {Q : Exit → Act → World → Prop} {md : Region.Mode} {S : World → Prop}

/-- Whatever order is picked: behind every operation but number z the world meets S. -/
def AnyK (P : Program) (md : Region.Mode) (ops : Array Oper) (Q : Exit → Act → World → Prop) (S : World → Prop) (z : Nat) : Nat → Array Bool → Act → World → Prop
  | 0, l, a, w => Region.ready md ops l = [] ∧ Q .normal a w
  | f + 1, l, a, w => (Region.ready md ops l = [] → Q .normal a w) ∧ ∀ i ∈ Region.ready md ops l, wpOp P ops Q i (fun b u => (i ≠ z → S u) ∧ AnyK P md ops Q S z f (l.setIfInBounds i true) b u) a w
theorem AnyK.any {z : Nat} : ∀ (f : Nat) (l : Array Bool) (a : Act) (w : World), AnyK P md ops Q S z f l a w → wpAny P md ops Q f l a w
  | 0, _, _, _, h => h
  | f + 1, _, _, _, h => ⟨h.1, fun i hi => wpOp_mono (fun b u k => AnyK.any f _ b u k.2) (h.2 i hi)⟩

/-- What yields its value wherever S holds may come first, if the last operation waits for everything. -/
theorem AnyK.first {i z : Nat} {o : Oper} {v : Value} (ho : ops[i]? = some o) (hns : Region.noSelect ops = true) (hQ : ∀ c a w, Q (.panic c) (a.put o.dst v) w → Q (.panic c) a w)
    (hk : Region.sinkB md ops z = true) (hc : Region.chainB md ops z = true) (hz : z + 1 = ops.size) (hiz : i < z) :
    ∀ (f : Nat) (l : Array Bool) (a : Act) (w : World), HeadInv md ops z l →
      (∀ j p, ops[j]? = some p → j ≠ i → l.getD j true = false → (∀ e ∈ p.after, Region.binds md e = true → e.on ≠ i) → o.apart ops p = true) →
      i ∈ Region.ready md ops l → YieldsIf P ops S o v a → S w → AnyK P md ops Q S z f (l.setIfInBounds i true) (a.put o.dst v) w → AnyK P md ops Q S z (f + 1) l a w := by
  intro f
  induction f with
  | zero =>
    intro l a w inv hf hr hy hS H
    refine ⟨fun h0 => absurd hr (by rw [h0]; simp), fun j hj => ?_⟩
    by_cases e : j = i
    · rw [e]; exact hy.wpOp ho hS ⟨fun _ => hS, H⟩
    · exact absurd (ready_mono hj e) (by rw [H.1]; simp)
  | succ f ih =>
    intro l a w inv hf hr hy hS H
    refine ⟨fun h0 => absurd hr (by rw [h0]; simp), fun j hj => ?_⟩
    by_cases e : j = i
    · rw [e]; exact hy.wpOp ho hS ⟨fun _ => hS, H⟩
    have hun := (mem_ready.1 hr).1
    obtain ⟨hju, p, hp, hall⟩ := mem_ready.1 hj
    have hjs : j < ops.size := (Array.getElem?_eq_some_iff.1 hp).1
    have hjz : j ≠ z := fun e2 => tail_waits hk hc (by omega) inv _ i rfl hiz hun j (by omega) hj
    have hno : ∀ x ∈ p.after, Region.binds md x = true → x.on ≠ i := fun x hx hb e2 => by
      have h1 := hall x hx hb
      rw [e2] at h1
      have h2 := getD_both hun
      rw [h1] at h2; cases h2
    have hput := wpOp_putIf hp (hf j p hp e hju hno) (fun cs b => Region.noSelect_spec hns i o cs b ho) (fun cs b => Region.noSelect_spec hns j p cs b hp) hQ hy (H.2 j (ready_mono hj e))
    have hf' : ∀ k q, ops[k]? = some q → k ≠ i → (l.setIfInBounds j true).getD k true = false → (∀ x ∈ q.after, Region.binds md x = true → x.on ≠ i) → o.apart ops q = true := fun k q hq hki hku hn => by
      refine hf k q hq hki ?_ hn
      by_cases e3 : j = k
      · rw [← e3]; exact hju
      · rwa [getD_set_ne true e3] at hku
    refine wpOp_mono (fun b u h => ⟨fun _ => h.2.1 hjz, ih (l.setIfInBounds j true) b u (inv.set hj (by omega)) hf' (ready_mono hr (fun e4 => e e4.symm)) h.1 (h.2.1 hjz) ?_⟩) hput
    rw [Array.setIfInBounds_comm _ _ e]
    exact h.2.2

def thenK (Q : Exit → Act → World → Prop) (K : Act → World → Prop) : Exit → Act → World → Prop
  | .normal, a, w => K a w
  | e, a, w => Q e a w
theorem upon_thenK {K K' : Act → World → Prop} {o : Oper} {a : Act} (r : Result Next) (h : o.upon P a K (thenK Q K') r) : o.upon P a K Q r := by
  have hl : LetsOut (thenK Q K') → LetsOut Q := fun ⟨b, u, k⟩ => ⟨b, u, k⟩
  cases r with
  | ok n u =>
    cases n with
    | enter g xs =>
      refine Calls.mono h fun e u' k => ?_
      cases e with
      | returned v => exact k
      | panicked c => exact k
      | outgrown => exact hl k
    | value v => exact h
    | skip => exact h
    | defer d => exact h
    | row r xs => exact h
    | _ => exact h
  | halt x u => cases x <;> exact h
theorem wpOp_of_one {K : Act → World → Prop} {i : Nat} {o : Oper} {a : Act} {w : World} (ho : ops[i]? = some o) (h : wpList P ops (thenK Q K) [o] a w) : wpOp P ops Q i K a w := by
  unfold wpOp
  simp only [ho]
  unfold wpList at h
  split
  · rename_i hw
    rw [if_pos hw] at h
    rcases h with h | ⟨h1, b, u, h2⟩
    · exact .inl (upon_thenK _ h)
    · exact .inr ⟨h1, b, u, h2⟩
  · rename_i hw
    rw [if_neg hw] at h
    exact h

/-- The operations that only read, one after another. -/
def Held (P : Program) (ops : Array Oper) (S : World → Prop) (E : Act → Prop) : List Oper → Act → Prop
  | [], a => E a
  | o :: r, a => ∃ v, YieldsIf P ops S o v a ∧ Held P ops S E r (a.put o.dst v)
/-- The operations that come last, one after another. -/
def Tail (P : Program) (ops : Array Oper) (Q : Exit → Act → World → Prop) (S : World → Prop) : List Oper → Act → World → Prop
  | [], a, w => Q .normal a w
  | [o], a, w => wpList P ops Q [o] a w
  | o :: o2 :: r, a, w => wpList P ops (thenK Q fun b u => S u ∧ Tail P ops Q S (o2 :: r) b u) [o] a w
def hdsB (md : Region.Mode) (ops : Array Oper) (T : Array Bool → Bool) : List Nat → Array Bool → Bool
  | [], l => T l
  | i :: r, l => (Region.ready md ops l).contains i && Region.free md ops l i && decide (i + 1 < ops.size) && hdsB md ops T r (l.setIfInBounds i true)
def tlsB (md : Region.Mode) (ops : Array Oper) : List Nat → Array Bool → Bool
  | [], l => (Region.ready md ops l).isEmpty
  | t :: r, l => decide (Region.ready md ops l = [t]) && (decide (t + 1 = ops.size) == r.isEmpty) && tlsB md ops r (l.setIfInBounds t true)

theorem tail_any {z : Nat} (hz : z + 1 = ops.size) : ∀ (ts : List Nat) (os : List Oper) (f : Nat) (l : Array Bool) (a : Act) (w : World), ts.map (ops[·]?) = os.map some → tlsB md ops ts l = true → ts.length ≤ f → Tail P ops Q S os a w → AnyK P md ops Q S z f l a w
  | [], os, f, l, a, w, hm, hB, _, h => by
    obtain rfl : os = [] := by cases os with
      | nil => rfl
      | cons => simp at hm
    have hr : Region.ready md ops l = [] := by simpa [tlsB] using hB
    cases f with
    | zero => exact ⟨hr, h⟩
    | succ f => exact ⟨fun _ => h, by rw [hr]; simp⟩
  | t :: ts, [], _, _, _, _, hm, _, _, _ => by simp at hm
  | t :: ts, o :: os, 0, _, _, _, _, _, hf, _ => by simp at hf
  | t :: ts, o :: os, f + 1, l, a, w, hm, hB, hf, h => by
    simp only [List.map_cons, List.cons.injEq] at hm
    simp only [tlsB, Bool.and_eq_true, decide_eq_true_eq, beq_iff_eq] at hB
    obtain ⟨⟨hr, hlast⟩, hB⟩ := hB
    refine ⟨fun h0 => absurd hr (by rw [h0]; simp), fun i hi => ?_⟩
    rw [hr] at hi
    obtain rfl : i = t := by simpa using hi
    cases os with
    | nil =>
      have hts : ts = [] := by cases ts with
        | nil => rfl
        | cons => simp at hm
      subst hts
      have hzi : i = z := by simp at hlast; omega
      have h1 : wpOp P ops Q i (fun b u => Q .normal b u) a w := wpOp_of_one hm.1 (by
        have e : thenK Q (fun b u => Q .normal b u) = Q := by funext e b u; cases e <;> rfl
        rw [e]; exact h)
      exact wpOp_mono (fun b u k => ⟨fun hne => absurd hzi hne, tail_any hz [] [] f _ b u rfl hB (by simp) k⟩) h1
    | cons o2 os => exact wpOp_mono (fun b u k => ⟨fun _ => k.1, tail_any hz ts (o2 :: os) f _ b u hm.2 hB (by simpa using hf) k.2⟩) (wpOp_of_one hm.1 h)

theorem heads_any {z : Nat} {ts : List Nat} {tl : List Oper} (hz : z + 1 = ops.size) (hns : Region.noSelect ops = true) (hk : Region.sinkB md ops z = true) (hc : Region.chainB md ops z = true)
    (hQ : ∀ (c : _) (a : Act) (d : Option Tmp) (v : Value) (w : World), Q (.panic c) (a.put d v) w → Q (.panic c) a w) (ht : ts.map (ops[·]?) = tl.map some) :
    ∀ (hs : List Nat) (hl : List Oper) (f : Nat) (l : Array Bool) (a : Act) (w : World), hs.map (ops[·]?) = hl.map some → hdsB md ops (tlsB md ops ts) hs l = true → hs.length + ts.length ≤ f → HeadInv md ops z l → S w →
      Held P ops S (fun b => Tail P ops Q S tl b w) hl a → AnyK P md ops Q S z f l a w
  | [], hl, f, l, a, w, hm, hB, hf, inv, hS, h => by
    obtain rfl : hl = [] := by cases hl with
      | nil => rfl
      | cons => simp at hm
    exact tail_any hz ts tl f l a w ht hB (by simpa using hf) h
  | i :: hs, [], _, _, _, _, hm, _, _, _, _, _ => by simp at hm
  | i :: hs, o :: hl, 0, _, _, _, _, _, hf, _, _, _ => by simp at hf
  | i :: hs, o :: hl, f + 1, l, a, w, hm, hB, hf, inv, hS, h => by
    simp only [List.map_cons, List.cons.injEq] at hm
    simp only [hdsB, Bool.and_eq_true, decide_eq_true_eq] at hB
    obtain ⟨⟨⟨hr, hfr⟩, hlt⟩, hB⟩ := hB
    obtain ⟨v, hy, h⟩ := h
    have hr' : i ∈ Region.ready md ops l := by simpa using hr
    exact AnyK.first hm.1 hns (fun c b u => hQ c b o.dst v u) hk hc hz (by omega) f l a w inv (Region.free_spec hm.1 hfr) hr' hy hS
      (heads_any hz hns hk hc hQ ht hs hl f _ _ w hm.2 hB (by simp at hf; omega) (inv.set hr' (by omega)) hS h)
end

/-- A region: the operations hl (number by number: hs) only read where S holds; tl (ts) come last. -/
theorem region_held {P : Program} {id : Nat} {Q : Exit → Act → World → Prop} {a : Act} {w : World} {l : List Oper} (S : World → Prop) (hs ts : List Nat) (hl tl : List Oper) (hm : P.follows .mixedOrders = true)
    (hB : (Region.noSelect l.toArray && Region.sinkB .any l.toArray (l.toArray.size - 1) && Region.chainB .any l.toArray (l.toArray.size - 1) && decide (0 < l.toArray.size) && decide (hs.length + ts.length = l.toArray.size) && hdsB .any l.toArray (tlsB .any l.toArray ts) hs (Array.replicate l.toArray.size false)) = true)
    (hh : hs.map (l.toArray[·]?) = hl.map some) (ht : ts.map (l.toArray[·]?) = tl.map some)
    (hQ : ∀ (c : _) (a : Act) (d : Option Tmp) (v : Value) (w : World), Q (.panic c) (a.put d v) w → Q (.panic c) a w) (hS : S w.drew)
    (h : Held P l.toArray S (fun b => Tail P l.toArray Q S tl b w.drew) hl a) : (Code.region id l.toArray true).wp P Q a w := by
  simp only [Bool.and_eq_true, decide_eq_true_eq] at hB
  obtain ⟨⟨⟨⟨⟨hns, hk⟩, hc⟩, h0⟩, hlen⟩, hB⟩ := hB
  have inv0 : HeadInv .any l.toArray (l.toArray.size - 1) (Array.replicate l.toArray.size false) :=
    ⟨by simp, fun j p _ hx => (by rw [getD_replicate_false] at hx; cases hx), fun t _ hx => getD_in (by simpa using hx) (getD_replicate_false _ _)⟩
  exact wp_region_any hm (AnyK.any _ _ _ _ (heads_any (by omega) hns hk hc hQ ht hs hl _ _ a w.drew hh hB (by omega) inv0 hS h))

theorem held_of {P : Program} {ops : Array Oper} {S : World → Prop} {E : Act → Prop} {o : Oper} {r : List Oper} {a : Act} {v : Value} (hw : Region.wanted o (yielded ops a.tmps) = true) (hv : ∀ w, S w → (execOp a.eval o).run P w = .ok (.value v) w)
    (h : Held P ops S E r (a.put o.dst v)) : Held P ops S E (o :: r) a := ⟨v, .inl ⟨hw, hv⟩, h⟩
theorem held_nil {P : Program} {ops : Array Oper} {S : World → Prop} {E : Act → Prop} {a : Act} (h : E a) : Held P ops S E [] a := h

theorem region_heldF {P : Program} {id : Nat} {Q : Exit → Act → World → Prop} {a : Act} {w : World} {l : List Oper} (S : World → Prop) (hs ts : List Nat) (fH fT : List Oper → List Oper) (hm : P.follows .mixedOrders = true)
    (hB : (Region.noSelect l.toArray && Region.sinkB .any l.toArray (l.toArray.size - 1) && Region.chainB .any l.toArray (l.toArray.size - 1) && decide (0 < l.toArray.size) && decide (hs.length + ts.length = l.toArray.size) && hdsB .any l.toArray (tlsB .any l.toArray ts) hs (Array.replicate l.toArray.size false)) = true)
    (hh : hs.map (l.toArray[·]?) = (fH l).map some) (ht : ts.map (l.toArray[·]?) = (fT l).map some)
    (hQ : ∀ (c : _) (a : Act) (d : Option Tmp) (v : Value) (w : World), Q (.panic c) (a.put d v) w → Q (.panic c) a w) (hS : S w.drew)
    (h : Held P l.toArray S (fun b => Tail P l.toArray Q S (fT l) b w.drew) (fH l) a) : (Code.region id l.toArray true).wp P Q a w :=
  region_held S hs ts (fH l) (fT l) hm hB hh ht hQ hS h

end Go.Proofs.Ytokdfgodmhekmaa
