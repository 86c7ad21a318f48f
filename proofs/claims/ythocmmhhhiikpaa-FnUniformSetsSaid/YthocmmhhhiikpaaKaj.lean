/- A region that draws its order, and ends in operations that make memory or write, in a forced order: what only reads may be taken first. Cells that are kept. The whole run in lockstep, as the reference makes it. Which arguments a run takes: the number of lanes, the memory. Where the steps of a run lie, and by which lanes; what they cost. No program in sight. What an instruction costs. No condition. -/
import Derived.StillTailTactics
import Derived.OrdersHeld
import Derived.Test.YthocmmhhhiikpaaKaa
import Derived.Test.YthocmmhhhiikpaaKab
import Derived.Test.YthocmmhhhiikpaaKac
import Derived.Test.YthocmmhhhiikpaaKaf
import Derived.Test.YthocmmhhhiikpaaKag
import Derived.Test.YthocmmhhhiikpaaKah
import Derived.Test.YthocmmhhhiikpaaKai

namespace Go.Proofs.Ythocmmhhhiikpaa
open Go.RowKit

section
variable {P : Program} {ops : Array Oper} {Q : Exit → Act → World → Prop} {md : Region.Mode} {S : World → Prop}

/-- Whatever order is picked: behind every operation but number z the world meets S. -/
def AnyK (P : Program) (md : Region.Mode) (ops : Array Oper) (Q : Exit → Act → World → Prop) (S : World → Prop) (z : Nat) : Nat → Array Bool → Act → World → Prop
  | 0, l, a, w => Region.ready md ops l = [] ∧ Q .normal a w
  | f + 1, l, a, w => (Region.ready md ops l = [] → Q .normal a w) ∧ ∀ i ∈ Region.ready md ops l, wpOp P ops Q i (fun b u => (i ≠ z → S u) ∧ AnyK P md ops Q S z f (l.setIfInBounds i true) b u) a w
theorem AnyK.any {z : Nat} : ∀ (f : Nat) (l : Array Bool) (a : Act) (w : World), AnyK P md ops Q S z f l a w → wpAny P md ops Q f l a w
  | 0, _, _, _, h => h
  | f + 1, _, _, _, h => ⟨h.1, fun i hi => wpOp_mono (fun b u k => AnyK.any f _ b u k.2) (h.2 i hi)⟩

/-- What yields its value wherever S holds may come first, if the last operation waits for everything. -/
theorem AnyK.first {i z : Nat} {o : Oper} {v : Value} (ho : ops[i]? = some o) (hns : Region.noSelect ops = true) (hQ : ∀ c a w, Q (.panic c) (a.put o.dst v) w → Q (.panic c) a w)
    (hk : Region.sinkB md ops z = true) (hc : Region.chainB md ops z = true) (hz : z + 1 = ops.size) (hiz : i < z) :
    ∀ (f : Nat) (l : Array Bool) (a : Act) (w : World), HeadInv md ops z l →
      (∀ j p, ops[j]? = some p → j ≠ i → l.getD j true = false → (∀ e ∈ p.after, Region.binds md e = true → e.on ≠ i) → o.apart ops p = true) →
      i ∈ Region.ready md ops l → YieldsIf P ops S o v a → S w → AnyK P md ops Q S z f (l.setIfInBounds i true) (a.put o.dst v) w → AnyK P md ops Q S z (f + 1) l a w := by
  intro f
  induction f with
  | zero =>
    intro l a w inv hf hr hy hS H
    refine ⟨fun h0 => absurd hr (by rw [h0]; simp), fun j hj => ?_⟩
    by_cases e : j = i
    · rw [e]; exact hy.wpOp ho hS ⟨fun _ => hS, H⟩
    · exact absurd (ready_mono hj e) (by rw [H.1]; simp)
  | succ f ih =>
    intro l a w inv hf hr hy hS H
    refine ⟨fun h0 => absurd hr (by rw [h0]; simp), fun j hj => ?_⟩
    by_cases e : j = i
    · rw [e]; exact hy.wpOp ho hS ⟨fun _ => hS, H⟩
    have hun := (mem_ready.1 hr).1
    obtain ⟨hju, p, hp, hall⟩ := mem_ready.1 hj
    have hjs : j < ops.size := (Array.getElem?_eq_some_iff.1 hp).1
    have hjz : j ≠ z := fun e2 => tail_waits hk hc (by omega) inv _ i rfl hiz hun j (by omega) hj
    have hno : ∀ x ∈ p.after, Region.binds md x = true → x.on ≠ i := fun x hx hb e2 => by
      have h1 := hall x hx hb
      rw [e2] at h1
      have h2 := getD_both hun
      rw [h1] at h2; cases h2
    have hput := wpOp_putIf hp (hf j p hp e hju hno) (fun cs b => Region.noSelect_spec hns i o cs b ho) (fun cs b => Region.noSelect_spec hns j p cs b hp) hQ hy (H.2 j (ready_mono hj e))
    have hf' : ∀ k q, ops[k]? = some q → k ≠ i → (l.setIfInBounds j true).getD k true = false → (∀ x ∈ q.after, Region.binds md x = true → x.on ≠ i) → o.apart ops q = true := fun k q hq hki hku hn => by
      refine hf k q hq hki ?_ hn
      by_cases e3 : j = k
      · rw [← e3]; exact hju
      · rwa [getD_set_ne true e3] at hku
    refine wpOp_mono (fun b u h => ⟨fun _ => h.2.1 hjz, ih (l.setIfInBounds j true) b u (inv.set hj (by omega)) hf' (ready_mono hr (fun e4 => e e4.symm)) h.1 (h.2.1 hjz) ?_⟩) hput
    rw [Array.setIfInBounds_comm _ _ e]
    exact h.2.2

def thenK (Q : Exit → Act → World → Prop) (K : Act → World → Prop) : Exit → Act → World → Prop
  | .normal, a, w => K a w
  | e, a, w => Q e a w
theorem upon_thenK {K K' : Act → World → Prop} {o : Oper} {a : Act} (r : Result Next) (h : o.upon P a K (thenK Q K') r) : o.upon P a K Q r := by
  have hl : LetsOut (thenK Q K') → LetsOut Q := fun ⟨b, u, k⟩ => ⟨b, u, k⟩
  cases r with
  | ok n u =>
    cases n with
    | enter g xs =>
      refine Calls.mono h fun e u' k => ?_
      cases e with
      | returned v => exact k
      | panicked c => exact k
      | outgrown => exact hl k
    | value v => exact h
    | skip => exact h
    | defer d => exact h
    | row r xs => exact h
    | _ => exact h
  | halt x u => cases x <;> exact h
theorem wpOp_of_one {K : Act → World → Prop} {i : Nat} {o : Oper} {a : Act} {w : World} (ho : ops[i]? = some o) (h : wpList P ops (thenK Q K) [o] a w) : wpOp P ops Q i K a w := by
  unfold wpOp
  simp only [ho]
  unfold wpList at h
  split
  · rename_i hw
    rw [if_pos hw] at h
    rcases h with h | ⟨h1, b, u, h2⟩
    · exact .inl (upon_thenK _ h)
    · exact .inr ⟨h1, b, u, h2⟩
  · rename_i hw
    rw [if_neg hw] at h
    exact h

/-- The operations that only read, one after another. -/
def Held (P : Program) (ops : Array Oper) (S : World → Prop) (E : Act → Prop) : List Oper → Act → Prop
  | [], a => E a
  | o :: r, a => ∃ v, YieldsIf P ops S o v a ∧ Held P ops S E r (a.put o.dst v)
/-- The operations that come last, one after another. -/
def Tail (P : Program) (ops : Array Oper) (Q : Exit → Act → World → Prop) (S : World → Prop) : List Oper → Act → World → Prop
  | [], a, w => Q .normal a w
  | [o], a, w => wpList P ops Q [o] a w
  | o :: o2 :: r, a, w => wpList P ops (thenK Q fun b u => S u ∧ Tail P ops Q S (o2 :: r) b u) [o] a w
def hdsB (md : Region.Mode) (ops : Array Oper) (T : Array Bool → Bool) : List Nat → Array Bool → Bool
  | [], l => T l
  | i :: r, l => (Region.ready md ops l).contains i && Region.free md ops l i && decide (i + 1 < ops.size) && hdsB md ops T r (l.setIfInBounds i true)
def tlsB (md : Region.Mode) (ops : Array Oper) : List Nat → Array Bool → Bool
  | [], l => (Region.ready md ops l).isEmpty
  | t :: r, l => decide (Region.ready md ops l = [t]) && (decide (t + 1 = ops.size) == r.isEmpty) && tlsB md ops r (l.setIfInBounds t true)

theorem tail_any {z : Nat} (hz : z + 1 = ops.size) : ∀ (ts : List Nat) (os : List Oper) (f : Nat) (l : Array Bool) (a : Act) (w : World), ts.map (ops[·]?) = os.map some → tlsB md ops ts l = true → ts.length ≤ f → Tail P ops Q S os a w → AnyK P md ops Q S z f l a w
  | [], os, f, l, a, w, hm, hB, _, h => by
    obtain rfl : os = [] := by cases os with
      | nil => rfl
      | cons => simp at hm
    have hr : Region.ready md ops l = [] := by simpa [tlsB] using hB
    cases f with
    | zero => exact ⟨hr, h⟩
    | succ f => exact ⟨fun _ => h, by rw [hr]; simp⟩
  | t :: ts, [], _, _, _, _, hm, _, _, _ => by simp at hm
  | t :: ts, o :: os, 0, _, _, _, _, _, hf, _ => by simp at hf
  | t :: ts, o :: os, f + 1, l, a, w, hm, hB, hf, h => by
    simp only [List.map_cons, List.cons.injEq] at hm
    simp only [tlsB, Bool.and_eq_true, decide_eq_true_eq, beq_iff_eq] at hB
    obtain ⟨⟨hr, hlast⟩, hB⟩ := hB
    refine ⟨fun h0 => absurd hr (by rw [h0]; simp), fun i hi => ?_⟩
    rw [hr] at hi
    obtain rfl : i = t := by simpa using hi
    cases os with
    | nil =>
      have hts : ts = [] := by cases ts with
        | nil => rfl
        | cons => simp at hm
      subst hts
      have hzi : i = z := by simp at hlast; omega
      have h1 : wpOp P ops Q i (fun b u => Q .normal b u) a w := wpOp_of_one hm.1 (by
        have e : thenK Q (fun b u => Q .normal b u) = Q := by funext e b u; cases e <;> rfl
        rw [e]; exact h)
      exact wpOp_mono (fun b u k => ⟨fun hne => absurd hzi hne, tail_any hz [] [] f _ b u rfl hB (by simp) k⟩) h1
    | cons o2 os => exact wpOp_mono (fun b u k => ⟨fun _ => k.1, tail_any hz ts (o2 :: os) f _ b u hm.2 hB (by simpa using hf) k.2⟩) (wpOp_of_one hm.1 h)

theorem heads_any {z : Nat} {ts : List Nat} {tl : List Oper} (hz : z + 1 = ops.size) (hns : Region.noSelect ops = true) (hk : Region.sinkB md ops z = true) (hc : Region.chainB md ops z = true)
    (hQ : ∀ (c : _) (a : Act) (d : Option Tmp) (v : Value) (w : World), Q (.panic c) (a.put d v) w → Q (.panic c) a w) (ht : ts.map (ops[·]?) = tl.map some) :
    ∀ (hs : List Nat) (hl : List Oper) (f : Nat) (l : Array Bool) (a : Act) (w : World), hs.map (ops[·]?) = hl.map some → hdsB md ops (tlsB md ops ts) hs l = true → hs.length + ts.length ≤ f → HeadInv md ops z l → S w →
      Held P ops S (fun b => Tail P ops Q S tl b w) hl a → AnyK P md ops Q S z f l a w
  | [], hl, f, l, a, w, hm, hB, hf, inv, hS, h => by
    obtain rfl : hl = [] := by cases hl with
      | nil => rfl
      | cons => simp at hm
    exact tail_any hz ts tl f l a w ht hB (by simpa using hf) h
  | i :: hs, [], _, _, _, _, hm, _, _, _, _, _ => by simp at hm
  | i :: hs, o :: hl, 0, _, _, _, _, _, hf, _, _, _ => by simp at hf
  | i :: hs, o :: hl, f + 1, l, a, w, hm, hB, hf, inv, hS, h => by
    simp only [List.map_cons, List.cons.injEq] at hm
    simp only [hdsB, Bool.and_eq_true, decide_eq_true_eq] at hB
    obtain ⟨⟨⟨hr, hfr⟩, hlt⟩, hB⟩ := hB
    obtain ⟨v, hy, h⟩ := h
    have hr' : i ∈ Region.ready md ops l := by simpa using hr
    exact AnyK.first hm.1 hns (fun c b u => hQ c b o.dst v u) hk hc hz (by omega) f l a w inv (Region.free_spec hm.1 hfr) hr' hy hS
      (heads_any hz hns hk hc hQ ht hs hl f _ _ w hm.2 hB (by simp at hf; omega) (inv.set hr' (by omega)) hS h)
end

/-- A region: the operations hl (number by number: hs) only read where S holds; tl (ts) come last. -/
theorem region_held {P : Program} {id : Nat} {Q : Exit → Act → World → Prop} {a : Act} {w : World} {l : List Oper} (S : World → Prop) (hs ts : List Nat) (hl tl : List Oper) (hm : P.follows .mixedOrders = true)
    (hB : (Region.noSelect l.toArray && Region.sinkB .any l.toArray (l.toArray.size - 1) && Region.chainB .any l.toArray (l.toArray.size - 1) && decide (0 < l.toArray.size) && decide (hs.length + ts.length = l.toArray.size) && hdsB .any l.toArray (tlsB .any l.toArray ts) hs (Array.replicate l.toArray.size false)) = true)
    (hh : hs.map (l.toArray[·]?) = hl.map some) (ht : ts.map (l.toArray[·]?) = tl.map some)
    (hQ : ∀ (c : _) (a : Act) (d : Option Tmp) (v : Value) (w : World), Q (.panic c) (a.put d v) w → Q (.panic c) a w) (hS : S w.drew)
    (h : Held P l.toArray S (fun b => Tail P l.toArray Q S tl b w.drew) hl a) : (Code.region id l.toArray true).wp P Q a w := by
  simp only [Bool.and_eq_true, decide_eq_true_eq] at hB
  obtain ⟨⟨⟨⟨⟨hns, hk⟩, hc⟩, h0⟩, hlen⟩, hB⟩ := hB
  have inv0 : HeadInv .any l.toArray (l.toArray.size - 1) (Array.replicate l.toArray.size false) :=
    ⟨by simp, fun j p _ hx => (by rw [getD_replicate_false] at hx; cases hx), fun t _ hx => getD_in (by simpa using hx) (getD_replicate_false _ _)⟩
  exact wp_region_any hm (AnyK.any _ _ _ _ (heads_any (by omega) hns hk hc hQ ht hs hl _ _ a w.drew hh hB (by omega) inv0 hS h))

theorem held_of {P : Program} {ops : Array Oper} {S : World → Prop} {E : Act → Prop} {o : Oper} {r : List Oper} {a : Act} {v : Value} (hw : Region.wanted o (yielded ops a.tmps) = true) (hv : ∀ w, S w → (execOp a.eval o).run P w = .ok (.value v) w)
    (h : Held P ops S E r (a.put o.dst v)) : Held P ops S E (o :: r) a := ⟨v, .inl ⟨hw, hv⟩, h⟩
theorem held_nil {P : Program} {ops : Array Oper} {S : World → Prop} {E : Act → Prop} {a : Act} (h : E a) : Held P ops S E [] a := h

theorem region_heldF {P : Program} {id : Nat} {Q : Exit → Act → World → Prop} {a : Act} {w : World} {l : List Oper} (S : World → Prop) (hs ts : List Nat) (fH fT : List Oper → List Oper) (hm : P.follows .mixedOrders = true)
    (hB : (Region.noSelect l.toArray && Region.sinkB .any l.toArray (l.toArray.size - 1) && Region.chainB .any l.toArray (l.toArray.size - 1) && decide (0 < l.toArray.size) && decide (hs.length + ts.length = l.toArray.size) && hdsB .any l.toArray (tlsB .any l.toArray ts) hs (Array.replicate l.toArray.size false)) = true)
    (hh : hs.map (l.toArray[·]?) = (fH l).map some) (ht : ts.map (l.toArray[·]?) = (fT l).map some)
    (hQ : ∀ (c : _) (a : Act) (d : Option Tmp) (v : Value) (w : World), Q (.panic c) (a.put d v) w → Q (.panic c) a w) (hS : S w.drew)
    (h : Held P l.toArray S (fun b => Tail P l.toArray Q S (fT l) b w.drew) (fH l) a) : (Code.region id l.toArray true).wp P Q a w :=
  region_held S hs ts (fH l) (fT l) hm hB hh ht hQ hS h

end Go.Proofs.Ythocmmhhhiikpaa

namespace Go.Proofs.Ythocmmhhhiikpaa
open Go.RowKit

theorem keepPc {w w' : World} {b i : Nat} {v : Value} (h : Pure w w') (hc : w.cell? ⟨b, i, none⟩ = some v) : w'.cell? ⟨b, i, none⟩ = some v := (h.cell b i (World.block_lt_of_cell? _ _ hc)).trans hc

end Go.Proofs.Ythocmmhhhiikpaa

namespace Go.Proofs.Ythocmmhhhiikpaa
open Go.RowKit

def MemOk (mem : List Int) : Prop := (1 ≤ mem.length ∧ mem.length ≤ 32) ∧ ∀ x ∈ mem, Word x
def startLS (mem : List Int) : LS := ⟨fun _ _ => 0, fun j => mem.getD j 0, [], [], 0⟩
open Classical in
noncomputable def treeOf (cs : List Cd) : Tr := if h : ∃ t : Tr, cs = t.flat ∧ t.Ok ∧ t.depth ≤ 3 then h.choose else .nil
theorem treeOf_spec {cs : List Cd} (h : PValid cs) : cs = (treeOf cs).flat ∧ (treeOf cs).Ok ∧ (treeOf cs).depth ≤ 3 := by
  have ht := h.tree
  unfold treeOf
  rw [dif_pos ht]
  exact ht.choose_spec
/-- The whole run in lockstep. -/
noncomputable def lockOf (cs : List Cd) (n : Nat) (mem : List Int) : LS := run n mem.length (treeOf cs) 0 (2 ^ n - 1) (startLS mem)
theorem startLS_good {mem : List Int} (h : MemOk mem) : Good (startLS mem) := by
  refine ⟨fun l r => (show Word (0 : Int) from ⟨by decide, by decide⟩), fun j => ?_⟩
  show Word (mem.getD j 0)
  by_cases hj : j < mem.length
  · have : mem.getD j 0 ∈ mem := by simp [List.getD_eq_getElem?_getD, hj]
    exact h.2 _ this
  · have : mem.getD j 0 = 0 := by simp [List.getD_eq_getElem?_getD, List.getElem?_eq_none (Nat.le_of_not_lt hj)]
    rw [this]; exact ⟨by decide, by decide⟩

/-- The registers under way: the first j lanes have theirs. -/
structure RegsB (w : World) (B : Nat) (vr : Value) (j : Nat) (rows : Nat → Nat) : Prop where
  own : w.ownsRow B 24 1 vr j ((List.range j).map fun i => .slice (some ⟨rows i, 0, none⟩) 4 4)
  lo : ∀ i, i < j → B ≤ rows i
  row : ∀ i, i < j → w.heap[rows i]? = some (.cells #[.int .i64 0, .int .i64 0, .int .i64 0, .int .i64 0] 3 (0, 0))
  inj : ∀ i k, i < j → k < j → rows i = rows k → i = k
theorem own_form {w : World} {B e s n : Nat} {v : Value} {xs : List Value} (h : w.ownsRow B e s v n xs) (hn : 0 < n) : ∃ g cap, v = .slice (some ⟨g, 0, none⟩) n cap ∧ B ≤ g ∧ g < w.heap.size ∧ n ≤ cap ∧ cap ≤ 9223372036854775807 := by
  rcases h.2 with ⟨_, h0⟩ | ⟨g, cap, cur, rfl, h1, h2, h3, h4, _⟩
  · omega
  · exact ⟨g, cap, rfl, h1, (Array.getElem?_eq_some_iff.1 h2).1, h3, h4⟩
theorem own_zero4 {w : World} {B g : Nat} (h : w.ownsRow B 3 1 (.slice (some ⟨g, 0, none⟩) 4 4) 4 (zeros [.int .i64 0] 4)) : w.heap[g]? = some (.cells #[.int .i64 0, .int .i64 0, .int .i64 0, .int .i64 0] 3 (0, 0)) := by
  rcases h.2 with ⟨hv, _⟩ | ⟨g', cap, cur, hv, h1, h2, h3, h4, h5, h6⟩
  · cases hv
  · injection hv with hv _ hc
    injection hv with hv
    injection hv with e1 e2
    subst e1
    have hcap : cap = 4 := hc.symm
    subst hcap
    have hl : cur.toList.length = 4 := by simpa using h5
    have ht : cur.toList = zeros [.int .i64 0] 4 := by
      rw [← h6, List.take_of_length_le (by omega)]
    have : cur = #[.int .i64 0, .int .i64 0, .int .i64 0, .int .i64 0] := by
      apply Array.ext'
      rw [ht]
      apply List.ext_getElem?
      intro j
      by_cases hj : j < 4
      · rw [zeros_get _ _ _ (by simpa using hj)]
        have : j = 0 ∨ j = 1 ∨ j = 2 ∨ j = 3 := by omega
        rcases this with rfl | rfl | rfl | rfl <;> rfl
      · rw [List.getElem?_eq_none (by rw [zeros_length]; simp; omega), List.getElem?_eq_none (by simp; omega)]
    rw [h2, this]
theorem own_ne_heap {w : World} {B e s n g e' : Nat} {v : Value} {xs : List Value} {cur : Array Value} (h : w.ownsRow B e s v n xs) (h' : w.heap[g]? = some (.cells cur e' (0, 0))) (hne : e ≠ e') : ∀ k, v.ownBlock = some k → k ≠ g := by
  intro k hk
  rcases h.2 with ⟨rfl, _⟩ | ⟨g', cap, cur', rfl, _, h2, _⟩
  · simp [Value.ownBlock] at hk
  · simp [Value.ownBlock] at hk
    subst hk
    exact ne_of_heap h2 h' hne
theorem RegsB.pure {w w' : World} {B j : Nat} {vr : Value} {rows : Nat → Nat} (h : RegsB w B vr j rows) (hp : Pure w w') : RegsB w' B vr j rows :=
  ⟨own_pure h.own hp, h.lo, fun i hi => (Chg.of_pure (S := fun _ => False) hp).heap (h.row i hi) id, h.inj⟩
theorem RegsB.chg {S : Nat → Prop} {w w' : World} {B j : Nat} {vr : Value} {rows : Nat → Nat} (h : RegsB w B vr j rows) (hc : Chg S w w') (h1 : ∀ g, vr.ownBlock = some g → ¬ S g) (h2 : ∀ i, i < j → ¬ S (rows i)) : RegsB w' B vr j rows := by
  refine ⟨⟨h.own.1, ?_⟩, h.lo, fun i hi => hc.heap (h.row i hi) (h2 i hi), h.inj⟩
  rcases h.own.2 with q | ⟨g, cap, cur, rfl, q1, q2, q3⟩
  · exact .inl q
  · exact .inr ⟨g, cap, cur, rfl, q1, hc.heap q2 (h1 g rfl), q3⟩
/-- One lane more has its registers. -/
theorem RegsB.push {w w1 w2 : World} {B j g : Nat} {vr vr' : Value} {rows : Nat → Nat} (h : RegsB w B vr j rows) (hp : Pure w w1) (hg : w.heap.size ≤ g) (hB : B ≤ w.heap.size) (hz : w1.heap[g]? = some (.cells #[.int .i64 0, .int .i64 0, .int .i64 0, .int .i64 0] 3 (0, 0)))
    (ho : w2.ownsRow B 24 1 vr' (j + 1) (((List.range j).map fun i => .slice (some ⟨rows i, 0, none⟩) 4 4) ++ [.slice (some ⟨g, 0, none⟩) 4 4])) (hgr : w1.grownBy w2 vr.ownBlock) : RegsB w2 B vr' (j + 1) (fun i => if i = j then g else rows i) := by
  have h1 := h.pure hp
  have hc : Chg (fun k => vr.ownBlock = some k) w1 w2 := Chg.of_grown hgr (fun k hk => hk)
  refine ⟨?_, fun i hi => ?_, fun i hi => ?_, fun i k hi hk e => ?_⟩
  · have : (List.range (j + 1)).map (fun i => Value.slice (some ⟨if i = j then g else rows i, 0, none⟩) 4 4) = ((List.range j).map fun i => Value.slice (some ⟨rows i, 0, none⟩) 4 4) ++ [.slice (some ⟨g, 0, none⟩) 4 4] := by
      rw [List.range_succ, List.map_append]
      congr 1
      · refine List.map_congr_left fun i hi => ?_
        rw [if_neg (by have := List.mem_range.1 hi; omega)]
      · simp
    rw [this]; exact ho
  · show B ≤ if i = j then g else rows i
    split
    · omega
    · exact h.lo i (by omega)
  · show w2.heap[if i = j then g else rows i]? = _
    split
    · exact hc.heap hz (fun e => own_ne_heap h1.own hz (by decide) _ e rfl)
    · exact hc.heap (h1.row i (by omega)) (fun e => own_ne_heap h1.own (h1.row i (by omega)) (by decide) _ e rfl)
  · have hlt : ∀ i, i < j → rows i < w.heap.size := fun i hi => (Array.getElem?_eq_some_iff.1 (h.row i hi)).1
    try simp only at e
    by_cases e1 : i = j
    · by_cases e2 : k = j
      · omega
      · rw [if_pos e1, if_neg e2] at e
        have := hlt k (by omega); omega
    · by_cases e2 : k = j
      · rw [if_neg e1, if_pos e2] at e
        have := hlt i (by omega); omega
      · rw [if_neg e1, if_neg e2] at e
        exact h.inj i k (by omega) (by omega) e

theorem own_cells {w : World} {B e n g c : Nat} {xs : List Value} (h : w.ownsRow B e 1 (.slice (some ⟨g, 0, none⟩) n c) n xs) : ∃ cur : Array Value, w.heap[g]? = some (.cells cur e (0, 0)) ∧ ∀ k, k < n → cur[k]? = xs[k]? := by
  rcases h.2 with ⟨hv, _⟩ | ⟨g', cap, cur, hv, h1, h2, h3, h4, h5, h6⟩
  · cases hv
  · injection hv with hv _ hc
    injection hv with hv
    injection hv with e1 e2
    subst e1
    refine ⟨cur, h2, fun k hk => ?_⟩
    rw [← h6, List.getElem?_take, if_pos (by omega)]
    simp
theorem RegsB.rm {w : World} {B n m gr cr gm cm : Nat} {rows : Nat → Nat} {mem : List Int} (h : RegsB w B (.slice (some ⟨gr, 0, none⟩) n cr) n rows) (hn1 : 1 ≤ n) (hn8 : n ≤ 8) (hm1 : 1 ≤ m) (hm32 : m ≤ 32)
    (hm : OwnO w B 3 1 (.slice (some ⟨gm, 0, none⟩) m cm) m ((List.range m).map fun j => .int .i64 (mem.getD j 0))) (hne : ∀ i, i < n → rows i ≠ gm) :
    RM ⟨B, n, m, gr, cr, gm, cm, rows⟩ w (startLS mem).R (startLS mem).M := by
  obtain ⟨cur, q1, q2⟩ := own_cells h.own
  obtain ⟨g', c', hv, b1, _, b3, b4⟩ := own_form h.own (by omega)
  injection hv with hv _ hc
  injection hv with hv
  injection hv with e1 _
  subst e1 hc
  refine ⟨hn8, hm1, hm32, b3, b4, b1, ⟨cur, q1, fun k hk => ?_⟩, h.lo, h.row, h.inj, hm, hne⟩
  rw [q2 k hk]
  have hk' : k < n := hk
  simp [hk', RMo.row]

def AllP (cs : List Cd) (n : Nat) (mem : List Int) (vl : Value) (w : World) (e : Ending) (w' : World) : Prop :=
  ∃ (o : SO) (vt : Value), e = .returned (.pointer (some ⟨o.p, 0, none⟩)) ∧ o.w0 = w ∧ o.cs = cs ∧ o.vl = vl ∧ o.rm.n = n ∧ o.rm.m = mem.length ∧ o.chk = false ∧ SRun o w' vt (lockOf cs n mem)

end Go.Proofs.Ythocmmhhhiikpaa

namespace Go.Proofs.Ythocmmhhhiikpaa
open Go.RowKit

def LanesOk (a : Int) : Prop := 1 ≤ a ∧ a ≤ 8
def RunOk (cs : List Cd) (a : Int) (mem : List Int) : Prop := PValid cs ∧ LanesOk a ∧ MemOk mem
theorem memB_len {mem : List Int} {B : Bool} (h : B = true ↔ MemOk mem) (hw : ∀ x ∈ mem, Word x) : B = true ↔ (1 ≤ (mem.length : Int) ∧ (mem.length : Int) ≤ 32) := by
  rw [h]
  constructor
  · intro h; have h1 := h.1.1; have h2 := h.1.2; omega
  · intro h; exact ⟨⟨by omega, by omega⟩, hw⟩
theorem getD_mem {mem : List Int} {k : Nat} (h : k < mem.length) : mem.getD k 0 ∈ mem := by simp [List.getD_eq_getElem?_getD, h]
theorem words_of {mem : List Int} (h : ∀ j, j < mem.length → Word (mem.getD j 0)) : ∀ x ∈ mem, Word x := by
  intro x hx
  obtain ⟨j, hj, rfl⟩ := List.getElem_of_mem hx
  have := h j hj
  simpa [List.getD_eq_getElem?_getD, hj] using this

set_option maxHeartbeats 1000000 in
set_option maxRecDepth 100000 in
theorem smem_any (v : Value) (mem : List Int) (w : World) (h : Ints w v mem) (hsmall : mem.length ≤ 1099511627776) (B : Bool) (hB : B = true ↔ MemOk mem) :
    Calls Try.prog 54 #[v] w fun e w' => e = .returned (.bool B) ∧ Pure w w' := by
  have HB := Lib.hid hB
  obtain ⟨A, c, rfl, hnc, hcm, hread⟩ := h
  have HRD := Lib.hid hread
  clear hB hread
  have HBF : Hid (¬ MemOk mem → false = B) := Lib.hid fun h => by
    cases hb : B
    · rfl
    · exact absurd (HB.out.1 hb) h
  go_enter Try.func54, Try.ntmps54
  go_wp2
  go_loopg [3] mem.length (fun gk i wr => ∃ k : Nat, gk + k = mem.length ∧ i = .int .i64 k ∧ Pure w wr ∧ ∀ j, j < k → Word (mem.getD j 0))
  case atStart => exact ⟨0, rfl, rfl, Pure.refl _, fun j hj => absurd hj (by omega)⟩
  case round =>
    obtain ⟨k, hgk, rfl, hp, hall⟩ := hrel
    have Hgk := Lib.hid hgk
    have Hall := Lib.hid hall
    have hkn : k ≤ mem.length := by omega
    clear hgk hall
    by_cases hlt : k < mem.length
    · obtain ⟨b, o, rfl, hb, hc⟩ := HRD.out (by omega)
      obtain ⟨x, Hx⟩ : ∃ x, Hid (mem.getD k 0 = x) := ⟨_, rfl⟩
      have hx := (hp.cell b (o + k) hb).trans (hc k (by omega))
      try simp only [Nat.mod_one, Nat.div_one] at hx
      rw [Hx.out] at hx
      clear hc
      by_cases hok : Word x
      · have Hok := Lib.hid hok; clear hok
        have Hnext : Hid (∀ j, j < k + 1 → Word (mem.getD j 0)) := Lib.hid fun j hj => by
          by_cases e : j = k
          · rw [e, Hx.out]; exact Hok.out
          · exact Hall.out j (by omega)
        go_wp2_with fail
        refine (l2Word_any x _ true (by simp [Hok.out])).mono ?_
        rintro e w1 ⟨rfl, rfl⟩
        go_wp2
        go_roundg (mem.length - (k + 1))
        case measure => have := Hgk.out; omega
        case rel => exact ⟨k + 1, by have := Hgk.out; omega, by go_num, hp, Hnext.out⟩
      · have Hok := Lib.hid hok; clear hok
        have hbad : ¬ MemOk mem := fun h => Hok.out (by rw [← Hx.out]; exact h.2 _ (getD_mem hlt))
        have HR := Lib.hid (HBF.out hbad)
        clear hbad
        go_wp2_with fail
        refine (l2Word_any x _ false (by simp [Hok.out])).mono ?_
        rintro e w1 ⟨rfl, rfl⟩
        go_wp2
        go_ret
        exact ⟨ret_bool HR.out, hp⟩
    · have hkl : k = mem.length := by omega
      have hw : Hid (∀ x ∈ mem, Word x) := Lib.hid (words_of fun j hj => Hall.out j (by omega))
      go_wp2_with fail
      refine (l1In_any _ _ _ _ B (memB_len HB.out hw.out)).mono ?_
      rintro e w1 ⟨rfl, rfl⟩
      go_wp2
      go_ret
      exact ⟨rfl, hp⟩

set_option maxHeartbeats 400000 in
theorem imem1_any (x : Int) (w : World) (B : Bool) (hB : B = true ↔ Word x) :
    Calls Try.prog 89 #[.int .i64 x] w fun e w' => e = .returned (.bool (!B)) ∧ w = w' := by
  have HB := Lib.hid hB; clear hB
  go_enter Try.func89, Try.ntmps89
  go_wp2_with fail
  refine (isWord_any _ _ B HB.out).mono ?_
  rintro e w' ⟨rfl, rfl⟩
  go_wp2
  go_ret
  exact ⟨rfl, rfl⟩

def memBadAt (mem : List Int) (_k : Nat) (v : Int) : Prop := (∃ j, j < mem.length ∧ v = (j : Nat) ∧ ¬ Word (mem.getD j 0)) ∨ (v = -1 ∧ ∀ j, j < mem.length → Word (mem.getD j 0))

set_option maxHeartbeats 1000000 in
set_option maxRecDepth 100000 in
theorem imemix_any (v : Value) (mem : List Int) (w : World) (h : Ints w v mem) (hsmall : mem.length ≤ 1099511627776) :
    Calls Try.prog 96 #[v, .func (.func 89) #[] #[]] w fun e w' => ∃ r, e = .returned (.int .i64 r) ∧ memBadAt mem 0 r ∧ Pure w w' := by
  obtain ⟨A, c, rfl, hnc, hcm, hread⟩ := h
  have HRD := Lib.hid hread
  clear hread
  go_enter Try.func96, Try.ntmps96
  go_wp2
  go_loopg [8] mem.length (fun gk i wr => ∃ k : Nat, gk + k = mem.length ∧ i = .int .i64 k ∧ Pure w wr ∧ ∀ j, j < k → Word (mem.getD j 0))
  case atStart => exact ⟨0, rfl, rfl, Pure.refl _, fun j hj => absurd hj (by omega)⟩
  case round =>
    obtain ⟨k, hgk, rfl, hp, hall⟩ := hrel
    have Hgk := Lib.hid hgk
    have Hall := Lib.hid hall
    have hkn : k ≤ mem.length := by omega
    clear hgk hall
    by_cases hlt : k < mem.length
    · obtain ⟨b, o, rfl, hb, hc⟩ := HRD.out (by omega)
      obtain ⟨x, Hx⟩ : ∃ x, Hid (mem.getD k 0 = x) := ⟨_, rfl⟩
      have hx := (hp.cell b (o + k) hb).trans (hc k (by omega))
      try simp only [Nat.mod_one, Nat.div_one] at hx
      rw [Hx.out] at hx
      clear hc
      by_cases hok : Word x
      · have Hok := Lib.hid hok; clear hok
        have Hnext : Hid (∀ j, j < k + 1 → Word (mem.getD j 0)) := Lib.hid fun j hj => by
          by_cases e : j = k
          · rw [e, Hx.out]; exact Hok.out
          · exact Hall.out j (by omega)
        go_wp2_with fail
        refine (imem1_any x _ true (by simp [Hok.out])).mono ?_
        rintro e w1 ⟨rfl, rfl⟩
        go_wp2
        go_roundg (mem.length - (k + 1))
        case measure => have := Hgk.out; omega
        case rel => exact ⟨k + 1, by have := Hgk.out; omega, by go_num, hp, Hnext.out⟩
      · have Hok := Lib.hid hok; clear hok
        have Hbad : Hid (memBadAt mem 0 (k : Nat)) := Lib.hid (.inl ⟨k, hlt, rfl, by rw [Hx.out]; exact Hok.out⟩)
        go_wp2_with fail
        refine (imem1_any x _ false (by simp [Hok.out])).mono ?_
        rintro e w1 ⟨rfl, rfl⟩
        go_wp2
        go_ret
        exact ⟨_, rfl, Hbad.out, hp⟩
    · have hw : Hid (memBadAt mem 0 (-1)) := Lib.hid (.inr ⟨rfl, fun j hj => Hall.out j (by omega)⟩)
      go_wp2
      go_ret
      exact ⟨_, rfl, hw.out, hp⟩

set_option maxHeartbeats 1000000 in
set_option maxRecDepth 100000 in
theorem imemcf_any (v : Value) (mem : List Int) (w : World) (h : Ints w v mem) (hsmall : mem.length ≤ 1099511627776) (B : Bool) (hB : B = true ↔ ∀ x ∈ mem, Word x) :
    Calls Try.prog 88 #[v, .func (.func 89) #[] #[]] w fun e w' => e = .returned (.bool (!B)) ∧ Pure w w' := by
  have H := Lib.hid h
  have HB := Lib.hid hB
  obtain ⟨A, c, rfl⟩ := h.form
  clear h hB
  go_enter Try.func88, Try.ntmps88
  go_wp2_with fail
  refine (imemix_any _ mem _ H.out hsmall).mono ?_
  rintro e w1 ⟨r, rfl, hr, hp⟩
  rcases hr with ⟨j, hj, rfl, hbad⟩ | ⟨rfl, hall⟩
  · have hf : B = false := by
      cases hb : B
      · rfl
      · exact absurd (HB.out.1 hb _ (getD_mem hj)) hbad
    subst hf
    clear hbad
    go_wp2
    go_ret
    exact ⟨rfl, hp⟩
  · have ht : B = true := HB.out.2 (words_of hall)
    subst ht
    clear hall
    go_wp2
    go_ret
    exact ⟨rfl, hp⟩

set_option maxHeartbeats 1000000 in
set_option maxRecDepth 100000 in
theorem imem_any (v : Value) (mem : List Int) (w : World) (h : Ints w v mem) (hsmall : mem.length ≤ 1099511627776) (B : Bool) (hB : B = true ↔ MemOk mem) :
    Calls Try.prog 72 #[v] w fun e w' => e = .returned (.bool B) ∧ Pure w w' := by
  have H := Lib.hid h
  have HB := Lib.hid hB
  obtain ⟨A, c, rfl, hnc, hcm, _⟩ := h
  clear hB
  by_cases hl : 1 ≤ (mem.length : Int) ∧ (mem.length : Int) ≤ 32
  · have hl' := Lib.hid hl
    have hq : Hid (B = true ↔ ∀ x ∈ mem, Word x) := Lib.hid (by rw [HB.out]; unfold MemOk; have := hl'.out; exact ⟨fun h => h.2, fun h => ⟨by omega, h⟩⟩)
    clear hl
    go_enter Try.func72, Try.ntmps72
    go_wp2_with fail
    refine (within_any _ _ _ _ true (by simp only [true_iff]; exact hl'.out)).mono ?_
    rintro e w1 ⟨rfl, rfl⟩
    go_wp2_with fail
    refine (imemcf_any _ mem _ H.out hsmall B hq.out).mono ?_
    rintro e w1 ⟨rfl, hp⟩
    go_wp2
    go_ret
    exact ⟨ret_bool (by simp), hp⟩
  · have hl' := Lib.hid hl
    have hf : B = false := by
      cases hb : B
      · rfl
      · have := (HB.out.1 hb).1; omega
    subst hf
    clear hl
    go_enter Try.func72, Try.ntmps72
    go_wp2_with fail
    refine (within_any _ _ _ _ false (by simp only [Bool.false_eq_true, false_iff]; exact hl'.out)).mono ?_
    rintro e w1 ⟨rfl, rfl⟩
    go_wp2
    go_ret
    exact ⟨rfl, Pure.refl _⟩

set_option maxHeartbeats 400000 in
theorem ilanesok_any (a : Int) (w : World) (B : Bool) (hB : B = true ↔ LanesOk a) :
    Calls Try.prog 67 #[.int .i64 a] w fun e w' => e = .returned (.bool B) ∧ w = w' := by
  have HB := Lib.hid hB; clear hB
  go_enter Try.func67, Try.ntmps67
  go_wp2_with fail
  refine (within_any _ _ _ _ B HB.out).mono ?_
  rintro e w' ⟨rfl, rfl⟩
  go_wp2
  go_ret
  exact ⟨rfl, rfl⟩

theorem runB (cs : List Cd) : ∃ B : Bool, B = true ↔ PValid cs := by classical exact ⟨decide (PValid cs), by simp⟩
theorem memB (mem : List Int) : ∃ B : Bool, B = true ↔ MemOk mem := by classical exact ⟨decide (MemOk mem), by simp⟩
theorem lanB (a : Int) : ∃ B : Bool, B = true ↔ LanesOk a := by classical exact ⟨decide (LanesOk a), by simp⟩
theorem runB_of {cs : List Cd} {a : Int} {mem : List Int} {B B1 B2 B3 : Bool} (h : B = true ↔ RunOk cs a mem) (h1 : B1 = true ↔ PValid cs) (h2 : B2 = true ↔ LanesOk a) (h3 : B3 = true ↔ MemOk mem) : B = (B1 && (B2 && B3)) := by
  rw [Bool.eq_iff_iff, h]; unfold RunOk; rw [← h1, ← h2, ← h3]; simp

set_option maxHeartbeats 1000000 in
set_option maxRecDepth 100000 in
theorem icanrun_any (vl vm : Value) (cs : List Cd) (a : Int) (mem : List Int) (w : World) (h : Codes w vl cs) (hm : Ints w vm mem) (hs1 : cs.length ≤ 1048576) (hs2 : mem.length ≤ 1048576) (B : Bool) (hB : B = true ↔ RunOk cs a mem) :
    Calls Try.prog 48 #[vl, .int .i64 a, vm] w fun e w' => e = .returned (.bool B) ∧ Pure w w' := by
  obtain ⟨B1, h1⟩ := runB cs
  obtain ⟨B2, h2⟩ := lanB a
  obtain ⟨B3, h3⟩ := memB mem
  obtain rfl := runB_of hB h1 h2 h3
  have H := Lib.hid h
  have HM := Lib.hid hm
  have H1 := Lib.hid h1
  have H2 := Lib.hid h2
  have H3 := Lib.hid h3
  obtain ⟨A, c, rfl, hnc, hcm⟩ := h.form
  obtain ⟨Am, cm, rfl⟩ := hm.form
  clear h hm h1 h2 h3 hB
  go_enter Try.func48, Try.ntmps48
  go_wp2_with fail
  refine (ipv_any _ cs _ H.out hs1 B1 H1.out).mono ?_
  rintro e w1 ⟨rfl, hp1⟩
  cases B1
  · go_wp2
    go_ret
    exact ⟨rfl, hp1⟩
  go_wp2_with fail
  refine (ilanesok_any a _ B2 H2.out).mono ?_
  rintro e w2 ⟨rfl, rfl⟩
  cases B2
  · go_wp2
    go_ret
    exact ⟨rfl, hp1⟩
  go_wp2_with fail
  refine (imem_any _ mem _ (HM.out.keep hp1) (by omega) B3 H3.out).mono ?_
  rintro e w3 ⟨rfl, hp3⟩
  go_wp2
  go_ret
  exact ⟨ret_bool (by simp), hp1.trans hp3⟩

set_option maxHeartbeats 1000000 in
set_option maxRecDepth 100000 in
theorem sok_any (vl vm : Value) (cs : List Cd) (a : Int) (mem : List Int) (w : World) (h : Codes w vl cs) (hm : Ints w vm mem) (hs1 : cs.length ≤ 1048576) (hs2 : mem.length ≤ 1048576) (B : Bool) (hB : B = true ↔ RunOk cs a mem) :
    Calls Try.prog 51 #[vl, .int .i64 a, vm] w fun e w' => e = .returned (.bool B) ∧ Pure w w' := by
  obtain ⟨B1, h1⟩ := runB cs
  obtain ⟨B2, h2⟩ := lanB a
  obtain ⟨B3, h3⟩ := memB mem
  obtain rfl := runB_of hB h1 h2 h3
  have H := Lib.hid h
  have HM := Lib.hid hm
  have H1 := Lib.hid h1
  have H2 := Lib.hid h2
  have H3 := Lib.hid h3
  obtain ⟨A, c, rfl, hnc, hcm⟩ := h.form
  obtain ⟨Am, cm, rfl⟩ := hm.form
  clear h hm h1 h2 h3 hB
  go_enter Try.func51, Try.ntmps51
  go_wp2_with fail
  refine (spv_any _ cs _ H.out hs1 B1 H1.out).mono ?_
  rintro e w1 ⟨rfl, hp1⟩
  cases B1
  · go_wp2
    go_ret
    exact ⟨rfl, hp1⟩
  go_wp2_with fail
  refine (l1In_any a 1 8 _ B2 H2.out).mono ?_
  rintro e w2 ⟨rfl, rfl⟩
  cases B2
  · go_wp2
    go_ret
    exact ⟨rfl, hp1⟩
  go_wp2_with fail
  refine (smem_any _ mem _ (HM.out.keep hp1) (by omega) B3 H3.out).mono ?_
  rintro e w3 ⟨rfl, hp3⟩
  go_wp2
  go_ret
  exact ⟨ret_bool (by simp), hp1.trans hp3⟩

end Go.Proofs.Ythocmmhhhiikpaa

namespace Go.Proofs.Ythocmmhhhiikpaa

def StepIn (n a b : Nat) (x : Nat × Nat × (Nat → Nat → Int)) : Prop := a ≤ x.1 ∧ x.1 < b ∧ x.2.1 ≠ 0 ∧ x.2.1 < 2 ^ n
theorem StepIn.wide {n a b a' b' : Nat} {x : Nat × Nat × (Nat → Nat → Int)} (h : StepIn n a b x) (ha : a' ≤ a) (hb : b ≤ b') : StepIn n a' b' x := ⟨Nat.le_trans ha h.1, Nat.lt_of_lt_of_le h.2.1 hb, h.2.2⟩
theorem beat_in {n i mask b : Nat} {s : LS} {x : Nat × Nat × (Nat → Nat → Int)} (hm : mask < 2 ^ n) (h0 : mask ≠ 0) (hb : i < b) (h : x ∈ (beat i mask s).H) : x ∈ s.H ∨ StepIn n i b x := by
  rcases List.mem_append.1 h with h | h
  · exact .inl h
  · simp at h; subst h; exact .inr ⟨Nat.le_refl _, hb, h0, hm⟩
theorem turns_in {F : Nat → LS → LS} {n a lo hi : Nat} (hF : ∀ y s x, y < 2 ^ n → x ∈ (F y s).H → x ∈ s.H ∨ StepIn n lo hi x) : ∀ (b y : Nat) (s : LS) (x), x ∈ (turns F n a b y s).H → x ∈ s.H ∨ StepIn n lo hi x
  | 0, _, _, _, h => .inl h
  | b + 1, y, s, x, h => by
    rcases turns_in hF b (onesTo s.R y a n) (F (onesTo s.R y a n) s) x h with h | h
    · exact hF _ _ _ (onesTo_lt _ _ _ _) h
    · exact .inr h
theorem runStepIn (n m : Nat) : ∀ (t : Tr) (i mask : Nat) (s : LS) (x), mask < 2 ^ n → x ∈ (run n m t i mask s).H → x ∈ s.H ∨ StepIn n i (i + t.len) x
  | .nil, _, _, _, _, _, h => .inl h
  | .op c k, i, mask, s, x, hm, h => by
    rw [Tr.len_op]
    by_cases h0 : mask = 0
    · subst h0; rw [run_zero] at h; exact .inl h
    · have h : x ∈ (if mask = 0 then s else run n m k (i + 1) mask (exec c n m i mask s) : LS).H := h
      rw [if_neg h0] at h
      rcases runStepIn n m k _ _ _ _ hm h with h | h
      · rw [exec_H] at h
        exact beat_in (s := s) hm h0 (by omega) h
      · exact .inr (h.wide (by omega) (by omega))
  | .ite a t k, i, mask, s, x, hm, h => by
    rw [Tr.len_ite]
    by_cases h0 : mask = 0
    · subst h0; rw [run_zero] at h; exact .inl h
    · have h : x ∈ (if mask = 0 then s else _ : LS).H := h
      rw [if_neg h0] at h
      rcases runStepIn n m k _ _ _ _ hm h with h | h
      · rcases runStepIn n m t _ _ _ _ (onesTo_lt _ _ _ _) h with h | h
        · exact beat_in (s := s) hm h0 (by omega) h
        · exact .inr (h.wide (by omega) (by omega))
      · exact .inr (h.wide (by omega) (by omega))
  | .itee a t e k, i, mask, s, x, hm, h => by
    rw [Tr.len_itee]
    by_cases h0 : mask = 0
    · subst h0; rw [run_zero] at h; exact .inl h
    · have h : x ∈ (if mask = 0 then s else _ : LS).H := h
      rw [if_neg h0] at h
      rcases runStepIn n m k _ _ _ _ hm h with h | h
      · rcases runStepIn n m e _ _ _ _ (del_lt2 _ hm) h with h | h
        · rcases runStepIn n m t _ _ _ _ (onesTo_lt _ _ _ _) h with h | h
          · exact beat_in (s := s) hm h0 (by omega) h
          · exact .inr (h.wide (by omega) (by omega))
        · exact .inr (h.wide (by omega) (by omega))
      · exact .inr (h.wide (by omega) (by omega))
  | .loop a b t k, i, mask, s, x, hm, h => by
    rw [Tr.len_loop]
    by_cases h0 : mask = 0
    · subst h0; rw [run_zero] at h; exact .inl h
    · have h : x ∈ (if mask = 0 then s else _ : LS).H := h
      rw [if_neg h0] at h
      rcases runStepIn n m k _ _ _ _ hm h with h | h
      · rcases turns_in (lo := i) (hi := i + (1 + t.len + 1 + k.len)) (fun y s x hy hx => (runStepIn n m t _ _ _ _ hy hx).imp id fun h => h.wide (by omega) (by omega)) _ _ _ _ h with h | h
        · exact beat_in (s := s) hm h0 (by omega) h
        · exact .inr (h.wide (by omega) (by omega))
      · exact .inr (h.wide (by omega) (by omega))

def cdCost (c : Cd) : Nat := if c.op = 4 then 2 else if c.op = 8 ∨ c.op = 9 then 4 else if c.op = 12 ∨ c.op = 14 then 0 else 1
theorem cdCost_le (c : Cd) : cdCost c ≤ 4 := by unfold cdCost; split; omega; split; omega; split <;> omega
def costTo (cs : List Cd) (H : List (Nat × Nat × (Nat → Nat → Int))) : Nat → Nat
  | 0 => 0
  | j + 1 => costTo cs H j + cdCost (cs.getD (H.getD j default).1 default)
theorem costTo_le (cs : List Cd) (H : List (Nat × Nat × (Nat → Nat → Int))) : ∀ j, costTo cs H j ≤ 4 * j
  | 0 => Nat.le_refl _
  | j + 1 => by
    have h1 := costTo_le cs H j
    have h2 := cdCost_le (cs.getD (H.getD j default).1 default)
    show costTo cs H j + _ ≤ _
    omega

end Go.Proofs.Ythocmmhhhiikpaa

namespace Go.Proofs.Ythocmmhhhiikpaa
open Go.RowKit

theorem eqI (x y : Int) : ((x == y) = true ∧ x = y) ∨ ((x == y) = false ∧ x ≠ y) := by
  by_cases h : x = y
  · exact .inl ⟨by simp [h], h⟩
  · exact .inr ⟨by simp [h], h⟩

end Go.Proofs.Ythocmmhhhiikpaa
