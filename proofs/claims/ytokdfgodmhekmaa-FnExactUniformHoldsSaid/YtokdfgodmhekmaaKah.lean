/- A region that draws its order, and ends in operations that make memory or write, in a forced order: what only reads may be taken first. Cells that are kept. The whole run in lockstep, as the reference makes it. The state of the program's search for blocks, and how each step of it turns the state. How each step of the program's search for blocks turns its state. No condition. -/
import Derived.StillTailTactics
import Derived.OrdersHeld
import Derived.Test.YtokdfgodmhekmaaKaa
import Derived.Test.YtokdfgodmhekmaaKab
import Derived.Test.YtokdfgodmhekmaaKac
import Derived.Test.YtokdfgodmhekmaaKad
import Derived.Test.YtokdfgodmhekmaaKag

namespace Go.Proofs.Ytokdfgodmhekmaa
open Go.RowKit

section
variable {P : Program} {ops : Array Oper} {Q : Exit → Act → World → Prop} {md : Region.Mode} {S : World → Prop}

/-- Whatever order is picked: behind every operation but number z the world meets S. -/
def AnyK (P : Program) (md : Region.Mode) (ops : Array Oper) (Q : Exit → Act → World → Prop) (S : World → Prop) (z : Nat) : Nat → Array Bool → Act → World → Prop
  | 0, l, a, w => Region.ready md ops l = [] ∧ Q .normal a w
  | f + 1, l, a, w => (Region.ready md ops l = [] → Q .normal a w) ∧ ∀ i ∈ Region.ready md ops l, wpOp P ops Q i (fun b u => (i ≠ z → S u) ∧ AnyK P md ops Q S z f (l.setIfInBounds i true) b u) a w
theorem AnyK.any {z : Nat} : ∀ (f : Nat) (l : Array Bool) (a : Act) (w : World), AnyK P md ops Q S z f l a w → wpAny P md ops Q f l a w
  | 0, _, _, _, h => h
  | f + 1, _, _, _, h => ⟨h.1, fun i hi => wpOp_mono (fun b u k => AnyK.any f _ b u k.2) (h.2 i hi)⟩

/-- What yields its value wherever S holds may come first, if the last operation waits for everything. -/
theorem AnyK.first {i z : Nat} {o : Oper} {v : Value} (ho : ops[i]? = some o) (hns : Region.noSelect ops = true) (hQ : ∀ c a w, Q (.panic c) (a.put o.dst v) w → Q (.panic c) a w)
    (hk : Region.sinkB md ops z = true) (hc : Region.chainB md ops z = true) (hz : z + 1 = ops.size) (hiz : i < z) :
    ∀ (f : Nat) (l : Array Bool) (a : Act) (w : World), HeadInv md ops z l →
      (∀ j p, ops[j]? = some p → j ≠ i → l.getD j true = false → (∀ e ∈ p.after, Region.binds md e = true → e.on ≠ i) → o.apart ops p = true) →
      i ∈ Region.ready md ops l → YieldsIf P ops S o v a → S w → AnyK P md ops Q S z f (l.setIfInBounds i true) (a.put o.dst v) w → AnyK P md ops Q S z (f + 1) l a w := by
  intro f
  induction f with
  | zero =>
    intro l a w inv hf hr hy hS H
    refine ⟨fun h0 => absurd hr (by rw [h0]; simp), fun j hj => ?_⟩
    by_cases e : j = i
    · rw [e]; exact hy.wpOp ho hS ⟨fun _ => hS, H⟩
    · exact absurd (ready_mono hj e) (by rw [H.1]; simp)
  | succ f ih =>
    intro l a w inv hf hr hy hS H
    refine ⟨fun h0 => absurd hr (by rw [h0]; simp), fun j hj => ?_⟩
    by_cases e : j = i
    · rw [e]; exact hy.wpOp ho hS ⟨fun _ => hS, H⟩
    have hun := (mem_ready.1 hr).1
    obtain ⟨hju, p, hp, hall⟩ := mem_ready.1 hj
    have hjs : j < ops.size := (Array.getElem?_eq_some_iff.1 hp).1
    have hjz : j ≠ z := fun e2 => tail_waits hk hc (by omega) inv _ i rfl hiz hun j (by omega) hj
    have hno : ∀ x ∈ p.after, Region.binds md x = true → x.on ≠ i := fun x hx hb e2 => by
      have h1 := hall x hx hb
      rw [e2] at h1
      have h2 := getD_both hun
      rw [h1] at h2; cases h2
    have hput := wpOp_putIf hp (hf j p hp e hju hno) (fun cs b => Region.noSelect_spec hns i o cs b ho) (fun cs b => Region.noSelect_spec hns j p cs b hp) hQ hy (H.2 j (ready_mono hj e))
    have hf' : ∀ k q, ops[k]? = some q → k ≠ i → (l.setIfInBounds j true).getD k true = false → (∀ x ∈ q.after, Region.binds md x = true → x.on ≠ i) → o.apart ops q = true := fun k q hq hki hku hn => by
      refine hf k q hq hki ?_ hn
      by_cases e3 : j = k
      · rw [← e3]; exact hju
      · rwa [getD_set_ne true e3] at hku
    refine wpOp_mono (fun b u h => ⟨fun _ => h.2.1 hjz, ih (l.setIfInBounds j true) b u (inv.set hj (by omega)) hf' (ready_mono hr (fun e4 => e e4.symm)) h.1 (h.2.1 hjz) ?_⟩) hput
    rw [Array.setIfInBounds_comm _ _ e]
    exact h.2.2

def thenK (Q : Exit → Act → World → Prop) (K : Act → World → Prop) : Exit → Act → World → Prop
  | .normal, a, w => K a w
  | e, a, w => Q e a w
theorem upon_thenK {K K' : Act → World → Prop} {o : Oper} {a : Act} (r : Result Next) (h : o.upon P a K (thenK Q K') r) : o.upon P a K Q r := by
  have hl : LetsOut (thenK Q K') → LetsOut Q := fun ⟨b, u, k⟩ => ⟨b, u, k⟩
  cases r with
  | ok n u =>
    cases n with
    | enter g xs =>
      refine Calls.mono h fun e u' k => ?_
      cases e with
      | returned v => exact k
      | panicked c => exact k
      | outgrown => exact hl k
    | value v => exact h
    | skip => exact h
    | defer d => exact h
    | row r xs => exact h
    | _ => exact h
  | halt x u => cases x <;> exact h
theorem wpOp_of_one {K : Act → World → Prop} {i : Nat} {o : Oper} {a : Act} {w : World} (ho : ops[i]? = some o) (h : wpList P ops (thenK Q K) [o] a w) : wpOp P ops Q i K a w := by
  unfold wpOp
  simp only [ho]
  unfold wpList at h
  split
  · rename_i hw
    rw [if_pos hw] at h
    rcases h with h | ⟨h1, b, u, h2⟩
    · exact .inl (upon_thenK _ h)
    · exact .inr ⟨h1, b, u, h2⟩
  · rename_i hw
    rw [if_neg hw] at h
    exact h

/-- The operations that only read, one after another. -/
def Held (P : Program) (ops : Array Oper) (S : World → Prop) (E : Act → Prop) : List Oper → Act → Prop
  | [], a => E a
  | o :: r, a => ∃ v, YieldsIf P ops S o v a ∧ Held P ops S E r (a.put o.dst v)
/-- The operations that come last, one after another. -/
def Tail (P : Program) (ops : Array Oper) (Q : Exit → Act → World → Prop) (S : World → Prop) : List Oper → Act → World → Prop
  | [], a, w => Q .normal a w
  | [o], a, w => wpList P ops Q [o] a w
  | o :: o2 :: r, a, w => wpList P ops (thenK Q fun b u => S u ∧ Tail P ops Q S (o2 :: r) b u) [o] a w
def hdsB (md : Region.Mode) (ops : Array Oper) (T : Array Bool → Bool) : List Nat → Array Bool → Bool
  | [], l => T l
  | i :: r, l => (Region.ready md ops l).contains i && Region.free md ops l i && decide (i + 1 < ops.size) && hdsB md ops T r (l.setIfInBounds i true)
def tlsB (md : Region.Mode) (ops : Array Oper) : List Nat → Array Bool → Bool
  | [], l => (Region.ready md ops l).isEmpty
  | t :: r, l => decide (Region.ready md ops l = [t]) && (decide (t + 1 = ops.size) == r.isEmpty) && tlsB md ops r (l.setIfInBounds t true)

theorem tail_any {z : Nat} (hz : z + 1 = ops.size) : ∀ (ts : List Nat) (os : List Oper) (f : Nat) (l : Array Bool) (a : Act) (w : World), ts.map (ops[·]?) = os.map some → tlsB md ops ts l = true → ts.length ≤ f → Tail P ops Q S os a w → AnyK P md ops Q S z f l a w
  | [], os, f, l, a, w, hm, hB, _, h => by
    obtain rfl : os = [] := by cases os with
      | nil => rfl
      | cons => simp at hm
    have hr : Region.ready md ops l = [] := by simpa [tlsB] using hB
    cases f with
    | zero => exact ⟨hr, h⟩
    | succ f => exact ⟨fun _ => h, by rw [hr]; simp⟩
  | t :: ts, [], _, _, _, _, hm, _, _, _ => by simp at hm
  | t :: ts, o :: os, 0, _, _, _, _, _, hf, _ => by simp at hf
  | t :: ts, o :: os, f + 1, l, a, w, hm, hB, hf, h => by
    simp only [List.map_cons, List.cons.injEq] at hm
    simp only [tlsB, Bool.and_eq_true, decide_eq_true_eq, beq_iff_eq] at hB
    obtain ⟨⟨hr, hlast⟩, hB⟩ := hB
    refine ⟨fun h0 => absurd hr (by rw [h0]; simp), fun i hi => ?_⟩
    rw [hr] at hi
    obtain rfl : i = t := by simpa using hi
    cases os with
    | nil =>
      have hts : ts = [] := by cases ts with
        | nil => rfl
        | cons => simp at hm
      subst hts
      have hzi : i = z := by simp at hlast; omega
      have h1 : wpOp P ops Q i (fun b u => Q .normal b u) a w := wpOp_of_one hm.1 (by
        have e : thenK Q (fun b u => Q .normal b u) = Q := by funext e b u; cases e <;> rfl
        rw [e]; exact h)
      exact wpOp_mono (fun b u k => ⟨fun hne => absurd hzi hne, tail_any hz [] [] f _ b u rfl hB (by simp) k⟩) h1
    | cons o2 os => exact wpOp_mono (fun b u k => ⟨fun _ => k.1, tail_any hz ts (o2 :: os) f _ b u hm.2 hB (by simpa using hf) k.2⟩) (wpOp_of_one hm.1 h)

theorem heads_any {z : Nat} {ts : List Nat} {tl : List Oper} (hz : z + 1 = ops.size) (hns : Region.noSelect ops = true) (hk : Region.sinkB md ops z = true) (hc : Region.chainB md ops z = true)
    (hQ : ∀ (c : _) (a : Act) (d : Option Tmp) (v : Value) (w : World), Q (.panic c) (a.put d v) w → Q (.panic c) a w) (ht : ts.map (ops[·]?) = tl.map some) :
    ∀ (hs : List Nat) (hl : List Oper) (f : Nat) (l : Array Bool) (a : Act) (w : World), hs.map (ops[·]?) = hl.map some → hdsB md ops (tlsB md ops ts) hs l = true → hs.length + ts.length ≤ f → HeadInv md ops z l → S w →
      Held P ops S (fun b => Tail P ops Q S tl b w) hl a → AnyK P md ops Q S z f l a w
  | [], hl, f, l, a, w, hm, hB, hf, inv, hS, h => by
    obtain rfl : hl = [] := by cases hl with
      | nil => rfl
      | cons => simp at hm
    exact tail_any hz ts tl f l a w ht hB (by simpa using hf) h
  | i :: hs, [], _, _, _, _, hm, _, _, _, _, _ => by simp at hm
  | i :: hs, o :: hl, 0, _, _, _, _, _, hf, _, _, _ => by simp at hf
  | i :: hs, o :: hl, f + 1, l, a, w, hm, hB, hf, inv, hS, h => by
    simp only [List.map_cons, List.cons.injEq] at hm
    simp only [hdsB, Bool.and_eq_true, decide_eq_true_eq] at hB
    obtain ⟨⟨⟨hr, hfr⟩, hlt⟩, hB⟩ := hB
    obtain ⟨v, hy, h⟩ := h
    have hr' : i ∈ Region.ready md ops l := by simpa using hr
    exact AnyK.first hm.1 hns (fun c b u => hQ c b o.dst v u) hk hc hz (by omega) f l a w inv (Region.free_spec hm.1 hfr) hr' hy hS
      (heads_any hz hns hk hc hQ ht hs hl f _ _ w hm.2 hB (by simp at hf; omega) (inv.set hr' (by omega)) hS h)
end

/-- A region: the operations hl (number by number: hs) only read where S holds; tl (ts) come last. -/
theorem region_held {P : Program} {id : Nat} {Q : Exit → Act → World → Prop} {a : Act} {w : World} {l : List Oper} (S : World → Prop) (hs ts : List Nat) (hl tl : List Oper) (hm : P.follows .mixedOrders = true)
    (hB : (Region.noSelect l.toArray && Region.sinkB .any l.toArray (l.toArray.size - 1) && Region.chainB .any l.toArray (l.toArray.size - 1) && decide (0 < l.toArray.size) && decide (hs.length + ts.length = l.toArray.size) && hdsB .any l.toArray (tlsB .any l.toArray ts) hs (Array.replicate l.toArray.size false)) = true)
    (hh : hs.map (l.toArray[·]?) = hl.map some) (ht : ts.map (l.toArray[·]?) = tl.map some)
    (hQ : ∀ (c : _) (a : Act) (d : Option Tmp) (v : Value) (w : World), Q (.panic c) (a.put d v) w → Q (.panic c) a w) (hS : S w.drew)
    (h : Held P l.toArray S (fun b => Tail P l.toArray Q S tl b w.drew) hl a) : (Code.region id l.toArray true).wp P Q a w := by
  simp only [Bool.and_eq_true, decide_eq_true_eq] at hB
  obtain ⟨⟨⟨⟨⟨hns, hk⟩, hc⟩, h0⟩, hlen⟩, hB⟩ := hB
  have inv0 : HeadInv .any l.toArray (l.toArray.size - 1) (Array.replicate l.toArray.size false) :=
    ⟨by simp, fun j p _ hx => (by rw [getD_replicate_false] at hx; cases hx), fun t _ hx => getD_in (by simpa using hx) (getD_replicate_false _ _)⟩
  exact wp_region_any hm (AnyK.any _ _ _ _ (heads_any (by omega) hns hk hc hQ ht hs hl _ _ a w.drew hh hB (by omega) inv0 hS h))

theorem held_of {P : Program} {ops : Array Oper} {S : World → Prop} {E : Act → Prop} {o : Oper} {r : List Oper} {a : Act} {v : Value} (hw : Region.wanted o (yielded ops a.tmps) = true) (hv : ∀ w, S w → (execOp a.eval o).run P w = .ok (.value v) w)
    (h : Held P ops S E r (a.put o.dst v)) : Held P ops S E (o :: r) a := ⟨v, .inl ⟨hw, hv⟩, h⟩
theorem held_nil {P : Program} {ops : Array Oper} {S : World → Prop} {E : Act → Prop} {a : Act} (h : E a) : Held P ops S E [] a := h

theorem region_heldF {P : Program} {id : Nat} {Q : Exit → Act → World → Prop} {a : Act} {w : World} {l : List Oper} (S : World → Prop) (hs ts : List Nat) (fH fT : List Oper → List Oper) (hm : P.follows .mixedOrders = true)
    (hB : (Region.noSelect l.toArray && Region.sinkB .any l.toArray (l.toArray.size - 1) && Region.chainB .any l.toArray (l.toArray.size - 1) && decide (0 < l.toArray.size) && decide (hs.length + ts.length = l.toArray.size) && hdsB .any l.toArray (tlsB .any l.toArray ts) hs (Array.replicate l.toArray.size false)) = true)
    (hh : hs.map (l.toArray[·]?) = (fH l).map some) (ht : ts.map (l.toArray[·]?) = (fT l).map some)
    (hQ : ∀ (c : _) (a : Act) (d : Option Tmp) (v : Value) (w : World), Q (.panic c) (a.put d v) w → Q (.panic c) a w) (hS : S w.drew)
    (h : Held P l.toArray S (fun b => Tail P l.toArray Q S (fT l) b w.drew) (fH l) a) : (Code.region id l.toArray true).wp P Q a w :=
  region_held S hs ts (fH l) (fT l) hm hB hh ht hQ hS h

end Go.Proofs.Ytokdfgodmhekmaa

namespace Go.Proofs.Ytokdfgodmhekmaa
open Go.RowKit

theorem keepPc {w w' : World} {b i : Nat} {v : Value} (h : Pure w w') (hc : w.cell? ⟨b, i, none⟩ = some v) : w'.cell? ⟨b, i, none⟩ = some v := (h.cell b i (World.block_lt_of_cell? _ _ hc)).trans hc

end Go.Proofs.Ytokdfgodmhekmaa

namespace Go.Proofs.Ytokdfgodmhekmaa
open Go.RowKit

def MemOk (mem : List Int) : Prop := (1 ≤ mem.length ∧ mem.length ≤ 32) ∧ ∀ x ∈ mem, Word x
def startLS (mem : List Int) : LS := ⟨fun _ _ => 0, fun j => mem.getD j 0, [], [], 0⟩
open Classical in
noncomputable def treeOf (cs : List Cd) : Tr := if h : ∃ t : Tr, cs = t.flat ∧ t.Ok ∧ t.depth ≤ 3 then h.choose else .nil
theorem treeOf_spec {cs : List Cd} (h : PValid cs) : cs = (treeOf cs).flat ∧ (treeOf cs).Ok ∧ (treeOf cs).depth ≤ 3 := by
  have ht := h.tree
  unfold treeOf
  rw [dif_pos ht]
  exact ht.choose_spec
/-- The whole run in lockstep. -/
noncomputable def lockOf (cs : List Cd) (n : Nat) (mem : List Int) : LS := run n mem.length (treeOf cs) 0 (2 ^ n - 1) (startLS mem)
theorem startLS_good {mem : List Int} (h : MemOk mem) : Good (startLS mem) := by
  refine ⟨fun l r => (show Word (0 : Int) from ⟨by decide, by decide⟩), fun j => ?_⟩
  show Word (mem.getD j 0)
  by_cases hj : j < mem.length
  · have : mem.getD j 0 ∈ mem := by simp [List.getD_eq_getElem?_getD, hj]
    exact h.2 _ this
  · have : mem.getD j 0 = 0 := by simp [List.getD_eq_getElem?_getD, List.getElem?_eq_none (Nat.le_of_not_lt hj)]
    rw [this]; exact ⟨by decide, by decide⟩

/-- The registers under way: the first j lanes have theirs. -/
structure RegsB (w : World) (B : Nat) (vr : Value) (j : Nat) (rows : Nat → Nat) : Prop where
  own : w.ownsRow B 23 1 vr j ((List.range j).map fun i => .slice (some ⟨rows i, 0, none⟩) 4 4)
  lo : ∀ i, i < j → B ≤ rows i
  row : ∀ i, i < j → w.heap[rows i]? = some (.cells #[.int .i64 0, .int .i64 0, .int .i64 0, .int .i64 0] 3 (0, 0))
  inj : ∀ i k, i < j → k < j → rows i = rows k → i = k
theorem own_form {w : World} {B e s n : Nat} {v : Value} {xs : List Value} (h : w.ownsRow B e s v n xs) (hn : 0 < n) : ∃ g cap, v = .slice (some ⟨g, 0, none⟩) n cap ∧ B ≤ g ∧ g < w.heap.size ∧ n ≤ cap ∧ cap ≤ 9223372036854775807 := by
  rcases h.2 with ⟨_, h0⟩ | ⟨g, cap, cur, rfl, h1, h2, h3, h4, _⟩
  · omega
  · exact ⟨g, cap, rfl, h1, (Array.getElem?_eq_some_iff.1 h2).1, h3, h4⟩
theorem own_zero4 {w : World} {B g : Nat} (h : w.ownsRow B 3 1 (.slice (some ⟨g, 0, none⟩) 4 4) 4 (zeros [.int .i64 0] 4)) : w.heap[g]? = some (.cells #[.int .i64 0, .int .i64 0, .int .i64 0, .int .i64 0] 3 (0, 0)) := by
  rcases h.2 with ⟨hv, _⟩ | ⟨g', cap, cur, hv, h1, h2, h3, h4, h5, h6⟩
  · cases hv
  · injection hv with hv _ hc
    injection hv with hv
    injection hv with e1 e2
    subst e1
    have hcap : cap = 4 := hc.symm
    subst hcap
    have hl : cur.toList.length = 4 := by simpa using h5
    have ht : cur.toList = zeros [.int .i64 0] 4 := by
      rw [← h6, List.take_of_length_le (by omega)]
    have : cur = #[.int .i64 0, .int .i64 0, .int .i64 0, .int .i64 0] := by
      apply Array.ext'
      rw [ht]
      apply List.ext_getElem?
      intro j
      by_cases hj : j < 4
      · rw [zeros_get _ _ _ (by simpa using hj)]
        have : j = 0 ∨ j = 1 ∨ j = 2 ∨ j = 3 := by omega
        rcases this with rfl | rfl | rfl | rfl <;> rfl
      · rw [List.getElem?_eq_none (by rw [zeros_length]; simp; omega), List.getElem?_eq_none (by simp; omega)]
    rw [h2, this]
theorem own_ne_heap {w : World} {B e s n g e' : Nat} {v : Value} {xs : List Value} {cur : Array Value} (h : w.ownsRow B e s v n xs) (h' : w.heap[g]? = some (.cells cur e' (0, 0))) (hne : e ≠ e') : ∀ k, v.ownBlock = some k → k ≠ g := by
  intro k hk
  rcases h.2 with ⟨rfl, _⟩ | ⟨g', cap, cur', rfl, _, h2, _⟩
  · simp [Value.ownBlock] at hk
  · simp [Value.ownBlock] at hk
    subst hk
    exact ne_of_heap h2 h' hne
theorem RegsB.pure {w w' : World} {B j : Nat} {vr : Value} {rows : Nat → Nat} (h : RegsB w B vr j rows) (hp : Pure w w') : RegsB w' B vr j rows :=
  ⟨own_pure h.own hp, h.lo, fun i hi => (Chg.of_pure (S := fun _ => False) hp).heap (h.row i hi) id, h.inj⟩
theorem RegsB.chg {S : Nat → Prop} {w w' : World} {B j : Nat} {vr : Value} {rows : Nat → Nat} (h : RegsB w B vr j rows) (hc : Chg S w w') (h1 : ∀ g, vr.ownBlock = some g → ¬ S g) (h2 : ∀ i, i < j → ¬ S (rows i)) : RegsB w' B vr j rows := by
  refine ⟨⟨h.own.1, ?_⟩, h.lo, fun i hi => hc.heap (h.row i hi) (h2 i hi), h.inj⟩
  rcases h.own.2 with q | ⟨g, cap, cur, rfl, q1, q2, q3⟩
  · exact .inl q
  · exact .inr ⟨g, cap, cur, rfl, q1, hc.heap q2 (h1 g rfl), q3⟩
/-- One lane more has its registers. -/
theorem RegsB.push {w w1 w2 : World} {B j g : Nat} {vr vr' : Value} {rows : Nat → Nat} (h : RegsB w B vr j rows) (hp : Pure w w1) (hg : w.heap.size ≤ g) (hB : B ≤ w.heap.size) (hz : w1.heap[g]? = some (.cells #[.int .i64 0, .int .i64 0, .int .i64 0, .int .i64 0] 3 (0, 0)))
    (ho : w2.ownsRow B 23 1 vr' (j + 1) (((List.range j).map fun i => .slice (some ⟨rows i, 0, none⟩) 4 4) ++ [.slice (some ⟨g, 0, none⟩) 4 4])) (hgr : w1.grownBy w2 vr.ownBlock) : RegsB w2 B vr' (j + 1) (fun i => if i = j then g else rows i) := by
  have h1 := h.pure hp
  have hc : Chg (fun k => vr.ownBlock = some k) w1 w2 := Chg.of_grown hgr (fun k hk => hk)
  refine ⟨?_, fun i hi => ?_, fun i hi => ?_, fun i k hi hk e => ?_⟩
  · have : (List.range (j + 1)).map (fun i => Value.slice (some ⟨if i = j then g else rows i, 0, none⟩) 4 4) = ((List.range j).map fun i => Value.slice (some ⟨rows i, 0, none⟩) 4 4) ++ [.slice (some ⟨g, 0, none⟩) 4 4] := by
      rw [List.range_succ, List.map_append]
      congr 1
      · refine List.map_congr_left fun i hi => ?_
        rw [if_neg (by have := List.mem_range.1 hi; omega)]
      · simp
    rw [this]; exact ho
  · show B ≤ if i = j then g else rows i
    split
    · omega
    · exact h.lo i (by omega)
  · show w2.heap[if i = j then g else rows i]? = _
    split
    · exact hc.heap hz (fun e => own_ne_heap h1.own hz (by decide) _ e rfl)
    · exact hc.heap (h1.row i (by omega)) (fun e => own_ne_heap h1.own (h1.row i (by omega)) (by decide) _ e rfl)
  · have hlt : ∀ i, i < j → rows i < w.heap.size := fun i hi => (Array.getElem?_eq_some_iff.1 (h.row i hi)).1
    try simp only at e
    by_cases e1 : i = j
    · by_cases e2 : k = j
      · omega
      · rw [if_pos e1, if_neg e2] at e
        have := hlt k (by omega); omega
    · by_cases e2 : k = j
      · rw [if_neg e1, if_pos e2] at e
        have := hlt i (by omega); omega
      · rw [if_neg e1, if_neg e2] at e
        exact h.inj i k (by omega) (by omega) e

theorem own_cells {w : World} {B e n g c : Nat} {xs : List Value} (h : w.ownsRow B e 1 (.slice (some ⟨g, 0, none⟩) n c) n xs) : ∃ cur : Array Value, w.heap[g]? = some (.cells cur e (0, 0)) ∧ ∀ k, k < n → cur[k]? = xs[k]? := by
  rcases h.2 with ⟨hv, _⟩ | ⟨g', cap, cur, hv, h1, h2, h3, h4, h5, h6⟩
  · cases hv
  · injection hv with hv _ hc
    injection hv with hv
    injection hv with e1 e2
    subst e1
    refine ⟨cur, h2, fun k hk => ?_⟩
    rw [← h6, List.getElem?_take, if_pos (by omega)]
    simp
theorem RegsB.rm {w : World} {B n m gr cr gm cm : Nat} {rows : Nat → Nat} {mem : List Int} (h : RegsB w B (.slice (some ⟨gr, 0, none⟩) n cr) n rows) (hn1 : 1 ≤ n) (hn8 : n ≤ 8) (hm1 : 1 ≤ m) (hm32 : m ≤ 32)
    (hm : OwnO w B 3 1 (.slice (some ⟨gm, 0, none⟩) m cm) m ((List.range m).map fun j => .int .i64 (mem.getD j 0))) (hne : ∀ i, i < n → rows i ≠ gm) :
    RM ⟨B, n, m, gr, cr, gm, cm, rows⟩ w (startLS mem).R (startLS mem).M := by
  obtain ⟨cur, q1, q2⟩ := own_cells h.own
  obtain ⟨g', c', hv, b1, _, b3, b4⟩ := own_form h.own (by omega)
  injection hv with hv _ hc
  injection hv with hv
  injection hv with e1 _
  subst e1 hc
  refine ⟨hn8, hm1, hm32, b3, b4, b1, ⟨cur, q1, fun k hk => ?_⟩, h.lo, h.row, h.inj, hm, hne⟩
  rw [q2 k hk]
  have hk' : k < n := hk
  simp [hk', RMo.row]

def AllP (cs : List Cd) (n : Nat) (mem : List Int) (vl : Value) (w : World) (e : Ending) (w' : World) : Prop :=
  ∃ (o : SO) (vt : Value), e = .returned (.pointer (some ⟨o.p, 0, none⟩)) ∧ o.w0 = w ∧ o.cs = cs ∧ o.vl = vl ∧ o.rm.n = n ∧ o.rm.m = mem.length ∧ o.chk = false ∧ SRun o w' vt (lockOf cs n mem)

set_option maxHeartbeats 4000000 in
set_option maxRecDepth 100000 in
theorem sall_any (vl vm : Value) (cs : List Cd) (n : Nat) (mem : List Int) (w : World) (h : Codes w vl cs) (hm : Ints w vm mem) (hv : PValid cs) (hn1 : 1 ≤ n) (hn8 : n ≤ 8) (hmem : MemOk mem) :
    Calls Try.prog 58 #[vl, .int .i64 n, vm] w (AllP cs n mem vl w) := by
  have H := Lib.hid h
  have HM := Lib.hid hm
  have HV := Lib.hid hv
  have HMEM := Lib.hid hmem
  obtain ⟨⟨hm1, hm32⟩, _⟩ := hmem
  obtain ⟨A, c, rfl, hnc, hcm⟩ := h.form
  obtain ⟨Am, cm, rfl, hmc, hmcm, _⟩ := hm
  clear h hv
  go_enter Try.func58, Try.ntmps58
  go_wp2_with (at_builtin; go_must (refine wl_copyR elInt rfl _ _ rfl w.heap.size rfl _ rfl _ mem.length HM.out (fun j _ => rfl) (by decide) (by omega) (by omega) ?_); intro vm' wq hown hp; go_must (obtain ⟨gm, cmm, hvm, hgm1, hgm2, hcm1, hcm2⟩ := own_form hown (by omega); subst hvm; have HOWN := Lib.hid hown; have HP := Lib.hid hp; clear hown hp))
  have HPo : Hid ((((wq.alloc (.cells #[] 44)).alloc (.cells #[.slice A cs.length c, .int .i64 (n : Nat), .slice none 0 0, .slice (some ⟨gm, 0, none⟩) mem.length cmm, .slice (some ⟨wq.heap.size, 0, none⟩) 0 0, .bool false, .slice none 0 0, .bool false] 59)).heap[wq.heap.size + 1]?) = some (.cells #[.slice A cs.length c, .int .i64 (n : Nat), .slice none 0 0, .slice (some ⟨gm, 0, none⟩) mem.length cmm, .slice (some ⟨wq.heap.size, 0, none⟩) 0 0, .bool false, .slice none 0 0, .bool false] 59 (0, 0))) := Lib.hid (by
    have := heap_alloc_new (wq.alloc (.cells #[] 44)) (.cells #[.slice A cs.length c, .int .i64 (n : Nat), .slice none 0 0, .slice (some ⟨gm, 0, none⟩) mem.length cmm, .slice (some ⟨wq.heap.size, 0, none⟩) 0 0, .bool false, .slice none 0 0, .bool false] 59)
    simpa using this)
  go_loopg [8] n (fun gk i wr => ∃ (j : Nat) (vr : Value) (rows : Nat → Nat), gk + j = n ∧ i = .int .i64 j ∧ Pure w wr ∧ RegsB wr w.heap.size vr j rows ∧
    wr.heap[wq.heap.size + 1]? = some (.cells #[.slice A cs.length c, .int .i64 (n : Nat), vr, .slice (some ⟨gm, 0, none⟩) mem.length cmm, .slice (some ⟨wq.heap.size, 0, none⟩) 0 0, .bool false, .slice none 0 0, .bool false] 59 (0, 0)) ∧
    OwnO wr w.heap.size 3 1 (.slice (some ⟨gm, 0, none⟩) mem.length cmm) mem.length ((List.range mem.length).map fun j => .int .i64 (mem.getD j 0)) ∧
    OwnO wr w.heap.size 44 2 (.slice (some ⟨wq.heap.size, 0, none⟩) 0 0) 0 [] ∧ (∀ i, i < j → rows i ≠ gm))
  case atStart =>
    refine ⟨0, .slice none 0 0, fun _ => 0, rfl, rfl, HP.out.trans (by exact (by repeat (first | assumption | exact Pure.refl _ | refine Pure.drewN ?_ _ | refine Pure.drew ?_ | refine Pure.alloc ?_ _ | refine Pure.setCell ?_ (by simp <;> omega) _))), ⟨World.ownsRow_nil _ _ _ _, fun i hi => absurd hi (by omega), fun i hi => absurd hi (by omega), fun i k hi => absurd hi (by omega)⟩, HPo.out, (OwnO.of_own HOWN.out).pure (by exact (by repeat (first | assumption | exact Pure.refl _ | refine Pure.drewN ?_ _ | refine Pure.drew ?_ | refine Pure.alloc ?_ _ | refine Pure.setCell ?_ (by simp <;> omega) _))), (OwnO.empty_lit HP.out.size).pure (by exact (by repeat (first | assumption | exact Pure.refl _ | refine Pure.drewN ?_ _ | refine Pure.drew ?_ | refine Pure.alloc ?_ _ | refine Pure.setCell ?_ (by simp <;> omega) _))), fun i hi => absurd hi (by omega)⟩
  case round =>
    obtain ⟨j, vr, rows, hgk, rfl, hp, hregs, hobj, hmem, htr, hne⟩ := hrel
    have Hgk := Lib.hid hgk
    have HR := Lib.hid hregs
    have HO := Lib.hid hobj
    have HMe := Lib.hid hmem
    have HTr := Lib.hid htr
    have HNe := Lib.hid hne
    have hjn : j ≤ n := by omega
    clear hgk hregs hmem htr hne HPo
    have p1 := (cell_of_row wr (wq.heap.size + 1) 1 _ _ _ hobj).trans rfl
    have p2 := (cell_of_row wr (wq.heap.size + 1) 2 _ _ _ hobj).trans rfl
    have hpfr := frozen_of_row wr (wq.heap.size + 1) 2 _ _ hobj
    have hplt : wq.heap.size + 1 < wr.heap.size := (Array.getElem?_eq_some_iff.1 hobj).1
    clear hobj
    by_cases hlt : j < n
    · go_wp2
      refine region_heldF (fun w' => w'.cell? ⟨wq.heap.size + 1, 2, none⟩ = some vr) (List.range 5) [5, 6, 7, 8, 9, 10] (fun l => List.take 5 l) (fun l => List.drop 5 l) (by kernel_rfl) (by kernel_rfl) (by kernel_rfl) (by kernel_rfl) (fun c a d v w h => by cases d <;> exact h) (by exact p2) ?_
      simp only [List.take_succ_cons, List.take_zero, List.drop_succ_cons, List.drop_zero]
      apply held_of
      · exact rfl
      · intro w' hS
        go_simp
        try exact rfl
      try go_simp
      apply held_of
      · exact rfl
      · intro w' hS
        go_simp
        try exact rfl
      try go_simp
      apply held_of
      · exact rfl
      · intro w' hS
        go_simp
        try exact rfl
      try go_simp
      apply held_of
      · exact rfl
      · intro w' hS
        go_simp
        try exact rfl
      try go_simp
      apply held_of
      · exact rfl
      · intro w' hS
        go_simp
        try exact rfl
      try go_simp
      refine held_nil ?_
      unfold Tail
      refine wl_make elInt rfl _ _ rfl w.heap.size _ _ _ _ 4 rfl rfl rfl rfl (by decide) (by decide) hp.size ?_
      intro w4 hown4 hp4 hsz4
      have HZ4 := Lib.hid (own_zero4 hown4)
      have HP4 := Lib.hid ((show Pure wr wr.drew from Pure.drew (Pure.refl _)).trans hp4)
      have z2 := (HP4.out.cell _ _ hplt).trans p2
      have hplt4 := Nat.lt_of_lt_of_le hplt HP4.out.size
      clear hown4 hp4
      go_wp2
      refine And.intro z2 ?_
      unfold Tail
      go_wp2
      refine And.intro (keepPc (by exact (by repeat (first | assumption | exact Pure.refl _ | refine Pure.drewN ?_ _ | refine Pure.drew ?_ | refine Pure.alloc ?_ _ | refine Pure.setCell ?_ (by simp <;> omega) _))) z2) ?_
      unfold Tail
      have hgx := heap_alloc_new w4 (.cells #[.slice (some ⟨wr.heap.size, 0, none⟩) 4 4] 23)
      have hcx := cell_of_row _ _ 0 _ _ _ hgx
      refine wl_append elInts rfl _ _ rfl w.heap.size vr j _ rfl (own_pure HR.out.own (HP4.out.trans (by exact (by repeat (first | assumption | exact Pure.refl _ | refine Pure.drewN ?_ _ | refine Pure.drew ?_ | refine Pure.alloc ?_ _ | refine Pure.setCell ?_ (by simp <;> omega) _))))) w4.heap.size 1 1 [.slice (some ⟨wr.heap.size, 0, none⟩) 4 4] rfl rfl (fun i u hu => ?_) (by intro u hu; simp at hu; subst hu; rfl) (by omega) (by omega) (Nat.le_trans hp.size (Nat.le_trans HP4.out.size (by simp))) ?_
      · have hi : i = 0 := by
          by_cases e : i = 0
          · exact e
          · rw [List.getElem?_eq_none (by simp; omega)] at hu; cases hu
        subst hi
        rw [← hu]; exact hcx
      intro v5 w5 hown5 hg5
      obtain ⟨g5, c5, hv5, _, _, _, _⟩ := own_form hown5 (by omega)
      subst hv5
      have hPw1 : Pure wr (w4.alloc (.cells #[.slice (some ⟨wr.heap.size, 0, none⟩) 4 4] 23)) := HP4.out.trans (by exact (by repeat (first | assumption | exact Pure.refl _ | refine Pure.drewN ?_ _ | refine Pure.drew ?_ | refine Pure.alloc ?_ _ | refine Pure.setCell ?_ (by simp <;> omega) _)))
      have hc5 : Chg (fun k => vr.ownBlock = some k) (w4.alloc (.cells #[.slice (some ⟨wr.heap.size, 0, none⟩) 4 4] 23)) w5 := Chg.of_grown hg5 (fun k hk => hk)
      have hvrp : ∀ k, vr.ownBlock = some k → k ≠ wq.heap.size + 1 := own_ne_heap HR.out.own HO.out (by decide)
      have hO5 : w5.heap[wq.heap.size + 1]? = some (.cells #[.slice A cs.length c, .int .i64 (n : Nat), vr, .slice (some ⟨gm, 0, none⟩) mem.length cmm, .slice (some ⟨wq.heap.size, 0, none⟩) 0 0, .bool false, .slice none 0 0, .bool false] 59 (0, 0)) :=
        hc5.heap ((Chg.of_pure (S := fun _ => False) hPw1).heap HO.out id) (fun e => hvrp _ e rfl)
      have hz1 := (Chg.of_pure (S := fun _ => False) (show Pure w4 (w4.alloc (.cells #[.slice (some ⟨wr.heap.size, 0, none⟩) 4 4] 23)) from (by repeat (first | assumption | exact Pure.refl _ | refine Pure.drewN ?_ _ | refine Pure.drew ?_ | refine Pure.alloc ?_ _ | refine Pure.setCell ?_ (by simp <;> omega) _)))).heap HZ4.out id
      have hR5 := HR.out.push hPw1 (Nat.le_refl _) hp.size hz1 hown5 hg5
      have hM5 := (HMe.out.pure hPw1).chg hc5 (fun g hg e => (OwnO.of_own (own_pure HR.out.own hPw1)).ne (HMe.out.pure hPw1) (by decide) g e hg.symm)
      have hT5 := (HTr.out.pure hPw1).chg hc5 (fun g hg e => (OwnO.of_own (own_pure HR.out.own hPw1)).ne (HTr.out.pure hPw1) (by decide) g e hg.symm)
      have hP5 : Pure w w5 := Chg.pure (hp.trans hPw1) hc5 (fun k hk => (own_lt HR.out.own k hk).1)
      have hc6 : Chg (fun k => k = wq.heap.size + 1) w5 (w5.setCell ⟨wq.heap.size + 1, 2, none⟩ (.slice (some ⟨g5, 0, none⟩) (j + 1) c5)) := Chg.of_set w5 _ _ _ rfl
      have HO6 : Hid ((w5.setCell ⟨wq.heap.size + 1, 2, none⟩ (.slice (some ⟨g5, 0, none⟩) (j + 1) c5)).heap[wq.heap.size + 1]? = some (.cells #[.slice A cs.length c, .int .i64 (n : Nat), .slice (some ⟨g5, 0, none⟩) (j + 1) c5, .slice (some ⟨gm, 0, none⟩) mem.length cmm, .slice (some ⟨wq.heap.size, 0, none⟩) 0 0, .bool false, .slice none 0 0, .bool false] 59 (0, 0))) := Lib.hid (by
        rw [heap_setCell_same w5 (wq.heap.size + 1) 2 _ _ _ hO5]; rfl)
      have HR6 := Lib.hid (hR5.chg hc6 (fun g hg e => own_ne_heap hR5.own hO5 (by decide) g hg e) (fun i hi e => ne_of_heap (hR5.row i hi) hO5 (by decide) e))
      have HM6 := Lib.hid (hM5.chg hc6 (fun g hg e => hM5.ne_heap hO5 (by decide) g hg e))
      have HT6 := Lib.hid (hT5.chg hc6 (fun g hg e => hT5.ne_heap hO5 (by decide) g hg e))
      have HP6 : Hid (Pure w (w5.setCell ⟨wq.heap.size + 1, 2, none⟩ (.slice (some ⟨g5, 0, none⟩) (j + 1) c5))) := Lib.hid (Chg.pure hP5 hc6 (fun k hk => by rw [hk]; have := HP.out.size; omega))
      have z5 := (cell_of_row w5 (wq.heap.size + 1) 2 _ _ _ hO5).trans rfl
      have zf5 := frozen_of_row w5 (wq.heap.size + 1) 2 _ _ hO5
      have hgmlt : gm < wr.heap.size := (HMe.out.lt gm rfl).2
      clear hown5 hg5 hPw1 hc5 hvrp hO5 hz1 hR5 hM5 hT5 hP5 hc6 hgx hcx z2
      go_wp2
      refine And.intro z5 ?_
      unfold Tail
      go_wp2
      refine And.intro z5 ?_
      unfold Tail
      go_wp2
      refine And.intro z5 ?_
      unfold Tail
      go_wp2
      go_roundg (n - (j + 1))
      case measure => have := Hgk.out; omega
      case rel =>
        refine ⟨j + 1, _, _, by have := Hgk.out; omega, by go_num, HP6.out, HR6.out, HO6.out, HM6.out, HT6.out, fun i hi => ?_⟩
        show (if i = j then wr.heap.size else rows i) ≠ gm
        split
        · omega
        · exact HNe.out i (by omega)
    · have hjl : j = n := by have := Hgk.out; omega
      subst hjl
      obtain ⟨gr, cr, hvr, hgr1, hgr2, hcr1, hcr2⟩ := own_form HR.out.own (by omega)
      subst hvr
      go_wp2_with fail
      refine (smaskall_any j _ hn1 hn8).mono ?_
      rintro e w' ⟨rfl, rfl⟩
      obtain ⟨h1, h2, h3⟩ := treeOf_spec HV.out
      have hlen : (treeOf cs).len = cs.length := (congrArg List.length h1).symm
      have hrun : SRun ⟨⟨w.heap.size, j, mem.length, gr, cr, gm, cmm, rows⟩, w, cs, .slice A cs.length c, wq.heap.size + 1, .slice none 0 0, false, fun _ => 0⟩ wr (.slice (some ⟨wq.heap.size, 0, none⟩) 0 0) (startLS mem) :=
        ⟨hp, H.out, rfl, HR.out.rm hn1 hn8 hm1 hm32 HMe.out HNe.out, hn1, HO.out, by have := HP.out.size; show w.heap.size ≤ wq.heap.size + 1; omega, HTr.out, startLS_good HMEM.out, fun _ => rfl, fun h => by cases h⟩
      have HRUN := Lib.hid hrun
      have hcost : (startLS mem).H.length + (treeOf cs).cost ≤ 1099511627775 := by
        have := HV.out.cost h1 h2 h3
        show 0 + _ ≤ _
        omega
      have hpow : 2 ^ j - 1 < 2 ^ j := Nat.sub_lt (Nat.two_pow_pos j) (by decide)
      have HTREE := Lib.hid (And.intro h2 (And.intro hlen (And.intro hcost hpow)))
      have HSEG : Hid (Seg cs 0 (treeOf cs)) := Lib.hid (Seg.whole h1)
      clear h1 h2 h3 hlen hrun hcost hpow
      go_wp2_with fail
      refine (sblock_any ⟨⟨w.heap.size, j, mem.length, gr, cr, gm, cmm, rows⟩, w, cs, .slice A cs.length c, wq.heap.size + 1, .slice none 0 0, false, fun _ => 0⟩ HV.out rfl _ (treeOf cs) 0 (2 ^ j - 1) (startLS mem) _ wr _ _ (Nat.le_refl _) HTREE.out.1 HSEG.out (by have := HTREE.out.2.1; show 0 + (treeOf cs).len ≤ cs.length; omega) HTREE.out.2.2.2 HTREE.out.2.2.1 HRUN.out (by simp) (by rw [HTREE.out.2.1]; simp)).mono ?_
      rintro e w7 ⟨rfl, vt7, hr7, _⟩
      have H7 := Lib.hid hr7
      clear hr7
      go_wp2_with fail
      go_ret
      exact ⟨_, vt7, rfl, rfl, rfl, rfl, rfl, rfl, rfl, H7.out⟩

end Go.Proofs.Ytokdfgodmhekmaa

namespace Go.Proofs.Ytokdfgodmhekmaa
open Go.RowKit

theorem elPtr : ElT Try.prog 88 110 1 [.pointer none] 8 := ⟨by kernel_rfl, ⟨.pointer none, by kernel_rfl, by kernel_rfl, rfl⟩, by decide⟩
theorem elPtrs : ElT Try.prog 103 88 1 [.slice none 0 0] 24 := ⟨by kernel_rfl, ⟨.slice none 0 0, by kernel_rfl, by kernel_rfl, rfl⟩, by decide⟩

def upd {α : Type} (f : Nat → α) (k : Nat) (v : α) : Nat → α := fun x => if x = k then v else f x
theorem upd_same {α : Type} (f : Nat → α) (k : Nat) (v : α) : upd f k v k = v := if_pos rfl
theorem upd_ne {α : Type} (f : Nat → α) {k x : Nat} (v : α) (h : x ≠ k) : upd f k v x = f x := if_neg h
def ptr (pb : Nat → Nat) (p : Nat) : Value := .pointer (some ⟨pb p, 0, none⟩)
def ownOf (cs : List Cd) (k : Nat) : Option Nat :=
  if Opens (cs.getD k default) then some k else if (cs.getD k default).op = 12 ∨ (cs.getD k default).op = 14 then some (aroundAt cs k).toNat else none
def ownV (pb : Nat → Nat) : Option Nat → Value
  | some p => ptr pb p
  | none => .pointer none
/-- The places of the blocks that are open at place j, the outermost one first. -/
def stkPos (cs : List Cd) (j : Nat) : List Nat := (((sscan (cs.take j) 0 []).getD []).map (·.1)).reverse
def Blk (w : World) (g : Nat) (p : Nat) (x : Int × Int) : Prop := w.heap[g]? = some (.cells #[.int .i64 (p : Int), .int .i64 x.1, .int .i64 x.2] 112 (0, 0))
def RowOk (w : World) (B go : Nat) (q : Value) (pb : Nat → Nat) (r : Value) (ps : List Nat) : Prop :=
  OwnO w B 110 1 r ps.length (ps.map (ptr pb)) ∧ ∀ g, r.ownBlock = some g → g ≠ go ∧ some g ≠ q.ownBlock

structure BInv (cs : List Cd) (B : Nat) (w wr : World) (ga go : Nat) (q : Value) (k ka : Nat) (st : List (Nat × Int)) (pb : Nat → Nat) (bv : Nat → Int × Int) : Prop where
  pure : Pure w wr
  hB : B = w.heap.size
  sc : sscan (cs.take k) 0 [] = some st
  stk : Stk cs k st
  own : ∃ ys, OwnO wr B 110 1 (.slice (some ⟨go, 0, none⟩) cs.length cs.length) cs.length ys ∧ (∀ j, j < k → ys[j]? = some (ownV pb (ownOf cs j))) ∧ ∀ j, k ≤ j → j < cs.length → ys[j]? = some (.pointer none)
  aro : ∃ zs, OwnO wr B 88 1 (.slice (some ⟨ga, 0, none⟩) cs.length cs.length) cs.length zs ∧ ∀ j, j < ka → ∃ r, zs[j]? = some r ∧ RowOk wr B go q pb r (stkPos cs j)
  que : OwnO wr B 110 1 q st.length ((st.map fun x => ptr pb x.1).reverse)
  qne : ∀ g, q.ownBlock = some g → g ≠ go
  blk : ∀ p, p < k → Opens (cs.getD p default) → B ≤ pb p ∧ Blk wr (pb p) p (bv p)
  inj : ∀ p p', p < k → p' < k → Opens (cs.getD p default) → Opens (cs.getD p' default) → pb p = pb p' → p = p'
  opn : ∀ i (h : i < st.length), Opens (cs.getD st[i].1 default) ∧ (bv st[i].1).2 = -1 ∧ endAt cs st[i].1 = eScan (cs.drop k) k i (bv st[i].1).1 ∧ ((0 ≤ (bv st[i].1).1) ↔ st[i].2 = 12) ∧ (st[i].2 = 13 ↔ (cs.getD st[i].1 default).op = 13)
  cls : ∀ p, p < k → Opens (cs.getD p default) → (∀ i (h : i < st.length), st[i].1 ≠ p) → endAt cs p = ((bv p).2, (bv p).1)

theorem Blk.keep {w w' : World} {g p : Nat} {x : Int × Int} {row : Option Nat} (h : Blk w g p x) (hg : w.grownBy w' row) (hne : some g ≠ row) : Blk w' g p x := by
  unfold Blk at h ⊢
  rw [hg.block g (Array.getElem?_eq_some_iff.1 h).1 hne]; exact h
theorem RowOk.keep {w w' : World} {B go : Nat} {q : Value} {pb : Nat → Nat} {r : Value} {ps : List Nat} {row : Option Nat} (h : RowOk w B go q pb r ps) (hg : w.grownBy w' row) (hne : ∀ g, r.ownBlock = some g → some g ≠ row) : RowOk w' B go q pb r ps :=
  ⟨h.1.kept hg hne, h.2⟩
theorem OwnO.heap {w : World} {B e s n : Nat} {v : Value} {xs : List Value} (h : OwnO w B e s v n xs) {g : Nat} (hg : v.ownBlock = some g) : ∃ cur, w.heap[g]? = some (.cells cur e (0, 0)) := by
  rcases h.2 with ⟨rfl, _⟩ | ⟨g', off, cap, cur, rfl, h1, h2, _⟩
  · simp [Value.ownBlock] at hg
  · simp [Value.ownBlock] at hg; subst hg; exact ⟨cur, h2⟩
theorem Blk.ne_own {w : World} {g p : Nat} {x : Int × Int} (h : Blk w g p x) {B e s n : Nat} {v : Value} {xs : List Value} (h' : OwnO w B e s v n xs) (hne : e ≠ 112) {g' : Nat} (hg : v.ownBlock = some g') : g ≠ g' := by
  rintro rfl
  obtain ⟨cur, hc⟩ := h'.heap hg
  unfold Blk at h
  rw [h] at hc
  injection hc with hc
  injection hc with _ hc
  exact hne hc.symm

section
variable {cs : List Cd} {B : Nat} {w wr : World} {ga go : Nat} {q : Value} {k ka : Nat} {st : List (Nat × Int)} {pb : Nat → Nat} {bv : Nat → Int × Int}

theorem BInv.keepPure {w' : World} (h : BInv cs B w wr ga go q k ka st pb bv) (hp : Pure wr w') : BInv cs B w w' ga go q k ka st pb bv := by
  obtain ⟨h1, h2, h3, h4, ⟨ys, h5, h6⟩, ⟨zs, h7, h8⟩, h9, h10, h11, h12, h13, h14⟩ := h
  refine ⟨h1.trans hp, h2, h3, h4, ⟨ys, h5.pure hp, h6⟩, ⟨zs, h7.pure hp, fun j hj => ?_⟩, h9.pure hp, h10, fun p hp1 hp2 => ⟨(h11 p hp1 hp2).1, (h11 p hp1 hp2).2.keep (hp.grownBy none) (by simp)⟩, h12, h13, h14⟩
  obtain ⟨r, a, b⟩ := h8 j hj
  exact ⟨r, a, b.keep (hp.grownBy none) (by simp)⟩

/-- around[k] is stored. -/
theorem BInv.storeRow {w2 : World} {r : Value} (h : BInv cs B w wr ga go q k k st pb bv) (hk : k < cs.length) (hp : Pure wr w2) (hr : OwnO w2 wr.heap.size 110 1 r st.length ((st.map fun x => ptr pb x.1).reverse)) :
    BInv cs B w (w2.setCell ⟨ga, k, none⟩ r) ga go q k (k + 1) st pb bv := by
  have h' := h.keepPure hp
  have hsz := h.pure.size
  have hlt1 := h.que.lt
  obtain ⟨ys0, ho0, _⟩ := h.own
  have hgo := (ho0.lt go rfl).2
  obtain ⟨h1, h2, h3, h4, ⟨ys, h5, h6⟩, ⟨zs, h7, h8⟩, h9, h10, h11, h12, h13, h14⟩ := h'
  have hg := grown_setCell w2 ⟨ga, k, none⟩ r
  have hga := h7.lt ga rfl
  have hs := h7.stored k r
  rw [Nat.zero_add] at hs
  have hrB : OwnO w2 B 110 1 r st.length ((st.map fun x => ptr pb x.1).reverse) := by
    refine ⟨hr.1, ?_⟩
    rcases hr.2 with h | ⟨g, off, cap, cur, e1, e2, e3⟩
    · exact .inl h
    · exact .inr ⟨g, off, cap, cur, e1, by omega, e3⟩
  have hra : ∀ g, r.ownBlock = some g → some g ≠ some ga := fun g hg => hrB.ne h7 (by decide) g hg
  have hpos : stkPos cs k = (st.map (·.1)).reverse := by unfold stkPos; rw [h3]; rfl
  refine ⟨h1.setCell (show w.heap.size ≤ ga by omega) _, h2, h3, h4, ⟨ys, h5.kept hg (fun g hg => h5.ne h7 (by decide) g hg), h6⟩, ⟨_, hs, fun j hj => ?_⟩, h9.kept hg (fun g hg => h9.ne h7 (by decide) g hg), h10, fun p hp1 hp2 => ⟨(h11 p hp1 hp2).1, (h11 p hp1 hp2).2.keep hg (fun e => (h11 p hp1 hp2).2.ne_own h7 (by decide) rfl (by injection e))⟩, h12, h13, h14⟩
  have hzl : zs.length = cs.length := by have := h7.1; omega
  by_cases e : j = k
  · subst e
    refine ⟨r, by rw [List.getElem?_set_self (by omega)], ?_⟩
    rw [hpos]
    refine ⟨?_, fun g hg2 => ?_⟩
    · have hr' := hrB.kept hg (fun g hg => hra g hg)
      rw [List.length_reverse, List.length_map, List.map_reverse, List.map_map]
      exact hr'
    · have := hr.lt g hg2
      refine ⟨by omega, fun e => ?_⟩
      have := hlt1 g e.symm
      omega
  · obtain ⟨r', a, b⟩ := h8 j (by omega)
    refine ⟨r', by rw [List.getElem?_set_ne (by omega)]; exact a, b.keep hg (fun g hg => b.1.ne h7 (by decide) g hg)⟩

/-- own[k] is stored; nothing else has turned yet. -/
theorem own_store {u : Value} (h : BInv cs B w wr ga go q k ka st pb bv) :
    (∃ zs, OwnO (wr.setCell ⟨go, k, none⟩ u) B 88 1 (.slice (some ⟨ga, 0, none⟩) cs.length cs.length) cs.length zs ∧ ∀ j, j < ka → ∃ r, zs[j]? = some r ∧ RowOk (wr.setCell ⟨go, k, none⟩ u) B go q pb r (stkPos cs j)) ∧
    OwnO (wr.setCell ⟨go, k, none⟩ u) B 110 1 q st.length ((st.map fun x => ptr pb x.1).reverse) ∧
    (∀ p, p < k → Opens (cs.getD p default) → B ≤ pb p ∧ Blk (wr.setCell ⟨go, k, none⟩ u) (pb p) p (bv p)) ∧ Pure w (wr.setCell ⟨go, k, none⟩ u) := by
  obtain ⟨h1, h2, h3, h4, ⟨ys, h5, h6⟩, ⟨zs, h7, h8⟩, h9, h10, h11, h12, h13, h14⟩ := h
  have hg := grown_setCell wr ⟨go, k, none⟩ u
  have hgo := h5.lt go rfl
  refine ⟨⟨zs, h7.kept hg (fun g hg => h7.ne h5 (by decide) g hg), fun j hj => ?_⟩, h9.kept hg (fun g hg e => h10 g hg (by injection e)), fun p hp1 hp2 => ⟨(h11 p hp1 hp2).1, (h11 p hp1 hp2).2.keep hg (fun e => (h11 p hp1 hp2).2.ne_own h5 (by decide) rfl (by injection e))⟩, h1.setCell (show w.heap.size ≤ go by omega) _⟩
  obtain ⟨r, a, b⟩ := h8 j hj
  exact ⟨r, a, b.keep hg (fun g hg e => (b.2 g hg).1 (by injection e))⟩
end

theorem bScan_lt (cs : List Cd) : ∀ (k d : Nat), bScan cs k d < k
  | 0, _ => by simp [bScan]
  | k + 1, d => by
    unfold bScan
    split
    · have := bScan_lt cs k (d + 1); omega
    · split
      · split
        · omega
        · have := bScan_lt cs k (d - 1); omega
      · have := bScan_lt cs k d; omega
theorem ownOf_le {cs : List Cd} {j p : Nat} (h : ownOf cs j = some p) : p ≤ j := by
  unfold ownOf at h
  split at h
  · injection h with h; omega
  · split at h
    · injection h with h
      have : aroundAt cs j < j := bScan_lt cs j 0
      omega
    · cases h

end Go.Proofs.Ytokdfgodmhekmaa

namespace Go.Proofs.Ytokdfgodmhekmaa
open Go.RowKit

section
variable {cs : List Cd} {B : Nat} {w wr : World} {ga go : Nat} {q : Value} {k : Nat} {st : List (Nat × Int)} {pb : Nat → Nat} {bv : Nat → Int × Int}

theorem sc_step (h : BInv cs B w wr ga go q k (k + 1) st pb bv) (hk : k < cs.length) {st' : List (Nat × Int)} (hs : sstep st k (cs.getD k default) = some st') : sscan (cs.take (k + 1)) 0 [] = some st' ∧ Stk cs (k + 1) st' :=
  ⟨by rw [sscan_take hk h.sc]; exact hs, h.stk.step hk hs⟩

/-- An instruction that is no part of the structure. -/
theorem BInv.other (h : BInv cs B w wr ga go q k (k + 1) st pb bv) (hk : k < cs.length) (h1 : ¬ Opens (cs.getD k default)) (h2 : (cs.getD k default).op ≠ 12) (h3 : (cs.getD k default).op ≠ 14) :
    BInv cs B w wr ga go q (k + 1) (k + 1) st pb bv := by
  have hs : sstep st k (cs.getD k default) = some st := sstep_other h1 h2 h3
  obtain ⟨s1, s2⟩ := sc_step h hk hs
  have hdr := drop_cons hk
  obtain ⟨a1, a2, a3, a4, ⟨ys, a5, a6, a7⟩, a8, a9, a10, a11, a12, a13, a14⟩ := h
  have hlt : ∀ p, p < k + 1 → Opens (cs.getD p default) → p < k := fun p hp ho => by
    by_cases e : p = k
    · subst e; exact absurd ho h1
    · omega
  refine ⟨a1, a2, s1, s2, ⟨ys, a5, fun j hj => ?_, fun j hj hj2 => a7 j (by omega) hj2⟩, a8, a9, a10, fun p hp ho => a11 p (hlt p hp ho) ho, fun p p' hp hp' ho ho' => a12 p p' (hlt p hp ho) (hlt p' hp' ho') ho ho', fun i hi => ?_, fun p hp ho hn => a14 p (hlt p hp ho) ho hn⟩
  · by_cases e : j = k
    · subst e
      rw [a7 j (Nat.le_refl _) hk]
      unfold ownOf
      rw [if_neg h1, if_neg (by omega)]; rfl
    · exact a6 j (by omega)
  · obtain ⟨b1, b2, b3, b4, b5⟩ := a13 i hi
    refine ⟨b1, b2, ?_, b4, b5⟩
    rw [b3, hdr, eScan_cons, if_neg h1, if_neg (fun h => h2 h.1), if_neg (fun h => h3 h.1), if_neg h3]

/-- An else. -/
theorem BInv.els {p : Nat} {r : List (Nat × Int)} (h : BInv cs B w wr ga go q k (k + 1) ((p, 11) :: r) pb bv) (hk : k < cs.length) (h1 : (cs.getD k default).op = 12) :
    BInv cs B w ((wr.setCell ⟨go, k, none⟩ (ptr pb p)).setCell ⟨pb p, 1, none⟩ (.int .i64 (k : Int))) ga go q (k + 1) (k + 1) ((p, 12) :: r) pb (upd bv p ((k : Int), (bv p).2)) := by
  have hno : ¬ Opens (cs.getD k default) := by unfold Opens; omega
  have hs : sstep ((p, 11) :: r) k (cs.getD k default) = some ((p, 12) :: r) := by rw [sstep_else h1]; simp
  obtain ⟨s1, s2⟩ := sc_step h hk hs
  have hdr := drop_cons hk
  obtain ⟨⟨zs, t1, t2⟩, t3, t4, t5⟩ := own_store (u := ptr pb p) h
  have haro := h.stk.around 0
  obtain ⟨a1, a2, a3, a4, ⟨ys, a5, a6, a7⟩, a8, a9, a10, a11, a12, a13, a14⟩ := h
  have hst := a5.stored k (ptr pb p)
  rw [Nat.zero_add] at hst
  have hpk : p < k := a4.lt 0 (by simp)
  have hpo := (a13 0 (by simp)).1
  simp only [List.getElem_cons_zero] at hpo
  obtain ⟨hpB, hpblk⟩ := t4 p hpk hpo
  have hg := grown_setCell (wr.setCell ⟨go, k, none⟩ (ptr pb p)) ⟨pb p, 1, none⟩ (.int .i64 (k : Int))
  have hnb : ∀ {e s n : Nat} {v : Value} {xs : List Value}, OwnO (wr.setCell ⟨go, k, none⟩ (ptr pb p)) B e s v n xs → e ≠ 112 → OwnO ((wr.setCell ⟨go, k, none⟩ (ptr pb p)).setCell ⟨pb p, 1, none⟩ (.int .i64 (k : Int))) B e s v n xs := fun ho hne => ho.kept hg (fun g hg2 e => hpblk.ne_own ho hne hg2 (by injection e with e; exact e.symm))
  have hyl : ys.length = cs.length := by have := a5.1; omega
  have hlt : ∀ x, x < k + 1 → Opens (cs.getD x default) → x < k := fun x hx ho => by
    by_cases e : x = k
    · subst e; exact absurd ho hno
    · omega
  have hmono := List.pairwise_cons.1 a4.mono
  refine ⟨t5.setCell (show w.heap.size ≤ pb p by omega) _, a2, s1, s2, ⟨_, hnb hst (by decide), fun j hj => ?_, fun j hj hj2 => ?_⟩, ⟨zs, hnb t1 (by decide), fun j hj => ?_⟩, hnb t3 (by decide), a10, fun x hx ho => ?_, fun x x' hx hx' ho ho' => a12 x x' (hlt x hx ho) (hlt x' hx' ho') ho ho', fun i hi => ?_, fun x hx ho hn => ?_⟩
  · by_cases e : j = k
    · subst e
      rw [List.getElem?_set_self (by omega)]
      have : ownOf cs j = some p := by
        unfold ownOf aroundAt
        rw [if_neg hno, if_pos (.inl h1), haro]; simp
      rw [this]; rfl
    · rw [List.getElem?_set_ne (by omega)]; exact a6 j (by omega)
  · rw [List.getElem?_set_ne (by omega)]; exact a7 j (by omega) hj2
  · obtain ⟨r', c1, c2⟩ := t2 j hj
    exact ⟨r', c1, c2.keep hg (fun g hg2 e => hpblk.ne_own c2.1 (by decide) hg2 (by injection e with e; exact e.symm))⟩
  · obtain ⟨c1, c2⟩ := t4 x (hlt x hx ho) ho
    refine ⟨c1, ?_⟩
    by_cases e : x = p
    · subst e
      rw [upd_same]
      exact heap_setCell_same _ _ 1 _ _ _ c2
    · rw [upd_ne _ _ e]
      exact c2.keep hg (fun e2 => e (a12 x p (hlt x hx ho) hpk ho hpo (by injection e2)))
  · cases i with
    | zero =>
      obtain ⟨b1, b2, b3, b4, b5⟩ := a13 0 (by simp)
      simp only [List.getElem_cons_zero] at b1 b2 b3 b4 b5 ⊢
      rw [upd_same]
      refine ⟨b1, b2, ?_, ⟨fun _ => by trivial, fun _ => by simp⟩, ⟨fun h => by omega, fun h => ?_⟩⟩
      · rw [b3, hdr]; rw [eScan_cons, if_neg hno, if_pos ⟨h1, rfl⟩]
      · have := b5.2 h; omega
    | succ i =>
      obtain ⟨b1, b2, b3, b4, b5⟩ := a13 (i + 1) (by simpa using hi)
      have hne : (r[i]'(by simpa using hi)).1 ≠ p := by
        have := hmono.1 _ (List.getElem_mem (by simpa using hi : i < r.length))
        simp only at this; omega
      simp only [List.getElem_cons_succ] at b1 b2 b3 b4 b5 ⊢
      rw [upd_ne _ _ hne]
      refine ⟨b1, b2, ?_, b4, b5⟩
      rw [b3, hdr]; rw [eScan_cons, if_neg hno, if_neg (fun h => by cases h.2), if_neg (fun h => by cases h.2), if_neg (by omega)]
  · have hn' : ∀ i (h : i < ((p, (11 : Int)) :: r).length), (((p, (11 : Int)) :: r)[i]).1 ≠ x := fun i hi => by
      cases i with
      | zero => exact hn 0 (by simp)
      | succ i => exact hn (i + 1) (by simpa using hi)
    have hxp : x ≠ p := fun e => hn' 0 (by simp) e.symm
    rw [upd_ne _ _ hxp]
    exact a14 x (hlt x hx ho) ho hn'

/-- An end. -/
theorem BInv.fin {p : Nat} {m : Int} {r : List (Nat × Int)} {q' : Value} (h : BInv cs B w wr ga go q k (k + 1) ((p, m) :: r) pb bv) (hk : k < cs.length) (h1 : (cs.getD k default).op = 14)
    (hq : OwnO wr B 110 1 q' r.length ((r.map fun x => ptr pb x.1).reverse)) (hqb : q'.ownBlock = q.ownBlock) :
    BInv cs B w ((wr.setCell ⟨go, k, none⟩ (ptr pb p)).setCell ⟨pb p, 2, none⟩ (.int .i64 (k : Int))) ga go q' (k + 1) (k + 1) r pb (upd bv p ((bv p).1, (k : Int))) := by
  have hno : ¬ Opens (cs.getD k default) := by unfold Opens; omega
  have hs : sstep ((p, m) :: r) k (cs.getD k default) = some r := by rw [sstep_end h1]
  obtain ⟨s1, s2⟩ := sc_step h hk hs
  have hdr := drop_cons hk
  obtain ⟨⟨zs, t1, t2⟩, t3, t4, t5⟩ := own_store (u := ptr pb p) h
  have haro := h.stk.around 0
  obtain ⟨a1, a2, a3, a4, ⟨ys, a5, a6, a7⟩, a8, a9, a10, a11, a12, a13, a14⟩ := h
  have hst := a5.stored k (ptr pb p)
  rw [Nat.zero_add] at hst
  have hpk : p < k := a4.lt 0 (by simp)
  have hpo := (a13 0 (by simp)).1
  simp only [List.getElem_cons_zero] at hpo
  obtain ⟨hpB, hpblk⟩ := t4 p hpk hpo
  have hg0 := grown_setCell wr ⟨go, k, none⟩ (ptr pb p)
  have hq2 : OwnO (wr.setCell ⟨go, k, none⟩ (ptr pb p)) B 110 1 q' r.length ((r.map fun x => ptr pb x.1).reverse) := hq.kept hg0 (fun g hg e => a10 g (by rw [← hqb]; exact hg) (by injection e))
  have hg := grown_setCell (wr.setCell ⟨go, k, none⟩ (ptr pb p)) ⟨pb p, 2, none⟩ (.int .i64 (k : Int))
  have hnb : ∀ {e s n : Nat} {v : Value} {xs : List Value}, OwnO (wr.setCell ⟨go, k, none⟩ (ptr pb p)) B e s v n xs → e ≠ 112 → OwnO ((wr.setCell ⟨go, k, none⟩ (ptr pb p)).setCell ⟨pb p, 2, none⟩ (.int .i64 (k : Int))) B e s v n xs := fun ho hne => ho.kept hg (fun g hg2 e => hpblk.ne_own ho hne hg2 (by injection e with e; exact e.symm))
  have hyl : ys.length = cs.length := by have := a5.1; omega
  have hlt : ∀ x, x < k + 1 → Opens (cs.getD x default) → x < k := fun x hx ho => by
    by_cases e : x = k
    · subst e; exact absurd ho hno
    · omega
  have hmono := List.pairwise_cons.1 a4.mono
  refine ⟨t5.setCell (show w.heap.size ≤ pb p by omega) _, a2, s1, s2, ⟨_, hnb hst (by decide), fun j hj => ?_, fun j hj hj2 => ?_⟩, ⟨zs, hnb t1 (by decide), fun j hj => ?_⟩, hnb hq2 (by decide), fun g hg => a10 g (by rw [← hqb]; exact hg), fun x hx ho => ?_, fun x x' hx hx' ho ho' => a12 x x' (hlt x hx ho) (hlt x' hx' ho') ho ho', fun i hi => ?_, fun x hx ho hn => ?_⟩
  · by_cases e : j = k
    · subst e
      rw [List.getElem?_set_self (by omega)]
      have : ownOf cs j = some p := by
        unfold ownOf aroundAt
        rw [if_neg hno, if_pos (.inr h1), haro]; simp
      rw [this]; rfl
    · rw [List.getElem?_set_ne (by omega)]; exact a6 j (by omega)
  · rw [List.getElem?_set_ne (by omega)]; exact a7 j (by omega) hj2
  · obtain ⟨r', c1, c2⟩ := t2 j hj
    have c3 := c2.keep hg (fun g hg2 e => hpblk.ne_own c2.1 (by decide) hg2 (by injection e with e; exact e.symm))
    exact ⟨r', c1, c3.1, fun g hg => by rw [hqb]; exact c3.2 g hg⟩
  · obtain ⟨c1, c2⟩ := t4 x (hlt x hx ho) ho
    refine ⟨c1, ?_⟩
    by_cases e : x = p
    · subst e
      rw [upd_same]
      exact heap_setCell_same _ _ 2 _ _ _ c2
    · rw [upd_ne _ _ e]
      exact c2.keep hg (fun e2 => e (a12 x p (hlt x hx ho) hpk ho hpo (by injection e2)))
  · obtain ⟨b1, b2, b3, b4, b5⟩ := a13 (i + 1) (by simpa using hi)
    have hne : (r[i]'hi).1 ≠ p := by
      have := hmono.1 _ (List.getElem_mem hi)
      simp only at this; omega
    simp only [List.getElem_cons_succ] at b1 b2 b3 b4 b5 ⊢
    rw [upd_ne _ _ hne]
    refine ⟨b1, b2, ?_, b4, b5⟩
    rw [b3, hdr]; rw [eScan_cons, if_neg hno, if_neg (fun h => by omega), if_neg (fun h => by cases h.2), if_pos h1]
    simp only [Nat.add_sub_cancel]
  · by_cases hxp : x = p
    · subst hxp
      obtain ⟨b1, b2, b3, b4, b5⟩ := a13 0 (by simp)
      simp only [List.getElem_cons_zero] at b3
      rw [upd_same, b3, hdr]; rw [eScan_cons, if_neg hno, if_neg (fun h => by omega), if_pos ⟨h1, rfl⟩]
    · rw [upd_ne _ _ hxp]
      refine a14 x (hlt x hx ho) ho fun i hi => ?_
      cases i with
      | zero => exact fun e => hxp e.symm
      | succ i => exact hn i (by simpa using hi)

/-- A block opens. -/
theorem BInv.open_ {gb : Nat} {q' : Value} {wE : World} (h : BInv cs B w wr ga go q k (k + 1) st pb bv) (hk : k < cs.length) (h1 : Opens (cs.getD k default)) (h3 : st.length < 3) (hgb : gb = wr.heap.size)
    (hq : OwnO wE B 110 1 q' (st.length + 1) ((st.map fun x => ptr pb x.1).reverse ++ [.pointer (some ⟨gb, 0, none⟩)]))
    (hg : ((wr.alloc (.cells #[.int .i64 (k : Int), .int .i64 (-1), .int .i64 (-1)] 112)).setCell ⟨go, k, none⟩ (.pointer (some ⟨gb, 0, none⟩))).grownBy wE q.ownBlock)
    (hl : Lies ((wr.alloc (.cells #[.int .i64 (k : Int), .int .i64 (-1), .int .i64 (-1)] 112)).setCell ⟨go, k, none⟩ (.pointer (some ⟨gb, 0, none⟩))) q q') :
    BInv cs B w wE ga go q' (k + 1) (k + 1) ((k, (cs.getD k default).op) :: st) (upd pb k gb) (upd bv k (-1, -1)) := by
  have hs : sstep st k (cs.getD k default) = some ((k, (cs.getD k default).op) :: st) := by rw [sstep_open h1, if_pos h3]
  obtain ⟨s1, s2⟩ := sc_step h hk hs
  have hdr := drop_cons hk
  have h14 : (cs.getD k default).op ≠ 14 := by unfold Opens at h1; omega
  have hpA : Pure wr (wr.alloc (.cells #[.int .i64 (k : Int), .int .i64 (-1), .int .i64 (-1)] 112)) := Pure.alloc (Pure.refl _) _
  have hA := h.keepPure hpA
  have hnew : Blk (wr.alloc (.cells #[.int .i64 (k : Int), .int .i64 (-1), .int .i64 (-1)] 112)) gb k (-1, -1) := by rw [hgb]; exact heap_alloc_new wr _
  generalize hwA : wr.alloc (.cells #[.int .i64 (k : Int), .int .i64 (-1), .int .i64 (-1)] 112) = wA at *
  obtain ⟨⟨zs, t1, t2⟩, t3, t4, t5⟩ := own_store (u := .pointer (some ⟨gb, 0, none⟩)) hA
  have hwrsz := h.pure.size
  have hgoN : go < wr.heap.size := by obtain ⟨ys, o, _⟩ := h.own; exact (o.lt go rfl).2
  have hqlt := h.que.lt
  have hblt : ∀ p, p < k → Opens (cs.getD p default) → pb p < wr.heap.size := fun p hp ho => by
    have := (h.blk p hp ho).2
    exact (Array.getElem?_eq_some_iff.1 this).1
  have hrows : ∀ j r, j < k + 1 → RowOk wA B go q pb r (stkPos cs j) → True := fun _ _ _ _ => trivial
  have hstkpos : ∀ j, j < k + 1 → ∀ p, p ∈ stkPos cs j → p ≠ k := fun j hj p hp => by
    have hpre : ∃ st', sscan (cs.take j) 0 [] = some st' := by
      cases hsj : sscan (cs.take j) 0 [] with
      | some x => exact ⟨x, rfl⟩
      | none =>
        have h2 : (cs.take k).take j = cs.take j := by rw [List.take_take]; congr 1; omega
        have := sscan_none (cs := cs.take k) (k := j) (by rw [h2]; exact hsj)
        rw [h.sc] at this; cases this
    obtain ⟨st', hst'⟩ := hpre
    unfold stkPos at hp
    rw [hst'] at hp
    simp only [Option.getD_some, List.mem_reverse, List.mem_map] at hp
    obtain ⟨x, hx, rfl⟩ := hp
    have := sscan_lt hst' x hx
    have hjl : (cs.take j).length ≤ j := by simp; omega
    omega
  have hrowV : ∀ j, j < k + 1 → (stkPos cs j).map (ptr pb) = (stkPos cs j).map (ptr (upd pb k gb)) := fun j hj => by
    refine List.map_congr_left fun p hp => ?_
    unfold ptr
    rw [upd_ne _ _ (hstkpos j hj p hp)]
  obtain ⟨a1, a2, a3, a4, ⟨ys, a5, a6, a7⟩, ⟨zs0, a8, a8'⟩, a9, a10, a11, a12, a13, a14⟩ := hA
  have hst := a5.stored k (.pointer (some ⟨gb, 0, none⟩))
  rw [Nat.zero_add] at hst
  have hyl : ys.length = cs.length := by have := a5.1; omega
  have hgbA : gb ≠ go := by omega
  have hnew2 : Blk (wA.setCell ⟨go, k, none⟩ (.pointer (some ⟨gb, 0, none⟩))) gb k (-1, -1) := hnew.keep (grown_setCell _ _ _) (fun e => hgbA (by injection e))
  have hstlt : ∀ x ∈ st, x.1 ≠ k := fun x hx => by
    obtain ⟨i, hi, e⟩ := List.mem_iff_getElem.1 hx
    have := a4.lt i hi
    rw [e] at this
    omega
  refine ⟨t5.grown hg (fun g hg => by have := t3.lt g hg; omega), a2, s1, s2, ⟨_, hst.kept hg (fun g hg2 e => ?_), fun j hj => ?_, fun j hj hj2 => ?_⟩, ⟨zs, t1.kept hg (fun g hg2 => t1.ne t3 (by decide) g hg2), fun j hj => ?_⟩, ?_, fun g hg2 => ?_, fun x hx ho => ?_, fun x x' hx hx' ho ho' he => ?_, fun i hi => ?_, fun x hx ho hn => ?_⟩
  · simp [Value.ownBlock] at hg2
    subst hg2
    exact a10 _ e.symm rfl
  · by_cases e : j = k
    · subst e
      rw [List.getElem?_set_self (by omega)]
      have : ownOf cs j = some j := by unfold ownOf; rw [if_pos h1]
      rw [this]; show _ = some (ptr (upd pb j gb) j); unfold ptr; rw [upd_same]
    · rw [List.getElem?_set_ne (by omega), a6 j (by omega)]
      cases ho : ownOf cs j with
      | none => rfl
      | some p =>
        have := ownOf_le ho
        show some (ptr pb p) = some (ptr (upd pb k gb) p)
        unfold ptr; rw [upd_ne _ _ (by omega)]
  · rw [List.getElem?_set_ne (by omega)]; exact a7 j (by omega) hj2
  · obtain ⟨r', c1, c2⟩ := t2 j hj
    refine ⟨r', c1, ?_, fun g hg2 => ⟨(c2.2 g hg2).1, fun e => ?_⟩⟩
    · rw [← hrowV j hj]
      exact c2.1.kept hg (fun g hg2 => (c2.2 g hg2).2)
    · rcases hl g e.symm with h | h
      · exact (c2.2 g hg2).2 h.symm
      · have := (c2.1.lt g hg2).2; omega
  · have : (((k, (cs.getD k default).op) :: st).map fun x => ptr (upd pb k gb) x.1).reverse = (st.map fun x => ptr pb x.1).reverse ++ [.pointer (some ⟨gb, 0, none⟩)] := by
      rw [List.map_cons, List.reverse_cons]
      congr 1
      · congr 1
        refine List.map_congr_left fun x hx => ?_
        unfold ptr; rw [upd_ne _ _ (hstlt x hx)]
      · unfold ptr; rw [upd_same]
    rw [this]
    exact hq
  · rcases hl g hg2 with h | h
    · exact a10 g h
    · have : (wA.setCell ⟨go, k, none⟩ (.pointer (some ⟨gb, 0, none⟩))).heap.size = wA.heap.size := by simp [World.setCell]
      have := hpA.size
      omega
  · by_cases e : x = k
    · subst e
      rw [upd_same, upd_same]
      exact ⟨by omega, hnew2.keep hg (fun e2 => by have := hqlt gb e2.symm; omega)⟩
    · rw [upd_ne _ _ e, upd_ne _ _ e]
      obtain ⟨c1, c2⟩ := t4 x (by omega) ho
      exact ⟨c1, c2.keep hg (fun e2 => c2.ne_own t3 (by decide) e2.symm rfl)⟩
  · by_cases e : x = k
    · by_cases e' : x' = k
      · omega
      · rw [e, upd_same, upd_ne _ _ e'] at he
        have := hblt x' (by omega) ho'
        omega
    · by_cases e' : x' = k
      · rw [upd_ne _ _ e, e', upd_same] at he
        have := hblt x (by omega) ho
        omega
      · rw [upd_ne _ _ e, upd_ne _ _ e'] at he
        exact a12 x x' (by omega) (by omega) ho ho' he
  · cases i with
    | zero =>
      simp only [List.getElem_cons_zero]
      rw [upd_same]
      refine ⟨h1, by trivial, rfl, ⟨fun h => by omega, fun h => ?_⟩, by trivial⟩
      unfold Opens at h1; omega
    | succ i =>
      have hi' : i < st.length := by simpa using hi
      obtain ⟨b1, b2, b3, b4, b5⟩ := a13 i hi'
      have hne : (st[i]'hi').1 ≠ k := hstlt _ (List.getElem_mem hi')
      simp only [List.getElem_cons_succ] at b1 b2 b3 b4 b5 ⊢
      rw [upd_ne _ _ hne]
      refine ⟨b1, b2, ?_, b4, b5⟩
      rw [b3, hdr, eScan_cons, if_pos h1]
  · have hxk : x ≠ k := fun e => hn 0 (by simp) (by simp [e])
    rw [upd_ne _ _ hxk]
    exact a14 x (by omega) ho (fun i hi => hn (i + 1) (by simpa using hi))

end
end Go.Proofs.Ytokdfgodmhekmaa
