/- A region that draws its order, and ends in operations that make memory or write, in a forced order: what only reads may be taken first. Which instructions are valid, as the reference finds it: the rest. Which programs are valid, as the reference finds it; where blocks end and which block is around a place. No condition. -/
import Derived.StillTailTactics
import Derived.OrdersHeld
import Derived.Test.YtkolnakcgjlcgaaQaa
import Derived.Test.YtkolnakcgjlcgaaQac

namespace Go.Proofs.Ytkolnakcgjlcgaa
open Go.RowKit

section
variable {P : Program} {ops : Array Oper} {Q : Exit → Act → World → Prop} {md : Region.Mode} {S : World → Prop}

/-- Whatever order is picked: behind every operation but number z the world meets S. -/
def AnyK (P : Program) (md : Region.Mode) (ops : Array Oper) (Q : Exit → Act → World → Prop) (S : World → Prop) (z : Nat) : Nat → Array Bool → Act → World → Prop
  | 0, l, a, w => Region.ready md ops l = [] ∧ Q .normal a w
  | f + 1, l, a, w => (Region.ready md ops l = [] → Q .normal a w) ∧ ∀ i ∈ Region.ready md ops l, wpOp P ops Q i (fun b u => (i ≠ z → S u) ∧ AnyK P md ops Q S z f (l.setIfInBounds i true) b u) a w
theorem AnyK.any {z : Nat} : ∀ (f : Nat) (l : Array Bool) (a : Act) (w : World), AnyK P md ops Q S z f l a w → wpAny P md ops Q f l a w
  | 0, _, _, _, h => h
  | f + 1, _, _, _, h => ⟨h.1, fun i hi => wpOp_mono (fun b u k => AnyK.any f _ b u k.2) (h.2 i hi)⟩

/-- What yields its value wherever S holds may come first, if the last operation waits for everything. -/
theorem AnyK.first {i z : Nat} {o : Oper} {v : Value} (ho : ops[i]? = some o) (hns : Region.noSelect ops = true) (hQ : ∀ c a w, Q (.panic c) (a.put o.dst v) w → Q (.panic c) a w)
    (hk : Region.sinkB md ops z = true) (hc : Region.chainB md ops z = true) (hz : z + 1 = ops.size) (hiz : i < z) :
    ∀ (f : Nat) (l : Array Bool) (a : Act) (w : World), HeadInv md ops z l →
      (∀ j p, ops[j]? = some p → j ≠ i → l.getD j true = false → (∀ e ∈ p.after, Region.binds md e = true → e.on ≠ i) → o.apart ops p = true) →
      i ∈ Region.ready md ops l → YieldsIf P ops S o v a → S w → AnyK P md ops Q S z f (l.setIfInBounds i true) (a.put o.dst v) w → AnyK P md ops Q S z (f + 1) l a w := by
  intro f
  induction f with
  | zero =>
    intro l a w inv hf hr hy hS H
    refine ⟨fun h0 => absurd hr (by rw [h0]; simp), fun j hj => ?_⟩
    by_cases e : j = i
    · rw [e]; exact hy.wpOp ho hS ⟨fun _ => hS, H⟩
    · exact absurd (ready_mono hj e) (by rw [H.1]; simp)
  | succ f ih =>
    intro l a w inv hf hr hy hS H
    refine ⟨fun h0 => absurd hr (by rw [h0]; simp), fun j hj => ?_⟩
    by_cases e : j = i
    · rw [e]; exact hy.wpOp ho hS ⟨fun _ => hS, H⟩
    have hun := (mem_ready.1 hr).1
    obtain ⟨hju, p, hp, hall⟩ := mem_ready.1 hj
    have hjs : j < ops.size := (Array.getElem?_eq_some_iff.1 hp).1
    have hjz : j ≠ z := fun e2 => tail_waits hk hc (by omega) inv _ i rfl hiz hun j (by omega) hj
    have hno : ∀ x ∈ p.after, Region.binds md x = true → x.on ≠ i := fun x hx hb e2 => by
      have h1 := hall x hx hb
      rw [e2] at h1
      have h2 := getD_both hun
      rw [h1] at h2; cases h2
    have hput := wpOp_putIf hp (hf j p hp e hju hno) (fun cs b => Region.noSelect_spec hns i o cs b ho) (fun cs b => Region.noSelect_spec hns j p cs b hp) hQ hy (H.2 j (ready_mono hj e))
    have hf' : ∀ k q, ops[k]? = some q → k ≠ i → (l.setIfInBounds j true).getD k true = false → (∀ x ∈ q.after, Region.binds md x = true → x.on ≠ i) → o.apart ops q = true := fun k q hq hki hku hn => by
      refine hf k q hq hki ?_ hn
      by_cases e3 : j = k
      · rw [← e3]; exact hju
      · rwa [getD_set_ne true e3] at hku
    refine wpOp_mono (fun b u h => ⟨fun _ => h.2.1 hjz, ih (l.setIfInBounds j true) b u (inv.set hj (by omega)) hf' (ready_mono hr (fun e4 => e e4.symm)) h.1 (h.2.1 hjz) ?_⟩) hput
    rw [Array.setIfInBounds_comm _ _ e]
    exact h.2.2

def thenK (Q : Exit → Act → World → Prop) (K : Act → World → Prop) : Exit → Act → World → Prop
  | .normal, a, w => K a w
  | e, a, w => Q e a w
theorem upon_thenK {K K' : Act → World → Prop} {o : Oper} {a : Act} (r : Result Next) (h : o.upon P a K (thenK Q K') r) : o.upon P a K Q r := by
  have hl : LetsOut (thenK Q K') → LetsOut Q := fun ⟨b, u, k⟩ => ⟨b, u, k⟩
  cases r with
  | ok n u =>
    cases n with
    | enter g xs =>
      refine Calls.mono h fun e u' k => ?_
      cases e with
      | returned v => exact k
      | panicked c => exact k
      | outgrown => exact hl k
    | value v => exact h
    | skip => exact h
    | defer d => exact h
    | row r xs => exact h
    | _ => exact h
  | halt x u => cases x <;> exact h
theorem wpOp_of_one {K : Act → World → Prop} {i : Nat} {o : Oper} {a : Act} {w : World} (ho : ops[i]? = some o) (h : wpList P ops (thenK Q K) [o] a w) : wpOp P ops Q i K a w := by
  unfold wpOp
  simp only [ho]
  unfold wpList at h
  split
  · rename_i hw
    rw [if_pos hw] at h
    rcases h with h | ⟨h1, b, u, h2⟩
    · exact .inl (upon_thenK _ h)
    · exact .inr ⟨h1, b, u, h2⟩
  · rename_i hw
    rw [if_neg hw] at h
    exact h

/-- The operations that only read, one after another. -/
def Held (P : Program) (ops : Array Oper) (S : World → Prop) (E : Act → Prop) : List Oper → Act → Prop
  | [], a => E a
  | o :: r, a => ∃ v, YieldsIf P ops S o v a ∧ Held P ops S E r (a.put o.dst v)
/-- The operations that come last, one after another. -/
def Tail (P : Program) (ops : Array Oper) (Q : Exit → Act → World → Prop) (S : World → Prop) : List Oper → Act → World → Prop
  | [], a, w => Q .normal a w
  | [o], a, w => wpList P ops Q [o] a w
  | o :: o2 :: r, a, w => wpList P ops (thenK Q fun b u => S u ∧ Tail P ops Q S (o2 :: r) b u) [o] a w
def hdsB (md : Region.Mode) (ops : Array Oper) (T : Array Bool → Bool) : List Nat → Array Bool → Bool
  | [], l => T l
  | i :: r, l => (Region.ready md ops l).contains i && Region.free md ops l i && decide (i + 1 < ops.size) && hdsB md ops T r (l.setIfInBounds i true)
def tlsB (md : Region.Mode) (ops : Array Oper) : List Nat → Array Bool → Bool
  | [], l => (Region.ready md ops l).isEmpty
  | t :: r, l => decide (Region.ready md ops l = [t]) && (decide (t + 1 = ops.size) == r.isEmpty) && tlsB md ops r (l.setIfInBounds t true)

theorem tail_any {z : Nat} (hz : z + 1 = ops.size) : ∀ (ts : List Nat) (os : List Oper) (f : Nat) (l : Array Bool) (a : Act) (w : World), ts.map (ops[·]?) = os.map some → tlsB md ops ts l = true → ts.length ≤ f → Tail P ops Q S os a w → AnyK P md ops Q S z f l a w
  | [], os, f, l, a, w, hm, hB, _, h => by
    obtain rfl : os = [] := by cases os with
      | nil => rfl
      | cons => simp at hm
    have hr : Region.ready md ops l = [] := by simpa [tlsB] using hB
    cases f with
    | zero => exact ⟨hr, h⟩
    | succ f => exact ⟨fun _ => h, by rw [hr]; simp⟩
  | t :: ts, [], _, _, _, _, hm, _, _, _ => by simp at hm
  | t :: ts, o :: os, 0, _, _, _, _, _, hf, _ => by simp at hf
  | t :: ts, o :: os, f + 1, l, a, w, hm, hB, hf, h => by
    simp only [List.map_cons, List.cons.injEq] at hm
    simp only [tlsB, Bool.and_eq_true, decide_eq_true_eq, beq_iff_eq] at hB
    obtain ⟨⟨hr, hlast⟩, hB⟩ := hB
    refine ⟨fun h0 => absurd hr (by rw [h0]; simp), fun i hi => ?_⟩
    rw [hr] at hi
    obtain rfl : i = t := by simpa using hi
    cases os with
    | nil =>
      have hts : ts = [] := by cases ts with
        | nil => rfl
        | cons => simp at hm
      subst hts
      have hzi : i = z := by simp at hlast; omega
      have h1 : wpOp P ops Q i (fun b u => Q .normal b u) a w := wpOp_of_one hm.1 (by
        have e : thenK Q (fun b u => Q .normal b u) = Q := by funext e b u; cases e <;> rfl
        rw [e]; exact h)
      exact wpOp_mono (fun b u k => ⟨fun hne => absurd hzi hne, tail_any hz [] [] f _ b u rfl hB (by simp) k⟩) h1
    | cons o2 os => exact wpOp_mono (fun b u k => ⟨fun _ => k.1, tail_any hz ts (o2 :: os) f _ b u hm.2 hB (by simpa using hf) k.2⟩) (wpOp_of_one hm.1 h)

theorem heads_any {z : Nat} {ts : List Nat} {tl : List Oper} (hz : z + 1 = ops.size) (hns : Region.noSelect ops = true) (hk : Region.sinkB md ops z = true) (hc : Region.chainB md ops z = true)
    (hQ : ∀ (c : _) (a : Act) (d : Option Tmp) (v : Value) (w : World), Q (.panic c) (a.put d v) w → Q (.panic c) a w) (ht : ts.map (ops[·]?) = tl.map some) :
    ∀ (hs : List Nat) (hl : List Oper) (f : Nat) (l : Array Bool) (a : Act) (w : World), hs.map (ops[·]?) = hl.map some → hdsB md ops (tlsB md ops ts) hs l = true → hs.length + ts.length ≤ f → HeadInv md ops z l → S w →
      Held P ops S (fun b => Tail P ops Q S tl b w) hl a → AnyK P md ops Q S z f l a w
  | [], hl, f, l, a, w, hm, hB, hf, inv, hS, h => by
    obtain rfl : hl = [] := by cases hl with
      | nil => rfl
      | cons => simp at hm
    exact tail_any hz ts tl f l a w ht hB (by simpa using hf) h
  | i :: hs, [], _, _, _, _, hm, _, _, _, _, _ => by simp at hm
  | i :: hs, o :: hl, 0, _, _, _, _, _, hf, _, _, _ => by simp at hf
  | i :: hs, o :: hl, f + 1, l, a, w, hm, hB, hf, inv, hS, h => by
    simp only [List.map_cons, List.cons.injEq] at hm
    simp only [hdsB, Bool.and_eq_true, decide_eq_true_eq] at hB
    obtain ⟨⟨⟨hr, hfr⟩, hlt⟩, hB⟩ := hB
    obtain ⟨v, hy, h⟩ := h
    have hr' : i ∈ Region.ready md ops l := by simpa using hr
    exact AnyK.first hm.1 hns (fun c b u => hQ c b o.dst v u) hk hc hz (by omega) f l a w inv (Region.free_spec hm.1 hfr) hr' hy hS
      (heads_any hz hns hk hc hQ ht hs hl f _ _ w hm.2 hB (by simp at hf; omega) (inv.set hr' (by omega)) hS h)
end

/-- A region: the operations hl (number by number: hs) only read where S holds; tl (ts) come last. -/
theorem region_held {P : Program} {id : Nat} {Q : Exit → Act → World → Prop} {a : Act} {w : World} {l : List Oper} (S : World → Prop) (hs ts : List Nat) (hl tl : List Oper) (hm : P.follows .mixedOrders = true)
    (hB : (Region.noSelect l.toArray && Region.sinkB .any l.toArray (l.toArray.size - 1) && Region.chainB .any l.toArray (l.toArray.size - 1) && decide (0 < l.toArray.size) && decide (hs.length + ts.length = l.toArray.size) && hdsB .any l.toArray (tlsB .any l.toArray ts) hs (Array.replicate l.toArray.size false)) = true)
    (hh : hs.map (l.toArray[·]?) = hl.map some) (ht : ts.map (l.toArray[·]?) = tl.map some)
    (hQ : ∀ (c : _) (a : Act) (d : Option Tmp) (v : Value) (w : World), Q (.panic c) (a.put d v) w → Q (.panic c) a w) (hS : S w.drew)
    (h : Held P l.toArray S (fun b => Tail P l.toArray Q S tl b w.drew) hl a) : (Code.region id l.toArray true).wp P Q a w := by
  simp only [Bool.and_eq_true, decide_eq_true_eq] at hB
  obtain ⟨⟨⟨⟨⟨hns, hk⟩, hc⟩, h0⟩, hlen⟩, hB⟩ := hB
  have inv0 : HeadInv .any l.toArray (l.toArray.size - 1) (Array.replicate l.toArray.size false) :=
    ⟨by simp, fun j p _ hx => (by rw [getD_replicate_false] at hx; cases hx), fun t _ hx => getD_in (by simpa using hx) (getD_replicate_false _ _)⟩
  exact wp_region_any hm (AnyK.any _ _ _ _ (heads_any (by omega) hns hk hc hQ ht hs hl _ _ a w.drew hh hB (by omega) inv0 hS h))

theorem held_of {P : Program} {ops : Array Oper} {S : World → Prop} {E : Act → Prop} {o : Oper} {r : List Oper} {a : Act} {v : Value} (hw : Region.wanted o (yielded ops a.tmps) = true) (hv : ∀ w, S w → (execOp a.eval o).run P w = .ok (.value v) w)
    (h : Held P ops S E r (a.put o.dst v)) : Held P ops S E (o :: r) a := ⟨v, .inl ⟨hw, hv⟩, h⟩
theorem held_nil {P : Program} {ops : Array Oper} {S : World → Prop} {E : Act → Prop} {a : Act} (h : E a) : Held P ops S E [] a := h

theorem region_heldF {P : Program} {id : Nat} {Q : Exit → Act → World → Prop} {a : Act} {w : World} {l : List Oper} (S : World → Prop) (hs ts : List Nat) (fH fT : List Oper → List Oper) (hm : P.follows .mixedOrders = true)
    (hB : (Region.noSelect l.toArray && Region.sinkB .any l.toArray (l.toArray.size - 1) && Region.chainB .any l.toArray (l.toArray.size - 1) && decide (0 < l.toArray.size) && decide (hs.length + ts.length = l.toArray.size) && hdsB .any l.toArray (tlsB .any l.toArray ts) hs (Array.replicate l.toArray.size false)) = true)
    (hh : hs.map (l.toArray[·]?) = (fH l).map some) (ht : ts.map (l.toArray[·]?) = (fT l).map some)
    (hQ : ∀ (c : _) (a : Act) (d : Option Tmp) (v : Value) (w : World), Q (.panic c) (a.put d v) w → Q (.panic c) a w) (hS : S w.drew)
    (h : Held P l.toArray S (fun b => Tail P l.toArray Q S (fT l) b w.drew) (fH l) a) : (Code.region id l.toArray true).wp P Q a w :=
  region_held S hs ts (fH l) (fT l) hm hB hh ht hQ hS h

end Go.Proofs.Ytkolnakcgjlcgaa

namespace Go.Proofs.Ytkolnakcgjlcgaa
open Go.RowKit

set_option maxHeartbeats 1000000 in
theorem scv_8 (a b c : Int) (w : World) (B : Bool) (hB : B = true ↔ CdOk ⟨8, a, b, c⟩) :
    Calls Try.prog 82 #[.agg #[.int .i64 8, .int .i64 a, .int .i64 b, .int .i64 c]] w fun e w' => e = .returned (.bool B) ∧ Pure w w' := by
  have HB := Lib.hid hB; clear hB
  obtain ⟨ra, hra⟩ := regB a
  obtain ⟨rb, hrb⟩ := regB b
  have HA := Lib.hid hra; clear hra
  have HR := Lib.hid hrb; clear hrb
  cases ra
  · go_enter Try.func82, Try.ntmps82
    go_wp2_with fail
    refine (l1In_any _ _ _ _ false (by have := HA.out; simpa using this)).mono ?_
    rintro e w1 ⟨rfl, rfl⟩
    go_wp2_with fail
    refine (l1In_any _ _ _ _ rb (by have := HR.out; simpa using this)).mono ?_
    rintro e w1 ⟨rfl, rfl⟩
    go_wp2
    go_ret
    refine ⟨ret_bool ?_, (by repeat (first | assumption | exact Pure.refl _ | refine Pure.drewN ?_ _ | refine Pure.drew ?_ | refine Pure.alloc ?_ _ | refine Pure.setCell ?_ (by simp <;> omega) _))⟩
    rw [Bool.eq_iff_iff, HB.out]
    have t1 := HA.out; have t2 := HR.out
    simp only [Bool.false_eq_true, false_iff, CdOk, Reg, Word, true_and, true_or, or_true] at *
    first | omega | (constructor <;> intro h <;> omega)
  · cases rb
    · go_enter Try.func82, Try.ntmps82
      go_wp2_with fail
      refine (l1In_any _ _ _ _ true (by have := HA.out; simpa using this)).mono ?_
      rintro e w1 ⟨rfl, rfl⟩
      go_wp2_with fail
      refine (l1In_any _ _ _ _ false (by have := HR.out; simpa using this)).mono ?_
      rintro e w1 ⟨rfl, rfl⟩
      go_wp2
      go_ret
      refine ⟨ret_bool ?_, (by repeat (first | assumption | exact Pure.refl _ | refine Pure.drewN ?_ _ | refine Pure.drew ?_ | refine Pure.alloc ?_ _ | refine Pure.setCell ?_ (by simp <;> omega) _))⟩
      rw [Bool.eq_iff_iff, HB.out]
      have t1 := HA.out; have t2 := HR.out
      simp only [Bool.false_eq_true, false_iff, true_iff, CdOk, Reg, Word, true_and, true_or, or_true] at *
      first | omega | (constructor <;> intro h <;> omega)
    · go_enter Try.func82, Try.ntmps82
      go_wp2_with fail
      refine (l1In_any _ _ _ _ true (by have := HA.out; simpa using this)).mono ?_
      rintro e w1 ⟨rfl, rfl⟩
      go_wp2_with fail
      refine (l1In_any _ _ _ _ true (by have := HR.out; simpa using this)).mono ?_
      rintro e w1 ⟨rfl, rfl⟩
      go_wp2
      go_ret
      refine ⟨ret_bool ?_, (by repeat (first | assumption | exact Pure.refl _ | refine Pure.drewN ?_ _ | refine Pure.drew ?_ | refine Pure.alloc ?_ _ | refine Pure.setCell ?_ (by simp <;> omega) _))⟩
      rw [Bool.eq_iff_iff, HB.out]
      have t1 := HA.out; have t2 := HR.out
      simp only [true_iff, beq_iff_eq, CdOk, Reg, Word, true_and, true_or, or_true] at *
      first | omega | (constructor <;> intro h <;> omega)

set_option maxHeartbeats 1000000 in
theorem scv_9 (a b c : Int) (w : World) (B : Bool) (hB : B = true ↔ CdOk ⟨9, a, b, c⟩) :
    Calls Try.prog 82 #[.agg #[.int .i64 9, .int .i64 a, .int .i64 b, .int .i64 c]] w fun e w' => e = .returned (.bool B) ∧ Pure w w' := by
  have HB := Lib.hid hB; clear hB
  obtain ⟨ra, hra⟩ := regB a
  obtain ⟨rb, hrb⟩ := regB b
  have HA := Lib.hid hra; clear hra
  have HR := Lib.hid hrb; clear hrb
  cases ra
  · go_enter Try.func82, Try.ntmps82
    go_wp2_with fail
    refine (l1In_any _ _ _ _ false (by have := HA.out; simpa using this)).mono ?_
    rintro e w1 ⟨rfl, rfl⟩
    go_wp2_with fail
    refine (l1In_any _ _ _ _ rb (by have := HR.out; simpa using this)).mono ?_
    rintro e w1 ⟨rfl, rfl⟩
    go_wp2
    go_ret
    refine ⟨ret_bool ?_, (by repeat (first | assumption | exact Pure.refl _ | refine Pure.drewN ?_ _ | refine Pure.drew ?_ | refine Pure.alloc ?_ _ | refine Pure.setCell ?_ (by simp <;> omega) _))⟩
    rw [Bool.eq_iff_iff, HB.out]
    have t1 := HA.out; have t2 := HR.out
    simp only [Bool.false_eq_true, false_iff, CdOk, Reg, Word, true_and, or_true] at *
    first | omega | (constructor <;> intro h <;> omega)
  · cases rb
    · go_enter Try.func82, Try.ntmps82
      go_wp2_with fail
      refine (l1In_any _ _ _ _ true (by have := HA.out; simpa using this)).mono ?_
      rintro e w1 ⟨rfl, rfl⟩
      go_wp2_with fail
      refine (l1In_any _ _ _ _ false (by have := HR.out; simpa using this)).mono ?_
      rintro e w1 ⟨rfl, rfl⟩
      go_wp2
      go_ret
      refine ⟨ret_bool ?_, (by repeat (first | assumption | exact Pure.refl _ | refine Pure.drewN ?_ _ | refine Pure.drew ?_ | refine Pure.alloc ?_ _ | refine Pure.setCell ?_ (by simp <;> omega) _))⟩
      rw [Bool.eq_iff_iff, HB.out]
      have t1 := HA.out; have t2 := HR.out
      simp only [Bool.false_eq_true, false_iff, true_iff, CdOk, Reg, Word, true_and, or_true] at *
      first | omega | (constructor <;> intro h <;> omega)
    · go_enter Try.func82, Try.ntmps82
      go_wp2_with fail
      refine (l1In_any _ _ _ _ true (by have := HA.out; simpa using this)).mono ?_
      rintro e w1 ⟨rfl, rfl⟩
      go_wp2_with fail
      refine (l1In_any _ _ _ _ true (by have := HR.out; simpa using this)).mono ?_
      rintro e w1 ⟨rfl, rfl⟩
      go_wp2
      go_ret
      refine ⟨ret_bool ?_, (by repeat (first | assumption | exact Pure.refl _ | refine Pure.drewN ?_ _ | refine Pure.drew ?_ | refine Pure.alloc ?_ _ | refine Pure.setCell ?_ (by simp <;> omega) _))⟩
      rw [Bool.eq_iff_iff, HB.out]
      have t1 := HA.out; have t2 := HR.out
      simp only [true_iff, beq_iff_eq, CdOk, Reg, Word, true_and, or_true] at *
      first | omega | (constructor <;> intro h <;> omega)

set_option maxHeartbeats 1000000 in
theorem scv_10 (a b c : Int) (w : World) (B : Bool) (hB : B = true ↔ CdOk ⟨10, a, b, c⟩) :
    Calls Try.prog 82 #[.agg #[.int .i64 10, .int .i64 a, .int .i64 b, .int .i64 c]] w fun e w' => e = .returned (.bool B) ∧ Pure w w' := by
  have HB := Lib.hid hB; clear hB
  obtain ⟨ra, hra⟩ := regB a
  obtain ⟨rb, hrb⟩ := regB b
  have HA := Lib.hid hra; clear hra
  have HR := Lib.hid hrb; clear hrb
  by_cases ha0 : a = 0
  · have d0 : (a == 0) = true := by simp [ha0]
    have Ha0 := Lib.hid ha0; clear ha0
    by_cases hb0 : b = 0
    · have d1 : (b == 0) = true := by simp [hb0]
      have Hb0 := Lib.hid hb0; clear hb0
      go_enter Try.func82, Try.ntmps82
      go_wp2_with fail
      refine (l1In_any _ _ _ _ ra (by have := HA.out; simpa using this)).mono ?_
      rintro e w1 ⟨rfl, rfl⟩
      go_wp2_with fail
      refine (l1In_any _ _ _ _ rb (by have := HR.out; simpa using this)).mono ?_
      rintro e w1 ⟨rfl, rfl⟩
      go_wp2
      go_ret
      refine ⟨ret_bool ?_, (by repeat (first | assumption | exact Pure.refl _ | refine Pure.drewN ?_ _ | refine Pure.drew ?_ | refine Pure.alloc ?_ _ | refine Pure.setCell ?_ (by simp <;> omega) _))⟩
      rw [Bool.eq_iff_iff, HB.out]
      have t1 := HA.out; have t2 := HR.out
      simp only [beq_iff_eq, CdOk, Reg, Word, true_and, true_or] at *
      have := Ha0.out; have := Hb0.out; first | omega | (constructor <;> intro h <;> omega)
    · have d1 : (b == 0) = false := by simp [hb0]
      have Hb0 := Lib.hid hb0; clear hb0
      go_enter Try.func82, Try.ntmps82
      go_wp2_with fail
      refine (l1In_any _ _ _ _ ra (by have := HA.out; simpa using this)).mono ?_
      rintro e w1 ⟨rfl, rfl⟩
      go_wp2_with fail
      refine (l1In_any _ _ _ _ rb (by have := HR.out; simpa using this)).mono ?_
      rintro e w1 ⟨rfl, rfl⟩
      go_wp2
      go_ret
      refine ⟨ret_bool ?_, (by repeat (first | assumption | exact Pure.refl _ | refine Pure.drewN ?_ _ | refine Pure.drew ?_ | refine Pure.alloc ?_ _ | refine Pure.setCell ?_ (by simp <;> omega) _))⟩
      rw [Bool.eq_iff_iff, HB.out]
      have t1 := HA.out; have t2 := HR.out
      simp only [Bool.false_eq_true, false_iff, beq_iff_eq, CdOk, Reg, Word, true_and, true_or] at *
      have := Ha0.out; have := Hb0.out; first | omega | (constructor <;> intro h <;> omega)
  · have d0 : (a == 0) = false := by simp [ha0]
    have Ha0 := Lib.hid ha0; clear ha0
    go_enter Try.func82, Try.ntmps82
    go_wp2_with fail
    refine (l1In_any _ _ _ _ ra (by have := HA.out; simpa using this)).mono ?_
    rintro e w1 ⟨rfl, rfl⟩
    go_wp2_with fail
    refine (l1In_any _ _ _ _ rb (by have := HR.out; simpa using this)).mono ?_
    rintro e w1 ⟨rfl, rfl⟩
    go_wp2
    go_ret
    refine ⟨ret_bool ?_, (by repeat (first | assumption | exact Pure.refl _ | refine Pure.drewN ?_ _ | refine Pure.drew ?_ | refine Pure.alloc ?_ _ | refine Pure.setCell ?_ (by simp <;> omega) _))⟩
    rw [Bool.eq_iff_iff, HB.out]
    have t1 := HA.out; have t2 := HR.out
    simp only [Bool.false_eq_true, false_iff, CdOk, Reg, Word, true_and, true_or] at *
    have := Ha0.out; first | omega | (constructor <;> intro h <;> omega)

set_option maxHeartbeats 1000000 in
theorem scv_11 (a b c : Int) (w : World) (B : Bool) (hB : B = true ↔ CdOk ⟨11, a, b, c⟩) :
    Calls Try.prog 82 #[.agg #[.int .i64 11, .int .i64 a, .int .i64 b, .int .i64 c]] w fun e w' => e = .returned (.bool B) ∧ Pure w w' := by
  have HB := Lib.hid hB; clear hB
  obtain ⟨ra, hra⟩ := regB a
  obtain ⟨rb, hrb⟩ := regB b
  have HA := Lib.hid hra; clear hra
  have HR := Lib.hid hrb; clear hrb
  cases ra
  · go_enter Try.func82, Try.ntmps82
    go_wp2_with fail
    refine (l1In_any _ _ _ _ false (by have := HA.out; simpa using this)).mono ?_
    rintro e w1 ⟨rfl, rfl⟩
    go_wp2_with fail
    refine (l1In_any _ _ _ _ rb (by have := HR.out; simpa using this)).mono ?_
    rintro e w1 ⟨rfl, rfl⟩
    go_wp2
    go_ret
    refine ⟨ret_bool ?_, (by repeat (first | assumption | exact Pure.refl _ | refine Pure.drewN ?_ _ | refine Pure.drew ?_ | refine Pure.alloc ?_ _ | refine Pure.setCell ?_ (by simp <;> omega) _))⟩
    rw [Bool.eq_iff_iff, HB.out]
    have t1 := HA.out; have t2 := HR.out
    simp only [Bool.false_eq_true, false_iff, CdOk, Reg, Word, true_and, or_true] at *
    first | omega | (constructor <;> intro h <;> omega)
  · by_cases hb0 : b = 0
    · have d0 : (b == 0) = true := by simp [hb0]
      have Hb0 := Lib.hid hb0; clear hb0
      go_enter Try.func82, Try.ntmps82
      go_wp2_with fail
      refine (l1In_any _ _ _ _ true (by have := HA.out; simpa using this)).mono ?_
      rintro e w1 ⟨rfl, rfl⟩
      go_wp2_with fail
      refine (l1In_any _ _ _ _ rb (by have := HR.out; simpa using this)).mono ?_
      rintro e w1 ⟨rfl, rfl⟩
      go_wp2
      go_ret
      refine ⟨ret_bool ?_, (by repeat (first | assumption | exact Pure.refl _ | refine Pure.drewN ?_ _ | refine Pure.drew ?_ | refine Pure.alloc ?_ _ | refine Pure.setCell ?_ (by simp <;> omega) _))⟩
      rw [Bool.eq_iff_iff, HB.out]
      have t1 := HA.out; have t2 := HR.out
      simp only [true_iff, beq_iff_eq, CdOk, Reg, Word, true_and, or_true] at *
      have := Hb0.out; first | omega | (constructor <;> intro h <;> omega)
    · have d0 : (b == 0) = false := by simp [hb0]
      have Hb0 := Lib.hid hb0; clear hb0
      go_enter Try.func82, Try.ntmps82
      go_wp2_with fail
      refine (l1In_any _ _ _ _ true (by have := HA.out; simpa using this)).mono ?_
      rintro e w1 ⟨rfl, rfl⟩
      go_wp2_with fail
      refine (l1In_any _ _ _ _ rb (by have := HR.out; simpa using this)).mono ?_
      rintro e w1 ⟨rfl, rfl⟩
      go_wp2
      go_ret
      refine ⟨ret_bool ?_, (by repeat (first | assumption | exact Pure.refl _ | refine Pure.drewN ?_ _ | refine Pure.drew ?_ | refine Pure.alloc ?_ _ | refine Pure.setCell ?_ (by simp <;> omega) _))⟩
      rw [Bool.eq_iff_iff, HB.out]
      have t1 := HA.out; have t2 := HR.out
      simp only [Bool.false_eq_true, false_iff, true_iff, CdOk, Reg, Word, true_and, or_true] at *
      have := Hb0.out; first | omega | (constructor <;> intro h <;> omega)

set_option maxHeartbeats 1000000 in
theorem scv_12 (a b c : Int) (w : World) (B : Bool) (hB : B = true ↔ CdOk ⟨12, a, b, c⟩) :
    Calls Try.prog 82 #[.agg #[.int .i64 12, .int .i64 a, .int .i64 b, .int .i64 c]] w fun e w' => e = .returned (.bool B) ∧ Pure w w' := by
  have HB := Lib.hid hB; clear hB
  obtain ⟨ra, hra⟩ := regB a
  obtain ⟨rb, hrb⟩ := regB b
  have HA := Lib.hid hra; clear hra
  have HR := Lib.hid hrb; clear hrb
  by_cases ha0 : a = 0
  · have d0 : (a == 0) = true := by simp [ha0]
    have Ha0 := Lib.hid ha0; clear ha0
    by_cases hb0 : b = 0
    · have d1 : (b == 0) = true := by simp [hb0]
      have Hb0 := Lib.hid hb0; clear hb0
      go_enter Try.func82, Try.ntmps82
      go_wp2_with fail
      refine (l1In_any _ _ _ _ ra (by have := HA.out; simpa using this)).mono ?_
      rintro e w1 ⟨rfl, rfl⟩
      go_wp2_with fail
      refine (l1In_any _ _ _ _ rb (by have := HR.out; simpa using this)).mono ?_
      rintro e w1 ⟨rfl, rfl⟩
      go_wp2
      go_ret
      refine ⟨ret_bool ?_, (by repeat (first | assumption | exact Pure.refl _ | refine Pure.drewN ?_ _ | refine Pure.drew ?_ | refine Pure.alloc ?_ _ | refine Pure.setCell ?_ (by simp <;> omega) _))⟩
      rw [Bool.eq_iff_iff, HB.out]
      have t1 := HA.out; have t2 := HR.out
      simp only [beq_iff_eq, CdOk, Reg, Word, true_and, true_or, or_true] at *
      have := Ha0.out; have := Hb0.out; first | omega | (constructor <;> intro h <;> omega)
    · have d1 : (b == 0) = false := by simp [hb0]
      have Hb0 := Lib.hid hb0; clear hb0
      go_enter Try.func82, Try.ntmps82
      go_wp2_with fail
      refine (l1In_any _ _ _ _ ra (by have := HA.out; simpa using this)).mono ?_
      rintro e w1 ⟨rfl, rfl⟩
      go_wp2_with fail
      refine (l1In_any _ _ _ _ rb (by have := HR.out; simpa using this)).mono ?_
      rintro e w1 ⟨rfl, rfl⟩
      go_wp2
      go_ret
      refine ⟨ret_bool ?_, (by repeat (first | assumption | exact Pure.refl _ | refine Pure.drewN ?_ _ | refine Pure.drew ?_ | refine Pure.alloc ?_ _ | refine Pure.setCell ?_ (by simp <;> omega) _))⟩
      rw [Bool.eq_iff_iff, HB.out]
      have t1 := HA.out; have t2 := HR.out
      simp only [Bool.false_eq_true, false_iff, beq_iff_eq, CdOk, Reg, Word, true_and, true_or, or_true] at *
      have := Ha0.out; have := Hb0.out; first | omega | (constructor <;> intro h <;> omega)
  · have d0 : (a == 0) = false := by simp [ha0]
    have Ha0 := Lib.hid ha0; clear ha0
    go_enter Try.func82, Try.ntmps82
    go_wp2_with fail
    refine (l1In_any _ _ _ _ ra (by have := HA.out; simpa using this)).mono ?_
    rintro e w1 ⟨rfl, rfl⟩
    go_wp2_with fail
    refine (l1In_any _ _ _ _ rb (by have := HR.out; simpa using this)).mono ?_
    rintro e w1 ⟨rfl, rfl⟩
    go_wp2
    go_ret
    refine ⟨ret_bool ?_, (by repeat (first | assumption | exact Pure.refl _ | refine Pure.drewN ?_ _ | refine Pure.drew ?_ | refine Pure.alloc ?_ _ | refine Pure.setCell ?_ (by simp <;> omega) _))⟩
    rw [Bool.eq_iff_iff, HB.out]
    have t1 := HA.out; have t2 := HR.out
    simp only [Bool.false_eq_true, false_iff, CdOk, Reg, Word, true_and, true_or, or_true] at *
    have := Ha0.out; first | omega | (constructor <;> intro h <;> omega)

set_option maxHeartbeats 1000000 in
theorem scv_13 (a b c : Int) (w : World) (B : Bool) (hB : B = true ↔ CdOk ⟨13, a, b, c⟩) :
    Calls Try.prog 82 #[.agg #[.int .i64 13, .int .i64 a, .int .i64 b, .int .i64 c]] w fun e w' => e = .returned (.bool B) ∧ Pure w w' := by
  have HB := Lib.hid hB; clear hB
  obtain ⟨ra, hra⟩ := regB a
  obtain ⟨rb, hrb⟩ := regB b
  obtain ⟨wb, hwb⟩ := turnB b
  have HW := Lib.hid hwb; clear hwb
  have HA := Lib.hid hra; clear hra
  have HR := Lib.hid hrb; clear hrb
  cases ra
  · go_enter Try.func82, Try.ntmps82
    go_wp2_with fail
    refine (l1In_any _ _ _ _ false (by have := HA.out; simpa using this)).mono ?_
    rintro e w1 ⟨rfl, rfl⟩
    go_wp2_with fail
    refine (l1In_any _ _ _ _ rb (by have := HR.out; simpa using this)).mono ?_
    rintro e w1 ⟨rfl, rfl⟩
    go_wp2
    go_ret
    refine ⟨ret_bool ?_, (by repeat (first | assumption | exact Pure.refl _ | refine Pure.drewN ?_ _ | refine Pure.drew ?_ | refine Pure.alloc ?_ _ | refine Pure.setCell ?_ (by simp <;> omega) _))⟩
    rw [Bool.eq_iff_iff, HB.out]
    have t1 := HA.out; have t2 := HR.out; have t4 := HW.out
    simp only [Bool.false_eq_true, false_iff, CdOk, Reg, Word, true_and] at *
    first | omega | (constructor <;> intro h <;> omega)
  · cases wb
    · go_enter Try.func82, Try.ntmps82
      go_wp2_with fail
      refine (l1In_any _ _ _ _ true (by have := HA.out; simpa using this)).mono ?_
      rintro e w1 ⟨rfl, rfl⟩
      go_wp2_with fail
      refine (l1In_any _ _ _ _ rb (by have := HR.out; simpa using this)).mono ?_
      rintro e w1 ⟨rfl, rfl⟩
      go_wp2_with fail
      refine (l1In_any _ _ _ _ false (by have := HW.out; simpa using this)).mono ?_
      rintro e w1 ⟨rfl, rfl⟩
      go_wp2
      go_ret
      refine ⟨ret_bool ?_, (by repeat (first | assumption | exact Pure.refl _ | refine Pure.drewN ?_ _ | refine Pure.drew ?_ | refine Pure.alloc ?_ _ | refine Pure.setCell ?_ (by simp <;> omega) _))⟩
      rw [Bool.eq_iff_iff, HB.out]
      have t1 := HA.out; have t2 := HR.out; have t4 := HW.out
      simp only [Bool.false_eq_true, false_iff, true_iff, CdOk, Reg, Word, true_and] at *
      first | omega | (constructor <;> intro h <;> omega)
    · go_enter Try.func82, Try.ntmps82
      go_wp2_with fail
      refine (l1In_any _ _ _ _ true (by have := HA.out; simpa using this)).mono ?_
      rintro e w1 ⟨rfl, rfl⟩
      go_wp2_with fail
      refine (l1In_any _ _ _ _ rb (by have := HR.out; simpa using this)).mono ?_
      rintro e w1 ⟨rfl, rfl⟩
      go_wp2_with fail
      refine (l1In_any _ _ _ _ true (by have := HW.out; simpa using this)).mono ?_
      rintro e w1 ⟨rfl, rfl⟩
      go_wp2
      go_ret
      refine ⟨ret_bool ?_, (by repeat (first | assumption | exact Pure.refl _ | refine Pure.drewN ?_ _ | refine Pure.drew ?_ | refine Pure.alloc ?_ _ | refine Pure.setCell ?_ (by simp <;> omega) _))⟩
      rw [Bool.eq_iff_iff, HB.out]
      have t1 := HA.out; have t2 := HR.out; have t4 := HW.out
      simp only [true_iff, beq_iff_eq, CdOk, Reg, Word, true_and] at *
      first | omega | (constructor <;> intro h <;> omega)

set_option maxHeartbeats 1000000 in
theorem scv_14 (a b c : Int) (w : World) (B : Bool) (hB : B = true ↔ CdOk ⟨14, a, b, c⟩) :
    Calls Try.prog 82 #[.agg #[.int .i64 14, .int .i64 a, .int .i64 b, .int .i64 c]] w fun e w' => e = .returned (.bool B) ∧ Pure w w' := by
  have HB := Lib.hid hB; clear hB
  obtain ⟨ra, hra⟩ := regB a
  obtain ⟨rb, hrb⟩ := regB b
  have HA := Lib.hid hra; clear hra
  have HR := Lib.hid hrb; clear hrb
  by_cases ha0 : a = 0
  · have d0 : (a == 0) = true := by simp [ha0]
    have Ha0 := Lib.hid ha0; clear ha0
    by_cases hb0 : b = 0
    · have d1 : (b == 0) = true := by simp [hb0]
      have Hb0 := Lib.hid hb0; clear hb0
      go_enter Try.func82, Try.ntmps82
      go_wp2_with fail
      refine (l1In_any _ _ _ _ ra (by have := HA.out; simpa using this)).mono ?_
      rintro e w1 ⟨rfl, rfl⟩
      go_wp2_with fail
      refine (l1In_any _ _ _ _ rb (by have := HR.out; simpa using this)).mono ?_
      rintro e w1 ⟨rfl, rfl⟩
      go_wp2
      go_ret
      refine ⟨ret_bool ?_, (by repeat (first | assumption | exact Pure.refl _ | refine Pure.drewN ?_ _ | refine Pure.drew ?_ | refine Pure.alloc ?_ _ | refine Pure.setCell ?_ (by simp <;> omega) _))⟩
      rw [Bool.eq_iff_iff, HB.out]
      have t1 := HA.out; have t2 := HR.out
      simp only [beq_iff_eq, CdOk, Reg, Word, true_and, or_true] at *
      have := Ha0.out; have := Hb0.out; first | omega | (constructor <;> intro h <;> omega)
    · have d1 : (b == 0) = false := by simp [hb0]
      have Hb0 := Lib.hid hb0; clear hb0
      go_enter Try.func82, Try.ntmps82
      go_wp2_with fail
      refine (l1In_any _ _ _ _ ra (by have := HA.out; simpa using this)).mono ?_
      rintro e w1 ⟨rfl, rfl⟩
      go_wp2_with fail
      refine (l1In_any _ _ _ _ rb (by have := HR.out; simpa using this)).mono ?_
      rintro e w1 ⟨rfl, rfl⟩
      go_wp2
      go_ret
      refine ⟨ret_bool ?_, (by repeat (first | assumption | exact Pure.refl _ | refine Pure.drewN ?_ _ | refine Pure.drew ?_ | refine Pure.alloc ?_ _ | refine Pure.setCell ?_ (by simp <;> omega) _))⟩
      rw [Bool.eq_iff_iff, HB.out]
      have t1 := HA.out; have t2 := HR.out
      simp only [Bool.false_eq_true, false_iff, beq_iff_eq, CdOk, Reg, Word, true_and, or_true] at *
      have := Ha0.out; have := Hb0.out; first | omega | (constructor <;> intro h <;> omega)
  · have d0 : (a == 0) = false := by simp [ha0]
    have Ha0 := Lib.hid ha0; clear ha0
    go_enter Try.func82, Try.ntmps82
    go_wp2_with fail
    refine (l1In_any _ _ _ _ ra (by have := HA.out; simpa using this)).mono ?_
    rintro e w1 ⟨rfl, rfl⟩
    go_wp2_with fail
    refine (l1In_any _ _ _ _ rb (by have := HR.out; simpa using this)).mono ?_
    rintro e w1 ⟨rfl, rfl⟩
    go_wp2
    go_ret
    refine ⟨ret_bool ?_, (by repeat (first | assumption | exact Pure.refl _ | refine Pure.drewN ?_ _ | refine Pure.drew ?_ | refine Pure.alloc ?_ _ | refine Pure.setCell ?_ (by simp <;> omega) _))⟩
    rw [Bool.eq_iff_iff, HB.out]
    have t1 := HA.out; have t2 := HR.out
    simp only [Bool.false_eq_true, false_iff, CdOk, Reg, Word, true_and, or_true] at *
    have := Ha0.out; first | omega | (constructor <;> intro h <;> omega)

set_option maxHeartbeats 1000000 in
theorem scv_other (o a b c : Int) (ho : ¬ (1 ≤ o ∧ o ≤ 14)) (w : World) :
    Calls Try.prog 82 #[.agg #[.int .i64 o, .int .i64 a, .int .i64 b, .int .i64 c]] w fun e w' => e = .returned (.bool false) ∧ Pure w w' := by
  obtain ⟨ra, hra⟩ := regB a
  obtain ⟨rb, hrb⟩ := regB b
  have HA := Lib.hid hra; clear hra
  have HR := Lib.hid hrb; clear hrb
  have HO := Lib.hid ho; clear ho
  have d1 : (o == 1) = false := by have := HO.out; rw [beq_eq_false_iff_ne]; omega
  have d2 : (o == 2) = false := by have := HO.out; rw [beq_eq_false_iff_ne]; omega
  have d3 : (o == 3) = false := by have := HO.out; rw [beq_eq_false_iff_ne]; omega
  have d4 : (o == 4) = false := by have := HO.out; rw [beq_eq_false_iff_ne]; omega
  have d5 : (o == 5) = false := by have := HO.out; rw [beq_eq_false_iff_ne]; omega
  have d6 : (o == 6) = false := by have := HO.out; rw [beq_eq_false_iff_ne]; omega
  have d7 : (o == 7) = false := by have := HO.out; rw [beq_eq_false_iff_ne]; omega
  have d8 : (o == 8) = false := by have := HO.out; rw [beq_eq_false_iff_ne]; omega
  have d9 : (o == 9) = false := by have := HO.out; rw [beq_eq_false_iff_ne]; omega
  have d10 : (o == 10) = false := by have := HO.out; rw [beq_eq_false_iff_ne]; omega
  have d11 : (o == 11) = false := by have := HO.out; rw [beq_eq_false_iff_ne]; omega
  have d12 : (o == 12) = false := by have := HO.out; rw [beq_eq_false_iff_ne]; omega
  have d13 : (o == 13) = false := by have := HO.out; rw [beq_eq_false_iff_ne]; omega
  have d14 : (o == 14) = false := by have := HO.out; rw [beq_eq_false_iff_ne]; omega
  go_enter Try.func82, Try.ntmps82
  go_wp2_with fail
  refine (l1In_any _ _ _ _ ra (by have := HA.out; simpa using this)).mono ?_
  rintro e w1 ⟨rfl, rfl⟩
  go_wp2_with fail
  refine (l1In_any _ _ _ _ rb HR.out).mono ?_
  rintro e w1 ⟨rfl, rfl⟩
  go_wp2
  go_ret
  exact ⟨rfl, (by repeat (first | assumption | exact Pure.refl _ | refine Pure.drewN ?_ _ | refine Pure.drew ?_ | refine Pure.alloc ?_ _ | refine Pure.setCell ?_ (by simp <;> omega) _))⟩

theorem scv_any (c : Cd) (w : World) (B : Bool) (hB : B = true ↔ CdOk c) :
    Calls Try.prog 82 #[cdv c] w fun e w' => e = .returned (.bool B) ∧ Pure w w' := by
  obtain ⟨o, a, b, c⟩ := c
  by_cases ho : 1 ≤ o ∧ o ≤ 14
  · have : o = 1 ∨ o = 2 ∨ o = 3 ∨ o = 4 ∨ o = 5 ∨ o = 6 ∨ o = 7 ∨ o = 8 ∨ o = 9 ∨ o = 10 ∨ o = 11 ∨ o = 12 ∨ o = 13 ∨ o = 14 := by omega
    rcases this with rfl | rfl | rfl | rfl | rfl | rfl | rfl | rfl | rfl | rfl | rfl | rfl | rfl | rfl
    · exact scv_1 a b c w B hB
    · exact scv_2 a b c w B hB
    · exact scv_3 a b c w B hB
    · exact scv_4 a b c w B hB
    · exact scv_5 a b c w B hB
    · exact scv_6 a b c w B hB
    · exact scv_7 a b c w B hB
    · exact scv_8 a b c w B hB
    · exact scv_9 a b c w B hB
    · exact scv_10 a b c w B hB
    · exact scv_11 a b c w B hB
    · exact scv_12 a b c w B hB
    · exact scv_13 a b c w B hB
    · exact scv_14 a b c w B hB
  · have hb : B = false := by
      cases hb : B
      · rfl
      · have := hB.1 hb
        unfold CdOk at this
        simp only at this
        omega
    subst hb
    exact scv_other o a b c ho w

end Go.Proofs.Ytkolnakcgjlcgaa

namespace Go.Proofs.Ytkolnakcgjlcgaa
open Go.RowKit

theorem cdOk_mem {cs : List Cd} {k : Nat} (hk : k < cs.length) : cs.getD k default ∈ cs := by simp [List.getD_eq_getElem?_getD, hk]
theorem cdOk_all {cs : List Cd} (h : ∀ j, j < cs.length → CdOk (cs.getD j default)) : ∀ c ∈ cs, CdOk c := by
  intro c hc
  obtain ⟨j, hj, e⟩ := List.mem_iff_getElem.1 hc
  have := h j hj
  simpa [List.getD_eq_getElem?_getD, hj, e] using this

def marks (st : List (Nat × Int)) : List Value := ((st.map fun x => Value.int .i64 x.2)).reverse
theorem marks_length (st : List (Nat × Int)) : (marks st).length = st.length := by simp [marks]
theorem marks_cons (x : Nat × Int) (r : List (Nat × Int)) : marks (x :: r) = marks r ++ [.int .i64 x.2] := by simp [marks]

set_option maxHeartbeats 1000000 in
set_option maxRecDepth 100000 in
theorem spv_any (v : Value) (cs : List Cd) (w : World) (h : Codes w v cs) (hsmall : cs.length ≤ 1048576) (B : Bool) (hB : B = true ↔ PValid cs) :
    Calls Try.prog 52 #[v] w fun e w' => e = .returned (.bool B) ∧ Pure w w' := by
  have H := Lib.hid h
  have HB := Lib.hid hB
  obtain ⟨A, c, rfl, hnc, hcm⟩ := h.form
  clear h hB
  have hO0 := Lib.hid (OwnO.empty_lit (w := w) (B := w.heap.size) (e := 3) (s := 1) (Nat.le_refl _))
  go_enter Try.func52, Try.ntmps52
  go_wp2
  go_loopg [4, 3] cs.length (fun gk i q wr => ∃ (k : Nat) (st : List (Nat × Int)), gk + k = cs.length ∧ i = .int .i64 k ∧ Pure w wr ∧ sscan (cs.take k) 0 [] = some st ∧ st.length ≤ 3 ∧ OwnO wr w.heap.size 3 1 q st.length (marks st) ∧ ∀ j, j < k → CdOk (cs.getD j default))
  case atStart => exact ⟨0, [], rfl, rfl, Pure.alloc (Pure.refl _) _, by simp [sscan], by simp, hO0.out, fun j hj => absurd hj (by omega)⟩
  case round =>
    obtain ⟨k, st, hgk, rfl, hp, hsc, hst, hown, hall⟩ := hrel
    have Hgk := Lib.hid hgk
    have Hsc := Lib.hid hsc
    have Hown := Lib.hid hown
    have Hall := Lib.hid hall
    have hkn : k ≤ cs.length := by omega
    clear hgk hsc hown hall
    obtain ⟨Aq, cq, rfl⟩ := Hown.out.form
    by_cases hlt : k < cs.length
    · obtain ⟨b, o, rfl, hb, hc⟩ := H.out.at_ hlt
      obtain ⟨cd, Hcd⟩ : ∃ cd, Hid (cs.getD k default = cd) := ⟨_, rfl⟩
      have hat := hc.keep hp hb
      rw [Hcd.out] at hat
      obtain ⟨q0, q1, q2, q3⟩ := hat
      clear hc
      have Hst := Lib.hid (sscan_take hlt Hsc.out)
      have bad : sstep st k cd = none → ¬ PValid cs := fun h1 h2 => by
        have := Hst.out
        rw [Hcd.out, h1] at this
        have := sscan_none this
        rw [h2.2.2] at this
        cases this
      have Bad := Lib.hid bad
      clear bad
      have HBf : ¬ PValid cs → false = B := fun h => by
        cases hb : B
        · rfl
        · exact absurd (HB.out.1 hb) h
      have HBF := Lib.hid HBf
      clear HBf
      by_cases hok : CdOk cd
      · have Hok := Lib.hid hok; clear hok
        have Hnext : Hid (∀ j, j < k + 1 → CdOk (cs.getD j default)) := fun j hj => by
          by_cases e : j = k
          · rw [e, Hcd.out]; exact Hok.out
          · exact Hall.out j (by omega)
        go_wp2_with fail
        refine (scv_any cd _ true (by simp [Hok.out])).mono ?_
        rintro e w1 ⟨rfl, hp1⟩
        have hp2 := hp.trans hp1
        have HO1 := Lib.hid (Hown.out.pure hp1)
        have p0 := (hp1.cell b (o + k * 4) (by have := hp.size; omega)).trans q0
        clear q0 q1 q2 q3
        by_cases hopen : cd.op = 11 ∨ cd.op = 13
        · have hd : (cd.op == 11) = true ∨ ((cd.op == 11) = false ∧ (cd.op == 13) = true) := by
            rcases hopen with h | h
            · exact .inl (by simp [h])
            · exact .inr ⟨by simp [h], by simp [h]⟩
          have hstep : sstep st k cd = if st.length < 3 then some ((k, cd.op) :: st) else none := by unfold sstep; rw [if_pos hopen]
          have Hstep := Lib.hid hstep
          clear hstep hopen
          by_cases h3 : st.length < 3
          · rcases hd with hd | ⟨hd, hd2⟩
            all_goals
              go_wp2_with (at_builtin; go_must (refine wl_append1 elInt rfl _ _ rfl w.heap.size (.slice Aq st.length cq) st.length (marks st) rfl HO1.out w1.heap.size 1 [.int .i64 cd.op] rfl rfl rfl rfl (by decide) (by omega) hp2.size ?_); intro v' w' hO' hg'; go_must (have hP' := Lib.hid (hp2.grown hg' (fun k hk => (HO1.out.lt k hk).1)); have HO' := Lib.hid hO'; obtain ⟨A2, c2, rfl⟩ := HO'.out.form; clear hO' hg'))
              go_roundg (cs.length - (k + 1))
              case measure => have := Hgk.out; omega
              case rel =>
                refine ⟨k + 1, (k, cd.op) :: st, by have := Hgk.out; omega, by go_num, hP'.out, ?_, by simp; omega, ?_, Hnext.out⟩
                · rw [Hst.out, Hcd.out, Hstep.out, if_pos h3]
                · rw [marks_cons]; exact HO'.out
          · rcases hd with hd | ⟨hd, hd2⟩
            all_goals
              go_wp2_with (at_builtin; go_must (refine wl_append1 elInt rfl _ _ rfl w.heap.size (.slice Aq st.length cq) st.length (marks st) rfl HO1.out w1.heap.size 1 [.int .i64 cd.op] rfl rfl rfl rfl (by decide) (by omega) hp2.size ?_); intro v' w' hO' hg'; go_must (have hP' := Lib.hid (hp2.grown hg' (fun k hk => (HO1.out.lt k hk).1)); have HO' := Lib.hid hO'; obtain ⟨A2, c2, rfl⟩ := HO'.out.form; clear hO' hg'))
              go_ret
              exact ⟨ret_bool (HBF.out (Bad.out (by rw [Hstep.out, if_neg (by omega)]))), hP'.out⟩
        · have hd11 : (cd.op == 11) = false := by rw [beq_eq_false_iff_ne]; omega
          have hd13 : (cd.op == 13) = false := by rw [beq_eq_false_iff_ne]; omega
          have Hopen := Lib.hid hopen
          clear hopen
          by_cases h12 : cd.op = 12
          · have hd12 : (cd.op == 12) = true := by simp [h12]
            have H12 := Lib.hid h12
            clear h12
            rcases st with _ | ⟨⟨p, m⟩, r⟩
            · simp only [List.length_nil] at *
              have hz : ((0 : Nat) : Int) - 1 < 0 := by omega
              go_wp2
              go_ret
              exact ⟨ret_bool (HBF.out (Bad.out (by unfold sstep; rw [if_neg Hopen.out, if_pos H12.out]))), hp2⟩
            · obtain ⟨g, off, c2, hq, hq1, hq2, hq3, hq4⟩ := HO1.out.formSome (by simp)
              injection hq with hq5 hq6 hq7
              subst hq5 hq7
              have hcell := HO1.out.cell r.length (by simp)
              have hmk : (marks ((p, m) :: r))[r.length]? = some (.int .i64 m) := by
                rw [marks_cons, List.getElem?_append_right (by rw [marks_length]; omega), marks_length]; simp
              rw [hmk] at hcell
              have hfz := HO1.out.frozen (off + r.length)
              have hset := Lib.hid (HO1.out.stored r.length (.int .i64 12))
              have hms : (marks ((p, m) :: r)).set r.length (.int .i64 12) = marks ((p, 12) :: r) := by
                rw [marks_cons, marks_cons, List.set_append_right _ _ (by rw [marks_length]; omega), marks_length]; simp
              have Hms := Lib.hid hms
              clear hmk hms
              simp only [List.length_cons] at hst hq1 ⊢
              have hidx : ((r.length + 1 : Nat) : Int) - 1 = r.length := by omega
              have hstep : sstep ((p, m) :: r) k cd = if m = 11 then some ((p, 12) :: r) else none := by unfold sstep; rw [if_neg Hopen.out, if_pos H12.out]
              have Hstep := Lib.hid hstep
              clear hstep
              by_cases hm : m = 11
              · have hdm : (m != 11) = false := by simp [hm]
                have Hm := Lib.hid hm; clear hm
                go_wp2
                go_roundg (cs.length - (k + 1))
                case measure => have := Hgk.out; omega
                case rel =>
                  refine ⟨k + 1, (p, 12) :: r, by have := Hgk.out; omega, by go_num, hp2.setCell hq3 _, ?_, by simp; omega, ?_, Hnext.out⟩
                  · rw [Hst.out, Hcd.out, Hstep.out, if_pos Hm.out]
                  · rw [← Hms.out]
                    exact hset.out
              · have hdm : (m != 11) = true := by simp [hm]
                have Hm := Lib.hid hm; clear hm
                go_wp2
                go_ret
                exact ⟨ret_bool (HBF.out (Bad.out (by rw [Hstep.out, if_neg Hm.out]))), hp2⟩
          · have hd12 : (cd.op == 12) = false := by simp [h12]
            have H12 := Lib.hid h12
            clear h12
            by_cases h14 : cd.op = 14
            · have hd14 : (cd.op == 14) = true := by simp [h14]
              have H14 := Lib.hid h14
              clear h14
              rcases st with _ | ⟨x, r⟩
              · simp only [List.length_nil] at *
                have hz : ((0 : Nat) : Int) - 1 < 0 := by omega
                go_wp2
                go_ret
                exact ⟨ret_bool (HBF.out (Bad.out (by unfold sstep; rw [if_neg Hopen.out, if_neg H12.out, if_pos H14.out]))), hp2⟩
              · obtain ⟨g, off, c2, hq, hq1, hq2, hq3, hq4⟩ := HO1.out.formSome (by simp)
                injection hq with hq5 hq6 hq7
                subst hq5 hq7
                have htk := HO1.out.take (k := r.length) (by simp)
                have hms : (marks (x :: r)).take (r.length * 1) = marks r := by
                  rw [marks_cons, List.take_append_of_le_length (by rw [marks_length]; omega), List.take_of_length_le (by rw [marks_length]; omega)]
                rw [hms] at htk
                have Htk := Lib.hid htk
                clear hms htk
                simp only [List.length_cons] at hst hq1 ⊢
                have hstep : sstep (x :: r) k cd = some r := by unfold sstep; rw [if_neg Hopen.out, if_neg H12.out, if_pos H14.out]
                have Hstep := Lib.hid hstep
                clear hstep
                go_wp2
                go_roundg (cs.length - (k + 1))
                case measure => have := Hgk.out; omega
                case rel =>
                  refine ⟨k + 1, r, by have := Hgk.out; omega, by go_num, hp2, ?_, by omega, Htk.out, Hnext.out⟩
                  rw [Hst.out, Hcd.out, Hstep.out]
            · have hd14 : (cd.op == 14) = false := by simp [h14]
              have H14 := Lib.hid h14
              clear h14
              go_wp2
              go_roundg (cs.length - (k + 1))
              case measure => have := Hgk.out; omega
              case rel =>
                refine ⟨k + 1, st, by have := Hgk.out; omega, by go_num, hp2, ?_, hst, HO1.out, Hnext.out⟩
                rw [Hst.out, Hcd.out]; unfold sstep; rw [if_neg Hopen.out, if_neg H12.out, if_neg H14.out]
      · have Hok := Lib.hid hok; clear hok
        go_wp2_with fail
        refine (scv_any cd _ false (by simp [Hok.out])).mono ?_
        rintro e w1 ⟨rfl, hp1⟩
        go_wp2
        go_ret
        refine ⟨ret_bool (HBF.out fun hv => Hok.out ?_), hp.trans hp1⟩
        rw [← Hcd.out]; exact hv.1 _ (cdOk_mem hlt)
    · have hkl : k = cs.length := by omega
      subst hkl
      have hsc2 : sscan cs 0 [] = some st := by have := Hsc.out; rwa [List.take_length] at this
      have Hsc2 := Lib.hid hsc2
      clear hsc2
      have fin : (decide (st.length = 0) && decide (cs.length ≤ 40)) = B := by
        rw [Bool.eq_iff_iff, HB.out]
        simp only [Bool.and_eq_true, decide_eq_true_eq]
        constructor
        · rintro ⟨h1, h2⟩
          have : st = [] := List.eq_nil_of_length_eq_zero h1
          exact ⟨cdOk_all Hall.out, h2, by rw [Hsc2.out, this]⟩
        · rintro ⟨h1, h2, h3⟩
          rw [Hsc2.out] at h3
          injection h3 with h3
          exact ⟨by rw [h3]; rfl, h2⟩
      have Fin := Lib.hid fin
      clear fin
      by_cases hs0 : st.length = 0
      · have hd : ((st.length : Int) == 0) = true := by simp [hs0]
        have Hs0 := Lib.hid hs0
        clear hs0
        go_wp2
        go_ret
        refine ⟨ret_bool ?_, hp⟩
        rw [← Fin.out, decide_eq_true Hs0.out, Bool.true_and]
        rw [Bool.eq_iff_iff]; simp only [decide_eq_true_eq]; omega
      · have hd : ((st.length : Int) == 0) = false := by rw [beq_eq_false_iff_ne]; omega
        have Hs0 := Lib.hid hs0
        clear hs0
        go_wp2
        go_ret
        refine ⟨ret_bool ?_, hp⟩
        rw [← Fin.out, decide_eq_false Hs0.out, Bool.false_and]

end Go.Proofs.Ytkolnakcgjlcgaa
