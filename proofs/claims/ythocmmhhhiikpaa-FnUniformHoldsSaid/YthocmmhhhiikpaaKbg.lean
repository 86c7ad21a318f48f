/- A region that draws its order, walked by what holds of the operations that are through: each operation once, whatever the order. A region that draws its order, whose operations each yield a known value in every world that meets S, and leave such a world: whatever the order, the same values lie there behind it. The blocks whose register is uniform: the reference's and the program's. No condition. -/
import Derived.Test.YthocmmhhhiikpaaKaj
import Derived.Test.YthocmmhhhiikpaaKbf

namespace Go.Proofs.Ythocmmhhhiikpaa
open Go.RowKit

section
variable {P : Program} {ops : Array Oper} {Q : Exit → Act → World → Prop} {md : Region.Mode}
def unl (l : Array Bool) : Nat := l.toList.countP (fun b => !b)
theorem countP_set_lt : ∀ (l : List Bool) (i : Nat), l[i]? = some false → (l.set i true).countP (fun b => !b) + 1 = l.countP (fun b => !b)
  | [], _, h => by simp at h
  | b :: r, 0, h => by simp at h; subst h; simp
  | b :: r, i + 1, h => by
    have := countP_set_lt r i (by simpa using h)
    simp only [List.set_cons_succ, List.countP_cons]
    omega
theorem unl_set {l : Array Bool} {i : Nat} (h : l.getD i true = false) : unl (l.setIfInBounds i true) + 1 = unl l := by
  have hs : l.toList[i]? = some false := by
    rw [Array.getD_eq_getD_getElem?] at h
    cases he : l[i]? with
    | none => rw [he] at h; simp at h
    | some b => rw [he] at h; simp at h; subst h; simpa using he
  unfold unl
  rw [Array.toList_setIfInBounds]
  exact countP_set_lt _ _ hs
theorem unl_pos {l : Array Bool} {i : Nat} (h : l.getD i true = false) : 0 < unl l := by have := unl_set h; omega

/-- Inv holds at the region's head; each operation that may come next keeps it: so it holds behind all of them. -/
theorem any_inv (Inv : Array Bool → Act → World → Prop) (hend : ∀ l a w, Inv l a w → Region.ready md ops l = [] → Q .normal a w)
    (hstep : ∀ l a w i o, Inv l a w → ops[i]? = some o → l.getD i true = false → (∀ e ∈ o.after, Region.binds md e = true → l.getD e.on false = true) → wpList P ops (thenK Q fun b u => Inv (l.setIfInBounds i true) b u) [o] a w) :
    ∀ (f : Nat) (l : Array Bool) (a : Act) (w : World), Inv l a w → unl l ≤ f → wpAny P md ops Q f l a w
  | 0, l, a, w, h, hf => by
    have hr : Region.ready md ops l = [] := by
      rw [List.eq_nil_iff_forall_not_mem]
      intro i hi
      have := unl_pos (mem_ready.1 hi).1
      omega
    exact ⟨hr, hend l a w h hr⟩
  | f + 1, l, a, w, h, hf => by
    refine ⟨fun hr => hend l a w h hr, fun i hi => ?_⟩
    obtain ⟨h1, o, ho, h2⟩ := mem_ready.1 hi
    refine wpOp_mono (fun b u hb => any_inv Inv hend hstep f _ b u hb (by have := unl_set h1; omega)) (wpOp_of_one ho (hstep l a w i o h ho h1 h2))
theorem unl_start (n : Nat) : unl (Array.replicate n false) = n := by simp [unl, List.countP_replicate]
def backB (ops : Array Oper) : Bool := (List.range ops.size).all fun i => ((ops[i]?).map fun o => o.after.all fun e => decide (e.on < i)).getD true
/-- When nothing may come next, all are through. -/
theorem ready_nil {l : Array Bool} (hb : backB ops = true) (hl : l.size = ops.size) (h : Region.ready md ops l = []) : ∀ i, i < ops.size → l.getD i false = true := by
  intro i
  induction i using Nat.strongRecOn with
  | ind i ih =>
    intro hi
    cases hv : l.getD i false with
    | true => rfl
    | false =>
      have hn : l.getD i true = false := by
        rw [Array.getD_eq_getD_getElem?] at hv ⊢
        have : i < l.size := by omega
        simp [this] at hv ⊢; exact hv
      have ho : ops[i]? = some ops[i] := Array.getElem?_eq_getElem hi
      have hmem : i ∈ Region.ready md ops l := mem_ready.2 ⟨hn, _, ho, fun e he _ => by
        have hbi := (List.all_eq_true.1 hb) i (List.mem_range.2 hi)
        rw [ho] at hbi
        simp only [Option.map_some, Option.getD_some] at hbi
        have := (Array.all_eq_true_iff_forall_mem.1 hbi) e he
        simp at this
        exact ih e.on this (by omega)⟩
      rw [h] at hmem; cases hmem
theorem region_inv {id : Nat} {a : Act} {w : World} {l : List Oper} (hm : P.follows .mixedOrders = true) (Inv : Array Bool → Act → World → Prop) (h0 : Inv (Array.replicate l.length false) a w.drew)
    (hend : ∀ l' a w, Inv l' a w → Region.ready .any l.toArray l' = [] → Q .normal a w)
    (hstep : ∀ l' a w i o, Inv l' a w → l.toArray[i]? = some o → l'.getD i true = false → (∀ e ∈ o.after, Region.binds .any e = true → l'.getD e.on false = true) → wpList P l.toArray (thenK Q fun b u => Inv (l'.setIfInBounds i true) b u) [o] a w) :
    (Code.region id l.toArray true).wp P Q a w :=
  wp_region_any hm (any_inv Inv hend hstep _ _ _ _ h0 (by rw [unl_start]; simp))
theorem getD_setB (l : Array Bool) (i j : Nat) (h : (l.setIfInBounds i true).getD j false = true) : l.getD j false = true ∨ i = j := by
  rw [Array.getD_eq_getD_getElem?, Array.getElem?_setIfInBounds] at h
  split at h
  · right; assumption
  · left; rw [Array.getD_eq_getD_getElem?]; exact h
end

end Go.Proofs.Ythocmmhhhiikpaa

namespace Go.Proofs.Ythocmmhhhiikpaa
open Go.RowKit

def foldPut : Act → List Oper → List Value → Act
  | a, o :: r, v :: vs => foldPut (a.put o.dst v) r vs
  | a, _, _ => a
def nowhere : Exit → Act → World → Prop := fun _ _ _ => False
def PureOps (P : Program) (ops : Array Oper) (S : World → Prop) (aF : Act) : List Oper → List Value → Prop
  | o :: r, v :: vs => (∀ u, S u → wpList P ops (thenK nowhere fun b u' => S u' ∧ b = aF.put o.dst v) [o] aF u) ∧ PureOps P ops S aF r vs
  | _, _ => True
def dsts (l : List Oper) : List Tmp := l.filterMap (·.dst)
def looksB (ops : Array Oper) : Bool := (List.range ops.size).all fun i => ((ops[i]?).map fun o => (o.looksAt ops).all fun t => (List.range ops.size).all fun j => ((ops[j]?).map fun o' => o'.dst != some t || o.after.any fun e => e.on == j && Region.binds .any e).getD true).getD true
def pureB (l : List Oper) : Bool := Region.noSelect l.toArray && looksB l.toArray && decide (dsts l).Nodup
def sizeB (a : Act) (l : List Oper) : Bool := (dsts l).all fun d => decide (d < a.tmps.size)

theorem put_size (a : Act) (d : Option Tmp) (v : Value) : (a.put d v).tmps.size = a.tmps.size := by
  cases d <;> simp [Act.put]
theorem put_def (a : Act) (d : Option Tmp) (v : Value) : (a.put d v).defers = a.defers := by
  cases d <;> rfl
theorem foldPut_size : ∀ (l : List Oper) (vs : List Value) (a : Act), (foldPut a l vs).tmps.size = a.tmps.size
  | [], _, _ => rfl
  | _ :: _, [], _ => rfl
  | o :: r, v :: vs, a => by
    show (foldPut (a.put o.dst v) r vs).tmps.size = _
    rw [foldPut_size r vs, put_size]
theorem foldPut_def : ∀ (l : List Oper) (vs : List Value) (a : Act), (foldPut a l vs).defers = a.defers
  | [], _, _ => rfl
  | _ :: _, [], _ => rfl
  | o :: r, v :: vs, a => by
    show (foldPut (a.put o.dst v) r vs).defers = _
    rw [foldPut_def r vs, put_def]
theorem put_get_ne (a : Act) {d : Option Tmp} {t : Tmp} (v : Value) (h : d ≠ some t) : (a.put d v).tmps[t]? = a.tmps[t]? := by
  cases d with
  | none => rfl
  | some d => simp [Act.put, Array.getElem?_setIfInBounds_ne (show d ≠ t from fun e => h (by rw [e]))]
theorem put_get_same (a : Act) {t : Tmp} (v : Value) (h : t < a.tmps.size) : (a.put (some t) v).tmps[t]? = some v := by
  simp [Act.put, Array.getElem?_setIfInBounds_self_of_lt h]
theorem foldPut_keep : ∀ (l : List Oper) (vs : List Value) (a : Act) (t : Tmp), t ∉ dsts l → (foldPut a l vs).tmps[t]? = a.tmps[t]?
  | [], _, _, _, _ => rfl
  | _ :: _, [], _, _, _ => rfl
  | o :: r, v :: vs, a, t, h => by
    show (foldPut (a.put o.dst v) r vs).tmps[t]? = _
    have h1 : o.dst ≠ some t := fun e => h (by unfold dsts; exact List.mem_filterMap.2 ⟨o, by simp, e⟩)
    have h2 : t ∉ dsts r := fun e => h (by
      unfold dsts at e ⊢
      obtain ⟨x, hx, he⟩ := List.mem_filterMap.1 e
      exact List.mem_filterMap.2 ⟨x, by simp [hx], he⟩)
    rw [foldPut_keep r vs _ t h2, put_get_ne a v h1]
theorem foldPut_hit : ∀ (l : List Oper) (vs : List Value) (a : Act) (j : Nat) (o : Oper) (v : Value) (t : Tmp), (dsts l).Nodup → l[j]? = some o → vs[j]? = some v → o.dst = some t → t < a.tmps.size → (foldPut a l vs).tmps[t]? = some v
  | [], _, _, j, _, _, _, _, h, _, _, _ => by simp at h
  | _ :: _, [], _, j, _, _, _, _, _, h, _, _ => by simp at h
  | o :: r, v :: vs, a, 0, o', v', t, hn, h1, h2, h3, h4 => by
    simp at h1 h2
    subst h1 h2
    have e : dsts (o :: r) = t :: dsts r := by unfold dsts; simp [h3]
    rw [e] at hn
    show (foldPut (a.put o.dst v) r vs).tmps[t]? = _
    rw [foldPut_keep r vs _ t (List.nodup_cons.1 hn).1, h3, put_get_same a v h4]
  | o :: r, v :: vs, a, j + 1, o', v', t, hn, h1, h2, h3, h4 => by
    have hn' : (dsts r).Nodup := by
      unfold dsts at hn ⊢
      cases hd : o.dst with
      | none => simpa [hd] using hn
      | some d => simp [hd] at hn; exact hn.2
    exact foldPut_hit r vs (a.put o.dst v) j o' v' t hn' (by simpa using h1) (by simpa using h2) h3 (by rw [put_size]; exact h4)
theorem PureOps.get {P : Program} {ops : Array Oper} {S : World → Prop} {aF : Act} : ∀ {l : List Oper} {vs : List Value} {j : Nat} {o : Oper} {v : Value}, PureOps P ops S aF l vs → l[j]? = some o → vs[j]? = some v → ∀ u, S u → wpList P ops (thenK nowhere fun b u' => S u' ∧ b = aF.put o.dst v) [o] aF u
  | [], _, _, _, _, _, h, _ => by simp at h
  | _ :: _, [], _, _, _, _, _, h => by simp at h
  | _ :: _, _ :: _, 0, _, _, hp, h1, h2 => by
    simp at h1 h2; subst h1 h2; exact hp.1
  | _ :: _, _ :: _, j + 1, _, _, hp, h1, h2 => PureOps.get hp.2 (by simpa using h1) (by simpa using h2)
theorem put_inj {aF a : Act} {d : Option Tmp} {x v : Value} (hd : ∀ t, d = some t → t < aF.tmps.size) (h : aF.put d x = aF.put d v) : a.put d x = a.put d v := by
  cases d with
  | none => rfl
  | some t =>
    have h1 := put_get_same aF x (hd t rfl)
    rw [h, put_get_same aF v (hd t rfl)] at h1
    injection h1 with h1
    rw [h1]
theorem transfer {P : Program} {ops : Array Oper} {S : World → Prop} {Q : Exit → Act → World → Prop} {K : Act → World → Prop} {o : Oper} {a aF : Act} {v : Value} {u : World} (he : execOp a.eval o = execOp aF.eval o)
    (hw : Region.wanted o (yielded ops a.tmps) = Region.wanted o (yielded ops aF.tmps)) (hd : ∀ t, o.dst = some t → t < aF.tmps.size) (h : wpList P ops (thenK nowhere fun b u' => S u' ∧ b = aF.put o.dst v) [o] aF u)
    (hK : ∀ u', S u' → K (a.put o.dst v) u') : wpList P ops (thenK Q K) [o] a u := by
  unfold wpList at h ⊢
  rw [hw]
  split
  · rename_i hwt
    rw [if_pos hwt] at h
    rcases h with h | ⟨_, b, u', h2⟩
    · left
      unfold Oper.wp at h ⊢
      rw [he]
      generalize (execOp aF.eval o).run P u = r at h
      cases r with
      | ok n w' =>
        cases n with
        | value x => obtain ⟨h1, h2⟩ := h; show K _ _; rw [put_inj hd h2]; exact hK _ h1
        | skip => obtain ⟨h1, h2⟩ := h; show K _ _; rw [put_inj hd h2]; exact hK _ h1
        | defer d =>
          obtain ⟨_, h2⟩ := h
          exfalso
          have := congrArg Act.defers h2
          rw [put_def, put_def] at this
          exact absurd (congrArg List.length this) (by simp)
        | enter f xs =>
          refine Calls.mono h fun e w'' k => ?_
          cases e with
          | returned x => obtain ⟨h1, h2⟩ := k; show K _ _; rw [put_inj hd h2]; exact hK _ h1
          | panicked c => exact (k : False).elim
          | outgrown => obtain ⟨_, _, k⟩ := k; exact (k : False).elim
        | row r xs =>
          refine Rows.mono h fun x w'' k => ?_
          obtain ⟨h1, h2⟩ := k; show K _ _; rw [put_inj hd h2]; exact hK _ h1
        | _ => exact (h : False).elim
      | halt x w' => cases x <;> exact (h : False).elim
    · exact (h2 : False).elim
  · rename_i hwt
    rw [if_neg hwt] at h
    obtain ⟨h1, h2⟩ := h
    show K _ _
    rw [put_inj hd h2]
    exact hK _ h1
theorem eval_eq {a aF : Act} {x : Operand} (h : ∀ t, x = .tmp t → a.tmps[t]? = aF.tmps[t]?) : a.eval x = aF.eval x := by
  cases x with
  | tmp t => simp [Act.eval, h t rfl]
  | _ => rfl
theorem wanted_eq {ops : Array Oper} {o : Oper} {a aF : Act} (h : ∀ t ∈ o.looksAt ops, a.tmps[t]? = aF.tmps[t]?) : Region.wanted o (yielded ops a.tmps) = Region.wanted o (yielded ops aF.tmps) := by
  unfold Region.wanted
  cases hg : o.guard with
  | none => rfl
  | some gw =>
    obtain ⟨g, want⟩ := gw
    have hy : yielded ops a.tmps g = yielded ops aF.tmps g := by
      unfold yielded
      cases ht : (ops[g]?).bind (·.dst) with
      | none => rfl
      | some t =>
        have := h t (by simp [Oper.looksAt, hg, ht])
        simp only [Option.bind_some, this]
    simp only [hy]
theorem looksB_spec {ops : Array Oper} (h : looksB ops = true) {i j : Nat} {o o' : Oper} {t : Tmp} (ho : ops[i]? = some o) (ht : t ∈ o.looksAt ops) (ho' : ops[j]? = some o') (hd : o'.dst = some t) : ∃ e ∈ o.after, e.on = j ∧ Region.binds .any e = true := by
  have hi := (Array.getElem?_eq_some_iff.1 ho).1
  have hj := (Array.getElem?_eq_some_iff.1 ho').1
  have h1 := (List.all_eq_true.1 h) i (List.mem_range.2 hi)
  rw [ho] at h1
  simp only [Option.map_some, Option.getD_some] at h1
  have h2 := (List.all_eq_true.1 ((List.all_eq_true.1 h1) t ht)) j (List.mem_range.2 hj)
  rw [ho'] at h2
  simp only [Option.map_some, Option.getD_some, hd, bne_self_eq_false, Bool.false_or] at h2
  obtain ⟨k, hk, h3⟩ := Array.any_eq_true.1 h2
  simp only [Bool.and_eq_true, beq_iff_eq] at h3
  exact ⟨o.after[k], Array.getElem_mem hk, h3⟩

theorem getD_setS' (l : Array Bool) (i j : Nat) (h : (l.setIfInBounds i true).getD j false = true) (hij : i ≠ j) : l.getD j false = true := (getD_setB l i j h).resolve_right hij

theorem region_pure {P : Program} {id : Nat} {Q : Exit → Act → World → Prop} {a : Act} {w : World} {l : List Oper} (vals : List Value) (S : World → Prop) (hm : P.follows .mixedOrders = true) (hB : pureB l = true) (hl : vals.length = l.length) (hz : sizeB a l = true)
    (hS : S w.drew) (hops : PureOps P l.toArray S (foldPut a l vals) l vals) (hend : ∀ u, S u → Q .normal (foldPut a l vals) u) (hback : backB l.toArray = true) : (Code.region id l.toArray true).wp P Q a w := by
  simp only [pureB, Bool.and_eq_true, decide_eq_true_eq] at hB
  obtain ⟨⟨hsel, hlook⟩, hnd⟩ := hB
  have hsz : ∀ o ∈ l, ∀ t, o.dst = some t → t < a.tmps.size := fun o ho t ht => by
    have := (List.all_eq_true.1 hz) t (List.mem_filterMap.2 ⟨o, ho, ht⟩)
    simpa using this
  have hval : ∀ j o, l[j]? = some o → ∃ v, vals[j]? = some v := fun j o ho => by
    have : j < vals.length := by have := (List.getElem?_eq_some_iff.1 ho).1; omega
    exact ⟨vals[j], List.getElem?_eq_getElem this⟩
  refine region_inv hm (fun l' b u => S u ∧ b.defers = a.defers ∧ b.tmps.size = a.tmps.size ∧ l'.size = l.length ∧ (∀ j o t, l[j]? = some o → o.dst = some t → l'.getD j false = true → b.tmps[t]? = (foldPut a l vals).tmps[t]?) ∧ ∀ t, t ∉ dsts l → b.tmps[t]? = (foldPut a l vals).tmps[t]?) ?_ ?_ ?_
  · refine ⟨hS, rfl, rfl, by simp, fun j o t _ _ h => ?_, fun t ht => (foldPut_keep l vals a t ht).symm⟩
    rw [Array.getD_eq_getD_getElem?] at h
    by_cases hj : j < l.length
    · simp [hj] at h
    · simp [hj] at h
  · rintro l' b u ⟨h1, h2, h3, h4, h5, h6⟩ hr
    have hall := ready_nil hback (by simpa using h4) hr
    have : b = foldPut a l vals := by
      have ht : b.tmps = (foldPut a l vals).tmps := by
        apply Array.ext_getElem?
        intro t
        by_cases ht : t ∈ dsts l
        · obtain ⟨o, ho, hd⟩ := List.mem_filterMap.1 ht
          obtain ⟨j, hj, rfl⟩ := List.getElem_of_mem ho
          exact h5 j l[j] t (List.getElem?_eq_getElem hj) hd (hall j (by simpa using hj))
        · exact h6 t ht
      have hd : b.defers = (foldPut a l vals).defers := by rw [h2, foldPut_def]
      cases b
      cases hF : foldPut a l vals
      rw [hF] at ht hd
      simp only at ht hd
      rw [ht, hd]
    rw [this]
    exact hend u h1
  · rintro l' b u i o ⟨h1, h2, h3, h4, h5, h6⟩ ho hun hdep
    have ho' : l[i]? = some o := by simpa using ho
    obtain ⟨v, hv⟩ := hval i o ho'
    have hlooks : ∀ t ∈ o.looksAt l.toArray, b.tmps[t]? = (foldPut a l vals).tmps[t]? := fun t ht => by
      by_cases hd : t ∈ dsts l
      · obtain ⟨oj, hoj, hdj⟩ := List.mem_filterMap.1 hd
        obtain ⟨j, hj, rfl⟩ := List.getElem_of_mem hoj
        obtain ⟨e, he, e1, e2⟩ := looksB_spec hlook ho ht (show l.toArray[j]? = some l[j] by simp [hj]) hdj
        exact h5 j _ t (List.getElem?_eq_getElem hj) hdj (by rw [← e1]; exact hdep e he e2)
      · exact h6 t hd
    refine transfer (execOp_congr o (fun cs c => Region.noSelect_spec hsel i o cs c ho) fun x hx => eval_eq fun t ht => hlooks t ?_) (wanted_eq hlooks) (fun t ht => by rw [foldPut_size]; exact hsz o (List.mem_of_getElem? ho') t ht) (PureOps.get hops ho' hv u h1) fun u' hu' => ?_
    · subst ht
      exact List.mem_append_left _ (List.mem_filterMap.2 ⟨.tmp t, by simpa using hx, rfl⟩)
    · refine ⟨hu', by rw [put_def, h2], by rw [put_size, h3], by simpa using h4, fun j oj t hj hdj hlj => ?_, fun t ht => ?_⟩
      · by_cases hij : i = j
        · subst hij
          rw [ho'] at hj
          injection hj with hj
          subst hj
          have hlt := hsz o (List.mem_of_getElem? ho') t hdj
          rw [foldPut_hit l vals a i o v t hnd ho' hv hdj hlt, hdj, put_get_same b v (by rw [h3]; exact hlt)]
        · by_cases hdd : o.dst = some t
          · exfalso
            have hlt := hsz o (List.mem_of_getElem? ho') t hdd
            -- two operations with the same slot
            have : ∀ (l : List Oper) (i j : Nat) (x y : Oper), (dsts l).Nodup → l[i]? = some x → l[j]? = some y → x.dst = some t → y.dst = some t → i = j := by
              intro l
              induction l with
              | nil => intro i j x y _ h; simp at h
              | cons z r ih =>
                intro i j x y hn hx hy dx dy
                have hn' : (dsts r).Nodup := by
                  unfold dsts at hn ⊢
                  cases hd : z.dst with
                  | none => simpa [hd] using hn
                  | some d => simp [hd] at hn; exact hn.2
                have hz0 : z.dst = some t → t ∉ dsts r := fun e => by
                  have : dsts (z :: r) = t :: dsts r := by unfold dsts; simp [e]
                  rw [this] at hn
                  exact (List.nodup_cons.1 hn).1
                cases i with
                | zero =>
                  cases j with
                  | zero => rfl
                  | succ j =>
                    simp at hx hy; subst hx
                    exact absurd (List.mem_filterMap.2 ⟨y, List.mem_of_getElem? hy, dy⟩) (hz0 dx)
                | succ i =>
                  cases j with
                  | zero =>
                    simp at hx hy; subst hy
                    exact absurd (List.mem_filterMap.2 ⟨x, List.mem_of_getElem? hx, dx⟩) (hz0 dy)
                  | succ j => rw [ih i j x y hn' (by simpa using hx) (by simpa using hy) dx dy]
            exact hij (this l i j o oj hnd ho' hj hdd hdj)
          · rw [put_get_ne b v hdd]
            exact h5 j oj t hj hdj (getD_setS' l' i j hlj hij)
      · have hdd : o.dst ≠ some t := fun e => ht (List.mem_filterMap.2 ⟨o, List.mem_of_getElem? ho', e⟩)
        rw [put_get_ne b v hdd]
        exact h6 t ht

end Go.Proofs.Ythocmmhhhiikpaa

namespace Go.Proofs.Ythocmmhhhiikpaa
open Go.RowKit

theorem uni_mem_lt : ∀ (t : Tr) (u : Nat), t.Ok → u < 16 → ∀ x ∈ (uni t u).2, x < 16
  | .nil, _, _, _ => fun x hx => by simp [uni_nil] at hx
  | .op c k, u, h, hu => fun x hx => by
    rw [uni_op] at hx
    rcases List.mem_cons.1 hx with rfl | hx
    · exact hu
    · exact uni_mem_lt k _ h.2 (uCode_lt h.1.1 hu) x hx
  | .ite a t k, u, h, hu => fun x hx => by
    rw [uni_ite] at hx
    have hv : uIf a t u < 16 := by unfold uIf; split; exact and_lt16 hu; exact del_lt' hu
    rcases List.mem_cons.1 hx with rfl | hx
    · exact hu
    rcases List.mem_append.1 hx with hx | hx
    · exact uni_mem_lt t u h.2.1 hu x hx
    rcases List.mem_cons.1 hx with rfl | hx
    · decide
    · exact uni_mem_lt k _ h.2.2 hv x hx
  | .itee a t e k, u, h, hu => fun x hx => by
    rw [uni_itee] at hx
    have hv : uIfe a t e u < 16 := by unfold uIfe; split; exact and_lt16 (uni_lt t u h.2.1 hu); exact del_lt' hu
    rcases List.mem_cons.1 hx with rfl | hx
    · exact hu
    rcases List.mem_append.1 hx with hx | hx
    · exact uni_mem_lt t u h.2.1 hu x hx
    rcases List.mem_cons.1 hx with rfl | hx
    · decide
    rcases List.mem_append.1 hx with hx | hx
    · exact uni_mem_lt e u h.2.2.1 hu x hx
    rcases List.mem_cons.1 hx with rfl | hx
    · decide
    · exact uni_mem_lt k _ h.2.2.2 hv x hx
  | .loop a b t k, u, h, hu => fun x hx => by
    rw [uni_loop] at hx
    have hh : uHead t u < 16 := Nat.lt_of_le_of_lt (uHead_le t u) hu
    have hv : uLoop a t u < 16 := by unfold uLoop; split; exact hh; exact del_lt' hu
    rcases List.mem_cons.1 hx with rfl | hx
    · exact hu
    rcases List.mem_append.1 hx with hx | hx
    · exact uni_mem_lt t _ h.2.2.1 hh x hx
    rcases List.mem_cons.1 hx with rfl | hx
    · decide
    · exact uni_mem_lt k _ h.2.2.2 hv x hx
/-- The set at a place. -/
def usL (cs : List Cd) (t : Tr) (j : Nat) : Nat := lay cs (fun _ => 0) 0 (uni t 15).2 j
theorem usL_lt {cs : List Cd} {t : Tr} (h : t.Ok) (j : Nat) : usL cs t j < 16 := by
  unfold usL lay
  split
  · rename_i hj
    rw [Nat.sub_zero, List.getD_eq_getElem?_getD, List.getElem?_eq_getElem (by omega)]
    exact uni_mem_lt t 15 h (by omega) _ (List.getElem_mem _)
  · show 0 < 16
    decide
def isUB (cs : List Cd) (t : Tr) (k : Nat) : Bool := decide (Opens (cs.getD k default)) && (usL cs t k).testBit (cs.getD k default).a.toNat
def ubs (cs : List Cd) (t : Tr) : Nat → List Int
  | 0 => []
  | k + 1 => if isUB cs t k then ubs cs t k ++ [(k : Int)] else ubs cs t k
theorem ubs_len (cs : List Cd) (t : Tr) : ∀ n, (ubs cs t n).length ≤ n
  | 0 => Nat.le_refl _
  | n + 1 => by
    have := ubs_len cs t n
    show (if isUB cs t n then ubs cs t n ++ [(n : Int)] else ubs cs t n).length ≤ n + 1
    split
    · simp; omega
    · omega
def UbP (cs : List Cd) (xs : List Int) : Prop := (∀ hv : PValid cs, xs = ubs cs hv.tree.choose cs.length) ∧ (¬ PValid cs → xs = [])
theorem UbP.unique {cs : List Cd} {xs ys : List Int} (h : UbP cs xs) (k : UbP cs ys) : xs = ys := by
  by_cases hv : PValid cs
  · rw [h.1 hv, k.1 hv]
  · rw [h.2 hv, k.2 hv]
theorem us_sets {w : World} {B : Nat} {v : Value} {cs : List Cd} {t : Tr} {n : Nat} (hn : n = cs.length) (h : OwnO w B 3 1 v n ((usOf cs t).map (.int .i64))) : Cells w v n 1 (fun j => .int .i64 (usL cs t j : Nat)) := by
  refine Cells.of_ownO h fun j hj => ?_
  rw [us_val]
  have : j < cs.length := by omega
  simp [this, usL]

set_option maxHeartbeats 4000000 in
set_option maxRecDepth 100000 in
theorem iub_any (v : Value) (cs : List Cd) (w : World) (h : Codes w v cs) (hlen : cs.length ≤ 1048576) :
    Calls Try.prog 20 #[v] w (ResInts (UbP cs) w) := by
  have H := Lib.hid h
  obtain ⟨A, c, rfl, hnc, hcm⟩ := h.form
  clear h
  by_cases hv : PValid cs
  · have HV := Lib.hid hv
    have hsmall := hv.2.1
    clear hv
    go_enter Try.func20, Try.ntmps20
    go_wp2_with fail
    refine (ipv_any _ cs _ H.out hlen true (by simp [HV.out])).mono ?_
    rintro e w1 ⟨rfl, hp1⟩
    go_wp2_with fail
    refine (ius_ok _ cs _ (H.out.keep hp1) HV.out).mono ?_
    rintro e w2 ⟨v2, xs, rfl, h1, h2, h3, h4⟩
    obtain rfl := h1.1 HV.out
    have hpw2 := hp1.trans h4
    have hf := HV.out.tree.choose_spec
    obtain ⟨t, Ht⟩ : ∃ t, Hid (HV.out.tree.choose = t) := ⟨_, rfl⟩
    rw [Ht.out] at hf h3
    have HFT := Lib.hid hf
    have hul : (usOf cs t).length = cs.length := by simp [usOf]
    rw [hul] at h3
    have HS := Lib.hid (us_sets rfl h3)
    obtain ⟨A2, c2, rfl⟩ := h3.form
    have HLT := Lib.hid (fun j => usL_lt (cs := cs) hf.2.1 j)
    clear h1 h2 h3 hf hul h4
    go_wp2
    go_loopg [13, 3] cs.length (fun gk i q wr => ∃ k : Nat, gk + k = cs.length ∧ i = .int .i64 k ∧ OwnO wr w2.heap.size 3 1 q (ubs cs t k).length ((ubs cs t k).map (.int .i64)) ∧ Pure w2 wr)
    case atStart => exact ⟨0, rfl, rfl, OwnO.of_own (World.ownsRow_nil _ _ _ _), Pure.refl _⟩
    case round =>
      obtain ⟨k, hgk, rfl, hq, hp⟩ := hrel
      have Hgk := Lib.hid hgk
      have HQ := Lib.hid hq
      have hkn : k ≤ cs.length := by omega
      have hpw := hpw2.trans hp
      have hdl := ubs_len cs t k
      clear hgk
      obtain ⟨Aq, cq, rfl⟩ := hq.form
      clear hq
      by_cases hlt : k < cs.length
      · obtain ⟨b, o, rfl, hb, hc⟩ := H.out.at_ hlt
        obtain ⟨cd, Hcd⟩ : ∃ cd, Hid (cs.getD k default = cd) := ⟨_, rfl⟩
        rw [Hcd.out] at hc
        have hok : CdOk cd := by rw [← Hcd.out]; exact HV.out.1 _ (cdOk_mem hlt)
        obtain ⟨op, ca, cb, cc⟩ := cd
        obtain ⟨q0, q1, q2, q3⟩ := hc.keep hpw hb
        obtain ⟨⟨ha0, ha3⟩, _⟩ := hok.regs
        obtain ⟨an, rfl⟩ := Int.eq_ofNat_of_zero_le ha0
        have han : an < 4 := by omega
        obtain ⟨As, cs', hvs, _, _, h6⟩ := Cells.keep HS.out hp
        injection hvs with e1 e2 e3
        subst e1 e3
        obtain ⟨bs, os, rfl, hbs, hcs⟩ := h6 (by omega)
        have r2 : wr.cell? ⟨bs, os + k, none⟩ = some (.int .i64 (usL cs t k : Nat)) := hcs k (by omega)
        have hu16 := HLT.out k
        obtain ⟨u, Hu⟩ : ∃ u, Hid (usL cs t k = u) := ⟨_, rfl⟩
        rw [Hu.out] at r2 hu16
        have hbit := bit16 hu16 han
        obtain ⟨D, HD⟩ : ∃ D, Hid (u.testBit an = D) := ⟨_, rfl⟩
        rw [HD.out] at hbit
        have hN : ubs cs t (k + 1) = if decide (op = 11 ∨ op = 13) && D then ubs cs t k ++ [(k : Int)] else ubs cs t k := by
          show (if isUB cs t k then ubs cs t k ++ [(k : Int)] else ubs cs t k) = _
          unfold isUB
          rw [Hcd.out, Hu.out]
          show (if decide (op = 11 ∨ op = 13) && u.testBit ((an : Int)).toNat then _ else _) = _
          rw [Int.toNat_natCast, HD.out]
        have HN := Lib.hid hN
        have HX := Lib.hid (UBox.new wr ⟨op, an, cb, cc⟩ (Pure.refl _))
        obtain ⟨y0, y1, y2, y3⟩ := HX.out.1
        have hpx := hp.trans HX.out.2
        simp only at y0 y1 y2 y3 q0 q1 q2 q3
        have HQ2 := Lib.hid (HQ.out.pure HX.out.2)
        have HPX := Lib.hid hpx
        clear hN h6 hcs hc hok
        by_cases hop : op = 11 ∨ op = 13
        · cases D
          · have hbit' : bits .and .i64 ((u : Int) / 2 ^ an) 1 = 0 := hbit
            have HN2 : Hid (ubs cs t (k + 1) = ubs cs t k) := Lib.hid (by rw [HN.out]; simp)
            clear hbit
            rcases hop with rfl | rfl
            all_goals
              go_wp2
              go_roundg (cs.length - (k + 1))
              case measure => have := Hgk.out; omega
              case rel => exact ⟨k + 1, by have := Hgk.out; omega, by go_num, by rw [HN2.out]; exact HQ2.out, HPX.out⟩
          · have hbit' : bits .and .i64 ((u : Int) / 2 ^ an) 1 = 1 := hbit
            have HN2 : Hid (ubs cs t (k + 1) = ubs cs t k ++ [(k : Int)]) := Lib.hid (by rw [HN.out]; simp [hop])
            clear hbit
            rcases hop with rfl | rfl
            all_goals
              go_wp2_with (at_builtin; go_must (refine wl_append1F elInt rfl _ _ rfl w2.heap.size _ (ubs cs t k).length ((ubs cs t k).map (.int .i64)) rfl HQ2.out (wr.heap.size + 1) 1 [.int .i64 (k : Int)] rfl (by simp) rfl rfl (by decide) (by omega) HPX.out.size ?_); intro q' wq hq' hg' _; have HQ' := Lib.hid hq'; have HPQ := Lib.hid (Pure.grown HPX.out hg' (fun g hg => (HQ2.out.lt g hg).1)); clear hq' hg')
              go_roundg (cs.length - (k + 1))
              case measure => have := Hgk.out; omega
              case rel =>
                refine ⟨k + 1, by have := Hgk.out; omega, by go_num, ?_, HPQ.out⟩
                rw [HN2.out]
                have := HQ'.out
                simpa using this
        · have d11 : (op == 11) = false := by rw [beq_eq_false_iff_ne]; exact fun e => hop (.inl e)
          have d13 : (op == 13) = false := by rw [beq_eq_false_iff_ne]; exact fun e => hop (.inr e)
          have HN2 : Hid (ubs cs t (k + 1) = ubs cs t k) := Lib.hid (by rw [HN.out, decide_eq_false hop]; rfl)
          clear hop hbit
          go_wp2
          go_roundg (cs.length - (k + 1))
          case measure => have := Hgk.out; omega
          case rel => exact ⟨k + 1, by have := Hgk.out; omega, by go_num, by rw [HN2.out]; exact HQ2.out, HPX.out⟩
      · have hkl : k = cs.length := by omega
        subst hkl
        go_wp2
        go_ret
        exact ⟨_, ubs cs t cs.length, rfl, ⟨fun _ => by rw [Ht.out], fun hn => absurd HV.out hn⟩, by omega, OwnO.base HQ.out hpw2.size, hpw⟩
  · have HV := Lib.hid hv
    clear hv
    go_enter Try.func20, Try.ntmps20
    go_wp2_with fail
    refine (ipv_any _ cs _ H.out hlen false (by simp [HV.out])).mono ?_
    rintro e w1 ⟨rfl, hp1⟩
    go_wp2
    go_ret
    exact ⟨_, [], rfl, ⟨fun h => absurd h HV.out, fun _ => rfl⟩, by simp, OwnO.of_own (World.ownsRow_nil _ _ _ _), hp1⟩

set_option maxHeartbeats 4000000 in
set_option maxRecDepth 100000 in
theorem sub_any (v : Value) (cs : List Cd) (w : World) (h : Codes w v cs) (hlen : cs.length ≤ 1048576) :
    Calls Try.prog 19 #[v] w (ResInts (UbP cs) w) := by
  have H := Lib.hid h
  obtain ⟨A, c, rfl, hnc, hcm⟩ := h.form
  clear h
  have HO0 : Hid (OwnO (w.alloc (.cells #[] 3)) w.heap.size 3 1 (.slice (some ⟨w.heap.size, 0, none⟩) 0 0) 0 []) := Lib.hid (OwnO.empty_lit (Nat.le_refl _))
  have HP0 : Hid (Pure w (w.alloc (.cells #[] 3))) := Lib.hid (Pure.alloc (Pure.refl _) _)
  go_enter Try.func19, Try.ntmps19
  go_wp2_with fail
  refine (sus_any _ cs _ (H.out.keep HP0.out) hlen).mono ?_
  rintro e w1 ⟨v1, xs, rfl, h1, h2, h3, hp1⟩
  have hpw1 := HP0.out.trans hp1
  have HPW1 := Lib.hid hpw1
  have HOE := Lib.hid (HO0.out.pure hp1)
  by_cases hv : PValid cs
  · have HV := Lib.hid hv
    have hsmall := hv.2.1
    obtain rfl := h1.1 HV.out
    have hf := HV.out.tree.choose_spec
    obtain ⟨t, Ht⟩ : ∃ t, Hid (HV.out.tree.choose = t) := ⟨_, rfl⟩
    rw [Ht.out] at hf h3
    have hul : (usOf cs t).length = cs.length := by simp [usOf]
    rw [hul] at h3
    have HS := Lib.hid (us_sets rfl h3)
    obtain ⟨A2, c2, rfl⟩ := h3.form
    have HLT := Lib.hid (fun j => usL_lt (cs := cs) hf.2.1 j)
    clear h1 h2 h3 hf hul hp1 hv
    go_wp2
    go_loopg [5, 3] cs.length (fun gk i q wr => ∃ k : Nat, gk + k = cs.length ∧ i = .int .i64 k ∧ OwnE (.slice (some ⟨w.heap.size, 0, none⟩) 0 0) wr w1.heap.size 3 1 q (ubs cs t k).length ((ubs cs t k).map (.int .i64)) ∧ Pure w1 wr)
    case atStart => exact ⟨0, rfl, rfl, OwnE.start _ _ _ _ _, Pure.refl _⟩
    case round =>
      obtain ⟨k, hgk, rfl, hq, hp⟩ := hrel
      have Hgk := Lib.hid hgk
      have HQ := Lib.hid hq
      have hkn : k ≤ cs.length := by omega
      have hpw := hpw1.trans hp
      have hdl := ubs_len cs t k
      clear hgk
      obtain ⟨Aq, cq, rfl⟩ := hq.form
      clear hq
      by_cases hlt : k < cs.length
      · obtain ⟨b, o, rfl, hb, hc⟩ := H.out.at_ hlt
        obtain ⟨cd, Hcd⟩ : ∃ cd, Hid (cs.getD k default = cd) := ⟨_, rfl⟩
        rw [Hcd.out] at hc
        have hok : CdOk cd := by rw [← Hcd.out]; exact HV.out.1 _ (cdOk_mem hlt)
        obtain ⟨op, ca, cb, cc⟩ := cd
        obtain ⟨q0, q1, q2, q3⟩ := hc.keep hpw hb
        obtain ⟨⟨ha0, ha3⟩, _⟩ := hok.regs
        obtain ⟨an, rfl⟩ := Int.eq_ofNat_of_zero_le ha0
        have han : an < 4 := by omega
        obtain ⟨As, cs', hvs, hs1, hs2, h6⟩ := Cells.keep HS.out hp
        injection hvs with e1 e2 e3
        subst e1 e3
        obtain ⟨bs, os, rfl, hbs, hcs⟩ := h6 (by omega)
        have r2 : wr.cell? ⟨bs, os + k, none⟩ = some (.int .i64 (usL cs t k : Nat)) := hcs k (by omega)
        have hu16 := HLT.out k
        obtain ⟨u, Hu⟩ : ∃ u, Hid (usL cs t k = u) := ⟨_, rfl⟩
        rw [Hu.out] at r2 hu16
        have hnn := digit_nonneg u an
        have hbit := digit_eq1 u an
        obtain ⟨D, HD⟩ : ∃ D, Hid (u.testBit an = D) := ⟨_, rfl⟩
        rw [HD.out] at hbit
        obtain ⟨B, HB⟩ : ∃ B, Hid (decide (Opens ⟨op, an, cb, cc⟩) = B) := ⟨_, rfl⟩
        have hN : ubs cs t (k + 1) = if B && D then ubs cs t k ++ [(k : Int)] else ubs cs t k := by
          show (if isUB cs t k then ubs cs t k ++ [(k : Int)] else ubs cs t k) = _
          unfold isUB
          rw [Hcd.out, Hu.out, HB.out]
          show (if B && u.testBit ((an : Int)).toNat then _ else _) = _
          rw [Int.toNat_natCast, HD.out]
        have HN := Lib.hid hN
        have hbw : b < wr.heap.size := Nat.lt_of_lt_of_le hb hpw.size
        have HL4 : Hid (∀ x : World, Calls Try.prog 39 #[cdv ⟨op, an, cb, cc⟩] x fun e w' => e = .returned (.bool B) ∧ Pure x w') := Lib.hid fun x => l4Opens_any _ x B (by rw [← HB.out]; simp)
        have hkl : (k : Int) < (cs.length : Int) := by omega
        have hkl0 : (0 : Int) ≤ (k : Int) := by omega
        simp only at q0 q1 q2 q3
        clear hN h6 hcs hc hok
        go_wp2
        cases B
        · have HN2 : Hid (ubs cs t (k + 1) = ubs cs t k) := Lib.hid (by rw [HN.out]; rfl)
          refine region_pure [.slice (some ⟨b, o, none⟩) cs.length c, .int .i64 (k : Int), .pointer (some ⟨b, o + k * 4, none⟩), cdv ⟨op, an, cb, cc⟩, .bool false, .bool false, undef, undef, undef, undef, undef, undef, undef, undef, undef, undef, undef, undef, .bool false] (Pure wr) (by kernel_rfl) (by kernel_rfl) rfl (by kernel_rfl) (Pure.drew (Pure.refl _)) ?_ ?_ (by kernel_rfl)
          · simp only [foldPut, Act.put, List.setIfInBounds_toArray, List.set_cons_succ, List.set_cons_zero]
            refine ⟨fun u hu => ?_, fun u hu => ?_, fun u hu => ?_, fun u hu => ?_, fun u hu => ?_, fun u hu => ?_, fun u hu => ?_, fun u hu => ?_, fun u hu => ?_, fun u hu => ?_, fun u hu => ?_, fun u hu => ?_, fun u hu => ?_, fun u hu => ?_, fun u hu => ?_, fun u hu => ?_, fun u hu => ?_, fun u hu => ?_, fun u hu => ?_, trivial⟩
            all_goals
              have q0u := (hu.cell _ _ hbw).trans q0
              have q1u := (hu.cell _ _ hbw).trans q1
              have q2u := (hu.cell _ _ hbw).trans q2
              have q3u := (hu.cell _ _ hbw).trans q3
              go_wp2_with (go_at_call 39; refine (HL4.out _).mono ?_; rintro e w5 ⟨rfl, hp5⟩; have hu := hu.trans hp5)
              exact ⟨by assumption, rfl⟩
          · intro u hu
            simp only [foldPut, Act.put, List.setIfInBounds_toArray, List.set_cons_succ, List.set_cons_zero]
            go_wp2
            go_roundg (cs.length - (k + 1))
            case measure => have := Hgk.out; omega
            case rel => exact ⟨k + 1, by have := Hgk.out; omega, by go_num, by rw [HN2.out]; exact HQ.out.pure hu, hp.trans hu⟩
        · have hbsw : bs < wr.heap.size := hbs
          have HN2 : Hid (ubs cs t (k + 1) = if D then ubs cs t k ++ [(k : Int)] else ubs cs t k) := Lib.hid (by rw [HN.out]; rfl)
          refine region_pure [.slice (some ⟨b, o, none⟩) cs.length c, .int .i64 (k : Int), .pointer (some ⟨b, o + k * 4, none⟩), cdv ⟨op, an, cb, cc⟩, .bool true, .bool true, .slice (some ⟨bs, os, none⟩) cs.length c2, .int .i64 (k : Int), .pointer (some ⟨bs, os + k, none⟩), .int .i64 (u : Int), .slice (some ⟨b, o, none⟩) cs.length c, .int .i64 (k : Int), .pointer (some ⟨b, o + k * 4, none⟩), .pointer (some ⟨b, o + k * 4 + 1, none⟩), .int .i64 (an : Int), .int .i64 ((u : Int) / 2 ^ an), .int .i64 (((u : Int) / 2 ^ an) % 2), .bool D, .bool D] (Pure wr) (by kernel_rfl) (by kernel_rfl) rfl (by kernel_rfl) (Pure.drew (Pure.refl _)) ?_ ?_ (by kernel_rfl)
          · simp only [foldPut, Act.put, List.setIfInBounds_toArray, List.set_cons_succ, List.set_cons_zero]
            refine ⟨fun u hu => ?_, fun u hu => ?_, fun u hu => ?_, fun u hu => ?_, fun u hu => ?_, fun u hu => ?_, fun u hu => ?_, fun u hu => ?_, fun u hu => ?_, fun u hu => ?_, fun u hu => ?_, fun u hu => ?_, fun u hu => ?_, fun u hu => ?_, fun u hu => ?_, fun u hu => ?_, fun u hu => ?_, fun u hu => ?_, fun u hu => ?_, trivial⟩
            all_goals
              have q0u := (hu.cell _ _ hbw).trans q0
              have q1u := (hu.cell _ _ hbw).trans q1
              have q2u := (hu.cell _ _ hbw).trans q2
              have q3u := (hu.cell _ _ hbw).trans q3
              have r2u := (hu.cell _ _ hbsw).trans r2
              go_wp2_with (go_at_call 39; refine (HL4.out _).mono ?_; rintro e w5 ⟨rfl, hp5⟩; have hu := hu.trans hp5)
              exact ⟨by assumption, rfl⟩
          · intro u2 hu
            simp only [foldPut, Act.put, List.setIfInBounds_toArray, List.set_cons_succ, List.set_cons_zero]
            have HQ2 := Lib.hid (HQ.out.pure hu)
            have hpu := hp.trans hu
            have hpwu := hpw1.trans hpu
            cases D
            · have HN3 : Hid (ubs cs t (k + 1) = ubs cs t k) := Lib.hid (by rw [HN2.out]; rfl)
              go_wp2
              go_roundg (cs.length - (k + 1))
              case measure => have := Hgk.out; omega
              case rel => exact ⟨k + 1, by have := Hgk.out; omega, by go_num, by rw [HN3.out]; exact HQ2.out, hpu⟩
            · have HN3 : Hid (ubs cs t (k + 1) = ubs cs t k ++ [(k : Int)]) := Lib.hid (by rw [HN2.out]; rfl)
              go_wp2_with (at_builtin; go_must (refine wl_append1E elInt rfl _ _ rfl w.heap.size w1.heap.size (.slice Aq (ubs cs t k).length cq) (ubs cs t k).length _ rfl HQ2.out u2.heap.size 1 [.int .i64 (k : Int)] rfl rfl rfl rfl (by decide) (by omega) hpu.size ?_); intro q' wq hq' hpq; have HQ' := Lib.hid hq'; have HPQ := Lib.hid (hpq w1 (Nat.le_refl _) hpu); clear hq' hpq)
              go_roundg (cs.length - (k + 1))
              case measure => have := Hgk.out; omega
              case rel =>
                refine ⟨k + 1, by have := Hgk.out; omega, by go_num, ?_, HPQ.out⟩
                rw [HN3.out]
                refine .inl ?_
                have := HQ'.out
                simpa using this
      · have hkl : k = cs.length := by omega
        subst hkl
        go_wp2
        go_ret
        exact ⟨_, ubs cs t cs.length, rfl, ⟨fun _ => by rw [Ht.out], fun hn => absurd HV.out hn⟩, by omega, HQ.out.own (HOE.out.pure hp) hpw1.size, hpw⟩
  · have HV := Lib.hid hv
    obtain rfl := h1.2 hv
    obtain ⟨A2, c2, rfl⟩ := h3.form
    clear hv h1 h2 h3
    simp only [List.length_nil]
    go_wp2
    go_loopg [5, 3] 0 (fun gk i q wr => i = .int .i64 0 ∧ q = .slice (some ⟨w.heap.size, 0, none⟩) 0 0 ∧ wr = w1)
    case atStart => exact ⟨rfl, rfl, rfl⟩
    case round =>
      obtain ⟨rfl, rfl, rfl⟩ := hrel
      go_wp2
      go_ret
      exact ⟨_, [], rfl, ⟨fun h => absurd h HV.out, fun _ => rfl⟩, by simp, HOE.out, HPW1.out⟩

end Go.Proofs.Ythocmmhhhiikpaa
