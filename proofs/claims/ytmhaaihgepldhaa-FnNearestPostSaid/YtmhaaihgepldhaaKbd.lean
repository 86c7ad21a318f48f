/- Bytes that came in, opened into the words that the walks use. A region that draws its order, whose operations each yield a known value in every world that meets S, and leave such a world: whatever the order, the same values lie there behind it. append of all that a slice holds (it may be nil) to a slice of the call's own; two equal rows of numbers, compared. How many steps a tree of blocks can take; the turns of a loop, told from behind the first test. No program in sight. No condition. -/
import Derived.Test.YtmhaaihgepldhaaKac
import Derived.Test.YtmhaaihgepldhaaKah
import Derived.Test.YtmhaaihgepldhaaKaj
import Derived.Test.YtmhaaihgepldhaaKbc

namespace Go.Proofs.Ytmhaaihgepldhaa
open Go.ChangeShapes Go.WideShapes Go.ChangeAt Go.RowKit Go.Deep

section
variable {H : Type} {enc : TypeId × Value → H} {W : World} {base : Nat} {held : Bool}

theorem bytes_open {fuel : Nat} {cs : List Value} {x : DataW H × List MemPlace} (h : DataW.trod enc Try.prog W base (fun _ => true) held fuel 35 cs = some x) : ∃ v xs, cs = [v] ∧ Bytes W v xs := by
  rcases open_ints Try.underlying35 Try.underlying5 (by kernel_rfl) h with ⟨hcs, _⟩ | ⟨a, len, cap, zs, hcs, _, hl, hm, hz, _, hcell, hwz⟩
  · exact ⟨_, [], hcs, ⟨none, 0, rfl, by simp, by omega, fun h => absurd h (by simp)⟩, by simp⟩
  · simp only [if_true] at hz
    refine ⟨_, zs.take len, hcs, ?_, fun x hx => ?_⟩
    · have hlen : (zs.take len).length = len := by simp; omega
      rw [hlen]
      refine Cells.of_addr (by omega) hl hm fun j hj => ?_
      rw [hcell j (by omega)]
      have : j < len := by omega
      simp [List.getD_eq_getElem?_getD, this]
    · have := hwz x (List.mem_of_mem_take hx)
      simp only [Lit.wf, Bool.and_eq_true, decide_eq_true_eq] at this
      exact ⟨this.1, this.2⟩
end
end Go.Proofs.Ytmhaaihgepldhaa

namespace Go.Proofs.Ytmhaaihgepldhaa
open Go.RowKit

def foldPut : Act → List Oper → List Value → Act
  | a, o :: r, v :: vs => foldPut (a.put o.dst v) r vs
  | a, _, _ => a
def nowhere : Exit → Act → World → Prop := fun _ _ _ => False
def PureOps (P : Program) (ops : Array Oper) (S : World → Prop) (aF : Act) : List Oper → List Value → Prop
  | o :: r, v :: vs => (∀ u, S u → wpList P ops (thenK nowhere fun b u' => S u' ∧ b = aF.put o.dst v) [o] aF u) ∧ PureOps P ops S aF r vs
  | _, _ => True
def dsts (l : List Oper) : List Tmp := l.filterMap (·.dst)
def looksB (ops : Array Oper) : Bool := (List.range ops.size).all fun i => ((ops[i]?).map fun o => (o.looksAt ops).all fun t => (List.range ops.size).all fun j => ((ops[j]?).map fun o' => o'.dst != some t || o.after.any fun e => e.on == j && Region.binds .any e).getD true).getD true
def pureB (l : List Oper) : Bool := Region.noSelect l.toArray && looksB l.toArray && decide (dsts l).Nodup
def sizeB (a : Act) (l : List Oper) : Bool := (dsts l).all fun d => decide (d < a.tmps.size)

theorem put_size (a : Act) (d : Option Tmp) (v : Value) : (a.put d v).tmps.size = a.tmps.size := by
  cases d <;> simp [Act.put]
theorem put_def (a : Act) (d : Option Tmp) (v : Value) : (a.put d v).defers = a.defers := by
  cases d <;> rfl
theorem foldPut_size : ∀ (l : List Oper) (vs : List Value) (a : Act), (foldPut a l vs).tmps.size = a.tmps.size
  | [], _, _ => rfl
  | _ :: _, [], _ => rfl
  | o :: r, v :: vs, a => by
    show (foldPut (a.put o.dst v) r vs).tmps.size = _
    rw [foldPut_size r vs, put_size]
theorem foldPut_def : ∀ (l : List Oper) (vs : List Value) (a : Act), (foldPut a l vs).defers = a.defers
  | [], _, _ => rfl
  | _ :: _, [], _ => rfl
  | o :: r, v :: vs, a => by
    show (foldPut (a.put o.dst v) r vs).defers = _
    rw [foldPut_def r vs, put_def]
theorem put_get_ne (a : Act) {d : Option Tmp} {t : Tmp} (v : Value) (h : d ≠ some t) : (a.put d v).tmps[t]? = a.tmps[t]? := by
  cases d with
  | none => rfl
  | some d => simp [Act.put, Array.getElem?_setIfInBounds_ne (show d ≠ t from fun e => h (by rw [e]))]
theorem put_get_same (a : Act) {t : Tmp} (v : Value) (h : t < a.tmps.size) : (a.put (some t) v).tmps[t]? = some v := by
  simp [Act.put, Array.getElem?_setIfInBounds_self_of_lt h]
theorem foldPut_keep : ∀ (l : List Oper) (vs : List Value) (a : Act) (t : Tmp), t ∉ dsts l → (foldPut a l vs).tmps[t]? = a.tmps[t]?
  | [], _, _, _, _ => rfl
  | _ :: _, [], _, _, _ => rfl
  | o :: r, v :: vs, a, t, h => by
    show (foldPut (a.put o.dst v) r vs).tmps[t]? = _
    have h1 : o.dst ≠ some t := fun e => h (by unfold dsts; exact List.mem_filterMap.2 ⟨o, by simp, e⟩)
    have h2 : t ∉ dsts r := fun e => h (by
      unfold dsts at e ⊢
      obtain ⟨x, hx, he⟩ := List.mem_filterMap.1 e
      exact List.mem_filterMap.2 ⟨x, by simp [hx], he⟩)
    rw [foldPut_keep r vs _ t h2, put_get_ne a v h1]
theorem foldPut_hit : ∀ (l : List Oper) (vs : List Value) (a : Act) (j : Nat) (o : Oper) (v : Value) (t : Tmp), (dsts l).Nodup → l[j]? = some o → vs[j]? = some v → o.dst = some t → t < a.tmps.size → (foldPut a l vs).tmps[t]? = some v
  | [], _, _, j, _, _, _, _, h, _, _, _ => by simp at h
  | _ :: _, [], _, j, _, _, _, _, _, h, _, _ => by simp at h
  | o :: r, v :: vs, a, 0, o', v', t, hn, h1, h2, h3, h4 => by
    simp at h1 h2
    subst h1 h2
    have e : dsts (o :: r) = t :: dsts r := by unfold dsts; simp [h3]
    rw [e] at hn
    show (foldPut (a.put o.dst v) r vs).tmps[t]? = _
    rw [foldPut_keep r vs _ t (List.nodup_cons.1 hn).1, h3, put_get_same a v h4]
  | o :: r, v :: vs, a, j + 1, o', v', t, hn, h1, h2, h3, h4 => by
    have hn' : (dsts r).Nodup := by
      unfold dsts at hn ⊢
      cases hd : o.dst with
      | none => simpa [hd] using hn
      | some d => simp [hd] at hn; exact hn.2
    exact foldPut_hit r vs (a.put o.dst v) j o' v' t hn' (by simpa using h1) (by simpa using h2) h3 (by rw [put_size]; exact h4)
theorem PureOps.get {P : Program} {ops : Array Oper} {S : World → Prop} {aF : Act} : ∀ {l : List Oper} {vs : List Value} {j : Nat} {o : Oper} {v : Value}, PureOps P ops S aF l vs → l[j]? = some o → vs[j]? = some v → ∀ u, S u → wpList P ops (thenK nowhere fun b u' => S u' ∧ b = aF.put o.dst v) [o] aF u
  | [], _, _, _, _, _, h, _ => by simp at h
  | _ :: _, [], _, _, _, _, _, h => by simp at h
  | _ :: _, _ :: _, 0, _, _, hp, h1, h2 => by
    simp at h1 h2; subst h1 h2; exact hp.1
  | _ :: _, _ :: _, j + 1, _, _, hp, h1, h2 => PureOps.get hp.2 (by simpa using h1) (by simpa using h2)
theorem put_inj {aF a : Act} {d : Option Tmp} {x v : Value} (hd : ∀ t, d = some t → t < aF.tmps.size) (h : aF.put d x = aF.put d v) : a.put d x = a.put d v := by
  cases d with
  | none => rfl
  | some t =>
    have h1 := put_get_same aF x (hd t rfl)
    rw [h, put_get_same aF v (hd t rfl)] at h1
    injection h1 with h1
    rw [h1]
theorem transfer {P : Program} {ops : Array Oper} {S : World → Prop} {Q : Exit → Act → World → Prop} {K : Act → World → Prop} {o : Oper} {a aF : Act} {v : Value} {u : World} (he : execOp a.eval o = execOp aF.eval o)
    (hw : Region.wanted o (yielded ops a.tmps) = Region.wanted o (yielded ops aF.tmps)) (hd : ∀ t, o.dst = some t → t < aF.tmps.size) (h : wpList P ops (thenK nowhere fun b u' => S u' ∧ b = aF.put o.dst v) [o] aF u)
    (hK : ∀ u', S u' → K (a.put o.dst v) u') : wpList P ops (thenK Q K) [o] a u := by
  unfold wpList at h ⊢
  rw [hw]
  split
  · rename_i hwt
    rw [if_pos hwt] at h
    rcases h with h | ⟨_, b, u', h2⟩
    · left
      unfold Oper.wp at h ⊢
      rw [he]
      generalize (execOp aF.eval o).run P u = r at h
      cases r with
      | ok n w' =>
        cases n with
        | value x => obtain ⟨h1, h2⟩ := h; show K _ _; rw [put_inj hd h2]; exact hK _ h1
        | skip => obtain ⟨h1, h2⟩ := h; show K _ _; rw [put_inj hd h2]; exact hK _ h1
        | defer d =>
          obtain ⟨_, h2⟩ := h
          exfalso
          have := congrArg Act.defers h2
          rw [put_def, put_def] at this
          exact absurd (congrArg List.length this) (by simp)
        | enter f xs =>
          refine Calls.mono h fun e w'' k => ?_
          cases e with
          | returned x => obtain ⟨h1, h2⟩ := k; show K _ _; rw [put_inj hd h2]; exact hK _ h1
          | panicked c => exact (k : False).elim
          | outgrown => obtain ⟨_, _, k⟩ := k; exact (k : False).elim
        | row r xs =>
          refine Rows.mono h fun x w'' k => ?_
          obtain ⟨h1, h2⟩ := k; show K _ _; rw [put_inj hd h2]; exact hK _ h1
        | _ => exact (h : False).elim
      | halt x w' => cases x <;> exact (h : False).elim
    · exact (h2 : False).elim
  · rename_i hwt
    rw [if_neg hwt] at h
    obtain ⟨h1, h2⟩ := h
    show K _ _
    rw [put_inj hd h2]
    exact hK _ h1
theorem eval_eq {a aF : Act} {x : Operand} (h : ∀ t, x = .tmp t → a.tmps[t]? = aF.tmps[t]?) : a.eval x = aF.eval x := by
  cases x with
  | tmp t => simp [Act.eval, h t rfl]
  | _ => rfl
theorem wanted_eq {ops : Array Oper} {o : Oper} {a aF : Act} (h : ∀ t ∈ o.looksAt ops, a.tmps[t]? = aF.tmps[t]?) : Region.wanted o (yielded ops a.tmps) = Region.wanted o (yielded ops aF.tmps) := by
  unfold Region.wanted
  cases hg : o.guard with
  | none => rfl
  | some gw =>
    obtain ⟨g, want⟩ := gw
    have hy : yielded ops a.tmps g = yielded ops aF.tmps g := by
      unfold yielded
      cases ht : (ops[g]?).bind (·.dst) with
      | none => rfl
      | some t =>
        have := h t (by simp [Oper.looksAt, hg, ht])
        simp only [Option.bind_some, this]
    simp only [hy]
theorem looksB_spec {ops : Array Oper} (h : looksB ops = true) {i j : Nat} {o o' : Oper} {t : Tmp} (ho : ops[i]? = some o) (ht : t ∈ o.looksAt ops) (ho' : ops[j]? = some o') (hd : o'.dst = some t) : ∃ e ∈ o.after, e.on = j ∧ Region.binds .any e = true := by
  have hi := (Array.getElem?_eq_some_iff.1 ho).1
  have hj := (Array.getElem?_eq_some_iff.1 ho').1
  have h1 := (List.all_eq_true.1 h) i (List.mem_range.2 hi)
  rw [ho] at h1
  simp only [Option.map_some, Option.getD_some] at h1
  have h2 := (List.all_eq_true.1 ((List.all_eq_true.1 h1) t ht)) j (List.mem_range.2 hj)
  rw [ho'] at h2
  simp only [Option.map_some, Option.getD_some, hd, bne_self_eq_false, Bool.false_or] at h2
  obtain ⟨k, hk, h3⟩ := Array.any_eq_true.1 h2
  simp only [Bool.and_eq_true, beq_iff_eq] at h3
  exact ⟨o.after[k], Array.getElem_mem hk, h3⟩

theorem getD_setS' (l : Array Bool) (i j : Nat) (h : (l.setIfInBounds i true).getD j false = true) (hij : i ≠ j) : l.getD j false = true := (getD_setB l i j h).resolve_right hij

theorem region_pure {P : Program} {id : Nat} {Q : Exit → Act → World → Prop} {a : Act} {w : World} {l : List Oper} (vals : List Value) (S : World → Prop) (hm : P.follows .mixedOrders = true) (hB : pureB l = true) (hl : vals.length = l.length) (hz : sizeB a l = true)
    (hS : S w.drew) (hops : PureOps P l.toArray S (foldPut a l vals) l vals) (hend : ∀ u, S u → Q .normal (foldPut a l vals) u) (hback : backB l.toArray = true) : (Code.region id l.toArray true).wp P Q a w := by
  simp only [pureB, Bool.and_eq_true, decide_eq_true_eq] at hB
  obtain ⟨⟨hsel, hlook⟩, hnd⟩ := hB
  have hsz : ∀ o ∈ l, ∀ t, o.dst = some t → t < a.tmps.size := fun o ho t ht => by
    have := (List.all_eq_true.1 hz) t (List.mem_filterMap.2 ⟨o, ho, ht⟩)
    simpa using this
  have hval : ∀ j o, l[j]? = some o → ∃ v, vals[j]? = some v := fun j o ho => by
    have : j < vals.length := by have := (List.getElem?_eq_some_iff.1 ho).1; omega
    exact ⟨vals[j], List.getElem?_eq_getElem this⟩
  refine region_inv hm (fun l' b u => S u ∧ b.defers = a.defers ∧ b.tmps.size = a.tmps.size ∧ l'.size = l.length ∧ (∀ j o t, l[j]? = some o → o.dst = some t → l'.getD j false = true → b.tmps[t]? = (foldPut a l vals).tmps[t]?) ∧ ∀ t, t ∉ dsts l → b.tmps[t]? = (foldPut a l vals).tmps[t]?) ?_ ?_ ?_
  · refine ⟨hS, rfl, rfl, by simp, fun j o t _ _ h => ?_, fun t ht => (foldPut_keep l vals a t ht).symm⟩
    rw [Array.getD_eq_getD_getElem?] at h
    by_cases hj : j < l.length
    · simp [hj] at h
    · simp [hj] at h
  · rintro l' b u ⟨h1, h2, h3, h4, h5, h6⟩ hr
    have hall := ready_nil hback (by simpa using h4) hr
    have : b = foldPut a l vals := by
      have ht : b.tmps = (foldPut a l vals).tmps := by
        apply Array.ext_getElem?
        intro t
        by_cases ht : t ∈ dsts l
        · obtain ⟨o, ho, hd⟩ := List.mem_filterMap.1 ht
          obtain ⟨j, hj, rfl⟩ := List.getElem_of_mem ho
          exact h5 j l[j] t (List.getElem?_eq_getElem hj) hd (hall j (by simpa using hj))
        · exact h6 t ht
      have hd : b.defers = (foldPut a l vals).defers := by rw [h2, foldPut_def]
      cases b
      cases hF : foldPut a l vals
      rw [hF] at ht hd
      simp only at ht hd
      rw [ht, hd]
    rw [this]
    exact hend u h1
  · rintro l' b u i o ⟨h1, h2, h3, h4, h5, h6⟩ ho hun hdep
    have ho' : l[i]? = some o := by simpa using ho
    obtain ⟨v, hv⟩ := hval i o ho'
    have hlooks : ∀ t ∈ o.looksAt l.toArray, b.tmps[t]? = (foldPut a l vals).tmps[t]? := fun t ht => by
      by_cases hd : t ∈ dsts l
      · obtain ⟨oj, hoj, hdj⟩ := List.mem_filterMap.1 hd
        obtain ⟨j, hj, rfl⟩ := List.getElem_of_mem hoj
        obtain ⟨e, he, e1, e2⟩ := looksB_spec hlook ho ht (show l.toArray[j]? = some l[j] by simp [hj]) hdj
        exact h5 j _ t (List.getElem?_eq_getElem hj) hdj (by rw [← e1]; exact hdep e he e2)
      · exact h6 t hd
    refine transfer (execOp_congr o (fun cs c => Region.noSelect_spec hsel i o cs c ho) fun x hx => eval_eq fun t ht => hlooks t ?_) (wanted_eq hlooks) (fun t ht => by rw [foldPut_size]; exact hsz o (List.mem_of_getElem? ho') t ht) (PureOps.get hops ho' hv u h1) fun u' hu' => ?_
    · subst ht
      exact List.mem_append_left _ (List.mem_filterMap.2 ⟨.tmp t, by simpa using hx, rfl⟩)
    · refine ⟨hu', by rw [put_def, h2], by rw [put_size, h3], by simpa using h4, fun j oj t hj hdj hlj => ?_, fun t ht => ?_⟩
      · by_cases hij : i = j
        · subst hij
          rw [ho'] at hj
          injection hj with hj
          subst hj
          have hlt := hsz o (List.mem_of_getElem? ho') t hdj
          rw [foldPut_hit l vals a i o v t hnd ho' hv hdj hlt, hdj, put_get_same b v (by rw [h3]; exact hlt)]
        · by_cases hdd : o.dst = some t
          · exfalso
            have hlt := hsz o (List.mem_of_getElem? ho') t hdd
            -- two operations with the same slot
            have : ∀ (l : List Oper) (i j : Nat) (x y : Oper), (dsts l).Nodup → l[i]? = some x → l[j]? = some y → x.dst = some t → y.dst = some t → i = j := by
              intro l
              induction l with
              | nil => intro i j x y _ h; simp at h
              | cons z r ih =>
                intro i j x y hn hx hy dx dy
                have hn' : (dsts r).Nodup := by
                  unfold dsts at hn ⊢
                  cases hd : z.dst with
                  | none => simpa [hd] using hn
                  | some d => simp [hd] at hn; exact hn.2
                have hz0 : z.dst = some t → t ∉ dsts r := fun e => by
                  have : dsts (z :: r) = t :: dsts r := by unfold dsts; simp [e]
                  rw [this] at hn
                  exact (List.nodup_cons.1 hn).1
                cases i with
                | zero =>
                  cases j with
                  | zero => rfl
                  | succ j =>
                    simp at hx hy; subst hx
                    exact absurd (List.mem_filterMap.2 ⟨y, List.mem_of_getElem? hy, dy⟩) (hz0 dx)
                | succ i =>
                  cases j with
                  | zero =>
                    simp at hx hy; subst hy
                    exact absurd (List.mem_filterMap.2 ⟨x, List.mem_of_getElem? hx, dx⟩) (hz0 dy)
                  | succ j => rw [ih i j x y hn' (by simpa using hx) (by simpa using hy) dx dy]
            exact hij (this l i j o oj hnd ho' hj hdd hdj)
          · rw [put_get_ne b v hdd]
            exact h5 j oj t hj hdj (getD_setS' l' i j hlj hij)
      · have hdd : o.dst ≠ some t := fun e => ht (List.mem_filterMap.2 ⟨o, List.mem_of_getElem? ho', e⟩)
        rw [put_get_ne b v hdd]
        exact h6 t ht

end Go.Proofs.Ytmhaaihgepldhaa

namespace Go.Proofs.Ytmhaaihgepldhaa
open Go.RowKit

section
variable {P : Program} {t e : TypeId} {s : Nat} {z : List Value} {bytes : Nat}
theorem wl_appendC (E : ElT P t e s z bytes) {w : World} {ops : Array Oper} {rest : List Oper} {o : Oper} {a : Act} {Q : Exit → Act → World → Prop}
    (hgd : o.guard = none) (sl x : Operand) (ho : o.op = .call { callee := .builtin .append, args := #[sl, x], argTypes := #[t, t] })
    (B : Nat) (v : Value) (n : Nat) (xs : List Value) (hs : a.eval sl = v) (hown : OwnO w B e s v n xs) (hpos : 0 < n) (vx : Value) (hx : a.eval x = vx) (f : Nat → Value) (m : Nat) (hc : Cells w vx m s f) (h1 : ∀ j, j < m * s → (f j).oneCell' = true)
    (hby : bytes ≤ 128) (hn : n + m ≤ 1099511627776) (hB : B ≤ w.heap.size)
    (h : ∀ v' w', OwnO w' B e s v' (n + m) (xs ++ (List.range (m * s)).map f) → w.grownBy w' v.ownBlock → wpList P ops Q rest (a.put o.dst v') w') : wpList P ops Q (o :: rest) a w := by
  obtain ⟨g0, off0, c0, rfl, hnc0, hc00, hgB, hgl⟩ := hown.formSome hpos
  obtain ⟨A, c, rfl, hmc, hcm, hrd⟩ := hc
  rcases A with _ | ⟨b, off, sp⟩
  · have hm0 : m = 0 := by
      rcases Nat.eq_zero_or_pos m with h0 | h0
      · exact h0
      · obtain ⟨_, _, h, _⟩ := hrd h0; cases h
    subst hm0
    obtain ⟨i, zv, h2, h3, h4, h5, h6, h7⟩ := E.parts
    refine wpList_plain hgd fun K hK' => ?_
    have hrun : (Builtin.append_ #[t, t] o.type #[.slice (some ⟨g0, off0, none⟩) n c0, .slice none 0 c]).run P w = .ok (.slice (some ⟨g0, off0, none⟩) n c0) w := by
      simp [Builtin.append_, run_underlying E.ht, sizeOf, typeInfo, h2, Builtin.lenOf, Builtin.firstCells, storeCells, hnc0]
    unfold Oper.wp execOp
    simp only [ho, resolve, invoke, builtin, Sem.run_bind, Sem.run_pure, Result.andThen_ok, List.map_toArray, List.map_cons, List.map_nil, hs, hx, hrun]
    exact hK' _ _ (h _ _ (by simpa using hown) ((Pure.refl _).grownBy _))
  · rcases Nat.eq_zero_or_pos m with h0 | h0
    · subst h0
      obtain ⟨i, zv, h2, h3, h4, h5, h6, h7⟩ := E.parts
      refine wpList_plain hgd fun K hK' => ?_
      have hrun : (Builtin.append_ #[t, t] o.type #[.slice (some ⟨g0, off0, none⟩) n c0, .slice (some ⟨b, off, sp⟩) 0 c]).run P w = .ok (.slice (some ⟨g0, off0, none⟩) n c0) w := by
        simp [Builtin.append_, run_underlying E.ht, sizeOf, typeInfo, h2, Builtin.lenOf, Builtin.firstCells, storeCells, loadCells, loadCellsFrom, hnc0]
      unfold Oper.wp execOp
      simp only [ho, resolve, invoke, builtin, Sem.run_bind, Sem.run_pure, Result.andThen_ok, List.map_toArray, List.map_cons, List.map_nil, hs, hx, hrun]
      exact hK' _ _ (h _ _ (by simpa using hown) ((Pure.refl _).grownBy _))
    · obtain ⟨b', o', he, hbl, hcc⟩ := hrd h0
      injection he with he
      injection he with e1 e2 e3
      subst e1 e2 e3
      have hmul : (n + m) * bytes ≤ 1099511627776 * 128 := Nat.mul_le_mul hn hby
      refine wl_appendF E hgd sl x ho B _ n xs hs hown b off m c ((List.range (m * s)).map f) hx (by simp) (fun j u hu => ?_) (fun u hu => ?_) (by omega) (by omega) hB
        (fun v' w' r1 r2 _ => h v' w' r1 r2)
      · have hj : j < m * s := by
          rcases Nat.lt_or_ge j (m * s) with h | h
          · exact h
          · rw [List.getElem?_eq_none (by simpa using h)] at hu; cases hu
        rw [hcc j hj, ← hu]
        simp [hj]
      · obtain ⟨j, hj, rfl⟩ := List.mem_map.1 hu
        exact h1 j (by simpa using hj)
end

theorem ints_get {w : World} {A : Option Addr} {n c : Nat} {xs : List Int} (h : Ints w (.slice A n c) xs) {k : Nat} (hk : k < xs.length) : ∃ b o, A = some ⟨b, o, none⟩ ∧ b < w.heap.size ∧ ∀ j, j < xs.length → w.cell? ⟨b, o + j, none⟩ = some (.int .i64 (xs.getD j 0)) := by
  obtain ⟨A', c', hv, _, _, hrd⟩ := h
  cases hv
  obtain ⟨b, o, h1, h2, h3⟩ := hrd (by omega)
  exact ⟨b, o, h1, h2, fun j hj => h3 j (by omega)⟩

set_option maxHeartbeats 400000 in
theorem sameInts_same (v v' : Value) (xs : List Int) (w : World) (h : Ints w v xs) (h' : Ints w v' xs) (hl : xs.length ≤ 1048576) :
    Calls Try.prog 69 #[v, v'] w fun e w' => e = .returned (.bool true) ∧ Pure w w' := by
  have HF := Lib.hid h
  have HF' := Lib.hid h'
  obtain ⟨A, c, rfl⟩ := h.form
  obtain ⟨A', c', rfl⟩ := h'.form
  clear h h'
  have hd : ((xs.length : Int) != xs.length) = false := by simp
  go_enter Try.func69, Try.ntmps69
  go_wp2
  go_loopg [5] xs.length (fun gk i wr => ∃ k : Nat, gk + k = xs.length ∧ i = .int .i64 k ∧ Pure w wr)
  case atStart => exact ⟨0, rfl, rfl, Pure.refl _⟩
  case round =>
    obtain ⟨k, hgk, rfl, hp⟩ := hrel
    have Hgk := Lib.hid hgk
    have hkn : k ≤ xs.length := by omega
    clear hgk
    by_cases hlt : k < xs.length
    · obtain ⟨b, o, rfl, hb, hc⟩ := ints_get HF.out hlt
      obtain ⟨b', o', rfl, hb', hc'⟩ := ints_get HF'.out hlt
      have q0 := (hp.cell b _ hb).trans (hc k hlt)
      have r0 := (hp.cell b' _ hb').trans (hc' k hlt)
      obtain ⟨x, Hx⟩ : ∃ x : Int, Hid (xs.getD k 0 = x) := ⟨_, Lib.hid rfl⟩
      rw [Hx.out] at q0 r0
      have hxx : (x != x) = false := by simp
      clear hc hc'
      go_wp2
      go_quiet (fail)
      go_wp2
      go_roundg (xs.length - (k + 1))
      case measure => have := Hgk.out; omega
      case rel => exact ⟨k + 1, by have := Hgk.out; omega, by go_num, by exact (by repeat (first | assumption | exact Pure.refl _ | refine Pure.drewN ?_ _ | refine Pure.drew ?_ | refine Pure.alloc ?_ _ | refine Pure.setCell ?_ (by simp <;> omega) _))⟩
    · go_wp2
      go_ret
      exact ⟨rfl, hp⟩

end Go.Proofs.Ytmhaaihgepldhaa

namespace Go.Proofs.Ytmhaaihgepldhaa

def Tr.cost : Tr → Nat
  | .nil => 0
  | .op _ k => 1 + k.cost
  | .ite _ t k => 1 + t.cost + k.cost
  | .itee _ t e k => 1 + t.cost + e.cost + k.cost
  | .loop _ b t k => 1 + b.toNat * t.cost + k.cost
theorem lanesTo_H (c : Cd) (m mask : Nat) : ∀ (j : Nat) (s : LS), (lanesTo c m mask j s).H = s.H
  | 0, _ => rfl
  | j + 1, s => by
    show (if _ then _ else _ : LS).H = _
    split
    · exact lanesTo_H c m mask j s
    · exact lanesTo_H c m mask j s
theorem exec_H (c : Cd) (n m i mask : Nat) (s : LS) : (exec c n m i mask s).H = s.H ++ [(i, mask, s.R)] := by
  unfold exec
  simp only
  split
  · exact lanesTo_H c m mask n _
  · exact lanesTo_H c m mask n _
theorem turns_H {F : Nat → LS → LS} {n a c : Nat} (hF : ∀ y s, (F y s).H.length ≤ s.H.length + c) : ∀ (b y : Nat) (s : LS), (turns F n a b y s).H.length ≤ s.H.length + b * c
  | 0, _, _ => by simp [turns]
  | b + 1, y, s => by
    have h1 := turns_H (n := n) (a := a) hF b (onesTo s.R y a n) (F (onesTo s.R y a n) s)
    have h2 := hF (onesTo s.R y a n) s
    have h3 : (b + 1) * c = b * c + c := Nat.succ_mul b c
    show (turns F n a b _ _).H.length ≤ _
    omega
theorem run_H (n m : Nat) : ∀ (t : Tr) (i mask : Nat) (s : LS), (run n m t i mask s).H.length ≤ s.H.length + t.cost
  | .nil, _, _, _ => by simp [run, Tr.cost]
  | .op c k, i, mask, s => by
    show (if _ then _ else _ : LS).H.length ≤ s.H.length + (1 + k.cost)
    split
    · omega
    · have := run_H n m k (i + 1) mask (exec c n m i mask s)
      rw [exec_H] at this
      simp at this
      omega
  | .ite a t k, i, mask, s => by
    show (if _ then _ else _ : LS).H.length ≤ s.H.length + (1 + t.cost + k.cost)
    split
    · omega
    · have h1 := run_H n m k (i + 1 + t.len + 1) mask (run n m t (i + 1) (onesTo s.R mask a.toNat n) (beat i mask s))
      have h2 := run_H n m t (i + 1) (onesTo s.R mask a.toNat n) (beat i mask s)
      have h3 : (beat i mask s).H.length = s.H.length + 1 := by simp [beat]
      omega
  | .itee a t e k, i, mask, s => by
    show (if _ then _ else _ : LS).H.length ≤ s.H.length + (1 + t.cost + e.cost + k.cost)
    split
    · omega
    · have h1 := run_H n m k (i + 1 + t.len + 1 + e.len + 1) mask (run n m e (i + 1 + t.len + 1) (del mask (onesTo s.R mask a.toNat n)) (run n m t (i + 1) (onesTo s.R mask a.toNat n) (beat i mask s)))
      have h2 := run_H n m e (i + 1 + t.len + 1) (del mask (onesTo s.R mask a.toNat n)) (run n m t (i + 1) (onesTo s.R mask a.toNat n) (beat i mask s))
      have h4 := run_H n m t (i + 1) (onesTo s.R mask a.toNat n) (beat i mask s)
      have h3 : (beat i mask s).H.length = s.H.length + 1 := by simp [beat]
      omega
  | .loop a b t k, i, mask, s => by
    show (if _ then _ else _ : LS).H.length ≤ s.H.length + (1 + b.toNat * t.cost + k.cost)
    split
    · omega
    · have h1 := run_H n m k (i + 1 + t.len + 1) mask (turns (run n m t (i + 1)) n a.toNat b.toNat mask (beat i mask s))
      have h2 := turns_H (F := run n m t (i + 1)) (n := n) (a := a.toNat) (c := t.cost) (fun y s => run_H n m t (i + 1) y s) b.toNat mask (beat i mask s)
      have h3 : (beat i mask s).H.length = s.H.length + 1 := by simp [beat]
      omega
/-- A tree of at most 40 instructions, nested to a depth of 3, takes few steps. -/
theorem cost_le : ∀ (t : Tr) (d : Nat), t.Ok → t.depth ≤ d → t.cost ≤ t.len * 4 ^ d
  | .nil, d, _, _ => by simp [Tr.cost]
  | .op c k, d, h, hd => by
    have := cost_le k d h.2 hd
    have h4 : 1 ≤ 4 ^ d := Nat.one_le_pow _ _ (by decide)
    rw [Tr.len_op, Nat.add_mul]
    simp only [Tr.cost]; omega
  | .ite a t k, d, h, hd => by
    simp only [Tr.depth] at hd
    have h1 := cost_le t d h.2.1 (by omega)
    have h2 := cost_le k d h.2.2 (by omega)
    have h4 : 1 ≤ 4 ^ d := Nat.one_le_pow _ _ (by decide)
    rw [Tr.len_ite, Nat.add_mul, Nat.add_mul, Nat.add_mul]
    simp only [Tr.cost]; omega
  | .itee a t e k, d, h, hd => by
    simp only [Tr.depth] at hd
    have h1 := cost_le t d h.2.1 (by omega)
    have h2 := cost_le e d h.2.2.1 (by omega)
    have h3 := cost_le k d h.2.2.2 (by omega)
    have h4 : 1 ≤ 4 ^ d := Nat.one_le_pow _ _ (by decide)
    rw [Tr.len_itee, Nat.add_mul, Nat.add_mul, Nat.add_mul, Nat.add_mul, Nat.add_mul]
    simp only [Tr.cost]; omega
  | .loop a b t k, 0, h, hd => by simp only [Tr.depth] at hd; omega
  | .loop a b t k, d + 1, h, hd => by
    simp only [Tr.depth] at hd
    have h1 := cost_le t d h.2.2.1 (by omega)
    have h2 := cost_le k (d + 1) h.2.2.2 (by omega)
    have h4 : 1 ≤ 4 ^ (d + 1) := Nat.one_le_pow _ _ (by decide)
    have hb : b.toNat ≤ 4 := by have := h.2.1; omega
    have h5 : b.toNat * t.cost ≤ 4 * (t.len * 4 ^ d) := Nat.mul_le_mul hb h1
    have h6 : 4 * (t.len * 4 ^ d) = t.len * 4 ^ (d + 1) := by rw [Nat.pow_succ]; rw [← Nat.mul_assoc, Nat.mul_comm 4 t.len, Nat.mul_assoc, Nat.mul_comm 4]
    rw [Tr.len_loop, Nat.add_mul, Nat.add_mul, Nat.add_mul]
    simp only [Tr.cost]; omega
theorem PValid.cost {cs : List Cd} {t : Tr} (h : PValid cs) (e : cs = t.flat) (hok : t.Ok) (hd : t.depth ≤ 3) : t.cost ≤ 2560 := by
  have h1 := cost_le t 3 hok hd
  have h2 : t.len ≤ 40 := by have := h.2.1; rw [e] at this; exact this
  have h3 : t.len * 4 ^ 3 ≤ 40 * 4 ^ 3 := Nat.mul_le_mul_right _ h2
  omega

/-- The turns of a loop, where the lanes of the next turn are known. -/
def turnsR (F : Nat → LS → LS) (n a : Nat) : Nat → Nat → LS → LS
  | 0, _, s => s
  | b + 1, y, s => turnsR F n a b (onesTo (F y s).R y a n) (F y s)
theorem turns_eq (F : Nat → LS → LS) (n a : Nat) : ∀ (b y : Nat) (s : LS), turns F n a b y s = turnsR F n a b (onesTo s.R y a n) s
  | 0, _, _ => rfl
  | b + 1, y, s => by
    show turns F n a b _ _ = turnsR F n a b _ _
    rw [turns_eq F n a b]
theorem turnsR_zero {n m a : Nat} {t : Tr} {i : Nat} : ∀ (b : Nat) (s : LS), turnsR (run n m t i) n a b 0 s = s
  | 0, _ => rfl
  | b + 1, s => by
    show turnsR _ _ _ b (onesTo (run n m t i 0 s).R 0 a n) (run n m t i 0 s) = s
    rw [onesTo_none, run_zero, turnsR_zero b s]
theorem turnsR_succ (F : Nat → LS → LS) (n a b y : Nat) (s : LS) : turnsR F n a (b + 1) y s = turnsR F n a b (onesTo (F y s).R y a n) (F y s) := rfl
theorem Tr.len_zero {t : Tr} (h : t.len = 0) : t = .nil := by
  cases t with
  | nil => rfl
  | op c k => rw [Tr.len_op] at h; omega
  | ite a t k => rw [Tr.len_ite] at h; omega
  | itee a t e k => rw [Tr.len_itee] at h; omega
  | loop a b t k => rw [Tr.len_loop] at h; omega

end Go.Proofs.Ytmhaaihgepldhaa
