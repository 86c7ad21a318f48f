/- Arguments that came in, opened into the words that the walks use. Bytes that came in, opened into the words that the walks use. Arguments of instructions that came in, opened into the words that the walks use. A region that draws its order, whose operations each yield a known value in every world that meets S, and leave such a world: whatever the order, the same values lie there behind it. A region that draws its order: what only reads is taken first, then every order of the rest is walked. append of all that a slice holds (it may be nil) to a slice of the call's own; two equal rows of numbers, compared. append of any slice to any owned one, empty ones too. The split step for any arguments, as the program finds it. Which instructions the steps of a run execute, and by which lanes; the first step. No program in sight. No condition. -/
import Derived.ProofKit
import Derived.OpenShut
import Derived.ChangeOld
import Derived.Deep.Matrix
import Derived.Test.YtajaonejpggcbaaKab
import Derived.Test.YtajaonejpggcbaaKad
import Derived.Test.YtajaonejpggcbaaKah
import Derived.Test.YtajaonejpggcbaaKbd
import Derived.Test.YtajaonejpggcbaaKbf
import Derived.Test.YtajaonejpggcbaaKbg

namespace Go.Proofs.Ytajaonejpggcbaa
open Go.ChangeShapes Go.WideShapes Go.ChangeAt Go.RowKit Go.Deep

theorem own_knob : ownKnob Try.prog.godebug = none := by kernel_rfl
theorem laid_out : laidOutB Try.prog = true := by kernel_rfl

theorem addr_form {w : World} {a : Addr} {v : Value} (h : w.cell? a = some v) : ∃ b o, a = ⟨b, o, none⟩ := by
  obtain ⟨b, o, s⟩ := a
  have := World.cell?_spot h
  simp only at this
  subst this
  exact ⟨b, o, rfl⟩
theorem block_of_cell {w : World} {b o : Nat} {v : Value} (h : w.cell? ⟨b, o, none⟩ = some v) : b < w.heap.size := World.block_lt_of_cell? w ⟨b, o, none⟩ h

theorem Cells.of_addr {w : World} {a : Addr} {len cap s : Nat} {f : Nat → Value} (hs : 0 < s) (h1 : len ≤ cap) (h2 : cap ≤ maxLen) (hc : ∀ j, j < len * s → w.cell? (a.add j) = some (f j)) : Cells w (.slice (some a) len cap) len s f := by
  refine ⟨_, cap, rfl, h1, by unfold maxLen at h2; omega, fun hn => ?_⟩
  have h0 := hc 0 (Nat.mul_pos hn hs)
  obtain ⟨b, o, rfl⟩ := addr_form (show w.cell? a = some (f 0) by simpa [Addr.add] using h0)
  refine ⟨b, o, rfl, block_of_cell (show w.cell? ⟨b, o, none⟩ = some (f 0) by simpa [Addr.add] using h0), fun j hj => ?_⟩
  rw [← add_mid]; exact hc j hj

section
variable {H : Type} {enc : TypeId × Value → H} {W : World} {base : Nat} {held : Bool}

theorem ints_open {fuel : Nat} {cs : List Value} {x : DataW H × List MemPlace} (h : DataW.trod enc Try.prog W base (fun _ => true) held fuel 23 cs = some x) : ∃ v xs, cs = [v] ∧ Ints W v xs ∧ xs.length * 8 ≤ maxLen * 8 := by
  rcases open_ints Try.underlying23 Try.underlying3 (by kernel_rfl) h with ⟨hcs, _⟩ | ⟨a, len, cap, zs, hcs, _, hl, hm, hz, _, hcell, hwz⟩
  · exact ⟨_, [], hcs, ⟨none, 0, rfl, by simp, by omega, fun h => absurd h (by simp)⟩, by simp⟩
  · simp only [if_true] at hz
    refine ⟨_, zs.take len, hcs, ?_, by simp; have := hm; omega⟩
    have hlen : (zs.take len).length = len := by simp; omega
    unfold Ints
    rw [hlen]
    refine Cells.of_addr (by omega) hl hm fun j hj => ?_
    rw [hcell j (by omega)]
    have : j < len := by omega
    simp [List.getD_eq_getElem?_getD, this]

theorem introws_open {fuel : Nat} {cs : List Value} {x : DataW H × List MemPlace} (h : DataW.trod enc Try.prog W base (fun _ => true) held fuel 94 cs = some x) : ∃ v xss, cs = [v] ∧ IntRows W v xss := by
  rcases open_int_rows Try.underlying94 Try.underlying23 Try.underlying3 (by kernel_rfl) (by kernel_rfl) h with ⟨hcs, _⟩ | ⟨a, len, cap, A, L, C, Z, hcs, _, hl, hm, _, hr⟩
  · exact ⟨_, [], hcs, ⟨none, 0, rfl, by simp, by omega, fun h => absurd h (by simp)⟩⟩
  · refine ⟨_, (List.range len).map fun r => (Z r).take (L r), hcs, ?_⟩
    have hlen : ((List.range len).map fun r => (Z r).take (L r)).length = len := by simp
    refine ⟨some a, cap, by rw [hlen], by rw [hlen]; exact hl, by unfold maxLen at hm; omega, fun hn => ?_⟩
    rw [hlen] at hn
    have h0 := (hr 0 (by omega)).1
    obtain ⟨b, o, rfl⟩ := addr_form (show W.cell? a = _ by simpa [Addr.add] using h0)
    refine ⟨b, o, rfl, block_of_cell (show W.cell? ⟨b, o, none⟩ = _ by simpa [Addr.add] using h0), fun k hk => ?_⟩
    rw [hlen] at hk
    obtain ⟨c1, c2, c3, c4, c5, c6, c7⟩ := hr k (by omega)
    refine ⟨_, by rw [← add_mid]; exact c1, ?_⟩
    have hrow : ((List.range len).map fun r => (Z r).take (L r)).getD k [] = (Z k).take (L k) := by simp [List.getD_eq_getElem?_getD, hk]
    rw [hrow]
    have hl2 : ((Z k).take (L k)).length = L k := by simp; omega
    unfold Ints
    rw [hl2]
    cases hA : A k with
    | none =>
      have := c6 hA
      exact ⟨none, C k, rfl, by omega, by unfold maxLen at c3; omega, fun h => absurd h (by omega)⟩
    | some a' =>
      refine Cells.of_addr (by omega) c2 c3 fun j hj => ?_
      rw [(c7 a' hA).2 j (by omega)]
      have : j < L k := by omega
      simp [List.getD_eq_getElem?_getD, this]
end
end Go.Proofs.Ytajaonejpggcbaa

namespace Go.Proofs.Ytajaonejpggcbaa
open Go.ChangeShapes Go.WideShapes Go.ChangeAt Go.RowKit Go.Deep

section
variable {H : Type} {enc : TypeId × Value → H} {W : World} {base : Nat} {held : Bool}

theorem bytes_open {fuel : Nat} {cs : List Value} {x : DataW H × List MemPlace} (h : DataW.trod enc Try.prog W base (fun _ => true) held fuel 50 cs = some x) : ∃ v xs, cs = [v] ∧ Bytes W v xs := by
  rcases open_ints Try.underlying50 Try.underlying5 (by kernel_rfl) h with ⟨hcs, _⟩ | ⟨a, len, cap, zs, hcs, _, hl, hm, hz, _, hcell, hwz⟩
  · exact ⟨_, [], hcs, ⟨none, 0, rfl, by simp, by omega, fun h => absurd h (by simp)⟩, by simp⟩
  · simp only [if_true] at hz
    refine ⟨_, zs.take len, hcs, ?_, fun x hx => ?_⟩
    · have hlen : (zs.take len).length = len := by simp; omega
      rw [hlen]
      refine Cells.of_addr (by omega) hl hm fun j hj => ?_
      rw [hcell j (by omega)]
      have : j < len := by omega
      simp [List.getD_eq_getElem?_getD, this]
    · have := hwz x (List.mem_of_mem_take hx)
      simp only [Lit.wf, Bool.and_eq_true, decide_eq_true_eq] at this
      exact ⟨this.1, this.2⟩
end
end Go.Proofs.Ytajaonejpggcbaa

namespace Go.Proofs.Ytajaonejpggcbaa
open Go.ChangeShapes Go.WideShapes Go.ChangeAt Go.RowKit Go.Deep

section
variable {H : Type} {enc : TypeId × Value → H} {W : World} {base : Nat} {held : Bool}

set_option maxRecDepth 100000 in
theorem codes_open {fuel : Nat} {cs : List Value} {x : DataW H × List MemPlace} (h : DataW.trod enc Try.prog W base (fun _ => true) held fuel 26 cs = some x) : ∃ v xs, cs = [v] ∧ Codes W v xs := by
  rcases open_slice Try.underlying26 h with ⟨hcs, _⟩ | ⟨a, len, cap, m, n, D, Pl, hcs, _, hl, hm, hmm, _, hx⟩
  · exact ⟨_, [], hcs, ⟨none, 0, rfl, by simp, by omega, fun h => absurd h (by simp)⟩⟩
  · simp only [if_true] at hmm
    subst hmm
    have c67 : Try.prog.cellsOf 70 = 4 := by kernel_rfl
    have c3 : Try.prog.cellsOf 3 = 1 := by kernel_rfl
    have each : ∀ i, i < m → ∃ c : Cd, W.cell? (a.add (i * 4)) = some (.int .i64 c.op) ∧ W.cell? (a.add (i * 4 + 1)) = some (.int .i64 c.a) ∧ W.cell? (a.add (i * 4 + 2)) = some (.int .i64 c.b) ∧ W.cell? (a.add (i * 4 + 3)) = some (.int .i64 c.c) := by
      intro i hi
      obtain ⟨cs', h1, h2⟩ := hx i hi
      rw [c67] at h1
      obtain ⟨_, hlen, hcell⟩ := World.cells?_some h1
      obtain ⟨xs, k, hk, hxy, _, hxl, hf⟩ := DataW.trod_struct Try.underlying70 h2
      match cs', hlen with
      | [v0, v1, v2, v3], _ =>
        have g0 := hf 0 _ rfl
        have g1 := hf 1 _ rfl
        have g2 := hf 2 _ rfl
        have g3 := hf 3 _ rfl
        have e0 := hcell 0 (by omega)
        have e1 := hcell 1 (by omega)
        have e2 := hcell 2 (by omega)
        have e3 := hcell 3 (by omega)
        rw [add_add] at e0 e1 e2 e3
        match xs, hxl with
        | [y0, y1, y2, y3], _ =>
          simp [c3] at g0 g1 g2 g3
          obtain ⟨z0, hz0, _⟩ := DataW.trod_int Try.underlying3 g0
          obtain ⟨z1, hz1, _⟩ := DataW.trod_int Try.underlying3 g1
          obtain ⟨z2, hz2, _⟩ := DataW.trod_int Try.underlying3 g2
          obtain ⟨z3, hz3, _⟩ := DataW.trod_int Try.underlying3 g3
          simp only [List.cons.injEq, and_true] at hz0 hz1 hz2 hz3
          subst hz0 hz1 hz2 hz3
          exact ⟨⟨z0, z1, z2, z3⟩, by simpa using e0, by simpa using e1, by simpa using e2, by simpa using e3⟩
    obtain ⟨q, hq⟩ := choose_lt each
    refine ⟨_, (List.range len).map q, hcs, ?_⟩
    have hlen : ((List.range len).map q).length = len := by simp
    unfold Codes
    rw [hlen]
    refine Cells.of_addr (by omega) hl hm fun j hj => ?_
    have hj4 : j / 4 < len := by omega
    have hd : ((List.range len).map q).getD (j / 4) default = q (j / 4) := by simp [List.getD_eq_getElem?_getD, hj4]
    obtain ⟨a0, a1, a2, a3⟩ := hq (j / 4) (by omega)
    unfold cdf
    rw [hd]
    have hm4 : j % 4 < 4 := Nat.mod_lt _ (by decide)
    have hsplit : j = j / 4 * 4 + j % 4 := by omega
    clear hd
    generalize j / 4 = p at *
    generalize j % 4 = r at *
    subst hsplit
    match r, hm4 with
    | 0, _ => exact a0
    | 1, _ => exact a1
    | 2, _ => exact a2
    | 3, _ => exact a3
end
end Go.Proofs.Ytajaonejpggcbaa

namespace Go.Proofs.Ytajaonejpggcbaa
open Go.RowKit

def foldPut : Act → List Oper → List Value → Act
  | a, o :: r, v :: vs => foldPut (a.put o.dst v) r vs
  | a, _, _ => a
def nowhere : Exit → Act → World → Prop := fun _ _ _ => False
def PureOps (P : Program) (ops : Array Oper) (S : World → Prop) (aF : Act) : List Oper → List Value → Prop
  | o :: r, v :: vs => (∀ u, S u → wpList P ops (thenK nowhere fun b u' => S u' ∧ b = aF.put o.dst v) [o] aF u) ∧ PureOps P ops S aF r vs
  | _, _ => True
def dsts (l : List Oper) : List Tmp := l.filterMap (·.dst)
def looksB (ops : Array Oper) : Bool := (List.range ops.size).all fun i => ((ops[i]?).map fun o => (o.looksAt ops).all fun t => (List.range ops.size).all fun j => ((ops[j]?).map fun o' => o'.dst != some t || o.after.any fun e => e.on == j && Region.binds .any e).getD true).getD true
def pureB (l : List Oper) : Bool := Region.noSelect l.toArray && looksB l.toArray && decide (dsts l).Nodup
def sizeB (a : Act) (l : List Oper) : Bool := (dsts l).all fun d => decide (d < a.tmps.size)

theorem put_size (a : Act) (d : Option Tmp) (v : Value) : (a.put d v).tmps.size = a.tmps.size := by
  cases d <;> simp [Act.put]
theorem put_def (a : Act) (d : Option Tmp) (v : Value) : (a.put d v).defers = a.defers := by
  cases d <;> rfl
theorem foldPut_size : ∀ (l : List Oper) (vs : List Value) (a : Act), (foldPut a l vs).tmps.size = a.tmps.size
  | [], _, _ => rfl
  | _ :: _, [], _ => rfl
  | o :: r, v :: vs, a => by
    show (foldPut (a.put o.dst v) r vs).tmps.size = _
    rw [foldPut_size r vs, put_size]
theorem foldPut_def : ∀ (l : List Oper) (vs : List Value) (a : Act), (foldPut a l vs).defers = a.defers
  | [], _, _ => rfl
  | _ :: _, [], _ => rfl
  | o :: r, v :: vs, a => by
    show (foldPut (a.put o.dst v) r vs).defers = _
    rw [foldPut_def r vs, put_def]
theorem put_get_ne (a : Act) {d : Option Tmp} {t : Tmp} (v : Value) (h : d ≠ some t) : (a.put d v).tmps[t]? = a.tmps[t]? := by
  cases d with
  | none => rfl
  | some d => simp [Act.put, Array.getElem?_setIfInBounds_ne (show d ≠ t from fun e => h (by rw [e]))]
theorem put_get_same (a : Act) {t : Tmp} (v : Value) (h : t < a.tmps.size) : (a.put (some t) v).tmps[t]? = some v := by
  simp [Act.put, Array.getElem?_setIfInBounds_self_of_lt h]
theorem foldPut_keep : ∀ (l : List Oper) (vs : List Value) (a : Act) (t : Tmp), t ∉ dsts l → (foldPut a l vs).tmps[t]? = a.tmps[t]?
  | [], _, _, _, _ => rfl
  | _ :: _, [], _, _, _ => rfl
  | o :: r, v :: vs, a, t, h => by
    show (foldPut (a.put o.dst v) r vs).tmps[t]? = _
    have h1 : o.dst ≠ some t := fun e => h (by unfold dsts; exact List.mem_filterMap.2 ⟨o, by simp, e⟩)
    have h2 : t ∉ dsts r := fun e => h (by
      unfold dsts at e ⊢
      obtain ⟨x, hx, he⟩ := List.mem_filterMap.1 e
      exact List.mem_filterMap.2 ⟨x, by simp [hx], he⟩)
    rw [foldPut_keep r vs _ t h2, put_get_ne a v h1]
theorem foldPut_hit : ∀ (l : List Oper) (vs : List Value) (a : Act) (j : Nat) (o : Oper) (v : Value) (t : Tmp), (dsts l).Nodup → l[j]? = some o → vs[j]? = some v → o.dst = some t → t < a.tmps.size → (foldPut a l vs).tmps[t]? = some v
  | [], _, _, j, _, _, _, _, h, _, _, _ => by simp at h
  | _ :: _, [], _, j, _, _, _, _, _, h, _, _ => by simp at h
  | o :: r, v :: vs, a, 0, o', v', t, hn, h1, h2, h3, h4 => by
    simp at h1 h2
    subst h1 h2
    have e : dsts (o :: r) = t :: dsts r := by unfold dsts; simp [h3]
    rw [e] at hn
    show (foldPut (a.put o.dst v) r vs).tmps[t]? = _
    rw [foldPut_keep r vs _ t (List.nodup_cons.1 hn).1, h3, put_get_same a v h4]
  | o :: r, v :: vs, a, j + 1, o', v', t, hn, h1, h2, h3, h4 => by
    have hn' : (dsts r).Nodup := by
      unfold dsts at hn ⊢
      cases hd : o.dst with
      | none => simpa [hd] using hn
      | some d => simp [hd] at hn; exact hn.2
    exact foldPut_hit r vs (a.put o.dst v) j o' v' t hn' (by simpa using h1) (by simpa using h2) h3 (by rw [put_size]; exact h4)
theorem PureOps.get {P : Program} {ops : Array Oper} {S : World → Prop} {aF : Act} : ∀ {l : List Oper} {vs : List Value} {j : Nat} {o : Oper} {v : Value}, PureOps P ops S aF l vs → l[j]? = some o → vs[j]? = some v → ∀ u, S u → wpList P ops (thenK nowhere fun b u' => S u' ∧ b = aF.put o.dst v) [o] aF u
  | [], _, _, _, _, _, h, _ => by simp at h
  | _ :: _, [], _, _, _, _, _, h => by simp at h
  | _ :: _, _ :: _, 0, _, _, hp, h1, h2 => by
    simp at h1 h2; subst h1 h2; exact hp.1
  | _ :: _, _ :: _, j + 1, _, _, hp, h1, h2 => PureOps.get hp.2 (by simpa using h1) (by simpa using h2)
theorem put_inj {aF a : Act} {d : Option Tmp} {x v : Value} (hd : ∀ t, d = some t → t < aF.tmps.size) (h : aF.put d x = aF.put d v) : a.put d x = a.put d v := by
  cases d with
  | none => rfl
  | some t =>
    have h1 := put_get_same aF x (hd t rfl)
    rw [h, put_get_same aF v (hd t rfl)] at h1
    injection h1 with h1
    rw [h1]
theorem transfer {P : Program} {ops : Array Oper} {S : World → Prop} {Q : Exit → Act → World → Prop} {K : Act → World → Prop} {o : Oper} {a aF : Act} {v : Value} {u : World} (he : execOp a.eval o = execOp aF.eval o)
    (hw : Region.wanted o (yielded ops a.tmps) = Region.wanted o (yielded ops aF.tmps)) (hd : ∀ t, o.dst = some t → t < aF.tmps.size) (h : wpList P ops (thenK nowhere fun b u' => S u' ∧ b = aF.put o.dst v) [o] aF u)
    (hK : ∀ u', S u' → K (a.put o.dst v) u') : wpList P ops (thenK Q K) [o] a u := by
  unfold wpList at h ⊢
  rw [hw]
  split
  · rename_i hwt
    rw [if_pos hwt] at h
    rcases h with h | ⟨_, b, u', h2⟩
    · left
      unfold Oper.wp at h ⊢
      rw [he]
      generalize (execOp aF.eval o).run P u = r at h
      cases r with
      | ok n w' =>
        cases n with
        | value x => obtain ⟨h1, h2⟩ := h; show K _ _; rw [put_inj hd h2]; exact hK _ h1
        | skip => obtain ⟨h1, h2⟩ := h; show K _ _; rw [put_inj hd h2]; exact hK _ h1
        | defer d =>
          obtain ⟨_, h2⟩ := h
          exfalso
          have := congrArg Act.defers h2
          rw [put_def, put_def] at this
          exact absurd (congrArg List.length this) (by simp)
        | enter f xs =>
          refine Calls.mono h fun e w'' k => ?_
          cases e with
          | returned x => obtain ⟨h1, h2⟩ := k; show K _ _; rw [put_inj hd h2]; exact hK _ h1
          | panicked c => exact (k : False).elim
          | outgrown => obtain ⟨_, _, k⟩ := k; exact (k : False).elim
        | row r xs =>
          refine Rows.mono h fun x w'' k => ?_
          obtain ⟨h1, h2⟩ := k; show K _ _; rw [put_inj hd h2]; exact hK _ h1
        | _ => exact (h : False).elim
      | halt x w' => cases x <;> exact (h : False).elim
    · exact (h2 : False).elim
  · rename_i hwt
    rw [if_neg hwt] at h
    obtain ⟨h1, h2⟩ := h
    show K _ _
    rw [put_inj hd h2]
    exact hK _ h1
theorem eval_eq {a aF : Act} {x : Operand} (h : ∀ t, x = .tmp t → a.tmps[t]? = aF.tmps[t]?) : a.eval x = aF.eval x := by
  cases x with
  | tmp t => simp [Act.eval, h t rfl]
  | _ => rfl
theorem wanted_eq {ops : Array Oper} {o : Oper} {a aF : Act} (h : ∀ t ∈ o.looksAt ops, a.tmps[t]? = aF.tmps[t]?) : Region.wanted o (yielded ops a.tmps) = Region.wanted o (yielded ops aF.tmps) := by
  unfold Region.wanted
  cases hg : o.guard with
  | none => rfl
  | some gw =>
    obtain ⟨g, want⟩ := gw
    have hy : yielded ops a.tmps g = yielded ops aF.tmps g := by
      unfold yielded
      cases ht : (ops[g]?).bind (·.dst) with
      | none => rfl
      | some t =>
        have := h t (by simp [Oper.looksAt, hg, ht])
        simp only [Option.bind_some, this]
    simp only [hy]
theorem looksB_spec {ops : Array Oper} (h : looksB ops = true) {i j : Nat} {o o' : Oper} {t : Tmp} (ho : ops[i]? = some o) (ht : t ∈ o.looksAt ops) (ho' : ops[j]? = some o') (hd : o'.dst = some t) : ∃ e ∈ o.after, e.on = j ∧ Region.binds .any e = true := by
  have hi := (Array.getElem?_eq_some_iff.1 ho).1
  have hj := (Array.getElem?_eq_some_iff.1 ho').1
  have h1 := (List.all_eq_true.1 h) i (List.mem_range.2 hi)
  rw [ho] at h1
  simp only [Option.map_some, Option.getD_some] at h1
  have h2 := (List.all_eq_true.1 ((List.all_eq_true.1 h1) t ht)) j (List.mem_range.2 hj)
  rw [ho'] at h2
  simp only [Option.map_some, Option.getD_some, hd, bne_self_eq_false, Bool.false_or] at h2
  obtain ⟨k, hk, h3⟩ := Array.any_eq_true.1 h2
  simp only [Bool.and_eq_true, beq_iff_eq] at h3
  exact ⟨o.after[k], Array.getElem_mem hk, h3⟩

theorem getD_setS' (l : Array Bool) (i j : Nat) (h : (l.setIfInBounds i true).getD j false = true) (hij : i ≠ j) : l.getD j false = true := (getD_setB l i j h).resolve_right hij

theorem region_pure {P : Program} {id : Nat} {Q : Exit → Act → World → Prop} {a : Act} {w : World} {l : List Oper} (vals : List Value) (S : World → Prop) (hm : P.follows .mixedOrders = true) (hB : pureB l = true) (hl : vals.length = l.length) (hz : sizeB a l = true)
    (hS : S w.drew) (hops : PureOps P l.toArray S (foldPut a l vals) l vals) (hend : ∀ u, S u → Q .normal (foldPut a l vals) u) (hback : backB l.toArray = true) : (Code.region id l.toArray true).wp P Q a w := by
  simp only [pureB, Bool.and_eq_true, decide_eq_true_eq] at hB
  obtain ⟨⟨hsel, hlook⟩, hnd⟩ := hB
  have hsz : ∀ o ∈ l, ∀ t, o.dst = some t → t < a.tmps.size := fun o ho t ht => by
    have := (List.all_eq_true.1 hz) t (List.mem_filterMap.2 ⟨o, ho, ht⟩)
    simpa using this
  have hval : ∀ j o, l[j]? = some o → ∃ v, vals[j]? = some v := fun j o ho => by
    have : j < vals.length := by have := (List.getElem?_eq_some_iff.1 ho).1; omega
    exact ⟨vals[j], List.getElem?_eq_getElem this⟩
  refine region_inv hm (fun l' b u => S u ∧ b.defers = a.defers ∧ b.tmps.size = a.tmps.size ∧ l'.size = l.length ∧ (∀ j o t, l[j]? = some o → o.dst = some t → l'.getD j false = true → b.tmps[t]? = (foldPut a l vals).tmps[t]?) ∧ ∀ t, t ∉ dsts l → b.tmps[t]? = (foldPut a l vals).tmps[t]?) ?_ ?_ ?_
  · refine ⟨hS, rfl, rfl, by simp, fun j o t _ _ h => ?_, fun t ht => (foldPut_keep l vals a t ht).symm⟩
    rw [Array.getD_eq_getD_getElem?] at h
    by_cases hj : j < l.length
    · simp [hj] at h
    · simp [hj] at h
  · rintro l' b u ⟨h1, h2, h3, h4, h5, h6⟩ hr
    have hall := ready_nil hback (by simpa using h4) hr
    have : b = foldPut a l vals := by
      have ht : b.tmps = (foldPut a l vals).tmps := by
        apply Array.ext_getElem?
        intro t
        by_cases ht : t ∈ dsts l
        · obtain ⟨o, ho, hd⟩ := List.mem_filterMap.1 ht
          obtain ⟨j, hj, rfl⟩ := List.getElem_of_mem ho
          exact h5 j l[j] t (List.getElem?_eq_getElem hj) hd (hall j (by simpa using hj))
        · exact h6 t ht
      have hd : b.defers = (foldPut a l vals).defers := by rw [h2, foldPut_def]
      cases b
      cases hF : foldPut a l vals
      rw [hF] at ht hd
      simp only at ht hd
      rw [ht, hd]
    rw [this]
    exact hend u h1
  · rintro l' b u i o ⟨h1, h2, h3, h4, h5, h6⟩ ho hun hdep
    have ho' : l[i]? = some o := by simpa using ho
    obtain ⟨v, hv⟩ := hval i o ho'
    have hlooks : ∀ t ∈ o.looksAt l.toArray, b.tmps[t]? = (foldPut a l vals).tmps[t]? := fun t ht => by
      by_cases hd : t ∈ dsts l
      · obtain ⟨oj, hoj, hdj⟩ := List.mem_filterMap.1 hd
        obtain ⟨j, hj, rfl⟩ := List.getElem_of_mem hoj
        obtain ⟨e, he, e1, e2⟩ := looksB_spec hlook ho ht (show l.toArray[j]? = some l[j] by simp [hj]) hdj
        exact h5 j _ t (List.getElem?_eq_getElem hj) hdj (by rw [← e1]; exact hdep e he e2)
      · exact h6 t hd
    refine transfer (execOp_congr o (fun cs c => Region.noSelect_spec hsel i o cs c ho) fun x hx => eval_eq fun t ht => hlooks t ?_) (wanted_eq hlooks) (fun t ht => by rw [foldPut_size]; exact hsz o (List.mem_of_getElem? ho') t ht) (PureOps.get hops ho' hv u h1) fun u' hu' => ?_
    · subst ht
      exact List.mem_append_left _ (List.mem_filterMap.2 ⟨.tmp t, by simpa using hx, rfl⟩)
    · refine ⟨hu', by rw [put_def, h2], by rw [put_size, h3], by simpa using h4, fun j oj t hj hdj hlj => ?_, fun t ht => ?_⟩
      · by_cases hij : i = j
        · subst hij
          rw [ho'] at hj
          injection hj with hj
          subst hj
          have hlt := hsz o (List.mem_of_getElem? ho') t hdj
          rw [foldPut_hit l vals a i o v t hnd ho' hv hdj hlt, hdj, put_get_same b v (by rw [h3]; exact hlt)]
        · by_cases hdd : o.dst = some t
          · exfalso
            have hlt := hsz o (List.mem_of_getElem? ho') t hdd
            -- two operations with the same slot
            have : ∀ (l : List Oper) (i j : Nat) (x y : Oper), (dsts l).Nodup → l[i]? = some x → l[j]? = some y → x.dst = some t → y.dst = some t → i = j := by
              intro l
              induction l with
              | nil => intro i j x y _ h; simp at h
              | cons z r ih =>
                intro i j x y hn hx hy dx dy
                have hn' : (dsts r).Nodup := by
                  unfold dsts at hn ⊢
                  cases hd : z.dst with
                  | none => simpa [hd] using hn
                  | some d => simp [hd] at hn; exact hn.2
                have hz0 : z.dst = some t → t ∉ dsts r := fun e => by
                  have : dsts (z :: r) = t :: dsts r := by unfold dsts; simp [e]
                  rw [this] at hn
                  exact (List.nodup_cons.1 hn).1
                cases i with
                | zero =>
                  cases j with
                  | zero => rfl
                  | succ j =>
                    simp at hx hy; subst hx
                    exact absurd (List.mem_filterMap.2 ⟨y, List.mem_of_getElem? hy, dy⟩) (hz0 dx)
                | succ i =>
                  cases j with
                  | zero =>
                    simp at hx hy; subst hy
                    exact absurd (List.mem_filterMap.2 ⟨x, List.mem_of_getElem? hx, dx⟩) (hz0 dy)
                  | succ j => rw [ih i j x y hn' (by simpa using hx) (by simpa using hy) dx dy]
            exact hij (this l i j o oj hnd ho' hj hdd hdj)
          · rw [put_get_ne b v hdd]
            exact h5 j oj t hj hdj (getD_setS' l' i j hlj hij)
      · have hdd : o.dst ≠ some t := fun e => ht (List.mem_filterMap.2 ⟨o, List.mem_of_getElem? ho', e⟩)
        rw [put_get_ne b v hdd]
        exact h6 t ht

end Go.Proofs.Ytajaonejpggcbaa

namespace Go.Proofs.Ytajaonejpggcbaa
open Go.RowKit

section
variable {P : Program} {ops : Array Oper} {Q : Exit → Act → World → Prop} {md : Region.Mode} {S : World → Prop}
theorem anyK_end {z f : Nat} {l : Array Bool} {a : Act} {w : World} (hr : Region.ready md ops l = []) (h : Q .normal a w) : AnyK P md ops Q S z f l a w := by
  cases f with
  | zero => exact ⟨hr, h⟩
  | succ f => exact ⟨fun _ => h, by rw [hr]; simp⟩
theorem anyK_one {z f i : Nat} {l : Array Bool} {a : Act} {w : World} {o : Oper} (hr : Region.ready md ops l = [i]) (ho : ops[i]? = some o)
    (h : wpList P ops (thenK Q fun b u => (i ≠ z → S u) ∧ AnyK P md ops Q S z f (l.setIfInBounds i true) b u) [o] a w) : AnyK P md ops Q S z (f + 1) l a w := by
  refine ⟨fun h0 => absurd hr (by rw [h0]; simp), fun j hj => ?_⟩
  rw [hr] at hj
  obtain rfl : j = i := by simpa using hj
  exact wpOp_of_one ho h
theorem anyK_two {z f i j : Nat} {l : Array Bool} {a : Act} {w : World} {o p : Oper} (hr : Region.ready md ops l = [i, j]) (ho : ops[i]? = some o) (hp : ops[j]? = some p)
    (h1 : wpList P ops (thenK Q fun b u => (i ≠ z → S u) ∧ AnyK P md ops Q S z f (l.setIfInBounds i true) b u) [o] a w)
    (h2 : wpList P ops (thenK Q fun b u => (j ≠ z → S u) ∧ AnyK P md ops Q S z f (l.setIfInBounds j true) b u) [p] a w) : AnyK P md ops Q S z (f + 1) l a w := by
  refine ⟨fun h0 => absurd hr (by rw [h0]; simp), fun k hk => ?_⟩
  rw [hr] at hk
  have hk' : k = i ∨ k = j := by simpa using hk
  rcases hk' with rfl | rfl
  · exact wpOp_of_one ho h1
  · exact wpOp_of_one hp h2
def setsB (l : Array Bool) : List Nat → Array Bool
  | [] => l
  | i :: r => setsB (l.setIfInBounds i true) r
def hdsW (md : Region.Mode) (ops : Array Oper) : List Nat → Array Bool → Bool
  | [], _ => true
  | i :: r, l => (Region.ready md ops l).contains i && Region.free md ops l i && decide (i + 1 < ops.size) && hdsW md ops r (l.setIfInBounds i true)
theorem heads_way {z k : Nat} (hz : z + 1 = ops.size) (hns : Region.noSelect ops = true) (hk : Region.sinkB md ops z = true) (hc : Region.chainB md ops z = true)
    (hQ : ∀ (c : _) (a : Act) (d : Option Tmp) (v : Value) (w : World), Q (.panic c) (a.put d v) w → Q (.panic c) a w) :
    ∀ (hs : List Nat) (hl : List Oper) (f : Nat) (l : Array Bool) (a : Act) (w : World), hs.map (ops[·]?) = hl.map some → hdsW md ops hs l = true → hs.length + k = f → HeadInv md ops z l → S w →
      Held P ops S (fun b => AnyK P md ops Q S z k (setsB l hs) b w) hl a → AnyK P md ops Q S z f l a w
  | [], hl, f, l, a, w, hm, _, hf, inv, hS, h => by
    obtain rfl : hl = [] := by cases hl with
      | nil => rfl
      | cons => simp at hm
    obtain rfl : k = f := by simpa using hf
    exact h
  | i :: hs, [], _, _, _, _, hm, _, _, _, _, _ => by simp at hm
  | i :: hs, o :: hl, 0, _, _, _, _, _, hf, _, _, _ => by simp at hf
  | i :: hs, o :: hl, f + 1, l, a, w, hm, hB, hf, inv, hS, h => by
    simp only [List.map_cons, List.cons.injEq] at hm
    simp only [hdsW, Bool.and_eq_true, decide_eq_true_eq] at hB
    obtain ⟨⟨⟨hr, hfr⟩, hlt⟩, hB⟩ := hB
    obtain ⟨v, hy, h⟩ := h
    have hr' : i ∈ Region.ready md ops l := by simpa using hr
    exact AnyK.first hm.1 hns (fun c b u => hQ c b o.dst v u) hk hc hz (by omega) f l a w inv (Region.free_spec hm.1 hfr) hr' hy hS
      (heads_way hz hns hk hc hQ hs hl f _ _ w hm.2 hB (by simp at hf; omega) (inv.set hr' (by omega)) hS h)
end
/-- A region: the operations hs only read where S holds; the rest comes in any order. -/
theorem region_way {P : Program} {id : Nat} {Q : Exit → Act → World → Prop} {a : Act} {w : World} {l : List Oper} (S : World → Prop) (hs : List Nat) (k z : Nat) (fH : List Oper → List Oper) (hm : P.follows .mixedOrders = true)
    (hB : (Region.noSelect l.toArray && Region.sinkB .any l.toArray z && Region.chainB .any l.toArray z && decide (z + 1 = l.toArray.size) && decide (hs.length + k = l.toArray.size) && hdsW .any l.toArray hs (Array.replicate l.toArray.size false)) = true)
    (hh : hs.map (l.toArray[·]?) = (fH l).map some)
    (hQ : ∀ (c : _) (a : Act) (d : Option Tmp) (v : Value) (w : World), Q (.panic c) (a.put d v) w → Q (.panic c) a w) (hS : S w.drew)
    (h : Held P l.toArray S (fun b => AnyK P .any l.toArray Q S z k (setsB (Array.replicate l.toArray.size false) hs) b w.drew) (fH l) a) : (Code.region id l.toArray true).wp P Q a w := by
  simp only [Bool.and_eq_true, decide_eq_true_eq] at hB
  obtain ⟨⟨⟨⟨⟨hns, hk⟩, hc⟩, h0⟩, hlen⟩, hB⟩ := hB
  have inv0 : HeadInv .any l.toArray z (Array.replicate l.toArray.size false) :=
    ⟨by simp, fun j p _ hx => (by rw [getD_replicate_false] at hx; cases hx), fun t _ hx => getD_in (by simpa using hx) (getD_replicate_false _ _)⟩
  exact wp_region_any hm (AnyK.any _ _ _ _ (heads_way h0 hns hk hc hQ hs (fH l) _ _ a w.drew hh hB hlen inv0 hS h))

end Go.Proofs.Ytajaonejpggcbaa

namespace Go.Proofs.Ytajaonejpggcbaa
open Go.RowKit

section
variable {P : Program} {t e : TypeId} {s : Nat} {z : List Value} {bytes : Nat}
theorem wl_appendC (E : ElT P t e s z bytes) {w : World} {ops : Array Oper} {rest : List Oper} {o : Oper} {a : Act} {Q : Exit → Act → World → Prop}
    (hgd : o.guard = none) (sl x : Operand) (ho : o.op = .call { callee := .builtin .append, args := #[sl, x], argTypes := #[t, t] })
    (B : Nat) (v : Value) (n : Nat) (xs : List Value) (hs : a.eval sl = v) (hown : OwnO w B e s v n xs) (hpos : 0 < n) (vx : Value) (hx : a.eval x = vx) (f : Nat → Value) (m : Nat) (hc : Cells w vx m s f) (h1 : ∀ j, j < m * s → (f j).oneCell' = true)
    (hby : bytes ≤ 128) (hn : n + m ≤ 1099511627776) (hB : B ≤ w.heap.size)
    (h : ∀ v' w', OwnO w' B e s v' (n + m) (xs ++ (List.range (m * s)).map f) → w.grownBy w' v.ownBlock → wpList P ops Q rest (a.put o.dst v') w') : wpList P ops Q (o :: rest) a w := by
  obtain ⟨g0, off0, c0, rfl, hnc0, hc00, hgB, hgl⟩ := hown.formSome hpos
  obtain ⟨A, c, rfl, hmc, hcm, hrd⟩ := hc
  rcases A with _ | ⟨b, off, sp⟩
  · have hm0 : m = 0 := by
      rcases Nat.eq_zero_or_pos m with h0 | h0
      · exact h0
      · obtain ⟨_, _, h, _⟩ := hrd h0; cases h
    subst hm0
    obtain ⟨i, zv, h2, h3, h4, h5, h6, h7⟩ := E.parts
    refine wpList_plain hgd fun K hK' => ?_
    have hrun : (Builtin.append_ #[t, t] o.type #[.slice (some ⟨g0, off0, none⟩) n c0, .slice none 0 c]).run P w = .ok (.slice (some ⟨g0, off0, none⟩) n c0) w := by
      simp [Builtin.append_, run_underlying E.ht, sizeOf, typeInfo, h2, Builtin.lenOf, Builtin.firstCells, storeCells, hnc0]
    unfold Oper.wp execOp
    simp only [ho, resolve, invoke, builtin, Sem.run_bind, Sem.run_pure, Result.andThen_ok, List.map_toArray, List.map_cons, List.map_nil, hs, hx, hrun]
    exact hK' _ _ (h _ _ (by simpa using hown) ((Pure.refl _).grownBy _))
  · rcases Nat.eq_zero_or_pos m with h0 | h0
    · subst h0
      obtain ⟨i, zv, h2, h3, h4, h5, h6, h7⟩ := E.parts
      refine wpList_plain hgd fun K hK' => ?_
      have hrun : (Builtin.append_ #[t, t] o.type #[.slice (some ⟨g0, off0, none⟩) n c0, .slice (some ⟨b, off, sp⟩) 0 c]).run P w = .ok (.slice (some ⟨g0, off0, none⟩) n c0) w := by
        simp [Builtin.append_, run_underlying E.ht, sizeOf, typeInfo, h2, Builtin.lenOf, Builtin.firstCells, storeCells, loadCells, loadCellsFrom, hnc0]
      unfold Oper.wp execOp
      simp only [ho, resolve, invoke, builtin, Sem.run_bind, Sem.run_pure, Result.andThen_ok, List.map_toArray, List.map_cons, List.map_nil, hs, hx, hrun]
      exact hK' _ _ (h _ _ (by simpa using hown) ((Pure.refl _).grownBy _))
    · obtain ⟨b', o', he, hbl, hcc⟩ := hrd h0
      injection he with he
      injection he with e1 e2 e3
      subst e1 e2 e3
      have hmul : (n + m) * bytes ≤ 1099511627776 * 128 := Nat.mul_le_mul hn hby
      refine wl_appendF E hgd sl x ho B _ n xs hs hown b off m c ((List.range (m * s)).map f) hx (by simp) (fun j u hu => ?_) (fun u hu => ?_) (by omega) (by omega) hB
        (fun v' w' r1 r2 _ => h v' w' r1 r2)
      · have hj : j < m * s := by
          rcases Nat.lt_or_ge j (m * s) with h | h
          · exact h
          · rw [List.getElem?_eq_none (by simpa using h)] at hu; cases hu
        rw [hcc j hj, ← hu]
        simp [hj]
      · obtain ⟨j, hj, rfl⟩ := List.mem_map.1 hu
        exact h1 j (by simpa using hj)
end

theorem ints_get {w : World} {A : Option Addr} {n c : Nat} {xs : List Int} (h : Ints w (.slice A n c) xs) {k : Nat} (hk : k < xs.length) : ∃ b o, A = some ⟨b, o, none⟩ ∧ b < w.heap.size ∧ ∀ j, j < xs.length → w.cell? ⟨b, o + j, none⟩ = some (.int .i64 (xs.getD j 0)) := by
  obtain ⟨A', c', hv, _, _, hrd⟩ := h
  cases hv
  obtain ⟨b, o, h1, h2, h3⟩ := hrd (by omega)
  exact ⟨b, o, h1, h2, fun j hj => h3 j (by omega)⟩

set_option maxHeartbeats 400000 in
theorem sameInts_same (v v' : Value) (xs : List Int) (w : World) (h : Ints w v xs) (h' : Ints w v' xs) (hl : xs.length ≤ 1048576) :
    Calls Try.prog 40 #[v, v'] w fun e w' => e = .returned (.bool true) ∧ Pure w w' := by
  have HF := Lib.hid h
  have HF' := Lib.hid h'
  obtain ⟨A, c, rfl⟩ := h.form
  obtain ⟨A', c', rfl⟩ := h'.form
  clear h h'
  have hd : ((xs.length : Int) != xs.length) = false := by simp
  go_enter Try.func40, Try.ntmps40
  go_wp2
  go_loopg [5] xs.length (fun gk i wr => ∃ k : Nat, gk + k = xs.length ∧ i = .int .i64 k ∧ Pure w wr)
  case atStart => exact ⟨0, rfl, rfl, Pure.refl _⟩
  case round =>
    obtain ⟨k, hgk, rfl, hp⟩ := hrel
    have Hgk := Lib.hid hgk
    have hkn : k ≤ xs.length := by omega
    clear hgk
    by_cases hlt : k < xs.length
    · obtain ⟨b, o, rfl, hb, hc⟩ := ints_get HF.out hlt
      obtain ⟨b', o', rfl, hb', hc'⟩ := ints_get HF'.out hlt
      have q0 := (hp.cell b _ hb).trans (hc k hlt)
      have r0 := (hp.cell b' _ hb').trans (hc' k hlt)
      obtain ⟨x, Hx⟩ : ∃ x : Int, Hid (xs.getD k 0 = x) := ⟨_, Lib.hid rfl⟩
      rw [Hx.out] at q0 r0
      have hxx : (x != x) = false := by simp
      clear hc hc'
      go_wp2
      go_quiet (fail)
      go_wp2
      go_roundg (xs.length - (k + 1))
      case measure => have := Hgk.out; omega
      case rel => exact ⟨k + 1, by have := Hgk.out; omega, by go_num, by exact (by repeat (first | assumption | exact Pure.refl _ | refine Pure.drewN ?_ _ | refine Pure.drew ?_ | refine Pure.alloc ?_ _ | refine Pure.setCell ?_ (by simp <;> omega) _))⟩
    · go_wp2
      go_ret
      exact ⟨rfl, hp⟩

end Go.Proofs.Ytajaonejpggcbaa

namespace Go.Proofs.Ytajaonejpggcbaa
open Go.RowKit

section
variable {P : Program} {t e s : Nat} {z : List Value} {bytes : Nat}
theorem wl_appendG (E : ElT P t e s z bytes) {w : World} {ops : Array Oper} {rest : List Oper} {o : Oper} {a : Act} {Q : Exit → Act → World → Prop}
    (hgd : o.guard = none) (sl x : Operand) (ho : o.op = .call { callee := .builtin .append, args := #[sl, x], argTypes := #[t, t] })
    (B : Nat) (v : Value) (n : Nat) (xs : List Value) (hs : a.eval sl = v) (hown : OwnO w B e s v n xs) (vx : Value) (hx : a.eval x = vx) (f : Nat → Value) (m : Nat) (hc : Cells w vx m s f) (h1 : ∀ j, j < m * s → (f j).oneCell' = true)
    (hby : bytes ≤ 128) (hn : n + m ≤ 1099511627776) (hB : B ≤ w.heap.size)
    (h : ∀ v' w', OwnO w' B e s v' (n + m) (xs ++ (List.range (m * s)).map f) → w.grownBy w' v.ownBlock → wpList P ops Q rest (a.put o.dst v') w') : wpList P ops Q (o :: rest) a w := by
  obtain ⟨A, c, rfl, hmc, hcm, hrd⟩ := hc
  have hold := hown
  obtain ⟨hxl, hown⟩ := hown
  rcases Nat.eq_zero_or_pos m with h0 | h0
  · subst h0
    obtain ⟨i, zv, h2, h3, h4, h5, h6, h7⟩ := E.parts
    refine wpList_plain hgd fun K hK' => ?_
    have hrun : (Builtin.append_ #[t, t] o.type #[v, .slice A 0 c]).run P w = .ok v w := by
      rcases hown with ⟨rfl, rfl⟩ | ⟨g0, off0, c0, cur, rfl, hb1, hb2, hb3, hb4, hb5, hb6⟩
      · rcases A with _ | ⟨b, off, sp⟩
        · simp [Builtin.append_, run_underlying E.ht, sizeOf, typeInfo, h2, Builtin.lenOf, Builtin.firstCells]
        · simp [Builtin.append_, run_underlying E.ht, sizeOf, typeInfo, h2, Builtin.lenOf, Builtin.firstCells, loadCells, loadCellsFrom]
      · rcases A with _ | ⟨b, off, sp⟩
        · simp [Builtin.append_, run_underlying E.ht, sizeOf, typeInfo, h2, Builtin.lenOf, Builtin.firstCells, storeCells, hb3]
        · simp [Builtin.append_, run_underlying E.ht, sizeOf, typeInfo, h2, Builtin.lenOf, Builtin.firstCells, storeCells, loadCells, loadCellsFrom, hb3]
    unfold Oper.wp execOp
    simp only [ho, resolve, invoke, builtin, Sem.run_bind, Sem.run_pure, Result.andThen_ok, List.map_toArray, List.map_cons, List.map_nil, hs, hx, hrun]
    exact hK' _ _ (h _ _ (by simpa using hold) ((Pure.refl _).grownBy _))
  · obtain ⟨b', o', rfl, hbl, hcc⟩ := hrd h0
    have hmul : (n + m) * bytes ≤ 1099511627776 * 128 := Nat.mul_le_mul hn hby
    refine wl_appendF E hgd sl x ho B _ n xs hs hold b' o' m c ((List.range (m * s)).map f) hx (by simp) (fun j u hu => ?_) (fun u hu => ?_) (by omega) (by omega) hB
      (fun v' w' r1 r2 _ => h v' w' r1 r2)
    · have hj : j < m * s := by
        rcases Nat.lt_or_ge j (m * s) with h | h
        · exact h
        · rw [List.getElem?_eq_none (by simpa using h)] at hu; cases hu
      rw [hcc j hj, ← hu]
      simp [hj]
    · obtain ⟨j, hj, rfl⟩ := List.mem_map.1 hu
      exact h1 j (by simpa using hj)
end

end Go.Proofs.Ytajaonejpggcbaa

namespace Go.Proofs.Ytajaonejpggcbaa
open Go.RowKit

end Go.Proofs.Ytajaonejpggcbaa

namespace Go.Proofs.Ytajaonejpggcbaa

theorem plain_op {c : Cd} (h : Plain c) : c.op ≠ 12 ∧ c.op ≠ 14 := ⟨h.2.2.1, h.2.2.2.2⟩
theorem turns_mem {F : Nat → LS → LS} {n a : Nat} {Q : Nat × Nat × (Nat → Nat → Int) → Prop} (hF : ∀ y s x, x ∈ (F y s).H → x ∈ s.H ∨ Q x) : ∀ (b y : Nat) (s : LS) (x), x ∈ (turns F n a b y s).H → x ∈ s.H ∨ Q x
  | 0, _, _, _, h => .inl h
  | b + 1, y, s, x, h => by
    rcases turns_mem hF b (onesTo s.R y a n) (F (onesTo s.R y a n) s) x h with h | h
    · exact hF _ _ _ h
    · exact .inr h
theorem beat_mem {i mask : Nat} {s : LS} {x : Nat × Nat × (Nat → Nat → Int)} (h : x ∈ (beat i mask s).H) : x ∈ s.H ∨ (x.1 = i ∧ x.2.1 = mask) := by
  rcases List.mem_append.1 h with h | h
  · exact .inl h
  · simp at h; subst h; exact .inr ⟨rfl, rfl⟩
/-- No step is one of an OpElse or an OpEnd. -/
theorem run_op {cs : List Cd} (n m : Nat) : ∀ (t : Tr) (i mask : Nat) (s : LS) (x), t.Ok → Seg cs i t → x ∈ (run n m t i mask s).H → x ∈ s.H ∨ ((cs.getD x.1 default).op ≠ 12 ∧ (cs.getD x.1 default).op ≠ 14)
  | .nil, _, _, _, _, _, _, h => .inl h
  | .op c k, i, mask, s, x, ho, hs, h => by
    obtain ⟨h1, _, h3⟩ := hs.op
    by_cases h0 : mask = 0
    · subst h0; rw [run_zero] at h; exact .inl h
    · have h : x ∈ (if mask = 0 then s else run n m k (i + 1) mask (exec c n m i mask s) : LS).H := h
      rw [if_neg h0] at h
      rcases run_op n m k _ _ _ _ ho.2 h3 h with h | h
      · rw [exec_H] at h
        rcases beat_mem (s := s) h with h | h
        · exact .inl h
        · rw [h.1, h1]; exact .inr (plain_op ho.1)
      · exact .inr h
  | .ite a t k, i, mask, s, x, ho, hs, h => by
    obtain ⟨h1, h2, _, _, h3⟩ := hs.ite
    by_cases h0 : mask = 0
    · subst h0; rw [run_zero] at h; exact .inl h
    · have h : x ∈ (if mask = 0 then s else _ : LS).H := h
      rw [if_neg h0] at h
      rcases run_op n m k _ _ _ _ ho.2.2 h3 h with h | h
      · rcases run_op n m t _ _ _ _ ho.2.1 h2 h with h | h
        · rcases beat_mem (s := s) h with h | h
          · exact .inl h
          · rw [h.1, h1]; exact .inr ⟨by simp [cIf], by simp [cIf]⟩
        · exact .inr h
      · exact .inr h
  | .itee a t e k, i, mask, s, x, ho, hs, h => by
    obtain ⟨h1, h2, _, h4, _, _, h3⟩ := hs.itee
    by_cases h0 : mask = 0
    · subst h0; rw [run_zero] at h; exact .inl h
    · have h : x ∈ (if mask = 0 then s else _ : LS).H := h
      rw [if_neg h0] at h
      rcases run_op n m k _ _ _ _ ho.2.2.2 h3 h with h | h
      · rcases run_op n m e _ _ _ _ ho.2.2.1 h4 h with h | h
        · rcases run_op n m t _ _ _ _ ho.2.1 h2 h with h | h
          · rcases beat_mem (s := s) h with h | h
            · exact .inl h
            · rw [h.1, h1]; exact .inr ⟨by simp [cIf], by simp [cIf]⟩
          · exact .inr h
        · exact .inr h
      · exact .inr h
  | .loop a b t k, i, mask, s, x, ho, hs, h => by
    obtain ⟨h1, h2, _, _, h3⟩ := hs.loop
    by_cases h0 : mask = 0
    · subst h0; rw [run_zero] at h; exact .inl h
    · have h : x ∈ (if mask = 0 then s else _ : LS).H := h
      rw [if_neg h0] at h
      rcases run_op n m k _ _ _ _ ho.2.2.2 h3 h with h | h
      · rcases turns_mem (fun y s x hx => run_op n m t _ _ _ _ ho.2.2.1 h2 hx) _ _ _ _ h with h | h
        · rcases beat_mem (s := s) h with h | h
          · exact .inl h
          · rw [h.1, h1]; exact .inr ⟨by simp [cLoop], by simp [cLoop]⟩
        · exact .inr h
      · exact .inr h

/-- Steps outside of the blocks of a tree have its mask. -/
def OutStep (cs : List Cd) (i mask : Nat) (x : Nat × Nat × (Nat → Nat → Int)) : Prop := (x.2.1 = mask ∧ aroundAt cs x.1 = aroundAt cs i) ∨ (i : Int) ≤ aroundAt cs x.1
theorem around_op {cs : List Cd} {i : Nat} (h1 : ¬ Opens (cs.getD i default)) (h2 : (cs.getD i default).op ≠ 14) : aroundAt cs (i + 1) = aroundAt cs i := by
  unfold aroundAt
  rw [bScan_succ, if_neg h2, if_neg h1]
theorem around_open {cs : List Cd} {i : Nat} (h : Opens (cs.getD i default)) : aroundAt cs (i + 1) = i := by
  unfold aroundAt
  have h2 : (cs.getD i default).op ≠ 14 := by rcases h with h | h <;> omega
  rw [bScan_succ, if_neg h2, if_pos h, if_pos rfl]
/-- Behind a block the blocks around are those before it. -/
theorem around_behind {cs : List Cd} {i : Nat} {t : Tr} (ho : t.Ok) (hs : Seg cs (i + 1) t) (h : Opens (cs.getD i default)) (he : cs.getD (i + 1 + t.len) default = cEnd) : aroundAt cs (i + 1 + t.len + 1) = aroundAt cs i := by
  unfold aroundAt
  have h2 : (cs.getD i default).op ≠ 14 := by rcases h with h | h <;> omega
  rw [bScan_succ, he, if_pos (by rfl), bScan_flat t (i + 1) 1 ho hs, bScan_succ, if_neg h2, if_pos h, if_neg (by decide)]
theorem around_behind2 {cs : List Cd} {i : Nat} {t e : Tr} (ho : t.Ok) (hs : Seg cs (i + 1) t) (h : Opens (cs.getD i default)) (he : cs.getD (i + 1 + t.len) default = cElse) (hoe : e.Ok) (hse : Seg cs (i + 1 + t.len + 1) e) (he2 : cs.getD (i + 1 + t.len + 1 + e.len) default = cEnd) :
    aroundAt cs (i + 1 + t.len + 1 + e.len + 1) = aroundAt cs i ∧ aroundAt cs (i + 1 + t.len + 1) = i := by
  have h2 : (cs.getD i default).op ≠ 14 := by rcases h with h | h <;> omega
  unfold aroundAt
  constructor
  · rw [bScan_succ, he2, if_pos (by rfl), bScan_flat e _ 1 hoe hse, bScan_succ, he, if_neg (by decide), if_neg opens_else, bScan_flat t (i + 1) 1 ho hs, bScan_succ, if_neg h2, if_pos h, if_neg (by decide)]
  · rw [bScan_succ, he, if_neg (by decide), if_neg opens_else, bScan_flat t (i + 1) 0 ho hs, bScan_succ, if_neg h2, if_pos h, if_pos rfl]
theorem OutStep.inner {cs : List Cd} {i j mask mask' : Nat} {x : Nat × Nat × (Nat → Nat → Int)} (h : OutStep cs j mask' x) (hj : aroundAt cs j = i) (hij : i ≤ j) : OutStep cs i mask x := by
  rcases h with h | h
  · exact .inr (by rw [h.2, hj]; exact Int.le_refl _)
  · exact .inr (by omega)
theorem OutStep.next {cs : List Cd} {i j mask : Nat} {x : Nat × Nat × (Nat → Nat → Int)} (h : OutStep cs j mask x) (hj : aroundAt cs j = aroundAt cs i) (hij : i ≤ j) : OutStep cs i mask x := by
  rcases h with h | h
  · exact .inl ⟨h.1, by rw [h.2, hj]⟩
  · exact .inr (by omega)
theorem run_out {cs : List Cd} (n m : Nat) : ∀ (t : Tr) (i mask : Nat) (s : LS) (x), t.Ok → Seg cs i t → x ∈ (run n m t i mask s).H → x ∈ s.H ∨ OutStep cs i mask x
  | .nil, _, _, _, _, _, _, h => .inl h
  | .op c k, i, mask, s, x, ho, hs, h => by
    obtain ⟨h1, _, h3⟩ := hs.op
    by_cases h0 : mask = 0
    · subst h0; rw [run_zero] at h; exact .inl h
    · have h : x ∈ (if mask = 0 then s else run n m k (i + 1) mask (exec c n m i mask s) : LS).H := h
      rw [if_neg h0] at h
      have hn : aroundAt cs (i + 1) = aroundAt cs i := around_op (by rw [h1]; have := ho.1; unfold Plain at this; unfold Opens; omega) (by rw [h1]; exact ho.1.2.2.2.2)
      rcases run_out n m k _ _ _ _ ho.2 h3 h with h | h
      · rw [exec_H] at h
        rcases beat_mem (s := s) h with h | h
        · exact .inl h
        · exact .inr (.inl ⟨h.2, by rw [h.1]⟩)
      · exact .inr (h.next hn (by omega))
  | .ite a t k, i, mask, s, x, ho, hs, h => by
    obtain ⟨h1, h2, he, _, h3⟩ := hs.ite
    have hop : Opens (cs.getD i default) := by rw [h1]; exact opens_if a
    by_cases h0 : mask = 0
    · subst h0; rw [run_zero] at h; exact .inl h
    · have h : x ∈ (if mask = 0 then s else _ : LS).H := h
      rw [if_neg h0] at h
      rcases run_out n m k _ _ _ _ ho.2.2 h3 h with h | h
      · rcases run_out n m t _ _ _ _ ho.2.1 h2 h with h | h
        · rcases beat_mem (s := s) h with h | h
          · exact .inl h
          · exact .inr (.inl ⟨h.2, by rw [h.1]⟩)
        · exact .inr (h.inner (around_open hop) (by omega))
      · exact .inr (h.next (around_behind ho.2.1 h2 hop he) (by omega))
  | .itee a t e k, i, mask, s, x, ho, hs, h => by
    obtain ⟨h1, h2, he, h4, he2, _, h3⟩ := hs.itee
    have hop : Opens (cs.getD i default) := by rw [h1]; exact opens_if a
    obtain ⟨hb1, hb2⟩ := around_behind2 ho.2.1 h2 hop he ho.2.2.1 h4 he2
    by_cases h0 : mask = 0
    · subst h0; rw [run_zero] at h; exact .inl h
    · have h : x ∈ (if mask = 0 then s else _ : LS).H := h
      rw [if_neg h0] at h
      rcases run_out n m k _ _ _ _ ho.2.2.2 h3 h with h | h
      · rcases run_out n m e _ _ _ _ ho.2.2.1 h4 h with h | h
        · rcases run_out n m t _ _ _ _ ho.2.1 h2 h with h | h
          · rcases beat_mem (s := s) h with h | h
            · exact .inl h
            · exact .inr (.inl ⟨h.2, by rw [h.1]⟩)
          · exact .inr (h.inner (around_open hop) (by omega))
        · exact .inr (h.inner hb2 (by omega))
      · exact .inr (h.next hb1 (by omega))
  | .loop a b t k, i, mask, s, x, ho, hs, h => by
    obtain ⟨h1, h2, he, _, h3⟩ := hs.loop
    have hop : Opens (cs.getD i default) := by rw [h1]; exact opens_loop a b
    by_cases h0 : mask = 0
    · subst h0; rw [run_zero] at h; exact .inl h
    · have h : x ∈ (if mask = 0 then s else _ : LS).H := h
      rw [if_neg h0] at h
      rcases run_out n m k _ _ _ _ ho.2.2.2 h3 h with h | h
      · rcases turns_mem (Q := OutStep cs i mask) (fun y s x hx => (run_out n m t _ _ _ _ ho.2.2.1 h2 hx).imp id fun h => h.inner (around_open hop) (by omega)) _ _ _ _ h with h | h
        · rcases beat_mem (s := s) h with h | h
          · exact .inl h
          · exact .inr (.inl ⟨h.2, by rw [h.1]⟩)
        · exact .inr h
      · exact .inr (h.next (around_behind ho.2.2.1 h2 hop he) (by omega))
theorem around_0 (cs : List Cd) : aroundAt cs 0 = -1 := rfl

/-- What was noted before stays in front. -/
def Ext (s s' : LS) : Prop := ∃ X, s'.H = s.H ++ X
theorem Ext.refl (s : LS) : Ext s s := ⟨[], by simp⟩
theorem Ext.trans {a b c : LS} (h : Ext a b) (k : Ext b c) : Ext a c := by
  obtain ⟨X, h⟩ := h; obtain ⟨Y, k⟩ := k; exact ⟨X ++ Y, by rw [k, h]; simp⟩
theorem ext_beat (i mask : Nat) (s : LS) : Ext s (beat i mask s) := ⟨_, rfl⟩
theorem ext_exec (c : Cd) (n m i mask : Nat) (s : LS) : Ext (beat i mask s) (exec c n m i mask s) := ⟨[], by rw [exec_H]; simp; rfl⟩
theorem ext_turns {F : Nat → LS → LS} {n a : Nat} (hF : ∀ y s, Ext s (F y s)) : ∀ (b y : Nat) (s : LS), Ext s (turns F n a b y s)
  | 0, _, s => Ext.refl s
  | b + 1, _y, s => (hF _ s).trans (ext_turns hF b _ _)
theorem run_ext (n m : Nat) : ∀ (t : Tr) (i mask : Nat) (s : LS), Ext s (run n m t i mask s)
  | .nil, _, _, s => Ext.refl s
  | .op c k, i, mask, s => by
    show Ext s (if _ then _ else _)
    split
    · exact Ext.refl s
    · exact (ext_beat i mask s).trans ((ext_exec c n m i mask s).trans (run_ext n m k _ _ _))
  | .ite a t k, i, mask, s => by
    show Ext s (if _ then _ else _)
    split
    · exact Ext.refl s
    · exact (ext_beat i mask s).trans ((run_ext n m t _ _ _).trans (run_ext n m k _ _ _))
  | .itee a t e k, i, mask, s => by
    show Ext s (if _ then _ else _)
    split
    · exact Ext.refl s
    · exact (ext_beat i mask s).trans ((run_ext n m t _ _ _).trans ((run_ext n m e _ _ _).trans (run_ext n m k _ _ _)))
  | .loop a b t k, i, mask, s => by
    show Ext s (if _ then _ else _)
    split
    · exact Ext.refl s
    · exact (ext_beat i mask s).trans ((ext_turns (fun y s => run_ext n m t _ _ _) _ _ _).trans (run_ext n m k _ _ _))
/-- The first step of a tree that is not empty. -/
theorem run_first (n m : Nat) (t : Tr) (i mask : Nat) (s : LS) (h0 : mask ≠ 0) (ht : 0 < t.len) : Ext (beat i mask s) (run n m t i mask s) := by
  cases t with
  | nil => simp [Tr.len, Tr.flat] at ht
  | op c k =>
    show Ext _ (if _ then _ else _)
    rw [if_neg h0]
    exact (ext_exec c n m i mask s).trans (run_ext n m k _ _ _)
  | ite a t k =>
    show Ext _ (if _ then _ else _)
    rw [if_neg h0]
    exact (run_ext n m t _ _ _).trans (run_ext n m k _ _ _)
  | itee a t e k =>
    show Ext _ (if _ then _ else _)
    rw [if_neg h0]
    exact (run_ext n m t _ _ _).trans ((run_ext n m e _ _ _).trans (run_ext n m k _ _ _))
  | loop a b t k =>
    show Ext _ (if _ then _ else _)
    rw [if_neg h0]
    exact (ext_turns (fun y s => run_ext n m t _ _ _) _ _ _).trans (run_ext n m k _ _ _)

end Go.Proofs.Ytajaonejpggcbaa
