/- append of all that a slice holds to a new empty one: where the copy lies. Cells that are kept. The whole run in lockstep, as the reference makes it. Which arguments a run takes: the number of lanes, the memory. Where the steps of a run lie, and by which lanes; what they cost. No program in sight. What an instruction costs. The trace and its cost, as the reference finds them. No condition. -/
import Derived.Test.YtonmndojlnohcaaKac
import Derived.Test.YtonmndojlnohcaaKad
import Derived.Test.YtonmndojlnohcaaKae
import Derived.Test.YtonmndojlnohcaaKag
import Derived.Test.YtonmndojlnohcaaKah
import Derived.Test.YtonmndojlnohcaaKaj

namespace Go.Proofs.Ytonmndojlnohcaa
open Go.RowKit

section
variable {P : Program} {t e : TypeId} {z : List Value} {bytes : Nat}
theorem wl_copyR (E : ElT P t e 1 z bytes) {w : World} {ops : Array Oper} {rest : List Oper} {o : Oper} {a : Act} {Q : Exit → Act → World → Prop} {et : TypeId}
    (hgd : o.guard = none) (sl x : Operand) (ho : o.op = .call { callee := .builtin .append, args := #[sl, x], argTypes := #[t, t] })
    (b : Nat) (hs : a.eval sl = .slice (some ⟨b, 0, none⟩) 0 0) (vx : Value) (hx : a.eval x = vx) (f : Nat → Value) (m : Nat) (hc : Cells w vx m 1 f) (h1 : ∀ j, j < m → (f j).oneCell' = true)
    (hby : bytes ≤ 128) (hm : 0 < m) (hn : m ≤ 1099511627776)
    (h : ∀ v' w', w'.ownsRow w.heap.size e 1 v' m ((List.range m).map f) → Pure w w' → wpList P ops Q rest (a.put o.dst v') w') : wpList P ops Q (o :: rest) a (w.alloc (.cells #[] et)) := by
  obtain ⟨A, c, rfl, hmc, hcm, hrd⟩ := hc
  obtain ⟨b', o', rfl, hbl, hcc⟩ := hrd hm
  have hp0 : Pure w (w.alloc (.cells #[] et)) := Pure.alloc (Pure.refl _) _
  obtain ⟨i, zv, h2, h3, h4, h5, h6, h7⟩ := E.parts
  have hmul : m * bytes ≤ 1099511627776 * 128 := Nat.mul_le_mul hn hby
  refine wpList_append_grows (w.alloc (.cells #[] et)) hgd sl x t ho e i zv 1 bytes E.ht h2 h3 h4 h5 (by rw [h6]; simpa using h7) (by decide) (some ⟨b, 0, none⟩) 0 0 [] hs (fun hh => by cases hh) (by simp) (fun _ _ j u hu => by simp at hu)
    ⟨b', o', none⟩ m c ((List.range m).map f) hx (by simp) (fun j u hu => ?_) (fun u hu => ?_) (by omega) (by unfold maxLen; omega) (by rw [Nat.zero_add]; omega) fun v' w' r1 r2 => ?_
  · rw [add_mid, hp0.cell b' (o' + j) hbl]
    have hj : j < m := by
      rcases Nat.lt_or_ge j m with h | h
      · exact h
      · rw [List.getElem?_eq_none (by simpa using h)] at hu; cases hu
    rw [hcc j (by omega), ← hu]
    simp [hj]
  · obtain ⟨j, hj, rfl⟩ := List.mem_map.1 hu
    exact h1 j (by simpa using hj)
  · have hsz : w.heap.size ≤ (w.alloc (.cells #[] et)).heap.size := hp0.size
    refine h v' w' ?_ (hp0.grown r2 (fun k hk => by cases hk))
    refine ⟨by simp, ?_⟩
    rcases r1.2 with ⟨rfl, h0⟩ | ⟨g, cap, cur, q1, q2, q3⟩
    · exact .inl ⟨rfl, by omega⟩
    · refine .inr ⟨g, cap, cur, by simpa using q1, by omega, ?_⟩
      simpa using q3
end

end Go.Proofs.Ytonmndojlnohcaa

namespace Go.Proofs.Ytonmndojlnohcaa
open Go.RowKit

theorem keepPc {w w' : World} {b i : Nat} {v : Value} (h : Pure w w') (hc : w.cell? ⟨b, i, none⟩ = some v) : w'.cell? ⟨b, i, none⟩ = some v := (h.cell b i (World.block_lt_of_cell? _ _ hc)).trans hc

end Go.Proofs.Ytonmndojlnohcaa

namespace Go.Proofs.Ytonmndojlnohcaa
open Go.RowKit

def MemOk (mem : List Int) : Prop := (1 ≤ mem.length ∧ mem.length ≤ 32) ∧ ∀ x ∈ mem, Word x
def startLS (mem : List Int) : LS := ⟨fun _ _ => 0, fun j => mem.getD j 0, [], [], 0⟩
open Classical in
noncomputable def treeOf (cs : List Cd) : Tr := if h : ∃ t : Tr, cs = t.flat ∧ t.Ok ∧ t.depth ≤ 3 then h.choose else .nil
theorem treeOf_spec {cs : List Cd} (h : PValid cs) : cs = (treeOf cs).flat ∧ (treeOf cs).Ok ∧ (treeOf cs).depth ≤ 3 := by
  have ht := h.tree
  unfold treeOf
  rw [dif_pos ht]
  exact ht.choose_spec
/-- The whole run in lockstep. -/
noncomputable def lockOf (cs : List Cd) (n : Nat) (mem : List Int) : LS := run n mem.length (treeOf cs) 0 (2 ^ n - 1) (startLS mem)
theorem startLS_good {mem : List Int} (h : MemOk mem) : Good (startLS mem) := by
  refine ⟨fun l r => (show Word (0 : Int) from ⟨by decide, by decide⟩), fun j => ?_⟩
  show Word (mem.getD j 0)
  by_cases hj : j < mem.length
  · have : mem.getD j 0 ∈ mem := by simp [List.getD_eq_getElem?_getD, hj]
    exact h.2 _ this
  · have : mem.getD j 0 = 0 := by simp [List.getD_eq_getElem?_getD, List.getElem?_eq_none (Nat.le_of_not_lt hj)]
    rw [this]; exact ⟨by decide, by decide⟩

/-- The registers under way: the first j lanes have theirs. -/
structure RegsB (w : World) (B : Nat) (vr : Value) (j : Nat) (rows : Nat → Nat) : Prop where
  own : w.ownsRow B 24 1 vr j ((List.range j).map fun i => .slice (some ⟨rows i, 0, none⟩) 4 4)
  lo : ∀ i, i < j → B ≤ rows i
  row : ∀ i, i < j → w.heap[rows i]? = some (.cells #[.int .i64 0, .int .i64 0, .int .i64 0, .int .i64 0] 3 (0, 0))
  inj : ∀ i k, i < j → k < j → rows i = rows k → i = k
theorem own_form {w : World} {B e s n : Nat} {v : Value} {xs : List Value} (h : w.ownsRow B e s v n xs) (hn : 0 < n) : ∃ g cap, v = .slice (some ⟨g, 0, none⟩) n cap ∧ B ≤ g ∧ g < w.heap.size ∧ n ≤ cap ∧ cap ≤ 9223372036854775807 := by
  rcases h.2 with ⟨_, h0⟩ | ⟨g, cap, cur, rfl, h1, h2, h3, h4, _⟩
  · omega
  · exact ⟨g, cap, rfl, h1, (Array.getElem?_eq_some_iff.1 h2).1, h3, h4⟩
theorem own_zero4 {w : World} {B g : Nat} (h : w.ownsRow B 3 1 (.slice (some ⟨g, 0, none⟩) 4 4) 4 (zeros [.int .i64 0] 4)) : w.heap[g]? = some (.cells #[.int .i64 0, .int .i64 0, .int .i64 0, .int .i64 0] 3 (0, 0)) := by
  rcases h.2 with ⟨hv, _⟩ | ⟨g', cap, cur, hv, h1, h2, h3, h4, h5, h6⟩
  · cases hv
  · injection hv with hv _ hc
    injection hv with hv
    injection hv with e1 e2
    subst e1
    have hcap : cap = 4 := hc.symm
    subst hcap
    have hl : cur.toList.length = 4 := by simpa using h5
    have ht : cur.toList = zeros [.int .i64 0] 4 := by
      rw [← h6, List.take_of_length_le (by omega)]
    have : cur = #[.int .i64 0, .int .i64 0, .int .i64 0, .int .i64 0] := by
      apply Array.ext'
      rw [ht]
      apply List.ext_getElem?
      intro j
      by_cases hj : j < 4
      · rw [zeros_get _ _ _ (by simpa using hj)]
        have : j = 0 ∨ j = 1 ∨ j = 2 ∨ j = 3 := by omega
        rcases this with rfl | rfl | rfl | rfl <;> rfl
      · rw [List.getElem?_eq_none (by rw [zeros_length]; simp; omega), List.getElem?_eq_none (by simp; omega)]
    rw [h2, this]
theorem own_ne_heap {w : World} {B e s n g e' : Nat} {v : Value} {xs : List Value} {cur : Array Value} (h : w.ownsRow B e s v n xs) (h' : w.heap[g]? = some (.cells cur e' (0, 0))) (hne : e ≠ e') : ∀ k, v.ownBlock = some k → k ≠ g := by
  intro k hk
  rcases h.2 with ⟨rfl, _⟩ | ⟨g', cap, cur', rfl, _, h2, _⟩
  · simp [Value.ownBlock] at hk
  · simp [Value.ownBlock] at hk
    subst hk
    exact ne_of_heap h2 h' hne
theorem RegsB.pure {w w' : World} {B j : Nat} {vr : Value} {rows : Nat → Nat} (h : RegsB w B vr j rows) (hp : Pure w w') : RegsB w' B vr j rows :=
  ⟨own_pure h.own hp, h.lo, fun i hi => (Chg.of_pure (S := fun _ => False) hp).heap (h.row i hi) id, h.inj⟩
theorem RegsB.chg {S : Nat → Prop} {w w' : World} {B j : Nat} {vr : Value} {rows : Nat → Nat} (h : RegsB w B vr j rows) (hc : Chg S w w') (h1 : ∀ g, vr.ownBlock = some g → ¬ S g) (h2 : ∀ i, i < j → ¬ S (rows i)) : RegsB w' B vr j rows := by
  refine ⟨⟨h.own.1, ?_⟩, h.lo, fun i hi => hc.heap (h.row i hi) (h2 i hi), h.inj⟩
  rcases h.own.2 with q | ⟨g, cap, cur, rfl, q1, q2, q3⟩
  · exact .inl q
  · exact .inr ⟨g, cap, cur, rfl, q1, hc.heap q2 (h1 g rfl), q3⟩
/-- One lane more has its registers. -/
theorem RegsB.push {w w1 w2 : World} {B j g : Nat} {vr vr' : Value} {rows : Nat → Nat} (h : RegsB w B vr j rows) (hp : Pure w w1) (hg : w.heap.size ≤ g) (hB : B ≤ w.heap.size) (hz : w1.heap[g]? = some (.cells #[.int .i64 0, .int .i64 0, .int .i64 0, .int .i64 0] 3 (0, 0)))
    (ho : w2.ownsRow B 24 1 vr' (j + 1) (((List.range j).map fun i => .slice (some ⟨rows i, 0, none⟩) 4 4) ++ [.slice (some ⟨g, 0, none⟩) 4 4])) (hgr : w1.grownBy w2 vr.ownBlock) : RegsB w2 B vr' (j + 1) (fun i => if i = j then g else rows i) := by
  have h1 := h.pure hp
  have hc : Chg (fun k => vr.ownBlock = some k) w1 w2 := Chg.of_grown hgr (fun k hk => hk)
  refine ⟨?_, fun i hi => ?_, fun i hi => ?_, fun i k hi hk e => ?_⟩
  · have : (List.range (j + 1)).map (fun i => Value.slice (some ⟨if i = j then g else rows i, 0, none⟩) 4 4) = ((List.range j).map fun i => Value.slice (some ⟨rows i, 0, none⟩) 4 4) ++ [.slice (some ⟨g, 0, none⟩) 4 4] := by
      rw [List.range_succ, List.map_append]
      congr 1
      · refine List.map_congr_left fun i hi => ?_
        rw [if_neg (by have := List.mem_range.1 hi; omega)]
      · simp
    rw [this]; exact ho
  · show B ≤ if i = j then g else rows i
    split
    · omega
    · exact h.lo i (by omega)
  · show w2.heap[if i = j then g else rows i]? = _
    split
    · exact hc.heap hz (fun e => own_ne_heap h1.own hz (by decide) _ e rfl)
    · exact hc.heap (h1.row i (by omega)) (fun e => own_ne_heap h1.own (h1.row i (by omega)) (by decide) _ e rfl)
  · have hlt : ∀ i, i < j → rows i < w.heap.size := fun i hi => (Array.getElem?_eq_some_iff.1 (h.row i hi)).1
    try simp only at e
    by_cases e1 : i = j
    · by_cases e2 : k = j
      · omega
      · rw [if_pos e1, if_neg e2] at e
        have := hlt k (by omega); omega
    · by_cases e2 : k = j
      · rw [if_neg e1, if_pos e2] at e
        have := hlt i (by omega); omega
      · rw [if_neg e1, if_neg e2] at e
        exact h.inj i k (by omega) (by omega) e

theorem own_cells {w : World} {B e n g c : Nat} {xs : List Value} (h : w.ownsRow B e 1 (.slice (some ⟨g, 0, none⟩) n c) n xs) : ∃ cur : Array Value, w.heap[g]? = some (.cells cur e (0, 0)) ∧ ∀ k, k < n → cur[k]? = xs[k]? := by
  rcases h.2 with ⟨hv, _⟩ | ⟨g', cap, cur, hv, h1, h2, h3, h4, h5, h6⟩
  · cases hv
  · injection hv with hv _ hc
    injection hv with hv
    injection hv with e1 e2
    subst e1
    refine ⟨cur, h2, fun k hk => ?_⟩
    rw [← h6, List.getElem?_take, if_pos (by omega)]
    simp
theorem RegsB.rm {w : World} {B n m gr cr gm cm : Nat} {rows : Nat → Nat} {mem : List Int} (h : RegsB w B (.slice (some ⟨gr, 0, none⟩) n cr) n rows) (hn1 : 1 ≤ n) (hn8 : n ≤ 8) (hm1 : 1 ≤ m) (hm32 : m ≤ 32)
    (hm : OwnO w B 3 1 (.slice (some ⟨gm, 0, none⟩) m cm) m ((List.range m).map fun j => .int .i64 (mem.getD j 0))) (hne : ∀ i, i < n → rows i ≠ gm) :
    RM ⟨B, n, m, gr, cr, gm, cm, rows⟩ w (startLS mem).R (startLS mem).M := by
  obtain ⟨cur, q1, q2⟩ := own_cells h.own
  obtain ⟨g', c', hv, b1, _, b3, b4⟩ := own_form h.own (by omega)
  injection hv with hv _ hc
  injection hv with hv
  injection hv with e1 _
  subst e1 hc
  refine ⟨hn8, hm1, hm32, b3, b4, b1, ⟨cur, q1, fun k hk => ?_⟩, h.lo, h.row, h.inj, hm, hne⟩
  rw [q2 k hk]
  have hk' : k < n := hk
  simp [hk', RMo.row]

def AllP (cs : List Cd) (n : Nat) (mem : List Int) (vl : Value) (w : World) (e : Ending) (w' : World) : Prop :=
  ∃ (o : SO) (vt : Value), e = .returned (.pointer (some ⟨o.p, 0, none⟩)) ∧ o.w0 = w ∧ o.cs = cs ∧ o.vl = vl ∧ o.rm.n = n ∧ o.rm.m = mem.length ∧ o.chk = false ∧ SRun o w' vt (lockOf cs n mem)

set_option maxHeartbeats 4000000 in
set_option maxRecDepth 100000 in
theorem sall_any (vl vm : Value) (cs : List Cd) (n : Nat) (mem : List Int) (w : World) (h : Codes w vl cs) (hm : Ints w vm mem) (hv : PValid cs) (hn1 : 1 ≤ n) (hn8 : n ≤ 8) (hmem : MemOk mem) :
    Calls Try.prog 46 #[vl, .int .i64 n, vm] w (AllP cs n mem vl w) := by
  have H := Lib.hid h
  have HM := Lib.hid hm
  have HV := Lib.hid hv
  have HMEM := Lib.hid hmem
  obtain ⟨⟨hm1, hm32⟩, _⟩ := hmem
  obtain ⟨A, c, rfl, hnc, hcm⟩ := h.form
  obtain ⟨Am, cm, rfl, hmc, hmcm, _⟩ := hm
  clear h hv
  go_enter Try.func46, Try.ntmps46
  go_wp2_with (at_builtin; go_must (refine wl_copyR elInt rfl _ _ rfl w.heap.size rfl _ rfl _ mem.length HM.out (fun j _ => rfl) (by decide) (by omega) (by omega) ?_); intro vm' wq hown hp; go_must (obtain ⟨gm, cmm, hvm, hgm1, hgm2, hcm1, hcm2⟩ := own_form hown (by omega); subst hvm; have HOWN := Lib.hid hown; have HP := Lib.hid hp; clear hown hp))
  have HPo : Hid ((((wq.alloc (.cells #[] 46)).alloc (.cells #[.slice A cs.length c, .int .i64 (n : Nat), .slice none 0 0, .slice (some ⟨gm, 0, none⟩) mem.length cmm, .slice (some ⟨wq.heap.size, 0, none⟩) 0 0, .bool false, .slice none 0 0, .bool false] 66)).heap[wq.heap.size + 1]?) = some (.cells #[.slice A cs.length c, .int .i64 (n : Nat), .slice none 0 0, .slice (some ⟨gm, 0, none⟩) mem.length cmm, .slice (some ⟨wq.heap.size, 0, none⟩) 0 0, .bool false, .slice none 0 0, .bool false] 66 (0, 0))) := Lib.hid (by
    have := heap_alloc_new (wq.alloc (.cells #[] 46)) (.cells #[.slice A cs.length c, .int .i64 (n : Nat), .slice none 0 0, .slice (some ⟨gm, 0, none⟩) mem.length cmm, .slice (some ⟨wq.heap.size, 0, none⟩) 0 0, .bool false, .slice none 0 0, .bool false] 66)
    simpa using this)
  go_loopg [8] n (fun gk i wr => ∃ (j : Nat) (vr : Value) (rows : Nat → Nat), gk + j = n ∧ i = .int .i64 j ∧ Pure w wr ∧ RegsB wr w.heap.size vr j rows ∧
    wr.heap[wq.heap.size + 1]? = some (.cells #[.slice A cs.length c, .int .i64 (n : Nat), vr, .slice (some ⟨gm, 0, none⟩) mem.length cmm, .slice (some ⟨wq.heap.size, 0, none⟩) 0 0, .bool false, .slice none 0 0, .bool false] 66 (0, 0)) ∧
    OwnO wr w.heap.size 3 1 (.slice (some ⟨gm, 0, none⟩) mem.length cmm) mem.length ((List.range mem.length).map fun j => .int .i64 (mem.getD j 0)) ∧
    OwnO wr w.heap.size 46 2 (.slice (some ⟨wq.heap.size, 0, none⟩) 0 0) 0 [] ∧ (∀ i, i < j → rows i ≠ gm))
  case atStart =>
    refine ⟨0, .slice none 0 0, fun _ => 0, rfl, rfl, HP.out.trans (by exact (by repeat (first | assumption | exact Pure.refl _ | refine Pure.drewN ?_ _ | refine Pure.drew ?_ | refine Pure.alloc ?_ _ | refine Pure.setCell ?_ (by simp <;> omega) _))), ⟨World.ownsRow_nil _ _ _ _, fun i hi => absurd hi (by omega), fun i hi => absurd hi (by omega), fun i k hi => absurd hi (by omega)⟩, HPo.out, (OwnO.of_own HOWN.out).pure (by exact (by repeat (first | assumption | exact Pure.refl _ | refine Pure.drewN ?_ _ | refine Pure.drew ?_ | refine Pure.alloc ?_ _ | refine Pure.setCell ?_ (by simp <;> omega) _))), (OwnO.empty_lit HP.out.size).pure (by exact (by repeat (first | assumption | exact Pure.refl _ | refine Pure.drewN ?_ _ | refine Pure.drew ?_ | refine Pure.alloc ?_ _ | refine Pure.setCell ?_ (by simp <;> omega) _))), fun i hi => absurd hi (by omega)⟩
  case round =>
    obtain ⟨j, vr, rows, hgk, rfl, hp, hregs, hobj, hmem, htr, hne⟩ := hrel
    have Hgk := Lib.hid hgk
    have HR := Lib.hid hregs
    have HO := Lib.hid hobj
    have HMe := Lib.hid hmem
    have HTr := Lib.hid htr
    have HNe := Lib.hid hne
    have hjn : j ≤ n := by omega
    clear hgk hregs hmem htr hne HPo
    have p1 := (cell_of_row wr (wq.heap.size + 1) 1 _ _ _ hobj).trans rfl
    have p2 := (cell_of_row wr (wq.heap.size + 1) 2 _ _ _ hobj).trans rfl
    have hpfr := frozen_of_row wr (wq.heap.size + 1) 2 _ _ hobj
    have hplt : wq.heap.size + 1 < wr.heap.size := (Array.getElem?_eq_some_iff.1 hobj).1
    clear hobj
    by_cases hlt : j < n
    · go_wp2
      refine region_heldF (fun w' => w'.cell? ⟨wq.heap.size + 1, 2, none⟩ = some vr) (List.range 5) [5, 6, 7, 8, 9, 10] (fun l => List.take 5 l) (fun l => List.drop 5 l) (by kernel_rfl) (by kernel_rfl) (by kernel_rfl) (by kernel_rfl) (fun c a d v w h => by cases d <;> exact h) (by exact p2) ?_
      simp only [List.take_succ_cons, List.take_zero, List.drop_succ_cons, List.drop_zero]
      apply held_of
      · exact rfl
      · intro w' hS
        go_simp
        try exact rfl
      try go_simp
      apply held_of
      · exact rfl
      · intro w' hS
        go_simp
        try exact rfl
      try go_simp
      apply held_of
      · exact rfl
      · intro w' hS
        go_simp
        try exact rfl
      try go_simp
      apply held_of
      · exact rfl
      · intro w' hS
        go_simp
        try exact rfl
      try go_simp
      apply held_of
      · exact rfl
      · intro w' hS
        go_simp
        try exact rfl
      try go_simp
      refine held_nil ?_
      unfold Tail
      refine wl_make elInt rfl _ _ rfl w.heap.size _ _ _ _ 4 rfl rfl rfl rfl (by decide) (by decide) hp.size ?_
      intro w4 hown4 hp4 hsz4
      have HZ4 := Lib.hid (own_zero4 hown4)
      have HP4 := Lib.hid ((show Pure wr wr.drew from Pure.drew (Pure.refl _)).trans hp4)
      have z2 := (HP4.out.cell _ _ hplt).trans p2
      have hplt4 := Nat.lt_of_lt_of_le hplt HP4.out.size
      clear hown4 hp4
      go_wp2
      refine And.intro z2 ?_
      unfold Tail
      go_wp2
      refine And.intro (keepPc (by exact (by repeat (first | assumption | exact Pure.refl _ | refine Pure.drewN ?_ _ | refine Pure.drew ?_ | refine Pure.alloc ?_ _ | refine Pure.setCell ?_ (by simp <;> omega) _))) z2) ?_
      unfold Tail
      have hgx := heap_alloc_new w4 (.cells #[.slice (some ⟨wr.heap.size, 0, none⟩) 4 4] 24)
      have hcx := cell_of_row _ _ 0 _ _ _ hgx
      refine wl_append elInts rfl _ _ rfl w.heap.size vr j _ rfl (own_pure HR.out.own (HP4.out.trans (by exact (by repeat (first | assumption | exact Pure.refl _ | refine Pure.drewN ?_ _ | refine Pure.drew ?_ | refine Pure.alloc ?_ _ | refine Pure.setCell ?_ (by simp <;> omega) _))))) w4.heap.size 1 1 [.slice (some ⟨wr.heap.size, 0, none⟩) 4 4] rfl rfl (fun i u hu => ?_) (by intro u hu; simp at hu; subst hu; rfl) (by omega) (by omega) (Nat.le_trans hp.size (Nat.le_trans HP4.out.size (by simp))) ?_
      · have hi : i = 0 := by
          by_cases e : i = 0
          · exact e
          · rw [List.getElem?_eq_none (by simp; omega)] at hu; cases hu
        subst hi
        rw [← hu]; exact hcx
      intro v5 w5 hown5 hg5
      obtain ⟨g5, c5, hv5, _, _, _, _⟩ := own_form hown5 (by omega)
      subst hv5
      have hPw1 : Pure wr (w4.alloc (.cells #[.slice (some ⟨wr.heap.size, 0, none⟩) 4 4] 24)) := HP4.out.trans (by exact (by repeat (first | assumption | exact Pure.refl _ | refine Pure.drewN ?_ _ | refine Pure.drew ?_ | refine Pure.alloc ?_ _ | refine Pure.setCell ?_ (by simp <;> omega) _)))
      have hc5 : Chg (fun k => vr.ownBlock = some k) (w4.alloc (.cells #[.slice (some ⟨wr.heap.size, 0, none⟩) 4 4] 24)) w5 := Chg.of_grown hg5 (fun k hk => hk)
      have hvrp : ∀ k, vr.ownBlock = some k → k ≠ wq.heap.size + 1 := own_ne_heap HR.out.own HO.out (by decide)
      have hO5 : w5.heap[wq.heap.size + 1]? = some (.cells #[.slice A cs.length c, .int .i64 (n : Nat), vr, .slice (some ⟨gm, 0, none⟩) mem.length cmm, .slice (some ⟨wq.heap.size, 0, none⟩) 0 0, .bool false, .slice none 0 0, .bool false] 66 (0, 0)) :=
        hc5.heap ((Chg.of_pure (S := fun _ => False) hPw1).heap HO.out id) (fun e => hvrp _ e rfl)
      have hz1 := (Chg.of_pure (S := fun _ => False) (show Pure w4 (w4.alloc (.cells #[.slice (some ⟨wr.heap.size, 0, none⟩) 4 4] 24)) from (by repeat (first | assumption | exact Pure.refl _ | refine Pure.drewN ?_ _ | refine Pure.drew ?_ | refine Pure.alloc ?_ _ | refine Pure.setCell ?_ (by simp <;> omega) _)))).heap HZ4.out id
      have hR5 := HR.out.push hPw1 (Nat.le_refl _) hp.size hz1 hown5 hg5
      have hM5 := (HMe.out.pure hPw1).chg hc5 (fun g hg e => (OwnO.of_own (own_pure HR.out.own hPw1)).ne (HMe.out.pure hPw1) (by decide) g e hg.symm)
      have hT5 := (HTr.out.pure hPw1).chg hc5 (fun g hg e => (OwnO.of_own (own_pure HR.out.own hPw1)).ne (HTr.out.pure hPw1) (by decide) g e hg.symm)
      have hP5 : Pure w w5 := Chg.pure (hp.trans hPw1) hc5 (fun k hk => (own_lt HR.out.own k hk).1)
      have hc6 : Chg (fun k => k = wq.heap.size + 1) w5 (w5.setCell ⟨wq.heap.size + 1, 2, none⟩ (.slice (some ⟨g5, 0, none⟩) (j + 1) c5)) := Chg.of_set w5 _ _ _ rfl
      have HO6 : Hid ((w5.setCell ⟨wq.heap.size + 1, 2, none⟩ (.slice (some ⟨g5, 0, none⟩) (j + 1) c5)).heap[wq.heap.size + 1]? = some (.cells #[.slice A cs.length c, .int .i64 (n : Nat), .slice (some ⟨g5, 0, none⟩) (j + 1) c5, .slice (some ⟨gm, 0, none⟩) mem.length cmm, .slice (some ⟨wq.heap.size, 0, none⟩) 0 0, .bool false, .slice none 0 0, .bool false] 66 (0, 0))) := Lib.hid (by
        rw [heap_setCell_same w5 (wq.heap.size + 1) 2 _ _ _ hO5]; rfl)
      have HR6 := Lib.hid (hR5.chg hc6 (fun g hg e => own_ne_heap hR5.own hO5 (by decide) g hg e) (fun i hi e => ne_of_heap (hR5.row i hi) hO5 (by decide) e))
      have HM6 := Lib.hid (hM5.chg hc6 (fun g hg e => hM5.ne_heap hO5 (by decide) g hg e))
      have HT6 := Lib.hid (hT5.chg hc6 (fun g hg e => hT5.ne_heap hO5 (by decide) g hg e))
      have HP6 : Hid (Pure w (w5.setCell ⟨wq.heap.size + 1, 2, none⟩ (.slice (some ⟨g5, 0, none⟩) (j + 1) c5))) := Lib.hid (Chg.pure hP5 hc6 (fun k hk => by rw [hk]; have := HP.out.size; omega))
      have z5 := (cell_of_row w5 (wq.heap.size + 1) 2 _ _ _ hO5).trans rfl
      have zf5 := frozen_of_row w5 (wq.heap.size + 1) 2 _ _ hO5
      have hgmlt : gm < wr.heap.size := (HMe.out.lt gm rfl).2
      clear hown5 hg5 hPw1 hc5 hvrp hO5 hz1 hR5 hM5 hT5 hP5 hc6 hgx hcx z2
      go_wp2
      refine And.intro z5 ?_
      unfold Tail
      go_wp2
      refine And.intro z5 ?_
      unfold Tail
      go_wp2
      refine And.intro z5 ?_
      unfold Tail
      go_wp2
      go_roundg (n - (j + 1))
      case measure => have := Hgk.out; omega
      case rel =>
        refine ⟨j + 1, _, _, by have := Hgk.out; omega, by go_num, HP6.out, HR6.out, HO6.out, HM6.out, HT6.out, fun i hi => ?_⟩
        show (if i = j then wr.heap.size else rows i) ≠ gm
        split
        · omega
        · exact HNe.out i (by omega)
    · have hjl : j = n := by have := Hgk.out; omega
      subst hjl
      obtain ⟨gr, cr, hvr, hgr1, hgr2, hcr1, hcr2⟩ := own_form HR.out.own (by omega)
      subst hvr
      go_wp2_with fail
      refine (smaskall_any j _ hn1 hn8).mono ?_
      rintro e w' ⟨rfl, rfl⟩
      obtain ⟨h1, h2, h3⟩ := treeOf_spec HV.out
      have hlen : (treeOf cs).len = cs.length := (congrArg List.length h1).symm
      have hrun : SRun ⟨⟨w.heap.size, j, mem.length, gr, cr, gm, cmm, rows⟩, w, cs, .slice A cs.length c, wq.heap.size + 1, .slice none 0 0, false, fun _ => 0⟩ wr (.slice (some ⟨wq.heap.size, 0, none⟩) 0 0) (startLS mem) :=
        ⟨hp, H.out, rfl, HR.out.rm hn1 hn8 hm1 hm32 HMe.out HNe.out, hn1, HO.out, by have := HP.out.size; show w.heap.size ≤ wq.heap.size + 1; omega, HTr.out, startLS_good HMEM.out, fun _ => rfl, fun h => by cases h⟩
      have HRUN := Lib.hid hrun
      have hcost : (startLS mem).H.length + (treeOf cs).cost ≤ 1099511627775 := by
        have := HV.out.cost h1 h2 h3
        show 0 + _ ≤ _
        omega
      have hpow : 2 ^ j - 1 < 2 ^ j := Nat.sub_lt (Nat.two_pow_pos j) (by decide)
      have HTREE := Lib.hid (And.intro h2 (And.intro hlen (And.intro hcost hpow)))
      have HSEG : Hid (Seg cs 0 (treeOf cs)) := Lib.hid (Seg.whole h1)
      clear h1 h2 h3 hlen hrun hcost hpow
      go_wp2_with fail
      refine (sblock_any ⟨⟨w.heap.size, j, mem.length, gr, cr, gm, cmm, rows⟩, w, cs, .slice A cs.length c, wq.heap.size + 1, .slice none 0 0, false, fun _ => 0⟩ HV.out rfl _ (treeOf cs) 0 (2 ^ j - 1) (startLS mem) _ wr _ _ (Nat.le_refl _) HTREE.out.1 HSEG.out (by have := HTREE.out.2.1; show 0 + (treeOf cs).len ≤ cs.length; omega) HTREE.out.2.2.2 HTREE.out.2.2.1 HRUN.out (by simp) (by rw [HTREE.out.2.1]; simp)).mono ?_
      rintro e w7 ⟨rfl, vt7, hr7, _⟩
      have H7 := Lib.hid hr7
      clear hr7
      go_wp2_with fail
      go_ret
      exact ⟨_, vt7, rfl, rfl, rfl, rfl, rfl, rfl, rfl, H7.out⟩

end Go.Proofs.Ytonmndojlnohcaa

namespace Go.Proofs.Ytonmndojlnohcaa
open Go.RowKit

def LanesOk (a : Int) : Prop := 1 ≤ a ∧ a ≤ 8
def RunOk (cs : List Cd) (a : Int) (mem : List Int) : Prop := PValid cs ∧ LanesOk a ∧ MemOk mem
theorem memB_len {mem : List Int} {B : Bool} (h : B = true ↔ MemOk mem) (hw : ∀ x ∈ mem, Word x) : B = true ↔ (1 ≤ (mem.length : Int) ∧ (mem.length : Int) ≤ 32) := by
  rw [h]
  constructor
  · intro h; have h1 := h.1.1; have h2 := h.1.2; omega
  · intro h; exact ⟨⟨by omega, by omega⟩, hw⟩
theorem getD_mem {mem : List Int} {k : Nat} (h : k < mem.length) : mem.getD k 0 ∈ mem := by simp [List.getD_eq_getElem?_getD, h]
theorem words_of {mem : List Int} (h : ∀ j, j < mem.length → Word (mem.getD j 0)) : ∀ x ∈ mem, Word x := by
  intro x hx
  obtain ⟨j, hj, rfl⟩ := List.getElem_of_mem hx
  have := h j hj
  simpa [List.getD_eq_getElem?_getD, hj] using this

set_option maxHeartbeats 1000000 in
set_option maxRecDepth 100000 in
theorem smem_any (v : Value) (mem : List Int) (w : World) (h : Ints w v mem) (hsmall : mem.length ≤ 1099511627776) (B : Bool) (hB : B = true ↔ MemOk mem) :
    Calls Try.prog 47 #[v] w fun e w' => e = .returned (.bool B) ∧ Pure w w' := by
  have HB := Lib.hid hB
  obtain ⟨A, c, rfl, hnc, hcm, hread⟩ := h
  have HRD := Lib.hid hread
  clear hB hread
  have HBF : Hid (¬ MemOk mem → false = B) := Lib.hid fun h => by
    cases hb : B
    · rfl
    · exact absurd (HB.out.1 hb) h
  go_enter Try.func47, Try.ntmps47
  go_wp2
  go_loopg [3] mem.length (fun gk i wr => ∃ k : Nat, gk + k = mem.length ∧ i = .int .i64 k ∧ Pure w wr ∧ ∀ j, j < k → Word (mem.getD j 0))
  case atStart => exact ⟨0, rfl, rfl, Pure.refl _, fun j hj => absurd hj (by omega)⟩
  case round =>
    obtain ⟨k, hgk, rfl, hp, hall⟩ := hrel
    have Hgk := Lib.hid hgk
    have Hall := Lib.hid hall
    have hkn : k ≤ mem.length := by omega
    clear hgk hall
    by_cases hlt : k < mem.length
    · obtain ⟨b, o, rfl, hb, hc⟩ := HRD.out (by omega)
      obtain ⟨x, Hx⟩ : ∃ x, Hid (mem.getD k 0 = x) := ⟨_, rfl⟩
      have hx := (hp.cell b (o + k) hb).trans (hc k (by omega))
      try simp only [Nat.mod_one, Nat.div_one] at hx
      rw [Hx.out] at hx
      clear hc
      by_cases hok : Word x
      · have Hok := Lib.hid hok; clear hok
        have Hnext : Hid (∀ j, j < k + 1 → Word (mem.getD j 0)) := Lib.hid fun j hj => by
          by_cases e : j = k
          · rw [e, Hx.out]; exact Hok.out
          · exact Hall.out j (by omega)
        go_wp2_with fail
        refine (l2Word_any x _ true (by simp [Hok.out])).mono ?_
        rintro e w1 ⟨rfl, rfl⟩
        go_wp2
        go_roundg (mem.length - (k + 1))
        case measure => have := Hgk.out; omega
        case rel => exact ⟨k + 1, by have := Hgk.out; omega, by go_num, hp, Hnext.out⟩
      · have Hok := Lib.hid hok; clear hok
        have hbad : ¬ MemOk mem := fun h => Hok.out (by rw [← Hx.out]; exact h.2 _ (getD_mem hlt))
        have HR := Lib.hid (HBF.out hbad)
        clear hbad
        go_wp2_with fail
        refine (l2Word_any x _ false (by simp [Hok.out])).mono ?_
        rintro e w1 ⟨rfl, rfl⟩
        go_wp2
        go_ret
        exact ⟨ret_bool HR.out, hp⟩
    · have hkl : k = mem.length := by omega
      have hw : Hid (∀ x ∈ mem, Word x) := Lib.hid (words_of fun j hj => Hall.out j (by omega))
      go_wp2_with fail
      refine (l1In_any _ _ _ _ B (memB_len HB.out hw.out)).mono ?_
      rintro e w1 ⟨rfl, rfl⟩
      go_wp2
      go_ret
      exact ⟨rfl, hp⟩

set_option maxHeartbeats 400000 in
theorem imem1_any (x : Int) (w : World) (B : Bool) (hB : B = true ↔ Word x) :
    Calls Try.prog 100 #[.int .i64 x] w fun e w' => e = .returned (.bool (!B)) ∧ w = w' := by
  have HB := Lib.hid hB; clear hB
  go_enter Try.func100, Try.ntmps100
  go_wp2_with fail
  refine (isWord_any _ _ B HB.out).mono ?_
  rintro e w' ⟨rfl, rfl⟩
  go_wp2
  go_ret
  exact ⟨rfl, rfl⟩

def memBadAt (mem : List Int) (_k : Nat) (v : Int) : Prop := (∃ j, j < mem.length ∧ v = (j : Nat) ∧ ¬ Word (mem.getD j 0)) ∨ (v = -1 ∧ ∀ j, j < mem.length → Word (mem.getD j 0))

set_option maxHeartbeats 1000000 in
set_option maxRecDepth 100000 in
theorem imemix_any (v : Value) (mem : List Int) (w : World) (h : Ints w v mem) (hsmall : mem.length ≤ 1099511627776) :
    Calls Try.prog 117 #[v, .func (.func 100) #[] #[]] w fun e w' => ∃ r, e = .returned (.int .i64 r) ∧ memBadAt mem 0 r ∧ Pure w w' := by
  obtain ⟨A, c, rfl, hnc, hcm, hread⟩ := h
  have HRD := Lib.hid hread
  clear hread
  go_enter Try.func117, Try.ntmps117
  go_wp2
  go_loopg [8] mem.length (fun gk i wr => ∃ k : Nat, gk + k = mem.length ∧ i = .int .i64 k ∧ Pure w wr ∧ ∀ j, j < k → Word (mem.getD j 0))
  case atStart => exact ⟨0, rfl, rfl, Pure.refl _, fun j hj => absurd hj (by omega)⟩
  case round =>
    obtain ⟨k, hgk, rfl, hp, hall⟩ := hrel
    have Hgk := Lib.hid hgk
    have Hall := Lib.hid hall
    have hkn : k ≤ mem.length := by omega
    clear hgk hall
    by_cases hlt : k < mem.length
    · obtain ⟨b, o, rfl, hb, hc⟩ := HRD.out (by omega)
      obtain ⟨x, Hx⟩ : ∃ x, Hid (mem.getD k 0 = x) := ⟨_, rfl⟩
      have hx := (hp.cell b (o + k) hb).trans (hc k (by omega))
      try simp only [Nat.mod_one, Nat.div_one] at hx
      rw [Hx.out] at hx
      clear hc
      by_cases hok : Word x
      · have Hok := Lib.hid hok; clear hok
        have Hnext : Hid (∀ j, j < k + 1 → Word (mem.getD j 0)) := Lib.hid fun j hj => by
          by_cases e : j = k
          · rw [e, Hx.out]; exact Hok.out
          · exact Hall.out j (by omega)
        go_wp2_with fail
        refine (imem1_any x _ true (by simp [Hok.out])).mono ?_
        rintro e w1 ⟨rfl, rfl⟩
        go_wp2
        go_roundg (mem.length - (k + 1))
        case measure => have := Hgk.out; omega
        case rel => exact ⟨k + 1, by have := Hgk.out; omega, by go_num, hp, Hnext.out⟩
      · have Hok := Lib.hid hok; clear hok
        have Hbad : Hid (memBadAt mem 0 (k : Nat)) := Lib.hid (.inl ⟨k, hlt, rfl, by rw [Hx.out]; exact Hok.out⟩)
        go_wp2_with fail
        refine (imem1_any x _ false (by simp [Hok.out])).mono ?_
        rintro e w1 ⟨rfl, rfl⟩
        go_wp2
        go_ret
        exact ⟨_, rfl, Hbad.out, hp⟩
    · have hw : Hid (memBadAt mem 0 (-1)) := Lib.hid (.inr ⟨rfl, fun j hj => Hall.out j (by omega)⟩)
      go_wp2
      go_ret
      exact ⟨_, rfl, hw.out, hp⟩

set_option maxHeartbeats 1000000 in
set_option maxRecDepth 100000 in
theorem imemcf_any (v : Value) (mem : List Int) (w : World) (h : Ints w v mem) (hsmall : mem.length ≤ 1099511627776) (B : Bool) (hB : B = true ↔ ∀ x ∈ mem, Word x) :
    Calls Try.prog 99 #[v, .func (.func 100) #[] #[]] w fun e w' => e = .returned (.bool (!B)) ∧ Pure w w' := by
  have H := Lib.hid h
  have HB := Lib.hid hB
  obtain ⟨A, c, rfl⟩ := h.form
  clear h hB
  go_enter Try.func99, Try.ntmps99
  go_wp2_with fail
  refine (imemix_any _ mem _ H.out hsmall).mono ?_
  rintro e w1 ⟨r, rfl, hr, hp⟩
  rcases hr with ⟨j, hj, rfl, hbad⟩ | ⟨rfl, hall⟩
  · have hf : B = false := by
      cases hb : B
      · rfl
      · exact absurd (HB.out.1 hb _ (getD_mem hj)) hbad
    subst hf
    clear hbad
    go_wp2
    go_ret
    exact ⟨rfl, hp⟩
  · have ht : B = true := HB.out.2 (words_of hall)
    subst ht
    clear hall
    go_wp2
    go_ret
    exact ⟨rfl, hp⟩

set_option maxHeartbeats 1000000 in
set_option maxRecDepth 100000 in
theorem imem_any (v : Value) (mem : List Int) (w : World) (h : Ints w v mem) (hsmall : mem.length ≤ 1099511627776) (B : Bool) (hB : B = true ↔ MemOk mem) :
    Calls Try.prog 86 #[v] w fun e w' => e = .returned (.bool B) ∧ Pure w w' := by
  have H := Lib.hid h
  have HB := Lib.hid hB
  obtain ⟨A, c, rfl, hnc, hcm, _⟩ := h
  clear hB
  by_cases hl : 1 ≤ (mem.length : Int) ∧ (mem.length : Int) ≤ 32
  · have hl' := Lib.hid hl
    have hq : Hid (B = true ↔ ∀ x ∈ mem, Word x) := Lib.hid (by rw [HB.out]; unfold MemOk; have := hl'.out; exact ⟨fun h => h.2, fun h => ⟨by omega, h⟩⟩)
    clear hl
    go_enter Try.func86, Try.ntmps86
    go_wp2_with fail
    refine (within_any _ _ _ _ true (by simp only [true_iff]; exact hl'.out)).mono ?_
    rintro e w1 ⟨rfl, rfl⟩
    go_wp2_with fail
    refine (imemcf_any _ mem _ H.out hsmall B hq.out).mono ?_
    rintro e w1 ⟨rfl, hp⟩
    go_wp2
    go_ret
    exact ⟨ret_bool (by simp), hp⟩
  · have hl' := Lib.hid hl
    have hf : B = false := by
      cases hb : B
      · rfl
      · have := (HB.out.1 hb).1; omega
    subst hf
    clear hl
    go_enter Try.func86, Try.ntmps86
    go_wp2_with fail
    refine (within_any _ _ _ _ false (by simp only [Bool.false_eq_true, false_iff]; exact hl'.out)).mono ?_
    rintro e w1 ⟨rfl, rfl⟩
    go_wp2
    go_ret
    exact ⟨rfl, Pure.refl _⟩

set_option maxHeartbeats 400000 in
theorem ilanesok_any (a : Int) (w : World) (B : Bool) (hB : B = true ↔ LanesOk a) :
    Calls Try.prog 75 #[.int .i64 a] w fun e w' => e = .returned (.bool B) ∧ w = w' := by
  have HB := Lib.hid hB; clear hB
  go_enter Try.func75, Try.ntmps75
  go_wp2_with fail
  refine (within_any _ _ _ _ B HB.out).mono ?_
  rintro e w' ⟨rfl, rfl⟩
  go_wp2
  go_ret
  exact ⟨rfl, rfl⟩

theorem runB (cs : List Cd) : ∃ B : Bool, B = true ↔ PValid cs := by classical exact ⟨decide (PValid cs), by simp⟩
theorem memB (mem : List Int) : ∃ B : Bool, B = true ↔ MemOk mem := by classical exact ⟨decide (MemOk mem), by simp⟩
theorem lanB (a : Int) : ∃ B : Bool, B = true ↔ LanesOk a := by classical exact ⟨decide (LanesOk a), by simp⟩
theorem runB_of {cs : List Cd} {a : Int} {mem : List Int} {B B1 B2 B3 : Bool} (h : B = true ↔ RunOk cs a mem) (h1 : B1 = true ↔ PValid cs) (h2 : B2 = true ↔ LanesOk a) (h3 : B3 = true ↔ MemOk mem) : B = (B1 && (B2 && B3)) := by
  rw [Bool.eq_iff_iff, h]; unfold RunOk; rw [← h1, ← h2, ← h3]; simp

set_option maxHeartbeats 1000000 in
set_option maxRecDepth 100000 in
theorem icanrun_any (vl vm : Value) (cs : List Cd) (a : Int) (mem : List Int) (w : World) (h : Codes w vl cs) (hm : Ints w vm mem) (hs1 : cs.length ≤ 1048576) (hs2 : mem.length ≤ 1048576) (B : Bool) (hB : B = true ↔ RunOk cs a mem) :
    Calls Try.prog 65 #[vl, .int .i64 a, vm] w fun e w' => e = .returned (.bool B) ∧ Pure w w' := by
  obtain ⟨B1, h1⟩ := runB cs
  obtain ⟨B2, h2⟩ := lanB a
  obtain ⟨B3, h3⟩ := memB mem
  obtain rfl := runB_of hB h1 h2 h3
  have H := Lib.hid h
  have HM := Lib.hid hm
  have H1 := Lib.hid h1
  have H2 := Lib.hid h2
  have H3 := Lib.hid h3
  obtain ⟨A, c, rfl, hnc, hcm⟩ := h.form
  obtain ⟨Am, cm, rfl⟩ := hm.form
  clear h hm h1 h2 h3 hB
  go_enter Try.func65, Try.ntmps65
  go_wp2_with fail
  refine (ipv_any _ cs _ H.out hs1 B1 H1.out).mono ?_
  rintro e w1 ⟨rfl, hp1⟩
  cases B1
  · go_wp2
    go_ret
    exact ⟨rfl, hp1⟩
  go_wp2_with fail
  refine (ilanesok_any a _ B2 H2.out).mono ?_
  rintro e w2 ⟨rfl, rfl⟩
  cases B2
  · go_wp2
    go_ret
    exact ⟨rfl, hp1⟩
  go_wp2_with fail
  refine (imem_any _ mem _ (HM.out.keep hp1) (by omega) B3 H3.out).mono ?_
  rintro e w3 ⟨rfl, hp3⟩
  go_wp2
  go_ret
  exact ⟨ret_bool (by simp), hp1.trans hp3⟩

set_option maxHeartbeats 1000000 in
set_option maxRecDepth 100000 in
theorem sok_any (vl vm : Value) (cs : List Cd) (a : Int) (mem : List Int) (w : World) (h : Codes w vl cs) (hm : Ints w vm mem) (hs1 : cs.length ≤ 1048576) (hs2 : mem.length ≤ 1048576) (B : Bool) (hB : B = true ↔ RunOk cs a mem) :
    Calls Try.prog 45 #[vl, .int .i64 a, vm] w fun e w' => e = .returned (.bool B) ∧ Pure w w' := by
  obtain ⟨B1, h1⟩ := runB cs
  obtain ⟨B2, h2⟩ := lanB a
  obtain ⟨B3, h3⟩ := memB mem
  obtain rfl := runB_of hB h1 h2 h3
  have H := Lib.hid h
  have HM := Lib.hid hm
  have H1 := Lib.hid h1
  have H2 := Lib.hid h2
  have H3 := Lib.hid h3
  obtain ⟨A, c, rfl, hnc, hcm⟩ := h.form
  obtain ⟨Am, cm, rfl⟩ := hm.form
  clear h hm h1 h2 h3 hB
  go_enter Try.func45, Try.ntmps45
  go_wp2_with fail
  refine (spv_any _ cs _ H.out hs1 B1 H1.out).mono ?_
  rintro e w1 ⟨rfl, hp1⟩
  cases B1
  · go_wp2
    go_ret
    exact ⟨rfl, hp1⟩
  go_wp2_with fail
  refine (l1In_any a 1 8 _ B2 H2.out).mono ?_
  rintro e w2 ⟨rfl, rfl⟩
  cases B2
  · go_wp2
    go_ret
    exact ⟨rfl, hp1⟩
  go_wp2_with fail
  refine (smem_any _ mem _ (HM.out.keep hp1) (by omega) B3 H3.out).mono ?_
  rintro e w3 ⟨rfl, hp3⟩
  go_wp2
  go_ret
  exact ⟨ret_bool (by simp), hp1.trans hp3⟩

end Go.Proofs.Ytonmndojlnohcaa

namespace Go.Proofs.Ytonmndojlnohcaa

def StepIn (n a b : Nat) (x : Nat × Nat × (Nat → Nat → Int)) : Prop := a ≤ x.1 ∧ x.1 < b ∧ x.2.1 ≠ 0 ∧ x.2.1 < 2 ^ n
theorem StepIn.wide {n a b a' b' : Nat} {x : Nat × Nat × (Nat → Nat → Int)} (h : StepIn n a b x) (ha : a' ≤ a) (hb : b ≤ b') : StepIn n a' b' x := ⟨Nat.le_trans ha h.1, Nat.lt_of_lt_of_le h.2.1 hb, h.2.2⟩
theorem beat_in {n i mask b : Nat} {s : LS} {x : Nat × Nat × (Nat → Nat → Int)} (hm : mask < 2 ^ n) (h0 : mask ≠ 0) (hb : i < b) (h : x ∈ (beat i mask s).H) : x ∈ s.H ∨ StepIn n i b x := by
  rcases List.mem_append.1 h with h | h
  · exact .inl h
  · simp at h; subst h; exact .inr ⟨Nat.le_refl _, hb, h0, hm⟩
theorem turns_in {F : Nat → LS → LS} {n a lo hi : Nat} (hF : ∀ y s x, y < 2 ^ n → x ∈ (F y s).H → x ∈ s.H ∨ StepIn n lo hi x) : ∀ (b y : Nat) (s : LS) (x), x ∈ (turns F n a b y s).H → x ∈ s.H ∨ StepIn n lo hi x
  | 0, _, _, _, h => .inl h
  | b + 1, y, s, x, h => by
    rcases turns_in hF b (onesTo s.R y a n) (F (onesTo s.R y a n) s) x h with h | h
    · exact hF _ _ _ (onesTo_lt _ _ _ _) h
    · exact .inr h
theorem runStepIn (n m : Nat) : ∀ (t : Tr) (i mask : Nat) (s : LS) (x), mask < 2 ^ n → x ∈ (run n m t i mask s).H → x ∈ s.H ∨ StepIn n i (i + t.len) x
  | .nil, _, _, _, _, _, h => .inl h
  | .op c k, i, mask, s, x, hm, h => by
    rw [Tr.len_op]
    by_cases h0 : mask = 0
    · subst h0; rw [run_zero] at h; exact .inl h
    · have h : x ∈ (if mask = 0 then s else run n m k (i + 1) mask (exec c n m i mask s) : LS).H := h
      rw [if_neg h0] at h
      rcases runStepIn n m k _ _ _ _ hm h with h | h
      · rw [exec_H] at h
        exact beat_in (s := s) hm h0 (by omega) h
      · exact .inr (h.wide (by omega) (by omega))
  | .ite a t k, i, mask, s, x, hm, h => by
    rw [Tr.len_ite]
    by_cases h0 : mask = 0
    · subst h0; rw [run_zero] at h; exact .inl h
    · have h : x ∈ (if mask = 0 then s else _ : LS).H := h
      rw [if_neg h0] at h
      rcases runStepIn n m k _ _ _ _ hm h with h | h
      · rcases runStepIn n m t _ _ _ _ (onesTo_lt _ _ _ _) h with h | h
        · exact beat_in (s := s) hm h0 (by omega) h
        · exact .inr (h.wide (by omega) (by omega))
      · exact .inr (h.wide (by omega) (by omega))
  | .itee a t e k, i, mask, s, x, hm, h => by
    rw [Tr.len_itee]
    by_cases h0 : mask = 0
    · subst h0; rw [run_zero] at h; exact .inl h
    · have h : x ∈ (if mask = 0 then s else _ : LS).H := h
      rw [if_neg h0] at h
      rcases runStepIn n m k _ _ _ _ hm h with h | h
      · rcases runStepIn n m e _ _ _ _ (del_lt2 _ hm) h with h | h
        · rcases runStepIn n m t _ _ _ _ (onesTo_lt _ _ _ _) h with h | h
          · exact beat_in (s := s) hm h0 (by omega) h
          · exact .inr (h.wide (by omega) (by omega))
        · exact .inr (h.wide (by omega) (by omega))
      · exact .inr (h.wide (by omega) (by omega))
  | .loop a b t k, i, mask, s, x, hm, h => by
    rw [Tr.len_loop]
    by_cases h0 : mask = 0
    · subst h0; rw [run_zero] at h; exact .inl h
    · have h : x ∈ (if mask = 0 then s else _ : LS).H := h
      rw [if_neg h0] at h
      rcases runStepIn n m k _ _ _ _ hm h with h | h
      · rcases turns_in (lo := i) (hi := i + (1 + t.len + 1 + k.len)) (fun y s x hy hx => (runStepIn n m t _ _ _ _ hy hx).imp id fun h => h.wide (by omega) (by omega)) _ _ _ _ h with h | h
        · exact beat_in (s := s) hm h0 (by omega) h
        · exact .inr (h.wide (by omega) (by omega))
      · exact .inr (h.wide (by omega) (by omega))

def cdCost (c : Cd) : Nat := if c.op = 4 then 2 else if c.op = 8 ∨ c.op = 9 then 4 else if c.op = 12 ∨ c.op = 14 then 0 else 1
theorem cdCost_le (c : Cd) : cdCost c ≤ 4 := by unfold cdCost; split; omega; split; omega; split <;> omega
def costTo (cs : List Cd) (H : List (Nat × Nat × (Nat → Nat → Int))) : Nat → Nat
  | 0 => 0
  | j + 1 => costTo cs H j + cdCost (cs.getD (H.getD j default).1 default)
theorem costTo_le (cs : List Cd) (H : List (Nat × Nat × (Nat → Nat → Int))) : ∀ j, costTo cs H j ≤ 4 * j
  | 0 => Nat.le_refl _
  | j + 1 => by
    have h1 := costTo_le cs H j
    have h2 := cdCost_le (cs.getD (H.getD j default).1 default)
    show costTo cs H j + _ ≤ _
    omega

end Go.Proofs.Ytonmndojlnohcaa

namespace Go.Proofs.Ytonmndojlnohcaa
open Go.RowKit

theorem eqI (x y : Int) : ((x == y) = true ∧ x = y) ∨ ((x == y) = false ∧ x ≠ y) := by
  by_cases h : x = y
  · exact .inl ⟨by simp [h], h⟩
  · exact .inr ⟨by simp [h], h⟩

end Go.Proofs.Ytonmndojlnohcaa

namespace Go.Proofs.Ytonmndojlnohcaa
open Go.RowKit

theorem beatsL_at : ∀ (H : List (Nat × Nat × (Nat → Nat → Int))) (k : Nat), k < H.length → (beatsL H)[k * 2]? = some (.int .i64 ((H.getD k default).1 : Nat)) ∧ (beatsL H)[k * 2 + 1]? = some (.int .i64 ((H.getD k default).2.1 : Nat))
  | [], _, h => absurd h (by simp)
  | x :: r, 0, _ => ⟨rfl, rfl⟩
  | x :: r, k + 1, h => by
    have := beatsL_at r k (by simpa using h)
    have e : beatsL (x :: r) = .int .i64 (x.1 : Nat) :: .int .i64 (x.2.1 : Nat) :: beatsL r := rfl
    have e2 : (k + 1) * 2 = k * 2 + 1 + 1 := by omega
    rw [e, e2]
    simpa using this
theorem getD_mem' {α : Type} [Inhabited α] {H : List α} {k : Nat} (h : k < H.length) : H.getD k default ∈ H := by simp [List.getD_eq_getElem?_getD, h]
theorem lockOf_in {cs : List Cd} {n : Nat} {mem : List Int} (hv : PValid cs) : ∀ x ∈ (lockOf cs n mem).H, StepIn n 0 cs.length x := by
  intro x hx
  obtain ⟨h1, h2, h3⟩ := treeOf_spec hv
  have hlen : (treeOf cs).len = cs.length := (congrArg List.length h1).symm
  rcases runStepIn n mem.length (treeOf cs) 0 (2 ^ n - 1) (startLS mem) x (Nat.sub_lt (Nat.two_pow_pos n) (by decide)) hx with h | h
  · cases h
  · rw [hlen, Nat.zero_add] at h; exact h
theorem lockOf_len {cs : List Cd} {n : Nat} {mem : List Int} (hv : PValid cs) : (lockOf cs n mem).H.length ≤ 2560 := by
  obtain ⟨h1, h2, h3⟩ := treeOf_spec hv
  have h4 := hv.cost h1 h2 h3
  have h5 := run_H n mem.length (treeOf cs) 0 (2 ^ n - 1) (startLS mem)
  have h6 : (startLS mem).H.length = 0 := rfl
  show (run _ _ _ _ _ _).H.length ≤ _
  omega
theorem lanes_nat {a : Int} (h : LanesOk a) : ∃ n : Nat, a = n ∧ 1 ≤ n ∧ n ≤ 8 := ⟨a.toNat, by unfold LanesOk at h; omega, by unfold LanesOk at h; omega, by unfold LanesOk at h; omega⟩

def CostP (cs : List Cd) (a : Int) (mem : List Int) (x : Int) : Prop := (∀ n : Nat, a = n → RunOk cs a mem → x = (costTo cs (lockOf cs n mem).H (lockOf cs n mem).H.length : Nat)) ∧ (¬ RunOk cs a mem → x = -1)
theorem CostP.unique {cs : List Cd} {a : Int} {mem : List Int} {x y : Int} (h : CostP cs a mem x) (k : CostP cs a mem y) : y = x := by
  by_cases ho : RunOk cs a mem
  · obtain ⟨n, hn, _⟩ := lanes_nat ho.2.1
    rw [h.1 n hn ho, k.1 n hn ho]
  · rw [h.2 ho, k.2 ho]

end Go.Proofs.Ytonmndojlnohcaa
