/- The whole run in lockstep, as the reference makes it. Which arguments a run takes: the number of lanes, the memory. The block around a place, as the program finds it. Where the steps of a run lie, and by which lanes; what they cost. No program in sight. Which instructions the steps of a run execute, and by which lanes; the first step. No program in sight. No condition. -/
import Derived.Test.YtmhaaihgepldhaaKad
import Derived.Test.YtmhaaihgepldhaaKag
import Derived.Test.YtmhaaihgepldhaaKaj
import Derived.Test.YtmhaaihgepldhaaKbd
import Derived.Test.YtmhaaihgepldhaaKbe

namespace Go.Proofs.Ytmhaaihgepldhaa
open Go.RowKit

def MemOk (mem : List Int) : Prop := (1 ≤ mem.length ∧ mem.length ≤ 32) ∧ ∀ x ∈ mem, Word x
def startLS (mem : List Int) : LS := ⟨fun _ _ => 0, fun j => mem.getD j 0, [], [], 0⟩
open Classical in
noncomputable def treeOf (cs : List Cd) : Tr := if h : ∃ t : Tr, cs = t.flat ∧ t.Ok ∧ t.depth ≤ 3 then h.choose else .nil
theorem treeOf_spec {cs : List Cd} (h : PValid cs) : cs = (treeOf cs).flat ∧ (treeOf cs).Ok ∧ (treeOf cs).depth ≤ 3 := by
  have ht := h.tree
  unfold treeOf
  rw [dif_pos ht]
  exact ht.choose_spec
/-- The whole run in lockstep. -/
noncomputable def lockOf (cs : List Cd) (n : Nat) (mem : List Int) : LS := run n mem.length (treeOf cs) 0 (2 ^ n - 1) (startLS mem)
theorem startLS_good {mem : List Int} (h : MemOk mem) : Good (startLS mem) := by
  refine ⟨fun l r => (show Word (0 : Int) from ⟨by decide, by decide⟩), fun j => ?_⟩
  show Word (mem.getD j 0)
  by_cases hj : j < mem.length
  · have : mem.getD j 0 ∈ mem := by simp [List.getD_eq_getElem?_getD, hj]
    exact h.2 _ this
  · have : mem.getD j 0 = 0 := by simp [List.getD_eq_getElem?_getD, List.getElem?_eq_none (Nat.le_of_not_lt hj)]
    rw [this]; exact ⟨by decide, by decide⟩

/-- The registers under way: the first j lanes have theirs. -/
structure RegsB (w : World) (B : Nat) (vr : Value) (j : Nat) (rows : Nat → Nat) : Prop where
  own : w.ownsRow B 53 1 vr j ((List.range j).map fun i => .slice (some ⟨rows i, 0, none⟩) 4 4)
  lo : ∀ i, i < j → B ≤ rows i
  row : ∀ i, i < j → w.heap[rows i]? = some (.cells #[.int .i64 0, .int .i64 0, .int .i64 0, .int .i64 0] 3 (0, 0))
  inj : ∀ i k, i < j → k < j → rows i = rows k → i = k
theorem own_form {w : World} {B e s n : Nat} {v : Value} {xs : List Value} (h : w.ownsRow B e s v n xs) (hn : 0 < n) : ∃ g cap, v = .slice (some ⟨g, 0, none⟩) n cap ∧ B ≤ g ∧ g < w.heap.size ∧ n ≤ cap ∧ cap ≤ 9223372036854775807 := by
  rcases h.2 with ⟨_, h0⟩ | ⟨g, cap, cur, rfl, h1, h2, h3, h4, _⟩
  · omega
  · exact ⟨g, cap, rfl, h1, (Array.getElem?_eq_some_iff.1 h2).1, h3, h4⟩
theorem own_zero4 {w : World} {B g : Nat} (h : w.ownsRow B 3 1 (.slice (some ⟨g, 0, none⟩) 4 4) 4 (zeros [.int .i64 0] 4)) : w.heap[g]? = some (.cells #[.int .i64 0, .int .i64 0, .int .i64 0, .int .i64 0] 3 (0, 0)) := by
  rcases h.2 with ⟨hv, _⟩ | ⟨g', cap, cur, hv, h1, h2, h3, h4, h5, h6⟩
  · cases hv
  · injection hv with hv _ hc
    injection hv with hv
    injection hv with e1 e2
    subst e1
    have hcap : cap = 4 := hc.symm
    subst hcap
    have hl : cur.toList.length = 4 := by simpa using h5
    have ht : cur.toList = zeros [.int .i64 0] 4 := by
      rw [← h6, List.take_of_length_le (by omega)]
    have : cur = #[.int .i64 0, .int .i64 0, .int .i64 0, .int .i64 0] := by
      apply Array.ext'
      rw [ht]
      apply List.ext_getElem?
      intro j
      by_cases hj : j < 4
      · rw [zeros_get _ _ _ (by simpa using hj)]
        have : j = 0 ∨ j = 1 ∨ j = 2 ∨ j = 3 := by omega
        rcases this with rfl | rfl | rfl | rfl <;> rfl
      · rw [List.getElem?_eq_none (by rw [zeros_length]; simp; omega), List.getElem?_eq_none (by simp; omega)]
    rw [h2, this]
theorem own_ne_heap {w : World} {B e s n g e' : Nat} {v : Value} {xs : List Value} {cur : Array Value} (h : w.ownsRow B e s v n xs) (h' : w.heap[g]? = some (.cells cur e' (0, 0))) (hne : e ≠ e') : ∀ k, v.ownBlock = some k → k ≠ g := by
  intro k hk
  rcases h.2 with ⟨rfl, _⟩ | ⟨g', cap, cur', rfl, _, h2, _⟩
  · simp [Value.ownBlock] at hk
  · simp [Value.ownBlock] at hk
    subst hk
    exact ne_of_heap h2 h' hne
theorem RegsB.pure {w w' : World} {B j : Nat} {vr : Value} {rows : Nat → Nat} (h : RegsB w B vr j rows) (hp : Pure w w') : RegsB w' B vr j rows :=
  ⟨own_pure h.own hp, h.lo, fun i hi => (Chg.of_pure (S := fun _ => False) hp).heap (h.row i hi) id, h.inj⟩
theorem RegsB.chg {S : Nat → Prop} {w w' : World} {B j : Nat} {vr : Value} {rows : Nat → Nat} (h : RegsB w B vr j rows) (hc : Chg S w w') (h1 : ∀ g, vr.ownBlock = some g → ¬ S g) (h2 : ∀ i, i < j → ¬ S (rows i)) : RegsB w' B vr j rows := by
  refine ⟨⟨h.own.1, ?_⟩, h.lo, fun i hi => hc.heap (h.row i hi) (h2 i hi), h.inj⟩
  rcases h.own.2 with q | ⟨g, cap, cur, rfl, q1, q2, q3⟩
  · exact .inl q
  · exact .inr ⟨g, cap, cur, rfl, q1, hc.heap q2 (h1 g rfl), q3⟩
/-- One lane more has its registers. -/
theorem RegsB.push {w w1 w2 : World} {B j g : Nat} {vr vr' : Value} {rows : Nat → Nat} (h : RegsB w B vr j rows) (hp : Pure w w1) (hg : w.heap.size ≤ g) (hB : B ≤ w.heap.size) (hz : w1.heap[g]? = some (.cells #[.int .i64 0, .int .i64 0, .int .i64 0, .int .i64 0] 3 (0, 0)))
    (ho : w2.ownsRow B 53 1 vr' (j + 1) (((List.range j).map fun i => .slice (some ⟨rows i, 0, none⟩) 4 4) ++ [.slice (some ⟨g, 0, none⟩) 4 4])) (hgr : w1.grownBy w2 vr.ownBlock) : RegsB w2 B vr' (j + 1) (fun i => if i = j then g else rows i) := by
  have h1 := h.pure hp
  have hc : Chg (fun k => vr.ownBlock = some k) w1 w2 := Chg.of_grown hgr (fun k hk => hk)
  refine ⟨?_, fun i hi => ?_, fun i hi => ?_, fun i k hi hk e => ?_⟩
  · have : (List.range (j + 1)).map (fun i => Value.slice (some ⟨if i = j then g else rows i, 0, none⟩) 4 4) = ((List.range j).map fun i => Value.slice (some ⟨rows i, 0, none⟩) 4 4) ++ [.slice (some ⟨g, 0, none⟩) 4 4] := by
      rw [List.range_succ, List.map_append]
      congr 1
      · refine List.map_congr_left fun i hi => ?_
        rw [if_neg (by have := List.mem_range.1 hi; omega)]
      · simp
    rw [this]; exact ho
  · show B ≤ if i = j then g else rows i
    split
    · omega
    · exact h.lo i (by omega)
  · show w2.heap[if i = j then g else rows i]? = _
    split
    · exact hc.heap hz (fun e => own_ne_heap h1.own hz (by decide) _ e rfl)
    · exact hc.heap (h1.row i (by omega)) (fun e => own_ne_heap h1.own (h1.row i (by omega)) (by decide) _ e rfl)
  · have hlt : ∀ i, i < j → rows i < w.heap.size := fun i hi => (Array.getElem?_eq_some_iff.1 (h.row i hi)).1
    try simp only at e
    by_cases e1 : i = j
    · by_cases e2 : k = j
      · omega
      · rw [if_pos e1, if_neg e2] at e
        have := hlt k (by omega); omega
    · by_cases e2 : k = j
      · rw [if_neg e1, if_pos e2] at e
        have := hlt i (by omega); omega
      · rw [if_neg e1, if_neg e2] at e
        exact h.inj i k (by omega) (by omega) e

theorem own_cells {w : World} {B e n g c : Nat} {xs : List Value} (h : w.ownsRow B e 1 (.slice (some ⟨g, 0, none⟩) n c) n xs) : ∃ cur : Array Value, w.heap[g]? = some (.cells cur e (0, 0)) ∧ ∀ k, k < n → cur[k]? = xs[k]? := by
  rcases h.2 with ⟨hv, _⟩ | ⟨g', cap, cur, hv, h1, h2, h3, h4, h5, h6⟩
  · cases hv
  · injection hv with hv _ hc
    injection hv with hv
    injection hv with e1 e2
    subst e1
    refine ⟨cur, h2, fun k hk => ?_⟩
    rw [← h6, List.getElem?_take, if_pos (by omega)]
    simp
theorem RegsB.rm {w : World} {B n m gr cr gm cm : Nat} {rows : Nat → Nat} {mem : List Int} (h : RegsB w B (.slice (some ⟨gr, 0, none⟩) n cr) n rows) (hn1 : 1 ≤ n) (hn8 : n ≤ 8) (hm1 : 1 ≤ m) (hm32 : m ≤ 32)
    (hm : OwnO w B 3 1 (.slice (some ⟨gm, 0, none⟩) m cm) m ((List.range m).map fun j => .int .i64 (mem.getD j 0))) (hne : ∀ i, i < n → rows i ≠ gm) :
    RM ⟨B, n, m, gr, cr, gm, cm, rows⟩ w (startLS mem).R (startLS mem).M := by
  obtain ⟨cur, q1, q2⟩ := own_cells h.own
  obtain ⟨g', c', hv, b1, _, b3, b4⟩ := own_form h.own (by omega)
  injection hv with hv _ hc
  injection hv with hv
  injection hv with e1 _
  subst e1 hc
  refine ⟨hn8, hm1, hm32, b3, b4, b1, ⟨cur, q1, fun k hk => ?_⟩, h.lo, h.row, h.inj, hm, hne⟩
  rw [q2 k hk]
  have hk' : k < n := hk
  simp [hk', RMo.row]

end Go.Proofs.Ytmhaaihgepldhaa

namespace Go.Proofs.Ytmhaaihgepldhaa
open Go.RowKit

def LanesOk (a : Int) : Prop := 1 ≤ a ∧ a ≤ 8
def RunOk (cs : List Cd) (a : Int) (mem : List Int) : Prop := PValid cs ∧ LanesOk a ∧ MemOk mem
theorem memB_len {mem : List Int} {B : Bool} (h : B = true ↔ MemOk mem) (hw : ∀ x ∈ mem, Word x) : B = true ↔ (1 ≤ (mem.length : Int) ∧ (mem.length : Int) ≤ 32) := by
  rw [h]
  constructor
  · intro h; have h1 := h.1.1; have h2 := h.1.2; omega
  · intro h; exact ⟨⟨by omega, by omega⟩, hw⟩
theorem getD_mem {mem : List Int} {k : Nat} (h : k < mem.length) : mem.getD k 0 ∈ mem := by simp [List.getD_eq_getElem?_getD, h]
theorem words_of {mem : List Int} (h : ∀ j, j < mem.length → Word (mem.getD j 0)) : ∀ x ∈ mem, Word x := by
  intro x hx
  obtain ⟨j, hj, rfl⟩ := List.getElem_of_mem hx
  have := h j hj
  simpa [List.getD_eq_getElem?_getD, hj] using this

def memBadAt (mem : List Int) (_k : Nat) (v : Int) : Prop := (∃ j, j < mem.length ∧ v = (j : Nat) ∧ ¬ Word (mem.getD j 0)) ∨ (v = -1 ∧ ∀ j, j < mem.length → Word (mem.getD j 0))

set_option maxHeartbeats 400000 in
theorem ilanesok_any (a : Int) (w : World) (B : Bool) (hB : B = true ↔ LanesOk a) :
    Calls Try.prog 84 #[.int .i64 a] w fun e w' => e = .returned (.bool B) ∧ w = w' := by
  have HB := Lib.hid hB; clear hB
  go_enter Try.func84, Try.ntmps84
  go_wp2_with fail
  refine (within_any _ _ _ _ B HB.out).mono ?_
  rintro e w' ⟨rfl, rfl⟩
  go_wp2
  go_ret
  exact ⟨rfl, rfl⟩

theorem runB (cs : List Cd) : ∃ B : Bool, B = true ↔ PValid cs := by classical exact ⟨decide (PValid cs), by simp⟩
theorem memB (mem : List Int) : ∃ B : Bool, B = true ↔ MemOk mem := by classical exact ⟨decide (MemOk mem), by simp⟩
theorem lanB (a : Int) : ∃ B : Bool, B = true ↔ LanesOk a := by classical exact ⟨decide (LanesOk a), by simp⟩
theorem runB_of {cs : List Cd} {a : Int} {mem : List Int} {B B1 B2 B3 : Bool} (h : B = true ↔ RunOk cs a mem) (h1 : B1 = true ↔ PValid cs) (h2 : B2 = true ↔ LanesOk a) (h3 : B3 = true ↔ MemOk mem) : B = (B1 && (B2 && B3)) := by
  rw [Bool.eq_iff_iff, h]; unfold RunOk; rw [← h1, ← h2, ← h3]; simp

end Go.Proofs.Ytmhaaihgepldhaa

namespace Go.Proofs.Ytmhaaihgepldhaa
open Go.RowKit

theorem PValid.stk {cs : List Cd} (h : PValid cs) : ∀ {k : Nat}, k ≤ cs.length → ∃ st, sscan (cs.take k) 0 [] = some st ∧ Stk cs k st
  | 0, _ => ⟨[], by simp [sscan], Stk.nil cs⟩
  | k + 1, hk => by
    obtain ⟨st, h1, h2⟩ := PValid.stk h (k := k) (by omega)
    have h3 := sscan_take (show k < cs.length by omega) h1
    cases hs : sstep st k (cs.getD k default) with
    | none =>
      rw [hs] at h3
      have := sscan_none h3
      rw [h.2.2] at this; cases this
    | some st' => exact ⟨st', h3.trans hs, h2.step (by omega) hs⟩
/-- The innermost of the blocks around a place. -/
theorem stk_top {cs : List Cd} (h : PValid cs) {k : Nat} (hk : k < cs.length) : ((stkPos cs k).length = 0 ∧ aroundAt cs k = -1) ∨
    (0 < (stkPos cs k).length ∧ (((stkPos cs k).getD ((stkPos cs k).length - 1) 0 : Nat) : Int) = aroundAt cs k ∧ (stkPos cs k).getD ((stkPos cs k).length - 1) 0 < cs.length ∧ Opens (cs.getD ((stkPos cs k).getD ((stkPos cs k).length - 1) 0) default)) := by
  obtain ⟨st, h1, h2⟩ := h.stk (Nat.le_of_lt hk)
  have e : stkPos cs k = (st.map (·.1)).reverse := by unfold stkPos; rw [h1]; rfl
  have ha := h2.around 0
  cases st with
  | nil => left; rw [e]; exact ⟨rfl, ha⟩
  | cons x r =>
    right
    have hl : (stkPos cs k).length = r.length + 1 := by rw [e]; simp
    have hg : (stkPos cs k).getD ((stkPos cs k).length - 1) 0 = x.1 := by
      rw [hl, e]
      simp [List.getD_eq_getElem?_getD]
    rw [hg]
    have hlt := h2.lt 0 (by simp)
    obtain ⟨o, _, he⟩ := h2.ends 0 (by simp)
    simp only [List.getElem_cons_zero] at hlt he
    refine ⟨by omega, ha.symm, by omega, ?_⟩
    rcases he with he | he | he
    · exact .inl he.2.1
    · exact .inl he.2.1
    · exact .inr he.2.1

open Classical in
noncomputable def aroundA (cs : List Cd) (p : Int) : Int := if PValid cs ∧ 0 ≤ p ∧ p ≤ (cs.length : Int) - 1 then aroundAt cs p.toNat else -1

set_option maxHeartbeats 1000000 in
theorem iba_any (v : Value) (cs : List Cd) (a : Int) (w : World) (h : Codes w v cs) (hsmall : cs.length ≤ 1048576) :
    Calls Try.prog 34 #[v, .int .i64 a] w fun e w' => e = .returned (.int .i64 (aroundA cs a)) ∧ Pure w w' := by
  have H := Lib.hid h
  obtain ⟨A, c, rfl, hnc, hcm⟩ := h.form
  clear h
  obtain ⟨B, hB⟩ := runB cs
  have HB := Lib.hid hB
  clear hB
  cases B
  · have HN : Hid (aroundA cs a = -1) := Lib.hid (by unfold aroundA; rw [if_neg (fun h => by have := HB.out.2 h.1; cases this)])
    rw [HN.out]
    go_enter Try.func34, Try.ntmps34
    go_wp2_with fail
    refine (ipv_any _ cs _ H.out hsmall false HB.out).mono ?_
    rintro e w1 ⟨rfl, hp1⟩
    go_wp2
    go_ret
    exact ⟨rfl, hp1⟩
  have hv : PValid cs := HB.out.1 rfl
  have HV := Lib.hid hv
  clear hv
  by_cases hin : 0 ≤ a ∧ a ≤ (cs.length : Int) - 1
  · obtain ⟨k, rfl⟩ : ∃ k : Nat, a = k := ⟨a.toNat, by omega⟩
    have hk : k < cs.length := by omega
    have HN : Hid (aroundA cs k = aroundAt cs k) := Lib.hid (by unfold aroundA; rw [if_pos ⟨HV.out, hin⟩]; rfl)
    have HIN := Lib.hid hin
    clear hin
    rw [HN.out]
    have HTOP := Lib.hid (stk_top HV.out hk)
    obtain ⟨q, Hq⟩ : ∃ q, Hid (aroundAt cs k = q) := ⟨_, Lib.hid rfl⟩
    rw [Hq.out] at HTOP ⊢
    go_enter Try.func34, Try.ntmps34
    go_wp2_with fail
    refine (ipv_any _ cs _ H.out hsmall true (by simp only [true_iff]; exact HV.out)).mono ?_
    rintro e w1 ⟨rfl, hp1⟩
    go_wp2_with fail
    refine (within_any (k : Int) 0 ((cs.length : Int) - 1) _ true (by simp only [true_iff]; exact HIN.out)).mono ?_
    rintro e w1 ⟨rfl, rfl⟩
    go_wp2_with fail
    refine (blocks_any _ cs _ (H.out.keep hp1) HV.out.2.1).mono ?_
    rintro e w2 ⟨hp2, hm⟩
    rw [HV.out.2.2] at hm
    obtain ⟨va, vo, rfl, ht⟩ := hm
    obtain ⟨pb, h1, h2, R, h3, h4⟩ := ht rfl
    obtain ⟨Aa, ca, rfl, hla, hca, hcells⟩ := h3
    obtain ⟨ba, oa, rfl, hba, hcc⟩ := hcells (by omega)
    have q0 := hcc k (by omega)
    have hrow := h4 k hk
    have HP := Lib.hid (hp1.trans hp2)
    have HB2 := Lib.hid h2
    obtain ⟨Rk, HRk⟩ : ∃ r, Hid (R k = r) := ⟨_, Lib.hid rfl⟩
    rw [HRk.out] at q0 hrow
    obtain ⟨S, HS⟩ : ∃ S, Hid (stkPos cs k = S) := ⟨_, Lib.hid rfl⟩
    rw [HS.out] at hrow HTOP
    obtain ⟨Ar, cr, rfl, hlr, hcr, hrc⟩ := hrow
    obtain ⟨_, _, rfl, _⟩ := h1
    have HRC := Lib.hid hrc
    clear h2 h4 hcc hcells hrc hp1 hp2
    rcases HTOP.out with ⟨h0, hq⟩ | ⟨h0, hq, hlt, hop⟩
    · have hz : (S.length : Int) = 0 := by omega
      have HQ := Lib.hid hq
      clear hq
      go_wp2
      go_ret
      exact ⟨by rw [HQ.out]; rfl, HP.out⟩
    · obtain ⟨br, or1, rfl, hbr, hcr2⟩ := HRC.out h0
      have q1 := hcr2 (S.length - 1) (by omega)
      obtain ⟨tp, Htp⟩ : ∃ tp, Hid (S.getD (S.length - 1) 0 = tp) := ⟨_, Lib.hid rfl⟩
      simp only [Htp.out] at q1
      rw [Htp.out] at hq hlt hop
      have q2 := (HB2.out tp hlt hop).2.1
      have hpos : (0 : Int) < (S.length : Int) := by omega
      have hidx : ((S.length - 1 : Nat) : Int) = (S.length : Int) - 1 := by omega
      obtain ⟨u, Hu⟩ : ∃ u, Hid (S.length - 1 = u) := ⟨_, Lib.hid rfl⟩
      rw [Hu.out] at q1 hidx
      have hul : u < S.length := by omega
      have hx : (S.length : Int) - 1 = (u : Int) := hidx.symm
      unfold ptr at q1
      have HQ := Lib.hid hq
      clear hcr2 hq hop hidx
      go_wp2
      go_ret
      exact ⟨ret_int HQ.out, HP.out⟩
  · have HN : Hid (aroundA cs a = -1) := Lib.hid (by unfold aroundA; rw [if_neg (fun h => hin h.2)])
    have HIN := Lib.hid hin
    clear hin
    rw [HN.out]
    go_enter Try.func34, Try.ntmps34
    go_wp2_with fail
    refine (ipv_any _ cs _ H.out hsmall true (by simp only [true_iff]; exact HV.out)).mono ?_
    rintro e w1 ⟨rfl, hp1⟩
    go_wp2_with fail
    refine (within_any a 0 ((cs.length : Int) - 1) _ false (by simp only [Bool.false_eq_true, false_iff]; exact HIN.out)).mono ?_
    rintro e w1 ⟨rfl, rfl⟩
    go_wp2
    go_ret
    exact ⟨rfl, hp1⟩

end Go.Proofs.Ytmhaaihgepldhaa

namespace Go.Proofs.Ytmhaaihgepldhaa

def StepIn (n a b : Nat) (x : Nat × Nat × (Nat → Nat → Int)) : Prop := a ≤ x.1 ∧ x.1 < b ∧ x.2.1 ≠ 0 ∧ x.2.1 < 2 ^ n
theorem StepIn.wide {n a b a' b' : Nat} {x : Nat × Nat × (Nat → Nat → Int)} (h : StepIn n a b x) (ha : a' ≤ a) (hb : b ≤ b') : StepIn n a' b' x := ⟨Nat.le_trans ha h.1, Nat.lt_of_lt_of_le h.2.1 hb, h.2.2⟩
theorem beat_in {n i mask b : Nat} {s : LS} {x : Nat × Nat × (Nat → Nat → Int)} (hm : mask < 2 ^ n) (h0 : mask ≠ 0) (hb : i < b) (h : x ∈ (beat i mask s).H) : x ∈ s.H ∨ StepIn n i b x := by
  rcases List.mem_append.1 h with h | h
  · exact .inl h
  · simp at h; subst h; exact .inr ⟨Nat.le_refl _, hb, h0, hm⟩
theorem turns_in {F : Nat → LS → LS} {n a lo hi : Nat} (hF : ∀ y s x, y < 2 ^ n → x ∈ (F y s).H → x ∈ s.H ∨ StepIn n lo hi x) : ∀ (b y : Nat) (s : LS) (x), x ∈ (turns F n a b y s).H → x ∈ s.H ∨ StepIn n lo hi x
  | 0, _, _, _, h => .inl h
  | b + 1, y, s, x, h => by
    rcases turns_in hF b (onesTo s.R y a n) (F (onesTo s.R y a n) s) x h with h | h
    · exact hF _ _ _ (onesTo_lt _ _ _ _) h
    · exact .inr h
theorem runStepIn (n m : Nat) : ∀ (t : Tr) (i mask : Nat) (s : LS) (x), mask < 2 ^ n → x ∈ (run n m t i mask s).H → x ∈ s.H ∨ StepIn n i (i + t.len) x
  | .nil, _, _, _, _, _, h => .inl h
  | .op c k, i, mask, s, x, hm, h => by
    rw [Tr.len_op]
    by_cases h0 : mask = 0
    · subst h0; rw [run_zero] at h; exact .inl h
    · have h : x ∈ (if mask = 0 then s else run n m k (i + 1) mask (exec c n m i mask s) : LS).H := h
      rw [if_neg h0] at h
      rcases runStepIn n m k _ _ _ _ hm h with h | h
      · rw [exec_H] at h
        exact beat_in (s := s) hm h0 (by omega) h
      · exact .inr (h.wide (by omega) (by omega))
  | .ite a t k, i, mask, s, x, hm, h => by
    rw [Tr.len_ite]
    by_cases h0 : mask = 0
    · subst h0; rw [run_zero] at h; exact .inl h
    · have h : x ∈ (if mask = 0 then s else _ : LS).H := h
      rw [if_neg h0] at h
      rcases runStepIn n m k _ _ _ _ hm h with h | h
      · rcases runStepIn n m t _ _ _ _ (onesTo_lt _ _ _ _) h with h | h
        · exact beat_in (s := s) hm h0 (by omega) h
        · exact .inr (h.wide (by omega) (by omega))
      · exact .inr (h.wide (by omega) (by omega))
  | .itee a t e k, i, mask, s, x, hm, h => by
    rw [Tr.len_itee]
    by_cases h0 : mask = 0
    · subst h0; rw [run_zero] at h; exact .inl h
    · have h : x ∈ (if mask = 0 then s else _ : LS).H := h
      rw [if_neg h0] at h
      rcases runStepIn n m k _ _ _ _ hm h with h | h
      · rcases runStepIn n m e _ _ _ _ (del_lt2 _ hm) h with h | h
        · rcases runStepIn n m t _ _ _ _ (onesTo_lt _ _ _ _) h with h | h
          · exact beat_in (s := s) hm h0 (by omega) h
          · exact .inr (h.wide (by omega) (by omega))
        · exact .inr (h.wide (by omega) (by omega))
      · exact .inr (h.wide (by omega) (by omega))
  | .loop a b t k, i, mask, s, x, hm, h => by
    rw [Tr.len_loop]
    by_cases h0 : mask = 0
    · subst h0; rw [run_zero] at h; exact .inl h
    · have h : x ∈ (if mask = 0 then s else _ : LS).H := h
      rw [if_neg h0] at h
      rcases runStepIn n m k _ _ _ _ hm h with h | h
      · rcases turns_in (lo := i) (hi := i + (1 + t.len + 1 + k.len)) (fun y s x hy hx => (runStepIn n m t _ _ _ _ hy hx).imp id fun h => h.wide (by omega) (by omega)) _ _ _ _ h with h | h
        · exact beat_in (s := s) hm h0 (by omega) h
        · exact .inr (h.wide (by omega) (by omega))
      · exact .inr (h.wide (by omega) (by omega))

def cdCost (c : Cd) : Nat := if c.op = 4 then 2 else if c.op = 8 ∨ c.op = 9 then 4 else if c.op = 12 ∨ c.op = 14 then 0 else 1
theorem cdCost_le (c : Cd) : cdCost c ≤ 4 := by unfold cdCost; split; omega; split; omega; split <;> omega
def costTo (cs : List Cd) (H : List (Nat × Nat × (Nat → Nat → Int))) : Nat → Nat
  | 0 => 0
  | j + 1 => costTo cs H j + cdCost (cs.getD (H.getD j default).1 default)
theorem costTo_le (cs : List Cd) (H : List (Nat × Nat × (Nat → Nat → Int))) : ∀ j, costTo cs H j ≤ 4 * j
  | 0 => Nat.le_refl _
  | j + 1 => by
    have h1 := costTo_le cs H j
    have h2 := cdCost_le (cs.getD (H.getD j default).1 default)
    show costTo cs H j + _ ≤ _
    omega

end Go.Proofs.Ytmhaaihgepldhaa

namespace Go.Proofs.Ytmhaaihgepldhaa

theorem plain_op {c : Cd} (h : Plain c) : c.op ≠ 12 ∧ c.op ≠ 14 := ⟨h.2.2.1, h.2.2.2.2⟩
theorem turns_mem {F : Nat → LS → LS} {n a : Nat} {Q : Nat × Nat × (Nat → Nat → Int) → Prop} (hF : ∀ y s x, x ∈ (F y s).H → x ∈ s.H ∨ Q x) : ∀ (b y : Nat) (s : LS) (x), x ∈ (turns F n a b y s).H → x ∈ s.H ∨ Q x
  | 0, _, _, _, h => .inl h
  | b + 1, y, s, x, h => by
    rcases turns_mem hF b (onesTo s.R y a n) (F (onesTo s.R y a n) s) x h with h | h
    · exact hF _ _ _ h
    · exact .inr h
theorem beat_mem {i mask : Nat} {s : LS} {x : Nat × Nat × (Nat → Nat → Int)} (h : x ∈ (beat i mask s).H) : x ∈ s.H ∨ (x.1 = i ∧ x.2.1 = mask) := by
  rcases List.mem_append.1 h with h | h
  · exact .inl h
  · simp at h; subst h; exact .inr ⟨rfl, rfl⟩
/-- No step is one of an OpElse or an OpEnd. -/
theorem run_op {cs : List Cd} (n m : Nat) : ∀ (t : Tr) (i mask : Nat) (s : LS) (x), t.Ok → Seg cs i t → x ∈ (run n m t i mask s).H → x ∈ s.H ∨ ((cs.getD x.1 default).op ≠ 12 ∧ (cs.getD x.1 default).op ≠ 14)
  | .nil, _, _, _, _, _, _, h => .inl h
  | .op c k, i, mask, s, x, ho, hs, h => by
    obtain ⟨h1, _, h3⟩ := hs.op
    by_cases h0 : mask = 0
    · subst h0; rw [run_zero] at h; exact .inl h
    · have h : x ∈ (if mask = 0 then s else run n m k (i + 1) mask (exec c n m i mask s) : LS).H := h
      rw [if_neg h0] at h
      rcases run_op n m k _ _ _ _ ho.2 h3 h with h | h
      · rw [exec_H] at h
        rcases beat_mem (s := s) h with h | h
        · exact .inl h
        · rw [h.1, h1]; exact .inr (plain_op ho.1)
      · exact .inr h
  | .ite a t k, i, mask, s, x, ho, hs, h => by
    obtain ⟨h1, h2, _, _, h3⟩ := hs.ite
    by_cases h0 : mask = 0
    · subst h0; rw [run_zero] at h; exact .inl h
    · have h : x ∈ (if mask = 0 then s else _ : LS).H := h
      rw [if_neg h0] at h
      rcases run_op n m k _ _ _ _ ho.2.2 h3 h with h | h
      · rcases run_op n m t _ _ _ _ ho.2.1 h2 h with h | h
        · rcases beat_mem (s := s) h with h | h
          · exact .inl h
          · rw [h.1, h1]; exact .inr ⟨by simp [cIf], by simp [cIf]⟩
        · exact .inr h
      · exact .inr h
  | .itee a t e k, i, mask, s, x, ho, hs, h => by
    obtain ⟨h1, h2, _, h4, _, _, h3⟩ := hs.itee
    by_cases h0 : mask = 0
    · subst h0; rw [run_zero] at h; exact .inl h
    · have h : x ∈ (if mask = 0 then s else _ : LS).H := h
      rw [if_neg h0] at h
      rcases run_op n m k _ _ _ _ ho.2.2.2 h3 h with h | h
      · rcases run_op n m e _ _ _ _ ho.2.2.1 h4 h with h | h
        · rcases run_op n m t _ _ _ _ ho.2.1 h2 h with h | h
          · rcases beat_mem (s := s) h with h | h
            · exact .inl h
            · rw [h.1, h1]; exact .inr ⟨by simp [cIf], by simp [cIf]⟩
          · exact .inr h
        · exact .inr h
      · exact .inr h
  | .loop a b t k, i, mask, s, x, ho, hs, h => by
    obtain ⟨h1, h2, _, _, h3⟩ := hs.loop
    by_cases h0 : mask = 0
    · subst h0; rw [run_zero] at h; exact .inl h
    · have h : x ∈ (if mask = 0 then s else _ : LS).H := h
      rw [if_neg h0] at h
      rcases run_op n m k _ _ _ _ ho.2.2.2 h3 h with h | h
      · rcases turns_mem (fun y s x hx => run_op n m t _ _ _ _ ho.2.2.1 h2 hx) _ _ _ _ h with h | h
        · rcases beat_mem (s := s) h with h | h
          · exact .inl h
          · rw [h.1, h1]; exact .inr ⟨by simp [cLoop], by simp [cLoop]⟩
        · exact .inr h
      · exact .inr h

/-- Steps outside of the blocks of a tree have its mask. -/
def OutStep (cs : List Cd) (i mask : Nat) (x : Nat × Nat × (Nat → Nat → Int)) : Prop := (x.2.1 = mask ∧ aroundAt cs x.1 = aroundAt cs i) ∨ (i : Int) ≤ aroundAt cs x.1
theorem around_op {cs : List Cd} {i : Nat} (h1 : ¬ Opens (cs.getD i default)) (h2 : (cs.getD i default).op ≠ 14) : aroundAt cs (i + 1) = aroundAt cs i := by
  unfold aroundAt
  rw [bScan_succ, if_neg h2, if_neg h1]
theorem around_open {cs : List Cd} {i : Nat} (h : Opens (cs.getD i default)) : aroundAt cs (i + 1) = i := by
  unfold aroundAt
  have h2 : (cs.getD i default).op ≠ 14 := by rcases h with h | h <;> omega
  rw [bScan_succ, if_neg h2, if_pos h, if_pos rfl]
/-- Behind a block the blocks around are those before it. -/
theorem around_behind {cs : List Cd} {i : Nat} {t : Tr} (ho : t.Ok) (hs : Seg cs (i + 1) t) (h : Opens (cs.getD i default)) (he : cs.getD (i + 1 + t.len) default = cEnd) : aroundAt cs (i + 1 + t.len + 1) = aroundAt cs i := by
  unfold aroundAt
  have h2 : (cs.getD i default).op ≠ 14 := by rcases h with h | h <;> omega
  rw [bScan_succ, he, if_pos (by rfl), bScan_flat t (i + 1) 1 ho hs, bScan_succ, if_neg h2, if_pos h, if_neg (by decide)]
theorem around_behind2 {cs : List Cd} {i : Nat} {t e : Tr} (ho : t.Ok) (hs : Seg cs (i + 1) t) (h : Opens (cs.getD i default)) (he : cs.getD (i + 1 + t.len) default = cElse) (hoe : e.Ok) (hse : Seg cs (i + 1 + t.len + 1) e) (he2 : cs.getD (i + 1 + t.len + 1 + e.len) default = cEnd) :
    aroundAt cs (i + 1 + t.len + 1 + e.len + 1) = aroundAt cs i ∧ aroundAt cs (i + 1 + t.len + 1) = i := by
  have h2 : (cs.getD i default).op ≠ 14 := by rcases h with h | h <;> omega
  unfold aroundAt
  constructor
  · rw [bScan_succ, he2, if_pos (by rfl), bScan_flat e _ 1 hoe hse, bScan_succ, he, if_neg (by decide), if_neg opens_else, bScan_flat t (i + 1) 1 ho hs, bScan_succ, if_neg h2, if_pos h, if_neg (by decide)]
  · rw [bScan_succ, he, if_neg (by decide), if_neg opens_else, bScan_flat t (i + 1) 0 ho hs, bScan_succ, if_neg h2, if_pos h, if_pos rfl]
theorem OutStep.inner {cs : List Cd} {i j mask mask' : Nat} {x : Nat × Nat × (Nat → Nat → Int)} (h : OutStep cs j mask' x) (hj : aroundAt cs j = i) (hij : i ≤ j) : OutStep cs i mask x := by
  rcases h with h | h
  · exact .inr (by rw [h.2, hj]; exact Int.le_refl _)
  · exact .inr (by omega)
theorem OutStep.next {cs : List Cd} {i j mask : Nat} {x : Nat × Nat × (Nat → Nat → Int)} (h : OutStep cs j mask x) (hj : aroundAt cs j = aroundAt cs i) (hij : i ≤ j) : OutStep cs i mask x := by
  rcases h with h | h
  · exact .inl ⟨h.1, by rw [h.2, hj]⟩
  · exact .inr (by omega)
theorem run_out {cs : List Cd} (n m : Nat) : ∀ (t : Tr) (i mask : Nat) (s : LS) (x), t.Ok → Seg cs i t → x ∈ (run n m t i mask s).H → x ∈ s.H ∨ OutStep cs i mask x
  | .nil, _, _, _, _, _, _, h => .inl h
  | .op c k, i, mask, s, x, ho, hs, h => by
    obtain ⟨h1, _, h3⟩ := hs.op
    by_cases h0 : mask = 0
    · subst h0; rw [run_zero] at h; exact .inl h
    · have h : x ∈ (if mask = 0 then s else run n m k (i + 1) mask (exec c n m i mask s) : LS).H := h
      rw [if_neg h0] at h
      have hn : aroundAt cs (i + 1) = aroundAt cs i := around_op (by rw [h1]; have := ho.1; unfold Plain at this; unfold Opens; omega) (by rw [h1]; exact ho.1.2.2.2.2)
      rcases run_out n m k _ _ _ _ ho.2 h3 h with h | h
      · rw [exec_H] at h
        rcases beat_mem (s := s) h with h | h
        · exact .inl h
        · exact .inr (.inl ⟨h.2, by rw [h.1]⟩)
      · exact .inr (h.next hn (by omega))
  | .ite a t k, i, mask, s, x, ho, hs, h => by
    obtain ⟨h1, h2, he, _, h3⟩ := hs.ite
    have hop : Opens (cs.getD i default) := by rw [h1]; exact opens_if a
    by_cases h0 : mask = 0
    · subst h0; rw [run_zero] at h; exact .inl h
    · have h : x ∈ (if mask = 0 then s else _ : LS).H := h
      rw [if_neg h0] at h
      rcases run_out n m k _ _ _ _ ho.2.2 h3 h with h | h
      · rcases run_out n m t _ _ _ _ ho.2.1 h2 h with h | h
        · rcases beat_mem (s := s) h with h | h
          · exact .inl h
          · exact .inr (.inl ⟨h.2, by rw [h.1]⟩)
        · exact .inr (h.inner (around_open hop) (by omega))
      · exact .inr (h.next (around_behind ho.2.1 h2 hop he) (by omega))
  | .itee a t e k, i, mask, s, x, ho, hs, h => by
    obtain ⟨h1, h2, he, h4, he2, _, h3⟩ := hs.itee
    have hop : Opens (cs.getD i default) := by rw [h1]; exact opens_if a
    obtain ⟨hb1, hb2⟩ := around_behind2 ho.2.1 h2 hop he ho.2.2.1 h4 he2
    by_cases h0 : mask = 0
    · subst h0; rw [run_zero] at h; exact .inl h
    · have h : x ∈ (if mask = 0 then s else _ : LS).H := h
      rw [if_neg h0] at h
      rcases run_out n m k _ _ _ _ ho.2.2.2 h3 h with h | h
      · rcases run_out n m e _ _ _ _ ho.2.2.1 h4 h with h | h
        · rcases run_out n m t _ _ _ _ ho.2.1 h2 h with h | h
          · rcases beat_mem (s := s) h with h | h
            · exact .inl h
            · exact .inr (.inl ⟨h.2, by rw [h.1]⟩)
          · exact .inr (h.inner (around_open hop) (by omega))
        · exact .inr (h.inner hb2 (by omega))
      · exact .inr (h.next hb1 (by omega))
  | .loop a b t k, i, mask, s, x, ho, hs, h => by
    obtain ⟨h1, h2, he, _, h3⟩ := hs.loop
    have hop : Opens (cs.getD i default) := by rw [h1]; exact opens_loop a b
    by_cases h0 : mask = 0
    · subst h0; rw [run_zero] at h; exact .inl h
    · have h : x ∈ (if mask = 0 then s else _ : LS).H := h
      rw [if_neg h0] at h
      rcases run_out n m k _ _ _ _ ho.2.2.2 h3 h with h | h
      · rcases turns_mem (Q := OutStep cs i mask) (fun y s x hx => (run_out n m t _ _ _ _ ho.2.2.1 h2 hx).imp id fun h => h.inner (around_open hop) (by omega)) _ _ _ _ h with h | h
        · rcases beat_mem (s := s) h with h | h
          · exact .inl h
          · exact .inr (.inl ⟨h.2, by rw [h.1]⟩)
        · exact .inr h
      · exact .inr (h.next (around_behind ho.2.2.1 h2 hop he) (by omega))
theorem around_0 (cs : List Cd) : aroundAt cs 0 = -1 := rfl

/-- What was noted before stays in front. -/
def Ext (s s' : LS) : Prop := ∃ X, s'.H = s.H ++ X
theorem Ext.refl (s : LS) : Ext s s := ⟨[], by simp⟩
theorem Ext.trans {a b c : LS} (h : Ext a b) (k : Ext b c) : Ext a c := by
  obtain ⟨X, h⟩ := h; obtain ⟨Y, k⟩ := k; exact ⟨X ++ Y, by rw [k, h]; simp⟩
theorem ext_beat (i mask : Nat) (s : LS) : Ext s (beat i mask s) := ⟨_, rfl⟩
theorem ext_exec (c : Cd) (n m i mask : Nat) (s : LS) : Ext (beat i mask s) (exec c n m i mask s) := ⟨[], by rw [exec_H]; simp; rfl⟩
theorem ext_turns {F : Nat → LS → LS} {n a : Nat} (hF : ∀ y s, Ext s (F y s)) : ∀ (b y : Nat) (s : LS), Ext s (turns F n a b y s)
  | 0, _, s => Ext.refl s
  | b + 1, _y, s => (hF _ s).trans (ext_turns hF b _ _)
theorem run_ext (n m : Nat) : ∀ (t : Tr) (i mask : Nat) (s : LS), Ext s (run n m t i mask s)
  | .nil, _, _, s => Ext.refl s
  | .op c k, i, mask, s => by
    show Ext s (if _ then _ else _)
    split
    · exact Ext.refl s
    · exact (ext_beat i mask s).trans ((ext_exec c n m i mask s).trans (run_ext n m k _ _ _))
  | .ite a t k, i, mask, s => by
    show Ext s (if _ then _ else _)
    split
    · exact Ext.refl s
    · exact (ext_beat i mask s).trans ((run_ext n m t _ _ _).trans (run_ext n m k _ _ _))
  | .itee a t e k, i, mask, s => by
    show Ext s (if _ then _ else _)
    split
    · exact Ext.refl s
    · exact (ext_beat i mask s).trans ((run_ext n m t _ _ _).trans ((run_ext n m e _ _ _).trans (run_ext n m k _ _ _)))
  | .loop a b t k, i, mask, s => by
    show Ext s (if _ then _ else _)
    split
    · exact Ext.refl s
    · exact (ext_beat i mask s).trans ((ext_turns (fun y s => run_ext n m t _ _ _) _ _ _).trans (run_ext n m k _ _ _))
/-- The first step of a tree that is not empty. -/
theorem run_first (n m : Nat) (t : Tr) (i mask : Nat) (s : LS) (h0 : mask ≠ 0) (ht : 0 < t.len) : Ext (beat i mask s) (run n m t i mask s) := by
  cases t with
  | nil => simp [Tr.len, Tr.flat] at ht
  | op c k =>
    show Ext _ (if _ then _ else _)
    rw [if_neg h0]
    exact (ext_exec c n m i mask s).trans (run_ext n m k _ _ _)
  | ite a t k =>
    show Ext _ (if _ then _ else _)
    rw [if_neg h0]
    exact (run_ext n m t _ _ _).trans (run_ext n m k _ _ _)
  | itee a t e k =>
    show Ext _ (if _ then _ else _)
    rw [if_neg h0]
    exact (run_ext n m t _ _ _).trans ((run_ext n m e _ _ _).trans (run_ext n m k _ _ _))
  | loop a b t k =>
    show Ext _ (if _ then _ else _)
    rw [if_neg h0]
    exact (ext_turns (fun y s => run_ext n m t _ _ _) _ _ _).trans (run_ext n m k _ _ _)

end Go.Proofs.Ytmhaaihgepldhaa
