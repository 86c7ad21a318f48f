/- The registers that are still wanted, as the reference finds them on valid programs: the least solution. No condition. -/
import Derived.Test.YtmhaaihgepldhaaLiveC2
import Derived.Test.YtmhaaihgepldhaaGraphS
namespace Go.Proofs.Ytmhaaihgepldhaa
open Go.RowKit

def wrOf (cs : List Cd) (k : Nat) : Nat := wst (cs.getD k default)
def loopPart (cs : List Cd) (k : Nat) : Nat := if (cs.getD k default).op = 14 ∧ (cs.getD (aroundAt cs k).toNat default).op = 13 then pw (cs.getD (aroundAt cs k).toNat default).a else 0
def rdOf (cs : List Cd) (k : Nat) : Nat := rd (cs.getD k default) ||| loopPart cs k
theorem PValid.code {cs : List Cd} (h : PValid cs) (k : Nat) : CdOk (cs.getD k default) ∨ cs.getD k default = default := by
  by_cases hk : k < cs.length
  · exact .inl (h.1 _ (cdOk_mem hk))
  · right; simp [List.getD_eq_getElem?_getD, List.getElem?_eq_none (Nat.le_of_not_lt hk)]
theorem wrOf_lt {cs : List Cd} (h : PValid cs) (k : Nat) : wrOf cs k < 16 := by
  unfold wrOf
  rcases h.code k with h | h
  · exact wr_lt h
  · rw [h]; decide
theorem loopPart_lt {cs : List Cd} (h : PValid cs) (k : Nat) : loopPart cs k < 16 := by
  unfold loopPart
  split
  · rcases h.code (aroundAt cs k).toNat with h | h
    · exact pw_lt h.regs.1.2
    · rw [h]; decide
  · decide
theorem rdOf_lt {cs : List Cd} (h : PValid cs) (k : Nat) : rdOf cs k < 16 := by
  unfold rdOf
  refine or_lt ?_ (loopPart_lt h k)
  rcases h.code k with h | h
  · exact rd_lt h
  · rw [h]; decide

/-- The table under way, the call's own. -/
def SetsO (w : World) (B g m : Nat) (live : Nat → Nat) : Prop :=
  ∃ ys, OwnO w B 3 1 (.slice (some ⟨g, 0, none⟩) m m) m ys ∧ ∀ j, j < m → ys[j]? = some (.int .i64 (live j : Nat))
theorem SetsO.pure {w w' : World} {B g m : Nat} {live : Nat → Nat} (h : SetsO w B g m live) (hp : Pure w w') : SetsO w' B g m live := by
  obtain ⟨ys, h1, h2⟩ := h
  exact ⟨ys, h1.pure hp, h2⟩
theorem SetsO.sets {w : World} {B g m : Nat} {live : Nat → Nat} (h : SetsO w B g m live) : Sets w (.slice (some ⟨g, 0, none⟩) m m) m live := by
  obtain ⟨ys, h1, h2⟩ := h
  exact Cells.of_ownO h1 fun j hj => h2 j (by omega)
theorem SetsO.facts {w : World} {B g m k : Nat} {live : Nat → Nat} (h : SetsO w B g m live) (hk : k < m) :
    w.cell? ⟨g, k, none⟩ = some (.int .i64 (live k : Nat)) ∧ w.frozen? ⟨g, k, none⟩ = false ∧ g < w.heap.size ∧ B ≤ g := by
  obtain ⟨ys, h1, h2⟩ := h
  have := h1.cell k (by omega)
  rw [Nat.zero_add, h2 k hk] at this
  exact ⟨this, h1.frozen k, (h1.lt g rfl).2, (h1.lt g rfl).1⟩
theorem SetsO.put {w : World} {B g m k v : Nat} {live : Nat → Nat} (h : SetsO w B g m live) (hk : k < m) : SetsO (w.setCell ⟨g, k, none⟩ (.int .i64 (v : Nat))) B g m (updL live k v) := by
  obtain ⟨ys, h1, h2⟩ := h
  have hst := h1.stored k (.int .i64 (v : Nat))
  rw [Nat.zero_add] at hst
  have hl : k < ys.length := by have := h1.1; omega
  refine ⟨_, hst, fun j hj => ?_⟩
  unfold updL
  by_cases e : j = k
  · subst e; rw [if_pos rfl, List.getElem?_set_self hl]
  · rw [if_neg e, List.getElem?_set_ne (by omega)]; exact h2 j hj

def LPost (cs : List Cd) (w : World) (e : Ending) (w' : World) : Prop :=
  ∃ v L, e = .returned v ∧ Least (succs cs) (wrOf cs) (rdOf cs) cs.length L ∧ OwnO w' w.heap.size 3 1 v (cs.length + 1) ((List.range (cs.length + 1)).map fun j => .int .i64 (L j : Nat)) ∧ Pure w w'

/-- The rounds' invariant: where the round began (live0), and what it has done down to place j. -/
def RInv (cs : List Cd) (j : Nat) (b : Bool) (live0 live : Nat → Nat) : Prop :=
  LInv (succs cs) (wrOf cs) (rdOf cs) cs.length live ∧ (b = false → live = live0 ∧ ∀ x, j ≤ x → x < cs.length → live0 x = FL (succs cs) (wrOf cs) (rdOf cs) live0 x) ∧
    (b = true → room cs.length live < room cs.length live0)
theorem RInv.start {cs : List Cd} {live : Nat → Nat} (h : LInv (succs cs) (wrOf cs) (rdOf cs) cs.length live) : RInv cs cs.length false live live :=
  ⟨h, fun _ => ⟨rfl, fun x h1 h2 => absurd h2 (by omega)⟩, fun h => by cases h⟩
theorem RInv.step {cs : List Cd} {j : Nat} {b : Bool} {live0 live : Nat → Nat} (hv : PValid cs) (h : RInv cs (j + 1) b live0 live) (hj : j < cs.length) :
    RInv cs j (b || decide (FL (succs cs) (wrOf cs) (rdOf cs) live j ≠ live j)) live0 (updL live j (FL (succs cs) (wrOf cs) (rdOf cs) live j)) := by
  obtain ⟨h1, h2, h3⟩ := h
  refine ⟨h1.step (wrOf_lt hv) (rdOf_lt hv) hj, fun hb => ?_, fun hb => ?_⟩
  · rw [Bool.or_eq_false_iff] at hb
    obtain ⟨rfl, h4⟩ := h2 hb.1
    have e : FL (succs cs) (wrOf cs) (rdOf cs) live j = live j := by simpa using hb.2
    rw [e, updL_same]
    refine ⟨rfl, fun x hx hx2 => ?_⟩
    by_cases hxj : x = j
    · subst hxj; exact e.symm
    · exact h4 x (by omega) hx2
  · by_cases e : FL (succs cs) (wrOf cs) (rdOf cs) live j = live j
    · rw [e, updL_same]
      refine h3 ?_
      simpa [e] using hb
    · have h5 := h1.room_lt (wrOf_lt hv) (rdOf_lt hv) hj e
      cases b
      · have := (h2 rfl).1
        rw [this] at h5 ⊢
        exact h5
      · exact Nat.lt_trans h5 (h3 rfl)

theorem succs_len (cs : List Cd) (k : Nat) : (succs cs k).length ≤ 64 := by
  unfold succs
  simp only
  repeat' split
  all_goals simp
theorem wrg_cases {x : Cd} (h : CdOk x) : (0 ≤ wrg x ∧ wrg x ≤ 3 ∧ wst x = pw (wrg x)) ∨ (wrg x = -1 ∧ wst x = 0) := by
  obtain ⟨⟨h1, h2⟩, _⟩ := h.regs
  unfold wrg wst
  split
  · exact .inl ⟨h1, h2, rfl⟩
  · exact .inr ⟨rfl, rfl⟩
theorem SetsO.own {w : World} {B g m : Nat} {live : Nat → Nat} (h : SetsO w B g m live) : OwnO w B 3 1 (.slice (some ⟨g, 0, none⟩) m m) m ((List.range m).map fun j => .int .i64 (live j : Nat)) := by
  obtain ⟨ys, h1, h2⟩ := h
  have hl := h1.1
  have : ys = (List.range m).map fun j => .int .i64 (live j : Nat) := by
    apply List.ext_getElem?
    intro j
    by_cases hj : j < m
    · rw [h2 j hj]; simp [hj]
    · rw [List.getElem?_eq_none (by omega), List.getElem?_eq_none (by simp; omega)]
  rw [← this]; exact h1

end Go.Proofs.Ytmhaaihgepldhaa
