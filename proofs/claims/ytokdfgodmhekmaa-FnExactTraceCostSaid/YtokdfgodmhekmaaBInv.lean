/- The state of the program's search for blocks, and how each step of it turns the state. No condition. -/
import Derived.Test.YtokdfgodmhekmaaCodes
import Derived.Test.YtokdfgodmhekmaaAppF
namespace Go.Proofs.Ytokdfgodmhekmaa
open Go.RowKit

theorem elPtr : ElT Try.prog 88 110 1 [.pointer none] 8 := ⟨by kernel_rfl, ⟨.pointer none, by kernel_rfl, by kernel_rfl, rfl⟩, by decide⟩
theorem elPtrs : ElT Try.prog 103 88 1 [.slice none 0 0] 24 := ⟨by kernel_rfl, ⟨.slice none 0 0, by kernel_rfl, by kernel_rfl, rfl⟩, by decide⟩

def upd {α : Type} (f : Nat → α) (k : Nat) (v : α) : Nat → α := fun x => if x = k then v else f x
theorem upd_same {α : Type} (f : Nat → α) (k : Nat) (v : α) : upd f k v k = v := if_pos rfl
theorem upd_ne {α : Type} (f : Nat → α) {k x : Nat} (v : α) (h : x ≠ k) : upd f k v x = f x := if_neg h
def ptr (pb : Nat → Nat) (p : Nat) : Value := .pointer (some ⟨pb p, 0, none⟩)
def ownOf (cs : List Cd) (k : Nat) : Option Nat :=
  if Opens (cs.getD k default) then some k else if (cs.getD k default).op = 12 ∨ (cs.getD k default).op = 14 then some (aroundAt cs k).toNat else none
def ownV (pb : Nat → Nat) : Option Nat → Value
  | some p => ptr pb p
  | none => .pointer none
/-- The places of the blocks that are open at place j, the outermost one first. -/
def stkPos (cs : List Cd) (j : Nat) : List Nat := (((sscan (cs.take j) 0 []).getD []).map (·.1)).reverse
def Blk (w : World) (g : Nat) (p : Nat) (x : Int × Int) : Prop := w.heap[g]? = some (.cells #[.int .i64 (p : Int), .int .i64 x.1, .int .i64 x.2] 112 (0, 0))
def RowOk (w : World) (B go : Nat) (q : Value) (pb : Nat → Nat) (r : Value) (ps : List Nat) : Prop :=
  OwnO w B 110 1 r ps.length (ps.map (ptr pb)) ∧ ∀ g, r.ownBlock = some g → g ≠ go ∧ some g ≠ q.ownBlock

structure BInv (cs : List Cd) (B : Nat) (w wr : World) (ga go : Nat) (q : Value) (k ka : Nat) (st : List (Nat × Int)) (pb : Nat → Nat) (bv : Nat → Int × Int) : Prop where
  pure : Pure w wr
  hB : B = w.heap.size
  sc : sscan (cs.take k) 0 [] = some st
  stk : Stk cs k st
  own : ∃ ys, OwnO wr B 110 1 (.slice (some ⟨go, 0, none⟩) cs.length cs.length) cs.length ys ∧ (∀ j, j < k → ys[j]? = some (ownV pb (ownOf cs j))) ∧ ∀ j, k ≤ j → j < cs.length → ys[j]? = some (.pointer none)
  aro : ∃ zs, OwnO wr B 88 1 (.slice (some ⟨ga, 0, none⟩) cs.length cs.length) cs.length zs ∧ ∀ j, j < ka → ∃ r, zs[j]? = some r ∧ RowOk wr B go q pb r (stkPos cs j)
  que : OwnO wr B 110 1 q st.length ((st.map fun x => ptr pb x.1).reverse)
  qne : ∀ g, q.ownBlock = some g → g ≠ go
  blk : ∀ p, p < k → Opens (cs.getD p default) → B ≤ pb p ∧ Blk wr (pb p) p (bv p)
  inj : ∀ p p', p < k → p' < k → Opens (cs.getD p default) → Opens (cs.getD p' default) → pb p = pb p' → p = p'
  opn : ∀ i (h : i < st.length), Opens (cs.getD st[i].1 default) ∧ (bv st[i].1).2 = -1 ∧ endAt cs st[i].1 = eScan (cs.drop k) k i (bv st[i].1).1 ∧ ((0 ≤ (bv st[i].1).1) ↔ st[i].2 = 12) ∧ (st[i].2 = 13 ↔ (cs.getD st[i].1 default).op = 13)
  cls : ∀ p, p < k → Opens (cs.getD p default) → (∀ i (h : i < st.length), st[i].1 ≠ p) → endAt cs p = ((bv p).2, (bv p).1)

theorem Blk.keep {w w' : World} {g p : Nat} {x : Int × Int} {row : Option Nat} (h : Blk w g p x) (hg : w.grownBy w' row) (hne : some g ≠ row) : Blk w' g p x := by
  unfold Blk at h ⊢
  rw [hg.block g (Array.getElem?_eq_some_iff.1 h).1 hne]; exact h
theorem RowOk.keep {w w' : World} {B go : Nat} {q : Value} {pb : Nat → Nat} {r : Value} {ps : List Nat} {row : Option Nat} (h : RowOk w B go q pb r ps) (hg : w.grownBy w' row) (hne : ∀ g, r.ownBlock = some g → some g ≠ row) : RowOk w' B go q pb r ps :=
  ⟨h.1.kept hg hne, h.2⟩
theorem OwnO.heap {w : World} {B e s n : Nat} {v : Value} {xs : List Value} (h : OwnO w B e s v n xs) {g : Nat} (hg : v.ownBlock = some g) : ∃ cur, w.heap[g]? = some (.cells cur e (0, 0)) := by
  rcases h.2 with ⟨rfl, _⟩ | ⟨g', off, cap, cur, rfl, h1, h2, _⟩
  · simp [Value.ownBlock] at hg
  · simp [Value.ownBlock] at hg; subst hg; exact ⟨cur, h2⟩
theorem Blk.ne_own {w : World} {g p : Nat} {x : Int × Int} (h : Blk w g p x) {B e s n : Nat} {v : Value} {xs : List Value} (h' : OwnO w B e s v n xs) (hne : e ≠ 112) {g' : Nat} (hg : v.ownBlock = some g') : g ≠ g' := by
  rintro rfl
  obtain ⟨cur, hc⟩ := h'.heap hg
  unfold Blk at h
  rw [h] at hc
  injection hc with hc
  injection hc with _ hc
  exact hne hc.symm

section
variable {cs : List Cd} {B : Nat} {w wr : World} {ga go : Nat} {q : Value} {k ka : Nat} {st : List (Nat × Int)} {pb : Nat → Nat} {bv : Nat → Int × Int}

theorem BInv.keepPure {w' : World} (h : BInv cs B w wr ga go q k ka st pb bv) (hp : Pure wr w') : BInv cs B w w' ga go q k ka st pb bv := by
  obtain ⟨h1, h2, h3, h4, ⟨ys, h5, h6⟩, ⟨zs, h7, h8⟩, h9, h10, h11, h12, h13, h14⟩ := h
  refine ⟨h1.trans hp, h2, h3, h4, ⟨ys, h5.pure hp, h6⟩, ⟨zs, h7.pure hp, fun j hj => ?_⟩, h9.pure hp, h10, fun p hp1 hp2 => ⟨(h11 p hp1 hp2).1, (h11 p hp1 hp2).2.keep (hp.grownBy none) (by simp)⟩, h12, h13, h14⟩
  obtain ⟨r, a, b⟩ := h8 j hj
  exact ⟨r, a, b.keep (hp.grownBy none) (by simp)⟩

/-- around[k] is stored. -/
theorem BInv.storeRow {w2 : World} {r : Value} (h : BInv cs B w wr ga go q k k st pb bv) (hk : k < cs.length) (hp : Pure wr w2) (hr : OwnO w2 wr.heap.size 110 1 r st.length ((st.map fun x => ptr pb x.1).reverse)) :
    BInv cs B w (w2.setCell ⟨ga, k, none⟩ r) ga go q k (k + 1) st pb bv := by
  have h' := h.keepPure hp
  have hsz := h.pure.size
  have hlt1 := h.que.lt
  obtain ⟨ys0, ho0, _⟩ := h.own
  have hgo := (ho0.lt go rfl).2
  obtain ⟨h1, h2, h3, h4, ⟨ys, h5, h6⟩, ⟨zs, h7, h8⟩, h9, h10, h11, h12, h13, h14⟩ := h'
  have hg := grown_setCell w2 ⟨ga, k, none⟩ r
  have hga := h7.lt ga rfl
  have hs := h7.stored k r
  rw [Nat.zero_add] at hs
  have hrB : OwnO w2 B 110 1 r st.length ((st.map fun x => ptr pb x.1).reverse) := by
    refine ⟨hr.1, ?_⟩
    rcases hr.2 with h | ⟨g, off, cap, cur, e1, e2, e3⟩
    · exact .inl h
    · exact .inr ⟨g, off, cap, cur, e1, by omega, e3⟩
  have hra : ∀ g, r.ownBlock = some g → some g ≠ some ga := fun g hg => hrB.ne h7 (by decide) g hg
  have hpos : stkPos cs k = (st.map (·.1)).reverse := by unfold stkPos; rw [h3]; rfl
  refine ⟨h1.setCell (show w.heap.size ≤ ga by omega) _, h2, h3, h4, ⟨ys, h5.kept hg (fun g hg => h5.ne h7 (by decide) g hg), h6⟩, ⟨_, hs, fun j hj => ?_⟩, h9.kept hg (fun g hg => h9.ne h7 (by decide) g hg), h10, fun p hp1 hp2 => ⟨(h11 p hp1 hp2).1, (h11 p hp1 hp2).2.keep hg (fun e => (h11 p hp1 hp2).2.ne_own h7 (by decide) rfl (by injection e))⟩, h12, h13, h14⟩
  have hzl : zs.length = cs.length := by have := h7.1; omega
  by_cases e : j = k
  · subst e
    refine ⟨r, by rw [List.getElem?_set_self (by omega)], ?_⟩
    rw [hpos]
    refine ⟨?_, fun g hg2 => ?_⟩
    · have hr' := hrB.kept hg (fun g hg => hra g hg)
      rw [List.length_reverse, List.length_map, List.map_reverse, List.map_map]
      exact hr'
    · have := hr.lt g hg2
      refine ⟨by omega, fun e => ?_⟩
      have := hlt1 g e.symm
      omega
  · obtain ⟨r', a, b⟩ := h8 j (by omega)
    refine ⟨r', by rw [List.getElem?_set_ne (by omega)]; exact a, b.keep hg (fun g hg => b.1.ne h7 (by decide) g hg)⟩

/-- own[k] is stored; nothing else has turned yet. -/
theorem own_store {u : Value} (h : BInv cs B w wr ga go q k ka st pb bv) :
    (∃ zs, OwnO (wr.setCell ⟨go, k, none⟩ u) B 88 1 (.slice (some ⟨ga, 0, none⟩) cs.length cs.length) cs.length zs ∧ ∀ j, j < ka → ∃ r, zs[j]? = some r ∧ RowOk (wr.setCell ⟨go, k, none⟩ u) B go q pb r (stkPos cs j)) ∧
    OwnO (wr.setCell ⟨go, k, none⟩ u) B 110 1 q st.length ((st.map fun x => ptr pb x.1).reverse) ∧
    (∀ p, p < k → Opens (cs.getD p default) → B ≤ pb p ∧ Blk (wr.setCell ⟨go, k, none⟩ u) (pb p) p (bv p)) ∧ Pure w (wr.setCell ⟨go, k, none⟩ u) := by
  obtain ⟨h1, h2, h3, h4, ⟨ys, h5, h6⟩, ⟨zs, h7, h8⟩, h9, h10, h11, h12, h13, h14⟩ := h
  have hg := grown_setCell wr ⟨go, k, none⟩ u
  have hgo := h5.lt go rfl
  refine ⟨⟨zs, h7.kept hg (fun g hg => h7.ne h5 (by decide) g hg), fun j hj => ?_⟩, h9.kept hg (fun g hg e => h10 g hg (by injection e)), fun p hp1 hp2 => ⟨(h11 p hp1 hp2).1, (h11 p hp1 hp2).2.keep hg (fun e => (h11 p hp1 hp2).2.ne_own h5 (by decide) rfl (by injection e))⟩, h1.setCell (show w.heap.size ≤ go by omega) _⟩
  obtain ⟨r, a, b⟩ := h8 j hj
  exact ⟨r, a, b.keep hg (fun g hg e => (b.2 g hg).1 (by injection e))⟩
end

theorem bScan_lt (cs : List Cd) : ∀ (k d : Nat), bScan cs k d < k
  | 0, _ => by simp [bScan]
  | k + 1, d => by
    unfold bScan
    split
    · have := bScan_lt cs k (d + 1); omega
    · split
      · split
        · omega
        · have := bScan_lt cs k (d - 1); omega
      · have := bScan_lt cs k d; omega
theorem ownOf_le {cs : List Cd} {j p : Nat} (h : ownOf cs j = some p) : p ≤ j := by
  unfold ownOf at h
  split at h
  · injection h with h; omega
  · split at h
    · injection h with h
      have : aroundAt cs j < j := bScan_lt cs j 0
      omega
    · cases h

end Go.Proofs.Ytokdfgodmhekmaa
