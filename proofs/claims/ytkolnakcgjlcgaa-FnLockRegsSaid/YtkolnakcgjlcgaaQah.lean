/- How each step of the program's search for blocks turns its state. The program's search for blocks: what it finds in a program. No condition. -/
import Derived.Test.YtkolnakcgjlcgaaQag

namespace Go.Proofs.Ytkolnakcgjlcgaa
open Go.RowKit

section
variable {cs : List Cd} {B : Nat} {w wr : World} {ga go : Nat} {q : Value} {k : Nat} {st : List (Nat × Int)} {pb : Nat → Nat} {bv : Nat → Int × Int}

theorem sc_step (h : BInv cs B w wr ga go q k (k + 1) st pb bv) (hk : k < cs.length) {st' : List (Nat × Int)} (hs : sstep st k (cs.getD k default) = some st') : sscan (cs.take (k + 1)) 0 [] = some st' ∧ Stk cs (k + 1) st' :=
  ⟨by rw [sscan_take hk h.sc]; exact hs, h.stk.step hk hs⟩

/-- An instruction that is no part of the structure. -/
theorem BInv.other (h : BInv cs B w wr ga go q k (k + 1) st pb bv) (hk : k < cs.length) (h1 : ¬ Opens (cs.getD k default)) (h2 : (cs.getD k default).op ≠ 12) (h3 : (cs.getD k default).op ≠ 14) :
    BInv cs B w wr ga go q (k + 1) (k + 1) st pb bv := by
  have hs : sstep st k (cs.getD k default) = some st := sstep_other h1 h2 h3
  obtain ⟨s1, s2⟩ := sc_step h hk hs
  have hdr := drop_cons hk
  obtain ⟨a1, a2, a3, a4, ⟨ys, a5, a6, a7⟩, a8, a9, a10, a11, a12, a13, a14⟩ := h
  have hlt : ∀ p, p < k + 1 → Opens (cs.getD p default) → p < k := fun p hp ho => by
    by_cases e : p = k
    · subst e; exact absurd ho h1
    · omega
  refine ⟨a1, a2, s1, s2, ⟨ys, a5, fun j hj => ?_, fun j hj hj2 => a7 j (by omega) hj2⟩, a8, a9, a10, fun p hp ho => a11 p (hlt p hp ho) ho, fun p p' hp hp' ho ho' => a12 p p' (hlt p hp ho) (hlt p' hp' ho') ho ho', fun i hi => ?_, fun p hp ho hn => a14 p (hlt p hp ho) ho hn⟩
  · by_cases e : j = k
    · subst e
      rw [a7 j (Nat.le_refl _) hk]
      unfold ownOf
      rw [if_neg h1, if_neg (by omega)]; rfl
    · exact a6 j (by omega)
  · obtain ⟨b1, b2, b3, b4, b5⟩ := a13 i hi
    refine ⟨b1, b2, ?_, b4, b5⟩
    rw [b3, hdr, eScan_cons, if_neg h1, if_neg (fun h => h2 h.1), if_neg (fun h => h3 h.1), if_neg h3]

/-- An else. -/
theorem BInv.els {p : Nat} {r : List (Nat × Int)} (h : BInv cs B w wr ga go q k (k + 1) ((p, 11) :: r) pb bv) (hk : k < cs.length) (h1 : (cs.getD k default).op = 12) :
    BInv cs B w ((wr.setCell ⟨go, k, none⟩ (ptr pb p)).setCell ⟨pb p, 1, none⟩ (.int .i64 (k : Int))) ga go q (k + 1) (k + 1) ((p, 12) :: r) pb (upd bv p ((k : Int), (bv p).2)) := by
  have hno : ¬ Opens (cs.getD k default) := by unfold Opens; omega
  have hs : sstep ((p, 11) :: r) k (cs.getD k default) = some ((p, 12) :: r) := by rw [sstep_else h1]; simp
  obtain ⟨s1, s2⟩ := sc_step h hk hs
  have hdr := drop_cons hk
  obtain ⟨⟨zs, t1, t2⟩, t3, t4, t5⟩ := own_store (u := ptr pb p) h
  have haro := h.stk.around 0
  obtain ⟨a1, a2, a3, a4, ⟨ys, a5, a6, a7⟩, a8, a9, a10, a11, a12, a13, a14⟩ := h
  have hst := a5.stored k (ptr pb p)
  rw [Nat.zero_add] at hst
  have hpk : p < k := a4.lt 0 (by simp)
  have hpo := (a13 0 (by simp)).1
  simp only [List.getElem_cons_zero] at hpo
  obtain ⟨hpB, hpblk⟩ := t4 p hpk hpo
  have hg := grown_setCell (wr.setCell ⟨go, k, none⟩ (ptr pb p)) ⟨pb p, 1, none⟩ (.int .i64 (k : Int))
  have hnb : ∀ {e s n : Nat} {v : Value} {xs : List Value}, OwnO (wr.setCell ⟨go, k, none⟩ (ptr pb p)) B e s v n xs → e ≠ 98 → OwnO ((wr.setCell ⟨go, k, none⟩ (ptr pb p)).setCell ⟨pb p, 1, none⟩ (.int .i64 (k : Int))) B e s v n xs := fun ho hne => ho.kept hg (fun g hg2 e => hpblk.ne_own ho hne hg2 (by injection e with e; exact e.symm))
  have hyl : ys.length = cs.length := by have := a5.1; omega
  have hlt : ∀ x, x < k + 1 → Opens (cs.getD x default) → x < k := fun x hx ho => by
    by_cases e : x = k
    · subst e; exact absurd ho hno
    · omega
  have hmono := List.pairwise_cons.1 a4.mono
  refine ⟨t5.setCell (show w.heap.size ≤ pb p by omega) _, a2, s1, s2, ⟨_, hnb hst (by decide), fun j hj => ?_, fun j hj hj2 => ?_⟩, ⟨zs, hnb t1 (by decide), fun j hj => ?_⟩, hnb t3 (by decide), a10, fun x hx ho => ?_, fun x x' hx hx' ho ho' => a12 x x' (hlt x hx ho) (hlt x' hx' ho') ho ho', fun i hi => ?_, fun x hx ho hn => ?_⟩
  · by_cases e : j = k
    · subst e
      rw [List.getElem?_set_self (by omega)]
      have : ownOf cs j = some p := by
        unfold ownOf aroundAt
        rw [if_neg hno, if_pos (.inl h1), haro]; simp
      rw [this]; rfl
    · rw [List.getElem?_set_ne (by omega)]; exact a6 j (by omega)
  · rw [List.getElem?_set_ne (by omega)]; exact a7 j (by omega) hj2
  · obtain ⟨r', c1, c2⟩ := t2 j hj
    exact ⟨r', c1, c2.keep hg (fun g hg2 e => hpblk.ne_own c2.1 (by decide) hg2 (by injection e with e; exact e.symm))⟩
  · obtain ⟨c1, c2⟩ := t4 x (hlt x hx ho) ho
    refine ⟨c1, ?_⟩
    by_cases e : x = p
    · subst e
      rw [upd_same]
      exact heap_setCell_same _ _ 1 _ _ _ c2
    · rw [upd_ne _ _ e]
      exact c2.keep hg (fun e2 => e (a12 x p (hlt x hx ho) hpk ho hpo (by injection e2)))
  · cases i with
    | zero =>
      obtain ⟨b1, b2, b3, b4, b5⟩ := a13 0 (by simp)
      simp only [List.getElem_cons_zero] at b1 b2 b3 b4 b5 ⊢
      rw [upd_same]
      refine ⟨b1, b2, ?_, ⟨fun _ => by trivial, fun _ => by simp⟩, ⟨fun h => by omega, fun h => ?_⟩⟩
      · rw [b3, hdr]; rw [eScan_cons, if_neg hno, if_pos ⟨h1, rfl⟩]
      · have := b5.2 h; omega
    | succ i =>
      obtain ⟨b1, b2, b3, b4, b5⟩ := a13 (i + 1) (by simpa using hi)
      have hne : (r[i]'(by simpa using hi)).1 ≠ p := by
        have := hmono.1 _ (List.getElem_mem (by simpa using hi : i < r.length))
        simp only at this; omega
      simp only [List.getElem_cons_succ] at b1 b2 b3 b4 b5 ⊢
      rw [upd_ne _ _ hne]
      refine ⟨b1, b2, ?_, b4, b5⟩
      rw [b3, hdr]; rw [eScan_cons, if_neg hno, if_neg (fun h => by cases h.2), if_neg (fun h => by cases h.2), if_neg (by omega)]
  · have hn' : ∀ i (h : i < ((p, (11 : Int)) :: r).length), (((p, (11 : Int)) :: r)[i]).1 ≠ x := fun i hi => by
      cases i with
      | zero => exact hn 0 (by simp)
      | succ i => exact hn (i + 1) (by simpa using hi)
    have hxp : x ≠ p := fun e => hn' 0 (by simp) e.symm
    rw [upd_ne _ _ hxp]
    exact a14 x (hlt x hx ho) ho hn'

/-- An end. -/
theorem BInv.fin {p : Nat} {m : Int} {r : List (Nat × Int)} {q' : Value} (h : BInv cs B w wr ga go q k (k + 1) ((p, m) :: r) pb bv) (hk : k < cs.length) (h1 : (cs.getD k default).op = 14)
    (hq : OwnO wr B 99 1 q' r.length ((r.map fun x => ptr pb x.1).reverse)) (hqb : q'.ownBlock = q.ownBlock) :
    BInv cs B w ((wr.setCell ⟨go, k, none⟩ (ptr pb p)).setCell ⟨pb p, 2, none⟩ (.int .i64 (k : Int))) ga go q' (k + 1) (k + 1) r pb (upd bv p ((bv p).1, (k : Int))) := by
  have hno : ¬ Opens (cs.getD k default) := by unfold Opens; omega
  have hs : sstep ((p, m) :: r) k (cs.getD k default) = some r := by rw [sstep_end h1]
  obtain ⟨s1, s2⟩ := sc_step h hk hs
  have hdr := drop_cons hk
  obtain ⟨⟨zs, t1, t2⟩, t3, t4, t5⟩ := own_store (u := ptr pb p) h
  have haro := h.stk.around 0
  obtain ⟨a1, a2, a3, a4, ⟨ys, a5, a6, a7⟩, a8, a9, a10, a11, a12, a13, a14⟩ := h
  have hst := a5.stored k (ptr pb p)
  rw [Nat.zero_add] at hst
  have hpk : p < k := a4.lt 0 (by simp)
  have hpo := (a13 0 (by simp)).1
  simp only [List.getElem_cons_zero] at hpo
  obtain ⟨hpB, hpblk⟩ := t4 p hpk hpo
  have hg0 := grown_setCell wr ⟨go, k, none⟩ (ptr pb p)
  have hq2 : OwnO (wr.setCell ⟨go, k, none⟩ (ptr pb p)) B 99 1 q' r.length ((r.map fun x => ptr pb x.1).reverse) := hq.kept hg0 (fun g hg e => a10 g (by rw [← hqb]; exact hg) (by injection e))
  have hg := grown_setCell (wr.setCell ⟨go, k, none⟩ (ptr pb p)) ⟨pb p, 2, none⟩ (.int .i64 (k : Int))
  have hnb : ∀ {e s n : Nat} {v : Value} {xs : List Value}, OwnO (wr.setCell ⟨go, k, none⟩ (ptr pb p)) B e s v n xs → e ≠ 98 → OwnO ((wr.setCell ⟨go, k, none⟩ (ptr pb p)).setCell ⟨pb p, 2, none⟩ (.int .i64 (k : Int))) B e s v n xs := fun ho hne => ho.kept hg (fun g hg2 e => hpblk.ne_own ho hne hg2 (by injection e with e; exact e.symm))
  have hyl : ys.length = cs.length := by have := a5.1; omega
  have hlt : ∀ x, x < k + 1 → Opens (cs.getD x default) → x < k := fun x hx ho => by
    by_cases e : x = k
    · subst e; exact absurd ho hno
    · omega
  have hmono := List.pairwise_cons.1 a4.mono
  refine ⟨t5.setCell (show w.heap.size ≤ pb p by omega) _, a2, s1, s2, ⟨_, hnb hst (by decide), fun j hj => ?_, fun j hj hj2 => ?_⟩, ⟨zs, hnb t1 (by decide), fun j hj => ?_⟩, hnb hq2 (by decide), fun g hg => a10 g (by rw [← hqb]; exact hg), fun x hx ho => ?_, fun x x' hx hx' ho ho' => a12 x x' (hlt x hx ho) (hlt x' hx' ho') ho ho', fun i hi => ?_, fun x hx ho hn => ?_⟩
  · by_cases e : j = k
    · subst e
      rw [List.getElem?_set_self (by omega)]
      have : ownOf cs j = some p := by
        unfold ownOf aroundAt
        rw [if_neg hno, if_pos (.inr h1), haro]; simp
      rw [this]; rfl
    · rw [List.getElem?_set_ne (by omega)]; exact a6 j (by omega)
  · rw [List.getElem?_set_ne (by omega)]; exact a7 j (by omega) hj2
  · obtain ⟨r', c1, c2⟩ := t2 j hj
    have c3 := c2.keep hg (fun g hg2 e => hpblk.ne_own c2.1 (by decide) hg2 (by injection e with e; exact e.symm))
    exact ⟨r', c1, c3.1, fun g hg => by rw [hqb]; exact c3.2 g hg⟩
  · obtain ⟨c1, c2⟩ := t4 x (hlt x hx ho) ho
    refine ⟨c1, ?_⟩
    by_cases e : x = p
    · subst e
      rw [upd_same]
      exact heap_setCell_same _ _ 2 _ _ _ c2
    · rw [upd_ne _ _ e]
      exact c2.keep hg (fun e2 => e (a12 x p (hlt x hx ho) hpk ho hpo (by injection e2)))
  · obtain ⟨b1, b2, b3, b4, b5⟩ := a13 (i + 1) (by simpa using hi)
    have hne : (r[i]'hi).1 ≠ p := by
      have := hmono.1 _ (List.getElem_mem hi)
      simp only at this; omega
    simp only [List.getElem_cons_succ] at b1 b2 b3 b4 b5 ⊢
    rw [upd_ne _ _ hne]
    refine ⟨b1, b2, ?_, b4, b5⟩
    rw [b3, hdr]; rw [eScan_cons, if_neg hno, if_neg (fun h => by omega), if_neg (fun h => by cases h.2), if_pos h1]
    simp only [Nat.add_sub_cancel]
  · by_cases hxp : x = p
    · subst hxp
      obtain ⟨b1, b2, b3, b4, b5⟩ := a13 0 (by simp)
      simp only [List.getElem_cons_zero] at b3
      rw [upd_same, b3, hdr]; rw [eScan_cons, if_neg hno, if_neg (fun h => by omega), if_pos ⟨h1, rfl⟩]
    · rw [upd_ne _ _ hxp]
      refine a14 x (hlt x hx ho) ho fun i hi => ?_
      cases i with
      | zero => exact fun e => hxp e.symm
      | succ i => exact hn i (by simpa using hi)

/-- A block opens. -/
theorem BInv.open_ {gb : Nat} {q' : Value} {wE : World} (h : BInv cs B w wr ga go q k (k + 1) st pb bv) (hk : k < cs.length) (h1 : Opens (cs.getD k default)) (h3 : st.length < 3) (hgb : gb = wr.heap.size)
    (hq : OwnO wE B 99 1 q' (st.length + 1) ((st.map fun x => ptr pb x.1).reverse ++ [.pointer (some ⟨gb, 0, none⟩)]))
    (hg : ((wr.alloc (.cells #[.int .i64 (k : Int), .int .i64 (-1), .int .i64 (-1)] 98)).setCell ⟨go, k, none⟩ (.pointer (some ⟨gb, 0, none⟩))).grownBy wE q.ownBlock)
    (hl : Lies ((wr.alloc (.cells #[.int .i64 (k : Int), .int .i64 (-1), .int .i64 (-1)] 98)).setCell ⟨go, k, none⟩ (.pointer (some ⟨gb, 0, none⟩))) q q') :
    BInv cs B w wE ga go q' (k + 1) (k + 1) ((k, (cs.getD k default).op) :: st) (upd pb k gb) (upd bv k (-1, -1)) := by
  have hs : sstep st k (cs.getD k default) = some ((k, (cs.getD k default).op) :: st) := by rw [sstep_open h1, if_pos h3]
  obtain ⟨s1, s2⟩ := sc_step h hk hs
  have hdr := drop_cons hk
  have h14 : (cs.getD k default).op ≠ 14 := by unfold Opens at h1; omega
  have hpA : Pure wr (wr.alloc (.cells #[.int .i64 (k : Int), .int .i64 (-1), .int .i64 (-1)] 98)) := Pure.alloc (Pure.refl _) _
  have hA := h.keepPure hpA
  have hnew : Blk (wr.alloc (.cells #[.int .i64 (k : Int), .int .i64 (-1), .int .i64 (-1)] 98)) gb k (-1, -1) := by rw [hgb]; exact heap_alloc_new wr _
  generalize hwA : wr.alloc (.cells #[.int .i64 (k : Int), .int .i64 (-1), .int .i64 (-1)] 98) = wA at *
  obtain ⟨⟨zs, t1, t2⟩, t3, t4, t5⟩ := own_store (u := .pointer (some ⟨gb, 0, none⟩)) hA
  have hwrsz := h.pure.size
  have hgoN : go < wr.heap.size := by obtain ⟨ys, o, _⟩ := h.own; exact (o.lt go rfl).2
  have hqlt := h.que.lt
  have hblt : ∀ p, p < k → Opens (cs.getD p default) → pb p < wr.heap.size := fun p hp ho => by
    have := (h.blk p hp ho).2
    exact (Array.getElem?_eq_some_iff.1 this).1
  have hrows : ∀ j r, j < k + 1 → RowOk wA B go q pb r (stkPos cs j) → True := fun _ _ _ _ => trivial
  have hstkpos : ∀ j, j < k + 1 → ∀ p, p ∈ stkPos cs j → p ≠ k := fun j hj p hp => by
    have hpre : ∃ st', sscan (cs.take j) 0 [] = some st' := by
      cases hsj : sscan (cs.take j) 0 [] with
      | some x => exact ⟨x, rfl⟩
      | none =>
        have h2 : (cs.take k).take j = cs.take j := by rw [List.take_take]; congr 1; omega
        have := sscan_none (cs := cs.take k) (k := j) (by rw [h2]; exact hsj)
        rw [h.sc] at this; cases this
    obtain ⟨st', hst'⟩ := hpre
    unfold stkPos at hp
    rw [hst'] at hp
    simp only [Option.getD_some, List.mem_reverse, List.mem_map] at hp
    obtain ⟨x, hx, rfl⟩ := hp
    have := sscan_lt hst' x hx
    have hjl : (cs.take j).length ≤ j := by simp; omega
    omega
  have hrowV : ∀ j, j < k + 1 → (stkPos cs j).map (ptr pb) = (stkPos cs j).map (ptr (upd pb k gb)) := fun j hj => by
    refine List.map_congr_left fun p hp => ?_
    unfold ptr
    rw [upd_ne _ _ (hstkpos j hj p hp)]
  obtain ⟨a1, a2, a3, a4, ⟨ys, a5, a6, a7⟩, ⟨zs0, a8, a8'⟩, a9, a10, a11, a12, a13, a14⟩ := hA
  have hst := a5.stored k (.pointer (some ⟨gb, 0, none⟩))
  rw [Nat.zero_add] at hst
  have hyl : ys.length = cs.length := by have := a5.1; omega
  have hgbA : gb ≠ go := by omega
  have hnew2 : Blk (wA.setCell ⟨go, k, none⟩ (.pointer (some ⟨gb, 0, none⟩))) gb k (-1, -1) := hnew.keep (grown_setCell _ _ _) (fun e => hgbA (by injection e))
  have hstlt : ∀ x ∈ st, x.1 ≠ k := fun x hx => by
    obtain ⟨i, hi, e⟩ := List.mem_iff_getElem.1 hx
    have := a4.lt i hi
    rw [e] at this
    omega
  refine ⟨t5.grown hg (fun g hg => by have := t3.lt g hg; omega), a2, s1, s2, ⟨_, hst.kept hg (fun g hg2 e => ?_), fun j hj => ?_, fun j hj hj2 => ?_⟩, ⟨zs, t1.kept hg (fun g hg2 => t1.ne t3 (by decide) g hg2), fun j hj => ?_⟩, ?_, fun g hg2 => ?_, fun x hx ho => ?_, fun x x' hx hx' ho ho' he => ?_, fun i hi => ?_, fun x hx ho hn => ?_⟩
  · simp [Value.ownBlock] at hg2
    subst hg2
    exact a10 _ e.symm rfl
  · by_cases e : j = k
    · subst e
      rw [List.getElem?_set_self (by omega)]
      have : ownOf cs j = some j := by unfold ownOf; rw [if_pos h1]
      rw [this]; show _ = some (ptr (upd pb j gb) j); unfold ptr; rw [upd_same]
    · rw [List.getElem?_set_ne (by omega), a6 j (by omega)]
      cases ho : ownOf cs j with
      | none => rfl
      | some p =>
        have := ownOf_le ho
        show some (ptr pb p) = some (ptr (upd pb k gb) p)
        unfold ptr; rw [upd_ne _ _ (by omega)]
  · rw [List.getElem?_set_ne (by omega)]; exact a7 j (by omega) hj2
  · obtain ⟨r', c1, c2⟩ := t2 j hj
    refine ⟨r', c1, ?_, fun g hg2 => ⟨(c2.2 g hg2).1, fun e => ?_⟩⟩
    · rw [← hrowV j hj]
      exact c2.1.kept hg (fun g hg2 => (c2.2 g hg2).2)
    · rcases hl g e.symm with h | h
      · exact (c2.2 g hg2).2 h.symm
      · have := (c2.1.lt g hg2).2; omega
  · have : (((k, (cs.getD k default).op) :: st).map fun x => ptr (upd pb k gb) x.1).reverse = (st.map fun x => ptr pb x.1).reverse ++ [.pointer (some ⟨gb, 0, none⟩)] := by
      rw [List.map_cons, List.reverse_cons]
      congr 1
      · congr 1
        refine List.map_congr_left fun x hx => ?_
        unfold ptr; rw [upd_ne _ _ (hstlt x hx)]
      · unfold ptr; rw [upd_same]
    rw [this]
    exact hq
  · rcases hl g hg2 with h | h
    · exact a10 g h
    · have : (wA.setCell ⟨go, k, none⟩ (.pointer (some ⟨gb, 0, none⟩))).heap.size = wA.heap.size := by simp [World.setCell]
      have := hpA.size
      omega
  · by_cases e : x = k
    · subst e
      rw [upd_same, upd_same]
      exact ⟨by omega, hnew2.keep hg (fun e2 => by have := hqlt gb e2.symm; omega)⟩
    · rw [upd_ne _ _ e, upd_ne _ _ e]
      obtain ⟨c1, c2⟩ := t4 x (by omega) ho
      exact ⟨c1, c2.keep hg (fun e2 => c2.ne_own t3 (by decide) e2.symm rfl)⟩
  · by_cases e : x = k
    · by_cases e' : x' = k
      · omega
      · rw [e, upd_same, upd_ne _ _ e'] at he
        have := hblt x' (by omega) ho'
        omega
    · by_cases e' : x' = k
      · rw [upd_ne _ _ e, e', upd_same] at he
        have := hblt x (by omega) ho
        omega
      · rw [upd_ne _ _ e, upd_ne _ _ e'] at he
        exact a12 x x' (by omega) (by omega) ho ho' he
  · cases i with
    | zero =>
      simp only [List.getElem_cons_zero]
      rw [upd_same]
      refine ⟨h1, by trivial, rfl, ⟨fun h => by omega, fun h => ?_⟩, by trivial⟩
      unfold Opens at h1; omega
    | succ i =>
      have hi' : i < st.length := by simpa using hi
      obtain ⟨b1, b2, b3, b4, b5⟩ := a13 i hi'
      have hne : (st[i]'hi').1 ≠ k := hstlt _ (List.getElem_mem hi')
      simp only [List.getElem_cons_succ] at b1 b2 b3 b4 b5 ⊢
      rw [upd_ne _ _ hne]
      refine ⟨b1, b2, ?_, b4, b5⟩
      rw [b3, hdr, eScan_cons, if_pos h1]
  · have hxk : x ≠ k := fun e => hn 0 (by simp) (by simp [e])
    rw [upd_ne _ _ hxk]
    exact a14 x (by omega) ho (fun i hi => hn (i + 1) (by simpa using hi))

end
end Go.Proofs.Ytkolnakcgjlcgaa

namespace Go.Proofs.Ytkolnakcgjlcgaa
open Go.RowKit

/-- The tables of a program: of each place its own block, and the blocks around it. -/
def Tabs (w : World) (va vo : Value) (cs : List Cd) : Prop :=
  ∃ pb : Nat → Nat, Cells w vo cs.length 1 (fun j => ownV pb (ownOf cs j)) ∧
    (∀ p, p < cs.length → Opens (cs.getD p default) → pb p < w.heap.size ∧ w.cell? ⟨pb p, 0, none⟩ = some (.int .i64 p) ∧ w.cell? ⟨pb p, 1, none⟩ = some (.int .i64 (endAt cs p).2) ∧ w.cell? ⟨pb p, 2, none⟩ = some (.int .i64 (endAt cs p).1)) ∧
    ∃ R : Nat → Value, Cells w va cs.length 1 R ∧ ∀ j, j < cs.length → Cells w (R j) (stkPos cs j).length 1 (fun i => ptr pb ((stkPos cs j).getD i 0))

theorem Tabs.keep {w w' : World} {va vo : Value} {cs : List Cd} (h : Tabs w va vo cs) (hp : Pure w w') : Tabs w' va vo cs := by
  obtain ⟨pb, h1, h2, R, h3, h4⟩ := h
  refine ⟨pb, h1.keep hp, fun p hp1 hp2 => ?_, R, h3.keep hp, fun j hj => (h4 j hj).keep hp⟩
  obtain ⟨a, b, c, d⟩ := h2 p hp1 hp2
  exact ⟨Nat.lt_of_lt_of_le a hp.size, (hp.cell _ _ a).trans b, (hp.cell _ _ a).trans c, (hp.cell _ _ a).trans d⟩

def BlkPost (cs : List Cd) (w : World) (e : Ending) (w' : World) : Prop :=
  Pure w w' ∧ match sscan cs 0 [] with
  | none => e = .returned (.tuple #[.slice none 0 0, .slice none 0 0, .bool false])
  | some st => ∃ va vo, e = .returned (.tuple #[va, vo, .bool (decide (st.length = 0))]) ∧ (st = [] → Tabs w' va vo cs)

theorem BInv.tabs {cs : List Cd} {B : Nat} {w wr : World} {ga go : Nat} {q : Value} {pb : Nat → Nat} {bv : Nat → Int × Int} (h : BInv cs B w wr ga go q cs.length cs.length [] pb bv) : Tabs wr (.slice (some ⟨ga, 0, none⟩) cs.length cs.length) (.slice (some ⟨go, 0, none⟩) cs.length cs.length) cs := by
  obtain ⟨a1, a2, a3, a4, ⟨ys, a5, a6, a7⟩, ⟨zs, a8, a8'⟩, a9, a10, a11, a12, a13, a14⟩ := h
  refine ⟨pb, Cells.of_ownO a5 (fun j hj => a6 j (by omega)), fun p hp ho => ?_, fun j => zs.getD j undef, Cells.of_ownO a8 (fun j hj => ?_), fun j hj => ?_⟩
  · obtain ⟨b1, b2⟩ := a11 p hp ho
    have hlt := (Array.getElem?_eq_some_iff.1 b2).1
    have e := a14 p hp ho (fun i hi => by simp at hi)
    rw [e]
    exact ⟨hlt, cell_of_row wr _ 0 _ _ _ b2, cell_of_row wr _ 1 _ _ _ b2, cell_of_row wr _ 2 _ _ _ b2⟩
  · obtain ⟨r, h1, _⟩ := a8' j (by omega)
    simp [List.getD_eq_getElem?_getD, h1]
  · obtain ⟨r, h1, h2⟩ := a8' j hj
    have : zs.getD j undef = r := by simp [List.getD_eq_getElem?_getD, h1]
    show Cells wr (zs.getD j undef) _ _ _
    rw [this]
    refine Cells.of_ownO h2.1 fun i hi => ?_
    have hi' : i < (stkPos cs j).length := by omega
    simp [List.getD_eq_getElem?_getD, hi']

theorem range_getD (l : List Value) : (List.range (l.length * 1)).map (fun i => l.getD i undef) = l := by
  apply List.ext_getElem?
  intro j
  by_cases hj : j < l.length
  · simp [List.getD_eq_getElem?_getD, hj]
  · rw [List.getElem?_eq_none (by simp; omega), List.getElem?_eq_none (by omega)]
theorem OwnO.base {w : World} {B B' e s n : Nat} {v : Value} {xs : List Value} (h : OwnO w B e s v n xs) (hB : B' ≤ B) : OwnO w B' e s v n xs := by
  refine ⟨h.1, ?_⟩
  rcases h.2 with h | ⟨g, off, cap, cur, e1, e2, e3⟩
  · exact .inl h
  · exact .inr ⟨g, off, cap, cur, e1, by omega, e3⟩

/-- What the walk wants of the state behind the first append of a round. -/
theorem row_facts {cs : List Cd} {w wr wC : World} {ga go : Nat} {q : Value} {k ka : Nat} {st : List (Nat × Int)} {pb : Nat → Nat} {bv : Nat → Int × Int} (h : BInv cs w.heap.size w wr ga go q k ka st pb bv) (hk : k < cs.length) (hp : Pure wr wC) (_hgo : ga < go) :
    (∃ u, wC.cell? ⟨ga, k, none⟩ = some u) ∧ wC.frozen? ⟨ga, k, none⟩ = false ∧ wC.cell? ⟨go, k, none⟩ = some (.pointer none) ∧ wC.frozen? ⟨go, k, none⟩ = false ∧ ga < wr.heap.size ∧ go < wr.heap.size ∧ wr.heap.size ≤ wC.heap.size := by
  have hlt := hp.size
  have h' := h.keepPure hp
  obtain ⟨ys0, o0, _⟩ := h.own
  obtain ⟨zs0, o0', _⟩ := h.aro
  obtain ⟨ys, o1, _, o2⟩ := h'.own
  obtain ⟨zs, o1', _⟩ := h'.aro
  have c1 := o1.cell k (by omega)
  rw [Nat.zero_add, o2 k (Nat.le_refl _) hk] at c1
  have c2 := o1'.cellSome k (by omega)
  rw [Nat.zero_add] at c2
  exact ⟨c2, o1'.frozen k, c1, o1.frozen k, (o0'.lt ga rfl).2, (o0.lt go rfl).2, hlt⟩

/-- What the walk wants of the innermost open block. -/
theorem top_facts {cs : List Cd} {w wr wC : World} {ga go g off cq : Nat} {k ka : Nat} {p : Nat} {m : Int} {r : List (Nat × Int)} {pb : Nat → Nat} {bv : Nat → Int × Int} (h : BInv cs w.heap.size w wr ga go (.slice (some ⟨g, off, none⟩) (r.length + 1) cq) k ka ((p, m) :: r) pb bv) (hp : Pure wr wC) :
    wC.cell? ⟨g, off + r.length, none⟩ = some (.pointer (some ⟨pb p, 0, none⟩)) ∧ wC.cell? ⟨pb p, 0, none⟩ = some (.int .i64 (p : Int)) ∧ wC.cell? ⟨pb p, 1, none⟩ = some (.int .i64 (bv p).1) ∧ wC.cell? ⟨pb p, 2, none⟩ = some (.int .i64 (bv p).2) ∧
    (∀ j, wC.frozen? ⟨pb p, j, none⟩ = false) ∧ g ≠ ga ∧ g ≠ go ∧ pb p ≠ ga ∧ pb p ≠ go ∧ pb p ≠ g ∧ g < wr.heap.size ∧ pb p < wr.heap.size ∧ p < k := by
  have h' := h.keepPure hp
  have hpk : p < k := h.stk.lt 0 (by simp)
  have hpo := (h.opn 0 (by simp)).1
  simp only [List.getElem_cons_zero] at hpo
  have hb0 := (h.blk p hpk hpo).2
  have hb := (h'.blk p hpk hpo).2
  obtain ⟨ys, o1, _⟩ := h'.own
  obtain ⟨zs, o2, _⟩ := h'.aro
  have hq := h'.que
  have hc := hq.cell r.length (by simp)
  rw [show (((p, m) :: r).map fun x => ptr pb x.1).reverse[r.length]? = some (ptr pb p) by
    rw [List.map_cons, List.reverse_cons, List.getElem?_append_right (by simp)]; simp] at hc
  refine ⟨hc, cell_of_row wC _ 0 _ _ _ hb, cell_of_row wC _ 1 _ _ _ hb, cell_of_row wC _ 2 _ _ _ hb, fun j => frozen_of_row wC _ j _ _ hb, fun e => hq.ne o2 (by decide) g rfl (by rw [e]; rfl), h.qne g rfl, hb.ne_own o2 (by decide) rfl, hb.ne_own o1 (by decide) rfl, hb.ne_own hq (by decide) rfl, (h.que.lt g rfl).2, (Array.getElem?_eq_some_iff.1 hb0).1, hpk⟩

set_option maxHeartbeats 2000000 in
set_option maxRecDepth 100000 in
theorem blocks_any (v : Value) (cs : List Cd) (w : World) (h : Codes w v cs) (hsmall : cs.length ≤ 40) :
    Calls Try.prog 75 #[v] w (BlkPost cs w) := by
  have H := Lib.hid h
  obtain ⟨A, c, rfl, hnc, hcm⟩ := h.form
  clear h
  go_enter Try.func75, Try.ntmps75
  go_wp2_with (first
    | (at_make; refine wl_make elPtrs rfl _ _ rfl w.heap.size _ _ _ _ cs.length rfl rfl rfl rfl (by omega) (by omega) (Nat.le_refl _) ?_; intro w1 hown hp hsz; have hO1 := Lib.hid (OwnO.of_own hown); have hp1 := Lib.hid hp; clear hown hp)
    | (at_make; refine wl_make elPtr rfl _ _ rfl w.heap.size _ _ _ _ cs.length rfl rfl rfl rfl (by omega) (by omega) hp1.out.size ?_; intro w2 hown hp hsz2; have hO2 := Lib.hid (OwnO.of_own hown); have hp2 := Lib.hid hp; clear hown hp))
  have I0 : BInv cs w.heap.size w w2 w.heap.size w1.heap.size (.slice none 0 0) 0 0 [] (fun _ => 0) (fun _ => (0, 0)) := by
    refine ⟨hp1.out.trans hp2.out, rfl, by simp [sscan], Stk.nil cs, ⟨_, hO2.out, by simp, fun j _ hj => ?_⟩, ⟨_, hO1.out.pure hp2.out, by simp⟩, OwnO.of_own (World.ownsRow_nil _ _ _ _), by simp [Value.ownBlock], by simp, by simp, by simp, by simp⟩
    rw [zeros_get _ _ _ (by simpa using hj)]; simp [Nat.mod_one]
  have HI := Lib.hid I0
  have hw01 : w.heap.size < w1.heap.size := hsz
  clear I0 hO1 hO2 hp1 hp2 hsz hsz2
  go_loopg [19, 7] cs.length (fun gk i q wr => ∃ (k : Nat) (st : List (Nat × Int)) (pb : Nat → Nat) (bv : Nat → Int × Int), gk + k = cs.length ∧ i = .int .i64 k ∧ BInv cs w.heap.size w wr w.heap.size w1.heap.size q k k st pb bv)
  case atStart => exact ⟨0, [], _, _, rfl, rfl, HI.out⟩
  case round =>
    clear HI
    obtain ⟨k, st, pb, bv, hgk, rfl, hI⟩ := hrel
    have Hgk := Lib.hid hgk
    have hkn : k ≤ cs.length := by omega
    have hst3 := hI.stk.len
    obtain ⟨Aq, cq, rfl⟩ := hI.que.form
    have HI := Lib.hid hI
    clear hgk hI
    by_cases hlt : k < cs.length
    · obtain ⟨b, o, rfl, hb, hc⟩ := H.out.at_ hlt
      obtain ⟨cd, Hcd⟩ : ∃ cd, Hid (cs.getD k default = cd) := ⟨_, rfl⟩
      have hat := hc.keep HI.out.pure hb
      rw [Hcd.out] at hat
      obtain ⟨q0, q1, q2, q3⟩ := hat
      clear hc
      have pA := Lib.hid (Pure.alloc (Pure.refl wr) (.cells #[.int .i64 cd.op, .int .i64 cd.a, .int .i64 cd.b, .int .i64 cd.c] 36))
      obtain ⟨QL, HQL⟩ : ∃ QL, Hid ((List.range (st.length * 1)).map (fun i => QL.getD i undef) = (st.map fun x => ptr pb x.1).reverse) ∧ Hid (QL = (st.map fun x => ptr pb x.1).reverse) := by
        refine ⟨(st.map fun x => ptr pb x.1).reverse, ?_, Lib.hid rfl⟩
        have := range_getD (st.map fun x => ptr pb x.1).reverse
        rwa [List.length_reverse, List.length_map] at this
      obtain ⟨HQL, HQE⟩ := HQL
      have HQ : Hid (Cells (wr.alloc (.cells #[.int .i64 cd.op, .int .i64 cd.a, .int .i64 cd.b, .int .i64 cd.c] 36)) (.slice Aq st.length cq) st.length 1 (fun i => QL.getD i undef)) := by
        refine Cells.keep (Cells.of_ownO HI.out.que fun j hj => ?_) pA.out
        have hj' : j < st.length := by omega
        rw [HQE.out]; simp [List.getD_eq_getElem?_getD, hj']
      have QC : Hid (∀ j, j < st.length * 1 → ((fun i => QL.getD i undef) j).oneCell' = true) := fun j hj => by
        have hj' : j < st.length := by omega
        simp only
        rw [HQE.out]
        simp [List.getD_eq_getElem?_getD, hj', ptr, Value.oneCell']
      have FOP : Hid ((wr.alloc (.cells #[.int .i64 cd.op, .int .i64 cd.a, .int .i64 cd.b, .int .i64 cd.c] 36)).cell? ⟨wr.heap.size, 0, none⟩ = some (.int .i64 cd.op)) := cell_of_row _ _ 0 _ _ _ (heap_alloc_new wr _)
      have hstep := sscan_take hlt HI.out.sc
      rw [Hcd.out] at hstep
      have bad : sstep st k cd = none → sscan cs 0 [] = none := fun h1 => by
        rw [h1] at hstep
        exact sscan_none hstep
      have Bad := Lib.hid bad
      clear hstep bad
      have hbw : b < wr.heap.size := Nat.lt_of_lt_of_le hb HI.out.pure.size
      by_cases hop : Opens cd
      · have hd : (cd.op == 11) = true ∨ ((cd.op == 11) = false ∧ (cd.op == 13) = true) := by
          unfold Opens at hop
          rcases hop with h | h
          · exact .inl (by simp [h])
          · exact .inr ⟨by simp [h], by simp [h]⟩
        have Hop := Lib.hid hop
        clear hop
        by_cases h3 : st.length < 3
        · rcases hd with hd | ⟨hd, hd2⟩
          all_goals
            go_wp2_with (first | (at_builtin; refine wl_copyF elPtr rfl _ _ rfl (wr.heap.size + 1) rfl (by simp) (.slice Aq st.length cq) rfl (fun i => QL.getD i undef) st.length HQ.out QC.out (by decide) (by omega) rfl ?_; intro r wC hr hpC; go_must (have hpC2 := Lib.hid (pA.out.trans hpC); have hr2 := Lib.hid (hr.base (B' := wr.heap.size) (by simp)); obtain ⟨Ar, cr, rfl⟩ := hr.form; obtain ⟨⟨uA, fA⟩, zA, fO, zO, s1, s2, s3⟩ := row_facts HI.out hlt hpC2.out hw01; have fop := (hpC.cell wr.heap.size 0 (by simp)).trans FOP.out; have hII := Lib.hid (HI.out.storeRow hlt hpC2.out (by have := hr2.out; rw [HQL.out] at this; exact this)); clear hr hpC); go_must (have HB := Lib.hid (hII.out.keepPure (Pure.alloc (Pure.refl _) (.cells #[.int .i64 (k : Int), .int .i64 (-1), .int .i64 (-1)] 98))); have hlt9 : w1.heap.size < (wC.setCell ⟨w.heap.size, k, none⟩ (.slice Ar st.length cr)).heap.size := (by simp [World.setCell] <;> omega); have hos := own_store (u := .pointer (some ⟨wC.heap.size, 0, none⟩)) HB.out; have HQ3 := Lib.hid hos.2.1; have HP3 := Lib.hid hos.2.2.2; obtain ⟨ys9, o9, _, o9'⟩ := HB.out.own; have zO2 := o9.frozen k; obtain ⟨u9, cO2⟩ := o9.cellSome k (by omega); rw [Nat.zero_add] at cO2; clear hos o9 o9' hlt9)) | (at_builtin; go_must (refine wl_append1F elPtr rfl _ _ rfl w.heap.size (.slice Aq st.length cq) st.length ((st.map fun x => ptr pb x.1).reverse) rfl HQ3.out (wC.heap.size + 1) 1 [.pointer (some ⟨wC.heap.size, 0, none⟩)] rfl (by simp [World.setCell]) rfl rfl (by decide) (by omega) HP3.out.size ?_); intro q' wE hq' hg' hl'; go_must (obtain ⟨A2, c2, rfl⟩ := hq'.form; have HQ' := Lib.hid hq'; have HG' := Lib.hid hg'; have HL' := Lib.hid hl'; clear hq' hg' hl')))
            have hb2 : wC.heap.size = (wC.setCell ⟨w.heap.size, k, none⟩ (.slice Ar st.length cr)).heap.size := by simp [World.setCell]
            have hfin := hII.out.open_ hlt (by rw [Hcd.out]; exact Hop.out) h3 hb2 HQ'.out HG'.out HL'.out
            rw [Hcd.out] at hfin
            have HF := Lib.hid hfin
            clear hfin
            go_roundg (cs.length - (k + 1))
            case measure => have := Hgk.out; omega
            case rel => exact ⟨k + 1, _, _, _, by have := Hgk.out; omega, by go_num, HF.out⟩
        · rcases hd with hd | ⟨hd, hd2⟩
          all_goals
            go_wp2_with (first | (at_builtin; refine wl_copyF elPtr rfl _ _ rfl (wr.heap.size + 1) rfl (by simp) (.slice Aq st.length cq) rfl (fun i => QL.getD i undef) st.length HQ.out QC.out (by decide) (by omega) rfl ?_; intro r wC hr hpC; go_must (have hpC2 := Lib.hid (pA.out.trans hpC); have hr2 := Lib.hid (hr.base (B' := wr.heap.size) (by simp)); obtain ⟨Ar, cr, rfl⟩ := hr.form; obtain ⟨⟨uA, fA⟩, zA, fO, zO, s1, s2, s3⟩ := row_facts HI.out hlt hpC2.out hw01; have fop := (hpC.cell wr.heap.size 0 (by simp)).trans FOP.out; have hII := Lib.hid (HI.out.storeRow hlt hpC2.out (by have := hr2.out; rw [HQL.out] at this; exact this)); clear hr hpC); go_must (have HB := Lib.hid (hII.out.keepPure (Pure.alloc (Pure.refl _) (.cells #[.int .i64 (k : Int), .int .i64 (-1), .int .i64 (-1)] 98))); have hlt9 : w1.heap.size < (wC.setCell ⟨w.heap.size, k, none⟩ (.slice Ar st.length cr)).heap.size := (by simp [World.setCell] <;> omega); have hos := own_store (u := .pointer (some ⟨wC.heap.size, 0, none⟩)) HB.out; have HQ3 := Lib.hid hos.2.1; have HP3 := Lib.hid hos.2.2.2; obtain ⟨ys9, o9, _, o9'⟩ := HB.out.own; have zO2 := o9.frozen k; obtain ⟨u9, cO2⟩ := o9.cellSome k (by omega); rw [Nat.zero_add] at cO2; clear hos o9 o9' hlt9)) | (at_builtin; go_must (refine wl_append1F elPtr rfl _ _ rfl w.heap.size (.slice Aq st.length cq) st.length ((st.map fun x => ptr pb x.1).reverse) rfl HQ3.out (wC.heap.size + 1) 1 [.pointer (some ⟨wC.heap.size, 0, none⟩)] rfl (by simp [World.setCell]) rfl rfl (by decide) (by omega) HP3.out.size ?_); intro q' wE hq' hg' hl'; go_must (obtain ⟨A2, c2, rfl⟩ := hq'.form; have HQ' := Lib.hid hq'; have HG' := Lib.hid hg'; have HL' := Lib.hid hl'; clear hq' hg' hl')))
            go_ret3
            refine ⟨HP3.out.grown HG'.out (fun g hg => (HQ3.out.lt g hg).1), ?_⟩
            rw [Bad.out (by rw [sstep_open Hop.out, if_neg h3])]; rfl
      · have hd11 : (cd.op == 11) = false := by unfold Opens at hop; rw [beq_eq_false_iff_ne]; omega
        have hd13 : (cd.op == 13) = false := by unfold Opens at hop; rw [beq_eq_false_iff_ne]; omega
        have Hop := Lib.hid hop
        clear hop
        by_cases h12 : cd.op = 12
        · have hd12 : (cd.op == 12) = true := by simp [h12]
          have H12 := Lib.hid h12
          clear h12
          rcases st with _ | ⟨⟨p, m⟩, r⟩
          · simp only [List.length_nil] at *
            have hz : ((0 : Nat) : Int) - 1 < 0 := by omega
            go_wp2_with (at_builtin; refine wl_copyF elPtr rfl _ _ rfl (wr.heap.size + 1) rfl (by simp) (.slice Aq 0 cq) rfl (fun i => QL.getD i undef) 0 HQ.out QC.out (by decide) (by omega) rfl ?_; intro r wC hr hpC; go_must (have hpC2 := Lib.hid (pA.out.trans hpC); have hr2 := Lib.hid (hr.base (B' := wr.heap.size) (by simp)); obtain ⟨Ar, cr, rfl⟩ := hr.form; obtain ⟨⟨uA, fA⟩, zA, fO, zO, s1, s2, s3⟩ := row_facts HI.out hlt hpC2.out hw01; have fop := (hpC.cell wr.heap.size 0 (by simp)).trans FOP.out; have hII := Lib.hid (HI.out.storeRow hlt hpC2.out (by have := hr2.out; rw [HQL.out] at this; exact this)); clear hr hpC))
            go_ret3
            refine ⟨hII.out.pure, ?_⟩
            rw [Bad.out (by rw [sstep_else H12.out])]; rfl
          · obtain ⟨g, off, c2, hq, hq1, hq2, hq3, hq4⟩ := HI.out.que.formSome (by simp)
            injection hq with hq5 hq6 hq7
            subst hq5 hq7
            simp only [List.length_cons] at *
            have hidx : ((r.length + 1 : Nat) : Int) - 1 = r.length := by omega
            have HTF := Lib.hid (top_facts (wC := wr) HI.out (Pure.refl _))
            have hpn : p < cs.length := by have := HTF.out.2.2.2.2.2.2.2.2.2.2.2.2; omega
            obtain ⟨b0, o0, hb0e, hb0, hc0⟩ := H.out.at_ hpn
            injection hb0e with hb0e
            injection hb0e with e1 e2
            subst e1 e2
            obtain ⟨cp, Hcp⟩ : ∃ cp, Hid (cs.getD p default = cp) := ⟨_, rfl⟩
            rw [Hcp.out] at hc0
            have hcp := Lib.hid ((hc0.keep HI.out.pure hb0).c0)
            clear hc0
            have hop1 := HI.out.opn 0 (by simp)
            simp only [List.getElem_cons_zero] at hop1
            rw [Hcp.out] at hop1
            have hen := HI.out.stk.ends 0 (by simp)
            simp only [List.getElem_cons_zero] at hen
            have hm3 : m = 11 ∨ m = 12 ∨ m = 13 := by
              obtain ⟨_, _, h | h | h⟩ := hen
              · exact .inl h.1
              · exact .inr (.inl h.1)
              · exact .inr (.inr h.1)
            have HO1 := Lib.hid hop1
            have HM3 := Lib.hid hm3
            clear hop1 hen hm3
            have hstep : sstep ((p, m) :: r) k cd = if m = 11 then some ((p, 12) :: r) else none := by rw [sstep_else H12.out]
            have Hstep := Lib.hid hstep
            clear hstep
            by_cases hm : m = 11
            · have ho11 : cp.op = 11 := by
                have h1 := HO1.out.1; have h2 := HO1.out.2.2.2.2
                unfold Opens at h1
                rcases h1 with h | h
                · exact h
                · have := h2.2 h; omega
              have hd1 : (cp.op != 11) = false := by simp [ho11]
              have ho0 : (bv p).1 < 0 := by
                have := HO1.out.2.2.2.1
                omega
              subst hm
              go_wp2_with (at_builtin; refine wl_copyF elPtr rfl _ _ rfl (wr.heap.size + 1) rfl (by simp) (.slice (some ⟨g, off, none⟩) (r.length + 1) cq) rfl (fun i => QL.getD i undef) (r.length + 1) HQ.out QC.out (by decide) (by omega) rfl ?_; intro r wC hr hpC; go_must (have hpC2 := Lib.hid (pA.out.trans hpC); have hr2 := Lib.hid (hr.base (B' := wr.heap.size) (by simp)); obtain ⟨Ar, cr, rfl⟩ := hr.form; obtain ⟨⟨uA, fA⟩, zA, fO, zO, s1, s2, s3⟩ := row_facts HI.out hlt hpC2.out hw01; have fop := (hpC.cell wr.heap.size 0 (by simp)).trans FOP.out; have hII := Lib.hid (HI.out.storeRow hlt hpC2.out (by have := hr2.out; rw [HQL.out] at this; exact this)); clear hr hpC); go_must (obtain ⟨f1, f2, f3, f4, f5, n1, n2, n3, n4, n5, l1, l2, l3⟩ := top_facts HI.out hpC2.out; have z1 := f5 1; have z2 := f5 2; have fcp := (hpC2.out.cell b (o + p * 4) hbw).trans hcp.out; clear f5))
              have hfin := hII.out.els hlt (by rw [Hcd.out]; exact H12.out)
              have HF := Lib.hid hfin
              clear hfin
              go_roundg (cs.length - (k + 1))
              case measure => have := Hgk.out; omega
              case rel => exact ⟨k + 1, _, _, _, by have := Hgk.out; omega, by go_num, HF.out⟩
            · have hbad : (cp.op != 11) = true ∨ ((cp.op != 11) = false ∧ 0 ≤ (bv p).1) := by
                by_cases h : cp.op = 11
                · right
                  refine ⟨by simp [h], HO1.out.2.2.2.1.2 ?_⟩
                  have := HM3.out
                  have h2 := HO1.out.2.2.2.2
                  omega
                · exact .inl (by simp [h])
              have Hm := Lib.hid hm
              clear hm
              rcases hbad with hd1 | ⟨hd1, ho0⟩
              all_goals
                go_wp2_with (at_builtin; refine wl_copyF elPtr rfl _ _ rfl (wr.heap.size + 1) rfl (by simp) (.slice (some ⟨g, off, none⟩) (r.length + 1) cq) rfl (fun i => QL.getD i undef) (r.length + 1) HQ.out QC.out (by decide) (by omega) rfl ?_; intro r wC hr hpC; go_must (have hpC2 := Lib.hid (pA.out.trans hpC); have hr2 := Lib.hid (hr.base (B' := wr.heap.size) (by simp)); obtain ⟨Ar, cr, rfl⟩ := hr.form; obtain ⟨⟨uA, fA⟩, zA, fO, zO, s1, s2, s3⟩ := row_facts HI.out hlt hpC2.out hw01; have fop := (hpC.cell wr.heap.size 0 (by simp)).trans FOP.out; have hII := Lib.hid (HI.out.storeRow hlt hpC2.out (by have := hr2.out; rw [HQL.out] at this; exact this)); clear hr hpC); go_must (obtain ⟨f1, f2, f3, f4, f5, n1, n2, n3, n4, n5, l1, l2, l3⟩ := top_facts HI.out hpC2.out; have z1 := f5 1; have z2 := f5 2; have fcp := (hpC2.out.cell b (o + p * 4) hbw).trans hcp.out; clear f5))
                go_ret3
                refine ⟨hII.out.pure, ?_⟩
                rw [Bad.out (by rw [Hstep.out, if_neg Hm.out])]; rfl
        · have hd12 : (cd.op == 12) = false := by simp [h12]
          have H12 := Lib.hid h12
          clear h12
          by_cases h14 : cd.op = 14
          · have hd14 : (cd.op == 14) = true := by simp [h14]
            have H14 := Lib.hid h14
            clear h14
            rcases st with _ | ⟨⟨p, m⟩, r⟩
            · simp only [List.length_nil] at *
              have hz : ((0 : Nat) : Int) - 1 < 0 := by omega
              go_wp2_with (at_builtin; refine wl_copyF elPtr rfl _ _ rfl (wr.heap.size + 1) rfl (by simp) (.slice Aq 0 cq) rfl (fun i => QL.getD i undef) 0 HQ.out QC.out (by decide) (by omega) rfl ?_; intro r wC hr hpC; go_must (have hpC2 := Lib.hid (pA.out.trans hpC); have hr2 := Lib.hid (hr.base (B' := wr.heap.size) (by simp)); obtain ⟨Ar, cr, rfl⟩ := hr.form; obtain ⟨⟨uA, fA⟩, zA, fO, zO, s1, s2, s3⟩ := row_facts HI.out hlt hpC2.out hw01; have fop := (hpC.cell wr.heap.size 0 (by simp)).trans FOP.out; have hII := Lib.hid (HI.out.storeRow hlt hpC2.out (by have := hr2.out; rw [HQL.out] at this; exact this)); clear hr hpC))
              go_ret3
              refine ⟨hII.out.pure, ?_⟩
              rw [Bad.out (by rw [sstep_end H14.out])]; rfl
            · obtain ⟨g, off, c2, hq, hq1, hq2, hq3, hq4⟩ := HI.out.que.formSome (by simp)
              injection hq with hq5 hq6 hq7
              subst hq5 hq7
              simp only [List.length_cons] at *
              have hidx : ((r.length + 1 : Nat) : Int) - 1 = r.length := by omega
              go_wp2_with (at_builtin; refine wl_copyF elPtr rfl _ _ rfl (wr.heap.size + 1) rfl (by simp) (.slice (some ⟨g, off, none⟩) (r.length + 1) cq) rfl (fun i => QL.getD i undef) (r.length + 1) HQ.out QC.out (by decide) (by omega) rfl ?_; intro r wC hr hpC; go_must (have hpC2 := Lib.hid (pA.out.trans hpC); have hr2 := Lib.hid (hr.base (B' := wr.heap.size) (by simp)); obtain ⟨Ar, cr, rfl⟩ := hr.form; obtain ⟨⟨uA, fA⟩, zA, fO, zO, s1, s2, s3⟩ := row_facts HI.out hlt hpC2.out hw01; have fop := (hpC.cell wr.heap.size 0 (by simp)).trans FOP.out; have hII := Lib.hid (HI.out.storeRow hlt hpC2.out (by have := hr2.out; rw [HQL.out] at this; exact this)); clear hr hpC); go_must (obtain ⟨f1, f2, f3, f4, f5, n1, n2, n3, n4, n5, l1, l2, l3⟩ := top_facts HI.out hpC2.out; have z1 := f5 1; have z2 := f5 2; clear f5))
              have htk := hII.out.que.take (k := r.length) (by simp)
              rw [show (((p, m) :: r).map fun x => ptr pb x.1).reverse.take (r.length * 1) = (r.map fun x => ptr pb x.1).reverse by rw [List.map_cons, List.reverse_cons, List.take_append_of_le_length (by simp), List.take_of_length_le (by simp)]] at htk
              have hfin := hII.out.fin hlt (by rw [Hcd.out]; exact H14.out) htk rfl
              have HF := Lib.hid hfin
              clear hfin htk
              go_roundg (cs.length - (k + 1))
              case measure => have := Hgk.out; omega
              case rel => exact ⟨k + 1, _, _, _, by have := Hgk.out; omega, by go_num, HF.out⟩
          · have hd14 : (cd.op == 14) = false := by simp [h14]
            have H14 := Lib.hid h14
            clear h14
            go_wp2_with (at_builtin; refine wl_copyF elPtr rfl _ _ rfl (wr.heap.size + 1) rfl (by simp) (.slice Aq st.length cq) rfl (fun i => QL.getD i undef) st.length HQ.out QC.out (by decide) (by omega) rfl ?_; intro r wC hr hpC; go_must (have hpC2 := Lib.hid (pA.out.trans hpC); have hr2 := Lib.hid (hr.base (B' := wr.heap.size) (by simp)); obtain ⟨Ar, cr, rfl⟩ := hr.form; obtain ⟨⟨uA, fA⟩, zA, fO, zO, s1, s2, s3⟩ := row_facts HI.out hlt hpC2.out hw01; have fop := (hpC.cell wr.heap.size 0 (by simp)).trans FOP.out; have hII := Lib.hid (HI.out.storeRow hlt hpC2.out (by have := hr2.out; rw [HQL.out] at this; exact this)); clear hr hpC))
            have hfin := hII.out.other hlt (by rw [Hcd.out]; exact Hop.out) (by rw [Hcd.out]; exact H12.out) (by rw [Hcd.out]; exact H14.out)
            have HF := Lib.hid hfin
            clear hfin
            go_roundg (cs.length - (k + 1))
            case measure => have := Hgk.out; omega
            case rel => exact ⟨k + 1, _, _, _, by have := Hgk.out; omega, by go_num, HF.out⟩
    · have hkl : k = cs.length := by omega
      subst hkl
      have hsc := HI.out.sc
      rw [List.take_length] at hsc
      have Hsc := Lib.hid hsc
      clear hsc
      by_cases hs0 : st.length = 0
      · have hd : ((st.length : Int) == 0) = true := by simp [hs0]
        have hs1 : st = [] := List.eq_nil_of_length_eq_zero hs0
        have Hs1 := Lib.hid hs1
        clear hs0 hs1
        go_wp2
        go_ret3
        refine ⟨HI.out.pure, ?_⟩
        rw [Hsc.out]
        refine ⟨_, _, by rw [Hs1.out]; rfl, fun _ => ?_⟩
        have := HI.out
        rw [Hs1.out] at this
        exact this.tabs
      · have hd : ((st.length : Int) == 0) = false := by rw [beq_eq_false_iff_ne]; omega
        have Hs0 := Lib.hid hs0
        clear hs0
        go_wp2
        go_ret3
        refine ⟨HI.out.pure, ?_⟩
        rw [Hsc.out]
        refine ⟨_, _, by rw [decide_eq_false Hs0.out]; rfl, fun h => absurd (by rw [h]; rfl) Hs0.out⟩

end Go.Proofs.Ytkolnakcgjlcgaa
