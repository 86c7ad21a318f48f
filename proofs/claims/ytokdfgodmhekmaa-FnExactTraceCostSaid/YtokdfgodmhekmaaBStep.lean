/- How each step of the program's search for blocks turns its state. No condition. -/
import Derived.Test.YtokdfgodmhekmaaBInv
namespace Go.Proofs.Ytokdfgodmhekmaa
open Go.RowKit

section
variable {cs : List Cd} {B : Nat} {w wr : World} {ga go : Nat} {q : Value} {k : Nat} {st : List (Nat × Int)} {pb : Nat → Nat} {bv : Nat → Int × Int}

theorem sc_step (h : BInv cs B w wr ga go q k (k + 1) st pb bv) (hk : k < cs.length) {st' : List (Nat × Int)} (hs : sstep st k (cs.getD k default) = some st') : sscan (cs.take (k + 1)) 0 [] = some st' ∧ Stk cs (k + 1) st' :=
  ⟨by rw [sscan_take hk h.sc]; exact hs, h.stk.step hk hs⟩

/-- An instruction that is no part of the structure. -/
theorem BInv.other (h : BInv cs B w wr ga go q k (k + 1) st pb bv) (hk : k < cs.length) (h1 : ¬ Opens (cs.getD k default)) (h2 : (cs.getD k default).op ≠ 12) (h3 : (cs.getD k default).op ≠ 14) :
    BInv cs B w wr ga go q (k + 1) (k + 1) st pb bv := by
  have hs : sstep st k (cs.getD k default) = some st := sstep_other h1 h2 h3
  obtain ⟨s1, s2⟩ := sc_step h hk hs
  have hdr := drop_cons hk
  obtain ⟨a1, a2, a3, a4, ⟨ys, a5, a6, a7⟩, a8, a9, a10, a11, a12, a13, a14⟩ := h
  have hlt : ∀ p, p < k + 1 → Opens (cs.getD p default) → p < k := fun p hp ho => by
    by_cases e : p = k
    · subst e; exact absurd ho h1
    · omega
  refine ⟨a1, a2, s1, s2, ⟨ys, a5, fun j hj => ?_, fun j hj hj2 => a7 j (by omega) hj2⟩, a8, a9, a10, fun p hp ho => a11 p (hlt p hp ho) ho, fun p p' hp hp' ho ho' => a12 p p' (hlt p hp ho) (hlt p' hp' ho') ho ho', fun i hi => ?_, fun p hp ho hn => a14 p (hlt p hp ho) ho hn⟩
  · by_cases e : j = k
    · subst e
      rw [a7 j (Nat.le_refl _) hk]
      unfold ownOf
      rw [if_neg h1, if_neg (by omega)]; rfl
    · exact a6 j (by omega)
  · obtain ⟨b1, b2, b3, b4, b5⟩ := a13 i hi
    refine ⟨b1, b2, ?_, b4, b5⟩
    rw [b3, hdr, eScan_cons, if_neg h1, if_neg (fun h => h2 h.1), if_neg (fun h => h3 h.1), if_neg h3]

/-- An else. -/
theorem BInv.els {p : Nat} {r : List (Nat × Int)} (h : BInv cs B w wr ga go q k (k + 1) ((p, 11) :: r) pb bv) (hk : k < cs.length) (h1 : (cs.getD k default).op = 12) :
    BInv cs B w ((wr.setCell ⟨go, k, none⟩ (ptr pb p)).setCell ⟨pb p, 1, none⟩ (.int .i64 (k : Int))) ga go q (k + 1) (k + 1) ((p, 12) :: r) pb (upd bv p ((k : Int), (bv p).2)) := by
  have hno : ¬ Opens (cs.getD k default) := by unfold Opens; omega
  have hs : sstep ((p, 11) :: r) k (cs.getD k default) = some ((p, 12) :: r) := by rw [sstep_else h1]; simp
  obtain ⟨s1, s2⟩ := sc_step h hk hs
  have hdr := drop_cons hk
  obtain ⟨⟨zs, t1, t2⟩, t3, t4, t5⟩ := own_store (u := ptr pb p) h
  have haro := h.stk.around 0
  obtain ⟨a1, a2, a3, a4, ⟨ys, a5, a6, a7⟩, a8, a9, a10, a11, a12, a13, a14⟩ := h
  have hst := a5.stored k (ptr pb p)
  rw [Nat.zero_add] at hst
  have hpk : p < k := a4.lt 0 (by simp)
  have hpo := (a13 0 (by simp)).1
  simp only [List.getElem_cons_zero] at hpo
  obtain ⟨hpB, hpblk⟩ := t4 p hpk hpo
  have hg := grown_setCell (wr.setCell ⟨go, k, none⟩ (ptr pb p)) ⟨pb p, 1, none⟩ (.int .i64 (k : Int))
  have hnb : ∀ {e s n : Nat} {v : Value} {xs : List Value}, OwnO (wr.setCell ⟨go, k, none⟩ (ptr pb p)) B e s v n xs → e ≠ 112 → OwnO ((wr.setCell ⟨go, k, none⟩ (ptr pb p)).setCell ⟨pb p, 1, none⟩ (.int .i64 (k : Int))) B e s v n xs := fun ho hne => ho.kept hg (fun g hg2 e => hpblk.ne_own ho hne hg2 (by injection e with e; exact e.symm))
  have hyl : ys.length = cs.length := by have := a5.1; omega
  have hlt : ∀ x, x < k + 1 → Opens (cs.getD x default) → x < k := fun x hx ho => by
    by_cases e : x = k
    · subst e; exact absurd ho hno
    · omega
  have hmono := List.pairwise_cons.1 a4.mono
  refine ⟨t5.setCell (show w.heap.size ≤ pb p by omega) _, a2, s1, s2, ⟨_, hnb hst (by decide), fun j hj => ?_, fun j hj hj2 => ?_⟩, ⟨zs, hnb t1 (by decide), fun j hj => ?_⟩, hnb t3 (by decide), a10, fun x hx ho => ?_, fun x x' hx hx' ho ho' => a12 x x' (hlt x hx ho) (hlt x' hx' ho') ho ho', fun i hi => ?_, fun x hx ho hn => ?_⟩
  · by_cases e : j = k
    · subst e
      rw [List.getElem?_set_self (by omega)]
      have : ownOf cs j = some p := by
        unfold ownOf aroundAt
        rw [if_neg hno, if_pos (.inl h1), haro]; simp
      rw [this]; rfl
    · rw [List.getElem?_set_ne (by omega)]; exact a6 j (by omega)
  · rw [List.getElem?_set_ne (by omega)]; exact a7 j (by omega) hj2
  · obtain ⟨r', c1, c2⟩ := t2 j hj
    exact ⟨r', c1, c2.keep hg (fun g hg2 e => hpblk.ne_own c2.1 (by decide) hg2 (by injection e with e; exact e.symm))⟩
  · obtain ⟨c1, c2⟩ := t4 x (hlt x hx ho) ho
    refine ⟨c1, ?_⟩
    by_cases e : x = p
    · subst e
      rw [upd_same]
      exact heap_setCell_same _ _ 1 _ _ _ c2
    · rw [upd_ne _ _ e]
      exact c2.keep hg (fun e2 => e (a12 x p (hlt x hx ho) hpk ho hpo (by injection e2)))
  · cases i with
    | zero =>
      obtain ⟨b1, b2, b3, b4, b5⟩ := a13 0 (by simp)
      simp only [List.getElem_cons_zero] at b1 b2 b3 b4 b5 ⊢
      rw [upd_same]
      refine ⟨b1, b2, ?_, ⟨fun _ => by trivial, fun _ => by simp⟩, ⟨fun h => by omega, fun h => ?_⟩⟩
      · rw [b3, hdr]; rw [eScan_cons, if_neg hno, if_pos ⟨h1, rfl⟩]
      · have := b5.2 h; omega
    | succ i =>
      obtain ⟨b1, b2, b3, b4, b5⟩ := a13 (i + 1) (by simpa using hi)
      have hne : (r[i]'(by simpa using hi)).1 ≠ p := by
        have := hmono.1 _ (List.getElem_mem (by simpa using hi : i < r.length))
        simp only at this; omega
      simp only [List.getElem_cons_succ] at b1 b2 b3 b4 b5 ⊢
      rw [upd_ne _ _ hne]
      refine ⟨b1, b2, ?_, b4, b5⟩
      rw [b3, hdr]; rw [eScan_cons, if_neg hno, if_neg (fun h => by cases h.2), if_neg (fun h => by cases h.2), if_neg (by omega)]
  · have hn' : ∀ i (h : i < ((p, (11 : Int)) :: r).length), (((p, (11 : Int)) :: r)[i]).1 ≠ x := fun i hi => by
      cases i with
      | zero => exact hn 0 (by simp)
      | succ i => exact hn (i + 1) (by simpa using hi)
    have hxp : x ≠ p := fun e => hn' 0 (by simp) e.symm
    rw [upd_ne _ _ hxp]
    exact a14 x (hlt x hx ho) ho hn'

/-- An end. -/
theorem BInv.fin {p : Nat} {m : Int} {r : List (Nat × Int)} {q' : Value} (h : BInv cs B w wr ga go q k (k + 1) ((p, m) :: r) pb bv) (hk : k < cs.length) (h1 : (cs.getD k default).op = 14)
    (hq : OwnO wr B 110 1 q' r.length ((r.map fun x => ptr pb x.1).reverse)) (hqb : q'.ownBlock = q.ownBlock) :
    BInv cs B w ((wr.setCell ⟨go, k, none⟩ (ptr pb p)).setCell ⟨pb p, 2, none⟩ (.int .i64 (k : Int))) ga go q' (k + 1) (k + 1) r pb (upd bv p ((bv p).1, (k : Int))) := by
  have hno : ¬ Opens (cs.getD k default) := by unfold Opens; omega
  have hs : sstep ((p, m) :: r) k (cs.getD k default) = some r := by rw [sstep_end h1]
  obtain ⟨s1, s2⟩ := sc_step h hk hs
  have hdr := drop_cons hk
  obtain ⟨⟨zs, t1, t2⟩, t3, t4, t5⟩ := own_store (u := ptr pb p) h
  have haro := h.stk.around 0
  obtain ⟨a1, a2, a3, a4, ⟨ys, a5, a6, a7⟩, a8, a9, a10, a11, a12, a13, a14⟩ := h
  have hst := a5.stored k (ptr pb p)
  rw [Nat.zero_add] at hst
  have hpk : p < k := a4.lt 0 (by simp)
  have hpo := (a13 0 (by simp)).1
  simp only [List.getElem_cons_zero] at hpo
  obtain ⟨hpB, hpblk⟩ := t4 p hpk hpo
  have hg0 := grown_setCell wr ⟨go, k, none⟩ (ptr pb p)
  have hq2 : OwnO (wr.setCell ⟨go, k, none⟩ (ptr pb p)) B 110 1 q' r.length ((r.map fun x => ptr pb x.1).reverse) := hq.kept hg0 (fun g hg e => a10 g (by rw [← hqb]; exact hg) (by injection e))
  have hg := grown_setCell (wr.setCell ⟨go, k, none⟩ (ptr pb p)) ⟨pb p, 2, none⟩ (.int .i64 (k : Int))
  have hnb : ∀ {e s n : Nat} {v : Value} {xs : List Value}, OwnO (wr.setCell ⟨go, k, none⟩ (ptr pb p)) B e s v n xs → e ≠ 112 → OwnO ((wr.setCell ⟨go, k, none⟩ (ptr pb p)).setCell ⟨pb p, 2, none⟩ (.int .i64 (k : Int))) B e s v n xs := fun ho hne => ho.kept hg (fun g hg2 e => hpblk.ne_own ho hne hg2 (by injection e with e; exact e.symm))
  have hyl : ys.length = cs.length := by have := a5.1; omega
  have hlt : ∀ x, x < k + 1 → Opens (cs.getD x default) → x < k := fun x hx ho => by
    by_cases e : x = k
    · subst e; exact absurd ho hno
    · omega
  have hmono := List.pairwise_cons.1 a4.mono
  refine ⟨t5.setCell (show w.heap.size ≤ pb p by omega) _, a2, s1, s2, ⟨_, hnb hst (by decide), fun j hj => ?_, fun j hj hj2 => ?_⟩, ⟨zs, hnb t1 (by decide), fun j hj => ?_⟩, hnb hq2 (by decide), fun g hg => a10 g (by rw [← hqb]; exact hg), fun x hx ho => ?_, fun x x' hx hx' ho ho' => a12 x x' (hlt x hx ho) (hlt x' hx' ho') ho ho', fun i hi => ?_, fun x hx ho hn => ?_⟩
  · by_cases e : j = k
    · subst e
      rw [List.getElem?_set_self (by omega)]
      have : ownOf cs j = some p := by
        unfold ownOf aroundAt
        rw [if_neg hno, if_pos (.inr h1), haro]; simp
      rw [this]; rfl
    · rw [List.getElem?_set_ne (by omega)]; exact a6 j (by omega)
  · rw [List.getElem?_set_ne (by omega)]; exact a7 j (by omega) hj2
  · obtain ⟨r', c1, c2⟩ := t2 j hj
    have c3 := c2.keep hg (fun g hg2 e => hpblk.ne_own c2.1 (by decide) hg2 (by injection e with e; exact e.symm))
    exact ⟨r', c1, c3.1, fun g hg => by rw [hqb]; exact c3.2 g hg⟩
  · obtain ⟨c1, c2⟩ := t4 x (hlt x hx ho) ho
    refine ⟨c1, ?_⟩
    by_cases e : x = p
    · subst e
      rw [upd_same]
      exact heap_setCell_same _ _ 2 _ _ _ c2
    · rw [upd_ne _ _ e]
      exact c2.keep hg (fun e2 => e (a12 x p (hlt x hx ho) hpk ho hpo (by injection e2)))
  · obtain ⟨b1, b2, b3, b4, b5⟩ := a13 (i + 1) (by simpa using hi)
    have hne : (r[i]'hi).1 ≠ p := by
      have := hmono.1 _ (List.getElem_mem hi)
      simp only at this; omega
    simp only [List.getElem_cons_succ] at b1 b2 b3 b4 b5 ⊢
    rw [upd_ne _ _ hne]
    refine ⟨b1, b2, ?_, b4, b5⟩
    rw [b3, hdr]; rw [eScan_cons, if_neg hno, if_neg (fun h => by omega), if_neg (fun h => by cases h.2), if_pos h1]
    simp only [Nat.add_sub_cancel]
  · by_cases hxp : x = p
    · subst hxp
      obtain ⟨b1, b2, b3, b4, b5⟩ := a13 0 (by simp)
      simp only [List.getElem_cons_zero] at b3
      rw [upd_same, b3, hdr]; rw [eScan_cons, if_neg hno, if_neg (fun h => by omega), if_pos ⟨h1, rfl⟩]
    · rw [upd_ne _ _ hxp]
      refine a14 x (hlt x hx ho) ho fun i hi => ?_
      cases i with
      | zero => exact fun e => hxp e.symm
      | succ i => exact hn i (by simpa using hi)

/-- A block opens. -/
theorem BInv.open_ {gb : Nat} {q' : Value} {wE : World} (h : BInv cs B w wr ga go q k (k + 1) st pb bv) (hk : k < cs.length) (h1 : Opens (cs.getD k default)) (h3 : st.length < 3) (hgb : gb = wr.heap.size)
    (hq : OwnO wE B 110 1 q' (st.length + 1) ((st.map fun x => ptr pb x.1).reverse ++ [.pointer (some ⟨gb, 0, none⟩)]))
    (hg : ((wr.alloc (.cells #[.int .i64 (k : Int), .int .i64 (-1), .int .i64 (-1)] 112)).setCell ⟨go, k, none⟩ (.pointer (some ⟨gb, 0, none⟩))).grownBy wE q.ownBlock)
    (hl : Lies ((wr.alloc (.cells #[.int .i64 (k : Int), .int .i64 (-1), .int .i64 (-1)] 112)).setCell ⟨go, k, none⟩ (.pointer (some ⟨gb, 0, none⟩))) q q') :
    BInv cs B w wE ga go q' (k + 1) (k + 1) ((k, (cs.getD k default).op) :: st) (upd pb k gb) (upd bv k (-1, -1)) := by
  have hs : sstep st k (cs.getD k default) = some ((k, (cs.getD k default).op) :: st) := by rw [sstep_open h1, if_pos h3]
  obtain ⟨s1, s2⟩ := sc_step h hk hs
  have hdr := drop_cons hk
  have h14 : (cs.getD k default).op ≠ 14 := by unfold Opens at h1; omega
  have hpA : Pure wr (wr.alloc (.cells #[.int .i64 (k : Int), .int .i64 (-1), .int .i64 (-1)] 112)) := Pure.alloc (Pure.refl _) _
  have hA := h.keepPure hpA
  have hnew : Blk (wr.alloc (.cells #[.int .i64 (k : Int), .int .i64 (-1), .int .i64 (-1)] 112)) gb k (-1, -1) := by rw [hgb]; exact heap_alloc_new wr _
  generalize hwA : wr.alloc (.cells #[.int .i64 (k : Int), .int .i64 (-1), .int .i64 (-1)] 112) = wA at *
  obtain ⟨⟨zs, t1, t2⟩, t3, t4, t5⟩ := own_store (u := .pointer (some ⟨gb, 0, none⟩)) hA
  have hwrsz := h.pure.size
  have hgoN : go < wr.heap.size := by obtain ⟨ys, o, _⟩ := h.own; exact (o.lt go rfl).2
  have hqlt := h.que.lt
  have hblt : ∀ p, p < k → Opens (cs.getD p default) → pb p < wr.heap.size := fun p hp ho => by
    have := (h.blk p hp ho).2
    exact (Array.getElem?_eq_some_iff.1 this).1
  have hrows : ∀ j r, j < k + 1 → RowOk wA B go q pb r (stkPos cs j) → True := fun _ _ _ _ => trivial
  have hstkpos : ∀ j, j < k + 1 → ∀ p, p ∈ stkPos cs j → p ≠ k := fun j hj p hp => by
    have hpre : ∃ st', sscan (cs.take j) 0 [] = some st' := by
      cases hsj : sscan (cs.take j) 0 [] with
      | some x => exact ⟨x, rfl⟩
      | none =>
        have h2 : (cs.take k).take j = cs.take j := by rw [List.take_take]; congr 1; omega
        have := sscan_none (cs := cs.take k) (k := j) (by rw [h2]; exact hsj)
        rw [h.sc] at this; cases this
    obtain ⟨st', hst'⟩ := hpre
    unfold stkPos at hp
    rw [hst'] at hp
    simp only [Option.getD_some, List.mem_reverse, List.mem_map] at hp
    obtain ⟨x, hx, rfl⟩ := hp
    have := sscan_lt hst' x hx
    have hjl : (cs.take j).length ≤ j := by simp; omega
    omega
  have hrowV : ∀ j, j < k + 1 → (stkPos cs j).map (ptr pb) = (stkPos cs j).map (ptr (upd pb k gb)) := fun j hj => by
    refine List.map_congr_left fun p hp => ?_
    unfold ptr
    rw [upd_ne _ _ (hstkpos j hj p hp)]
  obtain ⟨a1, a2, a3, a4, ⟨ys, a5, a6, a7⟩, ⟨zs0, a8, a8'⟩, a9, a10, a11, a12, a13, a14⟩ := hA
  have hst := a5.stored k (.pointer (some ⟨gb, 0, none⟩))
  rw [Nat.zero_add] at hst
  have hyl : ys.length = cs.length := by have := a5.1; omega
  have hgbA : gb ≠ go := by omega
  have hnew2 : Blk (wA.setCell ⟨go, k, none⟩ (.pointer (some ⟨gb, 0, none⟩))) gb k (-1, -1) := hnew.keep (grown_setCell _ _ _) (fun e => hgbA (by injection e))
  have hstlt : ∀ x ∈ st, x.1 ≠ k := fun x hx => by
    obtain ⟨i, hi, e⟩ := List.mem_iff_getElem.1 hx
    have := a4.lt i hi
    rw [e] at this
    omega
  refine ⟨t5.grown hg (fun g hg => by have := t3.lt g hg; omega), a2, s1, s2, ⟨_, hst.kept hg (fun g hg2 e => ?_), fun j hj => ?_, fun j hj hj2 => ?_⟩, ⟨zs, t1.kept hg (fun g hg2 => t1.ne t3 (by decide) g hg2), fun j hj => ?_⟩, ?_, fun g hg2 => ?_, fun x hx ho => ?_, fun x x' hx hx' ho ho' he => ?_, fun i hi => ?_, fun x hx ho hn => ?_⟩
  · simp [Value.ownBlock] at hg2
    subst hg2
    exact a10 _ e.symm rfl
  · by_cases e : j = k
    · subst e
      rw [List.getElem?_set_self (by omega)]
      have : ownOf cs j = some j := by unfold ownOf; rw [if_pos h1]
      rw [this]; show _ = some (ptr (upd pb j gb) j); unfold ptr; rw [upd_same]
    · rw [List.getElem?_set_ne (by omega), a6 j (by omega)]
      cases ho : ownOf cs j with
      | none => rfl
      | some p =>
        have := ownOf_le ho
        show some (ptr pb p) = some (ptr (upd pb k gb) p)
        unfold ptr; rw [upd_ne _ _ (by omega)]
  · rw [List.getElem?_set_ne (by omega)]; exact a7 j (by omega) hj2
  · obtain ⟨r', c1, c2⟩ := t2 j hj
    refine ⟨r', c1, ?_, fun g hg2 => ⟨(c2.2 g hg2).1, fun e => ?_⟩⟩
    · rw [← hrowV j hj]
      exact c2.1.kept hg (fun g hg2 => (c2.2 g hg2).2)
    · rcases hl g e.symm with h | h
      · exact (c2.2 g hg2).2 h.symm
      · have := (c2.1.lt g hg2).2; omega
  · have : (((k, (cs.getD k default).op) :: st).map fun x => ptr (upd pb k gb) x.1).reverse = (st.map fun x => ptr pb x.1).reverse ++ [.pointer (some ⟨gb, 0, none⟩)] := by
      rw [List.map_cons, List.reverse_cons]
      congr 1
      · congr 1
        refine List.map_congr_left fun x hx => ?_
        unfold ptr; rw [upd_ne _ _ (hstlt x hx)]
      · unfold ptr; rw [upd_same]
    rw [this]
    exact hq
  · rcases hl g hg2 with h | h
    · exact a10 g h
    · have : (wA.setCell ⟨go, k, none⟩ (.pointer (some ⟨gb, 0, none⟩))).heap.size = wA.heap.size := by simp [World.setCell]
      have := hpA.size
      omega
  · by_cases e : x = k
    · subst e
      rw [upd_same, upd_same]
      exact ⟨by omega, hnew2.keep hg (fun e2 => by have := hqlt gb e2.symm; omega)⟩
    · rw [upd_ne _ _ e, upd_ne _ _ e]
      obtain ⟨c1, c2⟩ := t4 x (by omega) ho
      exact ⟨c1, c2.keep hg (fun e2 => c2.ne_own t3 (by decide) e2.symm rfl)⟩
  · by_cases e : x = k
    · by_cases e' : x' = k
      · omega
      · rw [e, upd_same, upd_ne _ _ e'] at he
        have := hblt x' (by omega) ho'
        omega
    · by_cases e' : x' = k
      · rw [upd_ne _ _ e, e', upd_same] at he
        have := hblt x (by omega) ho
        omega
      · rw [upd_ne _ _ e, upd_ne _ _ e'] at he
        exact a12 x x' (by omega) (by omega) ho ho' he
  · cases i with
    | zero =>
      simp only [List.getElem_cons_zero]
      rw [upd_same]
      refine ⟨h1, by trivial, rfl, ⟨fun h => by omega, fun h => ?_⟩, by trivial⟩
      unfold Opens at h1; omega
    | succ i =>
      have hi' : i < st.length := by simpa using hi
      obtain ⟨b1, b2, b3, b4, b5⟩ := a13 i hi'
      have hne : (st[i]'hi').1 ≠ k := hstlt _ (List.getElem_mem hi')
      simp only [List.getElem_cons_succ] at b1 b2 b3 b4 b5 ⊢
      rw [upd_ne _ _ hne]
      refine ⟨b1, b2, ?_, b4, b5⟩
      rw [b3, hdr, eScan_cons, if_pos h1]
  · have hxk : x ≠ k := fun e => hn 0 (by simp) (by simp [e])
    rw [upd_ne _ _ hxk]
    exact a14 x (by omega) ho (fun i hi => hn (i + 1) (by simpa using hi))

end
end Go.Proofs.Ytokdfgodmhekmaa
