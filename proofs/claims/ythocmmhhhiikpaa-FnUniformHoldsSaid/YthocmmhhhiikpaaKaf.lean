/- The graph of a program, as the reference makes it. Which programs are valid, where blocks open, and the graph of a program, as the program finds it. The graph of a valid program, as the program makes it. No condition. -/
import Derived.Test.YthocmmhhhiikpaaKac
import Derived.Test.YthocmmhhhiikpaaKad
import Derived.Test.YthocmmhhhiikpaaKae

namespace Go.Proofs.Ythocmmhhhiikpaa
open Go.RowKit

/-- A table of rows of numbers, all of the call's own. -/
def RowsO (w : World) (B : Nat) (q : Value) (n : Nat) (S : Nat → List Int) (vs : List Value) : Prop :=
  OwnO w B 24 1 q n vs ∧ ∀ j, j < n → ∃ r, vs[j]? = some r ∧ OwnO w B 3 1 r (S j).length ((S j).map (.int .i64))
theorem RowsO.pure {w w' : World} {B n : Nat} {q : Value} {S : Nat → List Int} {vs : List Value} (h : RowsO w B q n S vs) (hp : Pure w w') : RowsO w' B q n S vs :=
  ⟨h.1.pure hp, fun j hj => let ⟨r, a, b⟩ := h.2 j hj; ⟨r, a, b.pure hp⟩⟩
theorem RowsO.push {w w' : World} {B n : Nat} {q q' r : Value} {S : Nat → List Int} {vs : List Value} (h : RowsO w B q n S vs) (hr : OwnO w B 3 1 r (S n).length ((S n).map (.int .i64))) (hq : OwnO w' B 24 1 q' (n + 1) (vs ++ [r])) (hg : w.grownBy w' q.ownBlock) :
    RowsO w' B q' (n + 1) S (vs ++ [r]) := by
  refine ⟨hq, fun j hj => ?_⟩
  have hl : vs.length = n := by have := h.1.1; omega
  by_cases e : j = n
  · subst e
    exact ⟨r, by rw [List.getElem?_append_right (by omega), hl]; simp, hr.kept hg (fun g hg2 => hr.ne h.1 (by decide) g hg2)⟩
  · obtain ⟨r', a, b⟩ := h.2 j (by omega)
    exact ⟨r', by rw [List.getElem?_append_left (by omega)]; exact a, b.kept hg (fun g hg2 => b.ne h.1 (by decide) g hg2)⟩
theorem Ints.of_ownO {w : World} {B e : Nat} {v : Value} {ys : List Int} (h : OwnO w B e 1 v ys.length (ys.map (.int .i64))) : Ints w v ys := by
  unfold Ints
  refine Cells.of_ownO h fun j hj => ?_
  have : j < ys.length := by omega
  simp [List.getD_eq_getElem?_getD, this]
theorem RowsO.rows {w : World} {B n : Nat} {q : Value} {S : Nat → List Int} {vs : List Value} (h : RowsO w B q n S vs) : IntRows w q ((List.range n).map S) := by
  have hl : ((List.range n).map S).length = n := by simp
  obtain ⟨A, c, rfl⟩ := h.1.form
  have hc := Cells.of_ownO (f := fun j => vs.getD j undef) h.1 (fun j hj => by
    obtain ⟨r, a, _⟩ := h.2 j (by omega)
    simp [List.getD_eq_getElem?_getD, a])
  obtain ⟨A', c', hv, h1, h2, h3⟩ := hc
  injection hv with e1 e2 e3
  subst e1 e3
  refine ⟨A, c, by rw [hl], by omega, h2, fun hn => ?_⟩
  rw [hl] at hn
  obtain ⟨b, o, e, hb, hc⟩ := h3 hn
  refine ⟨b, o, e, hb, fun k hk => ?_⟩
  rw [hl] at hk
  obtain ⟨r, a, b2⟩ := h.2 k hk
  refine ⟨r, ?_, ?_⟩
  · rw [hc k (by omega)]; simp [List.getD_eq_getElem?_getD, a]
  · have : ((List.range n).map S).getD k [] = S k := by simp [List.getD_eq_getElem?_getD, hk]
    rw [this]
    exact Ints.of_ownO b2

/-- The rows of a program's graph, the end's among them. -/
def gRow (cs : List Cd) (j : Nat) : List Int := if j < cs.length then succs cs j else []
theorem graph_rows (cs : List Cd) : (List.range (cs.length + 1)).map (gRow cs) = graph cs := by
  unfold graph
  rw [List.range_succ, List.map_append]
  congr 1
  · refine List.map_congr_left fun j hj => ?_
    unfold gRow; rw [if_pos (by simpa using hj)]
  · simp [gRow]

def GPost (cs : List Cd) (w : World) (e : Ending) (w' : World) : Prop := ∃ v, e = .returned v ∧ IntRows w' v (graph cs) ∧ Pure w w'

end Go.Proofs.Ythocmmhhhiikpaa

namespace Go.Proofs.Ythocmmhhhiikpaa
open Go.RowKit

set_option maxHeartbeats 1000000 in
set_option maxRecDepth 100000 in
theorem ipv_any (v : Value) (cs : List Cd) (w : World) (h : Codes w v cs) (hsmall : cs.length ≤ 1048576) (B : Bool) (hB : B = true ↔ PValid cs) :
    Calls Try.prog 36 #[v] w fun e w' => e = .returned (.bool B) ∧ Pure w w' := by
  have H := Lib.hid h
  have HB := Lib.hid hB
  obtain ⟨A, c, rfl, hnc, hcm⟩ := h.form
  clear h hB
  have HBF : Hid (¬ PValid cs → false = B) := fun h => by
    cases hb : B
    · rfl
    · exact absurd (HB.out.1 hb) h
  by_cases h40 : 40 < cs.length
  · go_enter Try.func36, Try.ntmps36
    go_wp2
    go_ret
    exact ⟨ret_bool (HBF.out (fun h => by have := h.2.1; omega)), Pure.refl _⟩
  · have h40' : cs.length ≤ 40 := by omega
    clear h40
    go_enter Try.func36, Try.ntmps36
    go_wp2
    go_loopg [13] cs.length (fun gk i wr => ∃ k : Nat, gk + k = cs.length ∧ i = .int .i64 k ∧ Pure w wr ∧ ∀ j, j < k → CdOk (cs.getD j default))
    case atStart => exact ⟨0, rfl, rfl, Pure.refl _, fun j hj => absurd hj (by omega)⟩
    case round =>
      obtain ⟨k, hgk, rfl, hp, hall⟩ := hrel
      have Hgk := Lib.hid hgk
      have Hall := Lib.hid hall
      have hkn : k ≤ cs.length := by omega
      clear hgk hall
      by_cases hlt : k < cs.length
      · obtain ⟨b, o, rfl, hb, hc⟩ := H.out.at_ hlt
        obtain ⟨cd, Hcd⟩ : ∃ cd, Hid (cs.getD k default = cd) := ⟨_, rfl⟩
        have hat := hc.keep hp hb
        rw [Hcd.out] at hat
        obtain ⟨q0, q1, q2, q3⟩ := hat
        clear hc
        have hpA := Lib.hid (Pure.alloc hp (.cells #[.int .i64 cd.op, .int .i64 cd.a, .int .i64 cd.b, .int .i64 cd.c] 38))
        by_cases hok : CdOk cd
        · have Hok := Lib.hid hok; clear hok
          have Hnext : Hid (∀ j, j < k + 1 → CdOk (cs.getD j default)) := fun j hj => by
            by_cases e : j = k
            · rw [e, Hcd.out]; exact Hok.out
            · exact Hall.out j (by omega)
          go_wp2_with fail
          refine (icv_any cd _ true (by simp [Hok.out])).mono ?_
          rintro e w1 ⟨rfl, hp1⟩
          have hp2 := Lib.hid (hpA.out.trans hp1)
          go_wp2
          go_roundg (cs.length - (k + 1))
          case measure => have := Hgk.out; omega
          case rel => exact ⟨k + 1, by have := Hgk.out; omega, by go_num, hp2.out, Hnext.out⟩
        · have Hok := Lib.hid hok; clear hok
          have hbad : ¬ PValid cs := fun h => Hok.out (by rw [← Hcd.out]; exact h.1 _ (cdOk_mem hlt))
          have Hbad := Lib.hid hbad
          clear hbad
          go_wp2_with fail
          refine (icv_any cd _ false (by simp [Hok.out])).mono ?_
          rintro e w1 ⟨rfl, hp1⟩
          have hp2 := Lib.hid (hpA.out.trans hp1)
          go_wp2
          go_ret
          exact ⟨ret_bool (HBF.out Hbad.out), hp2.out⟩
      · have hkl : k = cs.length := by omega
        subst hkl
        have Hcd : Hid (∀ c ∈ cs, CdOk c) := cdOk_all Hall.out
        go_wp2_with fail
        refine (blocks_any _ cs _ (H.out.keep hp) h40').mono ?_
        rintro e w2 ⟨hp2, hm⟩
        have hp3 := Lib.hid (hp.trans hp2)
        cases hs : sscan cs 0 [] with
        | none =>
          rw [hs] at hm
          subst hm
          have Hs := Lib.hid hs
          clear hs
          go_wp2
          go_ret
          exact ⟨ret_bool (HBF.out (fun h => by have := h.2.2; rw [Hs.out] at this; cases this)), hp3.out⟩
        | some st =>
          rw [hs] at hm
          obtain ⟨va, vo, rfl, ht⟩ := hm
          have Hs := Lib.hid hs
          have Ht := Lib.hid ht
          clear hs ht
          obtain ⟨D, HD⟩ : ∃ D, Hid (decide (st.length = 0) = D) := ⟨_, rfl⟩
          rw [HD.out]
          have hDB : D = B := by
            have h1 := HD.out
            have h2 := HB.out
            cases D
            · refine HBF.out fun h => ?_
              have := h.2.2
              rw [Hs.out] at this
              injection this with this
              simp [this] at h1
            · simp at h1
              subst h1
              exact (h2.2 ⟨Hcd.out, h40', Hs.out⟩).symm
          subst hDB
          clear HD
          go_wp2
          go_ret
          exact ⟨rfl, hp3.out⟩

end Go.Proofs.Ythocmmhhhiikpaa

namespace Go.Proofs.Ythocmmhhhiikpaa
open Go.RowKit

theorem Tabs.own {w : World} {va vo : Value} {cs : List Cd} (h : Tabs w va vo cs) {k : Nat} (hk : k < cs.length) :
    ∃ A c, vo = .slice A cs.length c ∧ cs.length ≤ c ∧ c ≤ 9223372036854775807 ∧ ∃ b o, A = some ⟨b, o, none⟩ ∧ b < w.heap.size ∧
      ((∀ p, ownOf cs k = some p → p < cs.length → Opens (cs.getD p default) → ∃ g, w.cell? ⟨b, o + k, none⟩ = some (.pointer (some ⟨g, 0, none⟩)) ∧ g < w.heap.size ∧ w.cell? ⟨g, 0, none⟩ = some (.int .i64 p) ∧ w.cell? ⟨g, 1, none⟩ = some (.int .i64 (endAt cs p).2) ∧ w.cell? ⟨g, 2, none⟩ = some (.int .i64 (endAt cs p).1)) ∧
       (ownOf cs k = none → w.cell? ⟨b, o + k, none⟩ = some (.pointer none))) := by
  obtain ⟨pb, h1, h2, _⟩ := h
  obtain ⟨A, c, rfl, h3, h4, h5⟩ := h1
  obtain ⟨b, o, rfl, hb, hc⟩ := h5 (by omega)
  refine ⟨_, c, rfl, h3, h4, b, o, rfl, hb, fun p hp hp1 hp2 => ?_, fun hn => ?_⟩
  · obtain ⟨x1, x2, x3, x4⟩ := h2 p hp1 hp2
    refine ⟨pb p, ?_, x1, x2, x3, x4⟩
    rw [hc k (by omega)]; simp only [hp]; rfl
  · rw [hc k (by omega)]; simp only [hn]; rfl

def SuccPost (cs : List Cd) (k : Nat) (w : World) (e : Ending) (w' : World) : Prop :=
  ∃ v, e = .returned v ∧ OwnO w' w.heap.size 3 1 v (succs cs k).length ((succs cs k).map (.int .i64)) ∧ Pure w w'

theorem SuccPost.lit {cs : List Cd} {k n : Nat} {w : World} {xs : List Int} (hx : succs cs k = xs) (hn : xs.length = n) (h63 : n ≤ 64) :
    SuccPost cs k w (.returned (.slice (some ⟨w.heap.size, 0, none⟩) n n)) (w.alloc (.cells (xs.map (.int .i64)).toArray 3)) := by
  subst hn
  refine ⟨_, rfl, ?_, Pure.alloc (Pure.refl _) _⟩
  rw [hx]
  have := OwnO.lit (e := 3) (s := 1) w (xs.map (.int .i64)).toArray xs.length (Nat.le_refl _) (by omega) (by simp)
  simpa using this

/-- The graph under way: the first k rows are there, the others not yet. -/
def RowsM (w : World) (B g N k : Nat) (S : Nat → List Int) : Prop :=
  ∃ ys, OwnO w B 24 1 (.slice (some ⟨g, 0, none⟩) N N) N ys ∧ (∀ j, j < k → ∃ r, ys[j]? = some r ∧ OwnO w B 3 1 r (S j).length ((S j).map (.int .i64))) ∧ ∀ j, k ≤ j → j < N → ys[j]? = some (.slice none 0 0)
theorem RowsM.pure {w w' : World} {B g N k : Nat} {S : Nat → List Int} (h : RowsM w B g N k S) (hp : Pure w w') : RowsM w' B g N k S := by
  obtain ⟨ys, h1, h2, h3⟩ := h
  exact ⟨ys, h1.pure hp, fun j hj => let ⟨r, a, b⟩ := h2 j hj; ⟨r, a, b.pure hp⟩, h3⟩
theorem RowsM.facts {w : World} {B g N k : Nat} {S : Nat → List Int} (h : RowsM w B g N k S) (hk : k < N) :
    (∃ u, w.cell? ⟨g, k, none⟩ = some u) ∧ w.frozen? ⟨g, k, none⟩ = false ∧ g < w.heap.size ∧ B ≤ g := by
  obtain ⟨ys, h1, h2, h3⟩ := h
  have := h1.cellSome k (by omega)
  rw [Nat.zero_add] at this
  exact ⟨this, h1.frozen k, (h1.lt g rfl).2, (h1.lt g rfl).1⟩
theorem RowsM.put {w : World} {B g N k : Nat} {r : Value} {S : Nat → List Int} (h : RowsM w B g N k S) (hk : k < N) (hr : OwnO w B 3 1 r (S k).length ((S k).map (.int .i64))) :
    RowsM (w.setCell ⟨g, k, none⟩ r) B g N (k + 1) S := by
  obtain ⟨ys, h1, h2, h3⟩ := h
  have hst := h1.stored k r
  rw [Nat.zero_add] at hst
  have hl : k < ys.length := by have := h1.1; omega
  have hg : w.grownBy (w.setCell ⟨g, k, none⟩ r) (some g) := grown_setCell w ⟨g, k, none⟩ r
  refine ⟨_, hst, fun j hj => ?_, fun j hj hj2 => ?_⟩
  · by_cases e : j = k
    · subst e
      exact ⟨r, by rw [List.getElem?_set_self hl], hr.kept hg (fun g' hg' => hr.ne h1 (by decide) g' hg')⟩
    · obtain ⟨r', a, b⟩ := h2 j (by omega)
      exact ⟨r', by rw [List.getElem?_set_ne (by omega)]; exact a, b.kept hg (fun g' hg' => b.ne h1 (by decide) g' hg')⟩
  · rw [List.getElem?_set_ne (by omega)]; exact h3 j (by omega) hj2
theorem RowsM.rows {w : World} {B g n : Nat} {S : Nat → List Int} (h : RowsM w B g (n + 1) n S) (hS : S n = []) : RowsO w B (.slice (some ⟨g, 0, none⟩) (n + 1) (n + 1)) (n + 1) S (h.choose) := by
  obtain ⟨h1, h2, h3⟩ := h.choose_spec
  refine ⟨h1, fun j hj => ?_⟩
  by_cases e : j = n
  · subst e
    exact ⟨_, h3 j (Nat.le_refl _) hj, by rw [hS]; exact OwnO.of_own (World.ownsRow_nil _ _ _ _)⟩
  · exact h2 j (by omega)

end Go.Proofs.Ythocmmhhhiikpaa
