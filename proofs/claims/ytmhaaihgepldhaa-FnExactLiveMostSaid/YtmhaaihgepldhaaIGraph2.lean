/- The graph of a valid program, as the program makes it. No condition. -/
import Derived.Test.YtmhaaihgepldhaaIGraph
namespace Go.Proofs.Ytmhaaihgepldhaa
open Go.RowKit

theorem Tabs.own {w : World} {va vo : Value} {cs : List Cd} (h : Tabs w va vo cs) {k : Nat} (hk : k < cs.length) :
    ∃ A c, vo = .slice A cs.length c ∧ cs.length ≤ c ∧ c ≤ 9223372036854775807 ∧ ∃ b o, A = some ⟨b, o, none⟩ ∧ b < w.heap.size ∧
      ((∀ p, ownOf cs k = some p → p < cs.length → Opens (cs.getD p default) → ∃ g, w.cell? ⟨b, o + k, none⟩ = some (.pointer (some ⟨g, 0, none⟩)) ∧ g < w.heap.size ∧ w.cell? ⟨g, 0, none⟩ = some (.int .i64 p) ∧ w.cell? ⟨g, 1, none⟩ = some (.int .i64 (endAt cs p).2) ∧ w.cell? ⟨g, 2, none⟩ = some (.int .i64 (endAt cs p).1)) ∧
       (ownOf cs k = none → w.cell? ⟨b, o + k, none⟩ = some (.pointer none))) := by
  obtain ⟨pb, h1, h2, _⟩ := h
  obtain ⟨A, c, rfl, h3, h4, h5⟩ := h1
  obtain ⟨b, o, rfl, hb, hc⟩ := h5 (by omega)
  refine ⟨_, c, rfl, h3, h4, b, o, rfl, hb, fun p hp hp1 hp2 => ?_, fun hn => ?_⟩
  · obtain ⟨x1, x2, x3, x4⟩ := h2 p hp1 hp2
    refine ⟨pb p, ?_, x1, x2, x3, x4⟩
    rw [hc k (by omega)]; simp only [hp]; rfl
  · rw [hc k (by omega)]; simp only [hn]; rfl

def SuccPost (cs : List Cd) (k : Nat) (w : World) (e : Ending) (w' : World) : Prop :=
  ∃ v, e = .returned v ∧ OwnO w' w.heap.size 3 1 v (succs cs k).length ((succs cs k).map (.int .i64)) ∧ Pure w w'

theorem SuccPost.lit {cs : List Cd} {k n : Nat} {w : World} {xs : List Int} (hx : succs cs k = xs) (hn : xs.length = n) (h63 : n ≤ 64) :
    SuccPost cs k w (.returned (.slice (some ⟨w.heap.size, 0, none⟩) n n)) (w.alloc (.cells (xs.map (.int .i64)).toArray 3)) := by
  subst hn
  refine ⟨_, rfl, ?_, Pure.alloc (Pure.refl _) _⟩
  rw [hx]
  have := OwnO.lit (e := 3) (s := 1) w (xs.map (.int .i64)).toArray xs.length (Nat.le_refl _) (by omega) (by simp)
  simpa using this

set_option maxHeartbeats 1000000 in
set_option maxRecDepth 100000 in
theorem succ_ok (v va vo : Value) (cs : List Cd) (k : Nat) (w : World) (h : Codes w v cs) (hv : PValid cs) (ht : Tabs w va vo cs) (hk : k < cs.length) :
    Calls Try.prog 82 #[v, vo, .int .i64 k] w (SuccPost cs k w) := by
  have H := Lib.hid h
  obtain ⟨A, c, rfl, hnc, hcm⟩ := h.form
  clear h
  have hsmall := hv.2.1
  obtain ⟨A2, c2, rfl, hc2, hcm2, b2, o2, rfl, hb2, hown⟩ := ht.own hk
  have Hown := Lib.hid hown
  obtain ⟨b, o, rfl, hb, hc⟩ := H.out.at_ hk
  obtain ⟨cd, Hcd⟩ : ∃ cd, Hid (cs.getD k default = cd) := ⟨_, rfl⟩
  rw [Hcd.out] at hc
  have q0 := hc.c0
  have hpi := hv.pi hk
  unfold PI at hpi
  rw [Hcd.out] at hpi
  have HPI := Lib.hid hpi
  clear hpi hc hown ht hv
  by_cases hop : Opens cd
  · obtain ⟨e, oo, bi⟩ := HPI.out.1 hop
    have hends := bi.ends
    have he1 := bi.lt
    have he2 := bi.le
    have hoo : -1 ≤ oo ∧ oo < e := by
      rcases bi.el with h | ⟨q, h, _, h2, _⟩
      · omega
      · omega
    have h13o : cd.op = 13 → oo = -1 := fun h13 => by
      rcases bi.el with h | ⟨q, _, _, _, _, _, h⟩
      · exact h
      · rw [Hcd.out] at h; omega
    obtain ⟨hoo1, hoo2⟩ := hoo
    have hrow : succs cs k = if (if 0 ≤ oo then oo + 1 else (e : Int) + 1) = (k : Int) + 1 then [(k : Int) + 1] else [(k : Int) + 1, if 0 ≤ oo then oo + 1 else (e : Int) + 1] := by
      unfold succs; simp only []; rw [Hcd.out, if_pos hop, hends]
    obtain ⟨g, g1, g2, g3, g4, g5⟩ := Hown.out.1 k (by unfold ownOf; rw [Hcd.out, if_pos hop]) hk (by rw [Hcd.out]; exact hop)
    rw [hends] at g4 g5
    simp only at g4 g5
    have Hrow := Lib.hid hrow
    have hd12 : (cd.op == 12) = false := by unfold Opens at hop; rw [beq_eq_false_iff_ne]; omega
    have hd : (cd.op == 11) = true ∨ ((cd.op == 11) = false ∧ (cd.op == 13) = true ∧ oo = -1) := by
      unfold Opens at hop
      rcases hop with h | h
      · exact .inl (by simp [h])
      · exact .inr ⟨by simp [h], by simp [h], h13o h⟩
    clear hrow hends hop bi h13o HPI
    by_cases ho0 : 0 ≤ oo
    · have Hr2 : Hid (succs cs k = if oo + 1 = (k : Int) + 1 then [(k : Int) + 1] else [(k : Int) + 1, oo + 1]) := by have := Hrow.out; rw [if_pos ho0] at this; exact this
      have hd' : (cd.op == 11) = true := by
        rcases hd with h | ⟨_, _, h⟩
        · exact h
        · omega
      clear hd
      by_cases hto : oo + 1 = (k : Int) + 1
      · have Hr3 : Hid (succs cs k = [(k : Int) + 1]) := by have := Hr2.out; rw [if_pos hto] at this; exact this
        have hdt : (oo + 1 == (k : Int) + 1) = true := by rw [beq_iff_eq]; exact hto
        have Hto := Lib.hid hto
        clear hto
        go_enter Try.func82, Try.ntmps82
        go_wp2
        go_ret
        exact SuccPost.lit Hr3.out rfl (by decide)
      · have Hr3 : Hid (succs cs k = [(k : Int) + 1, oo + 1]) := by have := Hr2.out; rw [if_neg hto] at this; exact this
        have hdt : (oo + 1 == (k : Int) + 1) = false := by rw [beq_eq_false_iff_ne]; exact hto
        have Hto := Lib.hid hto
        clear hto
        go_enter Try.func82, Try.ntmps82
        go_wp2
        go_ret
        exact SuccPost.lit Hr3.out rfl (by decide)
    · have Hr2 : Hid (succs cs k = if (e : Int) + 1 = (k : Int) + 1 then [(k : Int) + 1] else [(k : Int) + 1, (e : Int) + 1]) := by have := Hrow.out; rw [if_neg ho0] at this; exact this
      have hto : ¬ ((e : Int) + 1 = (k : Int) + 1) := by omega
      have Hr3 : Hid (succs cs k = [(k : Int) + 1, (e : Int) + 1]) := by have := Hr2.out; rw [if_neg hto] at this; exact this
      have hdt : ((e : Int) + 1 == (k : Int) + 1) = false := by rw [beq_eq_false_iff_ne]; exact hto
      clear hto
      rcases hd with hd | ⟨hd, hd2, _⟩
      all_goals
        go_enter Try.func82, Try.ntmps82
        go_wp2
        go_ret
        exact SuccPost.lit Hr3.out rfl (by decide)
  · have hd11 : (cd.op == 11) = false := by unfold Opens at hop; rw [beq_eq_false_iff_ne]; omega
    have hd13 : (cd.op == 13) = false := by unfold Opens at hop; rw [beq_eq_false_iff_ne]; omega
    have Hop := Lib.hid hop
    clear hop
    by_cases h12 : cd.op = 12
    · have hd12 : (cd.op == 12) = true := by simp [h12]
      obtain ⟨bb, e, bi⟩ := HPI.out.2.1 h12
      have he1 := bi.lt
      have he2 := bi.le
      have har : aroundAt cs k = bb := by
        rcases bi.el with e' | ⟨q, e', _, _, _, e3, _⟩
        · omega
        · have : q = k := by omega
          subst this; exact e3
      have hends := bi.ends
      have hrow : succs cs k = [(e : Int) + 1] := by
        unfold succs; simp only []; rw [Hcd.out, if_neg Hop.out, if_pos h12, har, Int.toNat_natCast, bi.ends]
      obtain ⟨g, g1, g2, g3, g4, g5⟩ := Hown.out.1 bb (by unfold ownOf; rw [Hcd.out, if_neg Hop.out, if_pos (.inl h12), har, Int.toNat_natCast]) (by omega) bi.op
      rw [hends] at g4 g5
      simp only at g4 g5
      have Hrow := Lib.hid hrow
      clear hrow har bi h12 hends HPI
      go_enter Try.func82, Try.ntmps82
      go_wp2
      go_ret
      exact SuccPost.lit Hrow.out rfl (by decide)
    · have hd12 : (cd.op == 12) = false := by simp [h12]
      by_cases h14 : cd.op = 14
      · have hd14 : (cd.op == 14) = true := by simp [h14]
        obtain ⟨bb, oo, bi⟩ := HPI.out.2.2 h14
        have he1 := bi.lt
        have he2 := bi.le
        have har : aroundAt cs k = bb := bi.ar
        have hbn : bb < cs.length := by omega
        have hob := bi.op
        obtain ⟨b0, o0, hb0e, hb0, hc0⟩ := H.out.at_ hbn
        injection hb0e with hb0e
        injection hb0e with e1 e2
        subst e1 e2
        obtain ⟨cp, Hcp⟩ : ∃ cp, Hid (cs.getD bb default = cp) := ⟨_, rfl⟩
        rw [Hcp.out] at hc0 hob
        have hcp := hc0.c0
        clear hc0
        have hrow : succs cs k = if cp.op = 13 then [(bb : Int) + 1, (k : Int) + 1] else [(k : Int) + 1] := by
          unfold succs; simp only []; rw [Hcd.out, if_neg Hop.out, if_neg h12, if_pos h14, har, Int.toNat_natCast, Hcp.out]
        obtain ⟨g, g1, g2, g3, g4, g5⟩ := Hown.out.1 bb (by unfold ownOf; rw [Hcd.out, if_neg Hop.out, if_pos (.inr h14), har, Int.toNat_natCast]) (by omega) bi.op
        have Hrow := Lib.hid hrow
        clear hrow har bi h12 h14 g4 g5 HPI
        unfold Opens at hob
        by_cases hl13 : cp.op = 13
        · have hdl : (cp.op == 11) = false := by rw [hl13]; rfl
          have Hr3 : Hid (succs cs k = [(bb : Int) + 1, (k : Int) + 1]) := by have := Hrow.out; rw [if_pos hl13] at this; exact this
          clear hl13 hob
          go_enter Try.func82, Try.ntmps82
          go_wp2
          go_ret
          exact SuccPost.lit Hr3.out rfl (by decide)
        · have hdl : (cp.op == 11) = true := by rw [beq_iff_eq]; omega
          have Hr3 : Hid (succs cs k = [(k : Int) + 1]) := by have := Hrow.out; rw [if_neg hl13] at this; exact this
          clear hl13 hob
          go_enter Try.func82, Try.ntmps82
          go_wp2
          go_ret
          exact SuccPost.lit Hr3.out rfl (by decide)
      · have hd14 : (cd.op == 14) = false := by simp [h14]
        have Hr3 : Hid (succs cs k = [(k : Int) + 1]) := by
          unfold succs; simp only []; rw [Hcd.out, if_neg Hop.out, if_neg h12, if_neg h14]; exact Lib.hid rfl
        have g1 := Hown.out.2 (by unfold ownOf; rw [Hcd.out, if_neg Hop.out, if_neg (by omega)])
        clear h12 h14 HPI
        go_enter Try.func82, Try.ntmps82
        go_wp2
        go_ret
        exact SuccPost.lit Hr3.out rfl (by decide)

/-- The graph under way: the first k rows are there, the others not yet. -/
def RowsM (w : World) (B g N k : Nat) (S : Nat → List Int) : Prop :=
  ∃ ys, OwnO w B 53 1 (.slice (some ⟨g, 0, none⟩) N N) N ys ∧ (∀ j, j < k → ∃ r, ys[j]? = some r ∧ OwnO w B 3 1 r (S j).length ((S j).map (.int .i64))) ∧ ∀ j, k ≤ j → j < N → ys[j]? = some (.slice none 0 0)
theorem RowsM.pure {w w' : World} {B g N k : Nat} {S : Nat → List Int} (h : RowsM w B g N k S) (hp : Pure w w') : RowsM w' B g N k S := by
  obtain ⟨ys, h1, h2, h3⟩ := h
  exact ⟨ys, h1.pure hp, fun j hj => let ⟨r, a, b⟩ := h2 j hj; ⟨r, a, b.pure hp⟩, h3⟩
theorem RowsM.facts {w : World} {B g N k : Nat} {S : Nat → List Int} (h : RowsM w B g N k S) (hk : k < N) :
    (∃ u, w.cell? ⟨g, k, none⟩ = some u) ∧ w.frozen? ⟨g, k, none⟩ = false ∧ g < w.heap.size ∧ B ≤ g := by
  obtain ⟨ys, h1, h2, h3⟩ := h
  have := h1.cellSome k (by omega)
  rw [Nat.zero_add] at this
  exact ⟨this, h1.frozen k, (h1.lt g rfl).2, (h1.lt g rfl).1⟩
theorem RowsM.put {w : World} {B g N k : Nat} {r : Value} {S : Nat → List Int} (h : RowsM w B g N k S) (hk : k < N) (hr : OwnO w B 3 1 r (S k).length ((S k).map (.int .i64))) :
    RowsM (w.setCell ⟨g, k, none⟩ r) B g N (k + 1) S := by
  obtain ⟨ys, h1, h2, h3⟩ := h
  have hst := h1.stored k r
  rw [Nat.zero_add] at hst
  have hl : k < ys.length := by have := h1.1; omega
  have hg : w.grownBy (w.setCell ⟨g, k, none⟩ r) (some g) := grown_setCell w ⟨g, k, none⟩ r
  refine ⟨_, hst, fun j hj => ?_, fun j hj hj2 => ?_⟩
  · by_cases e : j = k
    · subst e
      exact ⟨r, by rw [List.getElem?_set_self hl], hr.kept hg (fun g' hg' => hr.ne h1 (by decide) g' hg')⟩
    · obtain ⟨r', a, b⟩ := h2 j (by omega)
      exact ⟨r', by rw [List.getElem?_set_ne (by omega)]; exact a, b.kept hg (fun g' hg' => b.ne h1 (by decide) g' hg')⟩
  · rw [List.getElem?_set_ne (by omega)]; exact h3 j (by omega) hj2
theorem RowsM.rows {w : World} {B g n : Nat} {S : Nat → List Int} (h : RowsM w B g (n + 1) n S) (hS : S n = []) : RowsO w B (.slice (some ⟨g, 0, none⟩) (n + 1) (n + 1)) (n + 1) S (h.choose) := by
  obtain ⟨h1, h2, h3⟩ := h.choose_spec
  refine ⟨h1, fun j hj => ?_⟩
  by_cases e : j = n
  · subst e
    exact ⟨_, h3 j (Nat.le_refl _) hj, by rw [hS]; exact OwnO.of_own (World.ownsRow_nil _ _ _ _)⟩
  · exact h2 j (by omega)

set_option maxHeartbeats 1000000 in
set_option maxRecDepth 100000 in
theorem igraph_ok (v : Value) (cs : List Cd) (w : World) (h : Codes w v cs) (hv : PValid cs) :
    Calls Try.prog 56 #[v] w (GPost cs w) := by
  have H := Lib.hid h
  have HV := Lib.hid hv
  have hsmall := hv.2.1
  obtain ⟨A, c, rfl, hnc, hcm⟩ := h.form
  clear h hv
  go_enter Try.func56, Try.ntmps56
  go_wp2_with fail
  refine (blocks_any _ cs _ H.out hsmall).mono ?_
  rintro e w1 ⟨hp1, hm⟩
  rw [HV.out.2.2] at hm
  obtain ⟨va, vo, rfl, ht⟩ := hm
  have HT := Lib.hid (ht rfl)
  clear ht
  go_wp2_with (at_make; go_must (refine wl_make elInts rfl _ _ rfl w.heap.size _ _ _ _ (cs.length + 1) rfl rfl (by omega) (by omega) (by omega) (by omega) hp1.size ?_); intro w2 hown hp hsz; have hO := Lib.hid (OwnO.of_own hown); have hp2 := Lib.hid hp; clear hown hp)
  have hM : RowsM w2 w.heap.size w1.heap.size (cs.length + 1) 0 (gRow cs) := by
    refine ⟨_, hO.out, fun j hj => absurd hj (by omega), fun j _ hj => ?_⟩
    rw [zeros_get _ _ _ (by simpa using hj)]; simp [Nat.mod_one]
  have HM := Lib.hid hM
  clear hM hO
  go_loopg [20, 7] cs.length (fun gk i _ wr => ∃ (k : Nat), gk + k = cs.length ∧ i = .int .i64 k ∧ Pure w1 wr ∧ RowsM wr w.heap.size w1.heap.size (cs.length + 1) k (gRow cs))
  case atStart => exact ⟨0, rfl, rfl, hp2.out, HM.out⟩
  case round =>
    clear HM hp2
    obtain ⟨k, hgk, rfl, hp, hrows⟩ := hrel
    have hpw := hp1.trans hp
    have Hgk := Lib.hid hgk
    have HM := Lib.hid hrows
    have hkn : k ≤ cs.length := by omega
    clear hgk hrows
    by_cases hlt : k < cs.length
    · go_wp2_with fail
      refine (succ_ok _ va vo cs k _ (H.out.keep hpw) HV.out (HT.out.keep hp) hlt).mono ?_
      rintro e w3 ⟨r, rfl, hr, hp3⟩
      have hpp := hp.trans hp3
      have HM3 := Lib.hid (HM.out.pure hp3)
      obtain ⟨⟨u, f1⟩, f2, f3, f4⟩ := HM3.out.facts (by omega)
      have hrow : gRow cs k = succs cs k := if_pos hlt
      have hput := Lib.hid (HM3.out.put (r := r) (by omega) (by rw [hrow]; exact OwnO.base hr hpw.size))
      have HP : Hid (Pure w1 (w3.setCell ⟨w1.heap.size, k, none⟩ r)) := Lib.hid (Pure.setCell hpp (Nat.le_refl _) _)
      obtain ⟨A9, c9, rfl⟩ := hr.form
      clear hr hrow
      go_wp2
      go_roundg (cs.length - (k + 1))
      case measure => have := Hgk.out; omega
      case rel => exact ⟨k + 1, by have := Hgk.out; omega, by go_num, HP.out, hput.out⟩
    · have hkl : k = cs.length := by omega
      subst hkl
      go_wp2
      go_ret
      refine ⟨_, rfl, ?_, hpw⟩
      have := (HM.out.rows (if_neg (by omega))).rows
      rw [graph_rows] at this
      exact this

end Go.Proofs.Ytmhaaihgepldhaa
