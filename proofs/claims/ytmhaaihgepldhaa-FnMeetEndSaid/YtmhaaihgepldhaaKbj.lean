/- The program's graph of a program, for all programs; equal lists of rows are found equal; the program's PostDominates. No condition. -/
import Derived.Test.YtmhaaihgepldhaaKbd
import Derived.Test.YtmhaaihgepldhaaKbi

namespace Go.Proofs.Ytmhaaihgepldhaa
open Go.RowKit

/-- The rows of the graph, none for programs that are not valid. -/
def grX (cs : List Cd) (xss : List (List Int)) : Prop := (PValid cs → xss = graph cs) ∧ (¬ PValid cs → xss = [])
def GAll (cs : List Cd) (w : World) (e : Ending) (w' : World) : Prop := ∃ v xss, e = .returned v ∧ IntRows w' v xss ∧ grX cs xss ∧ Pure w w'
theorem grX.unique {cs : List Cd} {xss yss : List (List Int)} (h : grX cs xss) (k : grX cs yss) : xss = yss := by
  by_cases hv : PValid cs
  · rw [h.1 hv, k.1 hv]
  · rw [h.2 hv, k.2 hv]

set_option maxHeartbeats 1000000 in
set_option maxRecDepth 100000 in
theorem gno_any (v : Value) (cs : List Cd) (w : World) (h : Codes w v cs) (hlen : cs.length ≤ 1048576) (hv : ¬ PValid cs) :
    Calls Try.prog 33 #[v] w fun e w' => (∃ v, e = .returned v ∧ IntRows w' v []) ∧ Pure w w' := by
  have H := Lib.hid h
  have HV := Lib.hid hv
  obtain ⟨A, c, rfl, hnc, hcm⟩ := h.form
  clear h hv
  have hO0 : Hid (OwnO (w.alloc (.cells #[] 53)) w.heap.size 53 1 (.slice (some ⟨w.heap.size, 0, none⟩) 0 0) 0 []) := Lib.hid (OwnO.empty_lit (Nat.le_refl _))
  have hpa := Lib.hid (Pure.alloc (Pure.refl w) (.cells #[] 53))
  go_enter Try.func33, Try.ntmps33
  go_wp2
  go_loopg [4, 3] 0 (fun gk i q wr => i = .int .i64 0 ∧ q = .slice (some ⟨w.heap.size, 0, none⟩) 0 0 ∧ Pure w wr)
  case atStart => exact ⟨rfl, rfl, hpa.out⟩
  case round =>
    obtain ⟨rfl, rfl, hp⟩ := hrel
    by_cases h0 : 0 < cs.length
    · go_wp2_with fail
      refine (spv_any _ cs _ (H.out.keep hp) hlen false (by simp [HV.out])).mono ?_
      rintro e w1 ⟨rfl, hp1⟩
      have hpp := hp.trans hp1
      go_wp2_with fail
      refine (spv_any _ cs _ (H.out.keep hpp) hlen false (by simp [HV.out])).mono ?_
      rintro e w2 ⟨rfl, hp2⟩
      go_wp2
      go_ret
      exact ⟨⟨_, rfl, _, _, rfl, Nat.le_refl _, by simp, fun h => absurd h (by simp)⟩, hpp.trans hp2⟩
    · go_wp2_with fail
      refine (spv_any _ cs _ (H.out.keep hp) hlen false (by simp [HV.out])).mono ?_
      rintro e w2 ⟨rfl, hp2⟩
      go_wp2
      go_ret
      exact ⟨⟨_, rfl, _, _, rfl, Nat.le_refl _, by simp, fun h => absurd h (by simp)⟩, hp.trans hp2⟩


set_option maxHeartbeats 1000000 in
theorem sgo_any (v : Value) (cs : List Cd) (w : World) (h : Codes w v cs) (hlen : cs.length ≤ 1048576) :
    Calls Try.prog 33 #[v] w (GAll cs w) := by
  by_cases hv : PValid cs
  · refine (sgraph_ok v cs w h hv).mono ?_
    rintro e w1 ⟨vg, rfl, hg, hp⟩
    exact ⟨vg, _, rfl, hg, ⟨fun _ => rfl, fun hn => absurd hv hn⟩, hp⟩
  · refine (gno_any v cs w h hlen hv).mono ?_
    rintro e w1 ⟨⟨vg, rfl, hg⟩, hp⟩
    exact ⟨vg, [], rfl, hg, ⟨fun hn => absurd hn hv, fun _ => rfl⟩, hp⟩

set_option maxHeartbeats 1000000 in
theorem igo_any (v : Value) (cs : List Cd) (w : World) (h : Codes w v cs) (hlen : cs.length ≤ 1048576) :
    Calls Try.prog 31 #[v] w (GAll cs w) := by
  have H := Lib.hid h
  obtain ⟨A, c, rfl, hnc, hcm⟩ := h.form
  clear h
  by_cases hv : PValid cs
  · have HV := Lib.hid hv
    clear hv
    go_enter Try.func31, Try.ntmps31
    go_wp2_with fail
    refine (ipv_any _ cs _ H.out hlen true (by simp [HV.out])).mono ?_
    rintro e w1 ⟨rfl, hp1⟩
    go_wp2_with fail
    refine (igraph_ok _ cs _ (H.out.keep hp1) HV.out).mono ?_
    rintro e w4 ⟨vg, rfl, hg, hp4⟩
    have HG := Lib.hid hg
    clear hg
    go_wp2
    go_ret
    exact ⟨vg, _, rfl, HG.out, ⟨fun _ => rfl, fun hn => absurd HV.out hn⟩, hp1.trans hp4⟩
  · have HV := Lib.hid hv
    clear hv
    go_enter Try.func31, Try.ntmps31
    go_wp2_with fail
    refine (ipv_any _ cs _ H.out hlen false (by simp [HV.out])).mono ?_
    rintro e w1 ⟨rfl, hp1⟩
    go_wp2
    go_ret
    exact ⟨_, [], rfl, ⟨none, 0, rfl, by simp, by omega, fun h => absurd h (by simp)⟩, ⟨fun hn => absurd hn HV.out, fun _ => rfl⟩, hp1⟩

set_option maxHeartbeats 2000000 in
set_option maxRecDepth 100000 in
theorem sameRows_same (v v' : Value) (xss : List (List Int)) (w : World) (h : IntRows w v xss) (h' : IntRows w v' xss) (hl : xss.length ≤ 1048576) (hr : ∀ k, k < xss.length → (xss.getD k []).length ≤ 1048576) :
    Calls Try.prog 32 #[v, v'] w fun e w' => e = .returned (.bool true) ∧ Pure w w' := by
  have HF := Lib.hid h
  have HF' := Lib.hid h'
  have HR := Lib.hid hr
  obtain ⟨A, c, rfl, h1, h2, _⟩ := h
  obtain ⟨A', c', rfl, h1', h2', _⟩ := h'
  have hww : ((xss.length : Int) != xss.length) = false := by simp
  clear hr
  go_enter Try.func32, Try.ntmps32
  go_wp2_with fail
  go_loopg [5] xss.length (fun gk i wr => ∃ k : Nat, gk + k = xss.length ∧ i = .int .i64 k ∧ Pure w wr)
  case atStart => exact ⟨0, rfl, rfl, Pure.refl _⟩
  case round =>
    obtain ⟨k, hgk, rfl, hp⟩ := hrel
    have Hgk := Lib.hid hgk
    have HP := Lib.hid hp
    have hkn : k ≤ xss.length := by omega
    clear hgk
    by_cases hlt : k < xss.length
    · obtain ⟨a1, c1, e1, _, _, g1⟩ := HF.out.keep hp
      injection e1 with e1 e2 e3
      subst e1 e3
      obtain ⟨b, o, rfl, hb, hrow⟩ := g1 (by omega)
      obtain ⟨r, q0, hi⟩ := hrow k hlt
      obtain ⟨a2, c2, e4, _, _, g2⟩ := HF'.out.keep hp
      injection e4 with e4 e5 e6
      subst e4 e6
      obtain ⟨b2, o2, rfl, hb2, hrow2⟩ := g2 (by omega)
      obtain ⟨r2, q1, hi2⟩ := hrow2 k hlt
      have HI := Lib.hid hi
      have HI2 := Lib.hid hi2
      have hrk := HR.out k hlt
      have HS : Hid (∀ u : World, Pure wr u → Calls Try.prog 69 #[r, r2] u fun e w' => e = .returned (.bool true) ∧ Pure u w') := Lib.hid fun u hu =>
        sameInts_same r r2 _ u (HI.out.keep hu) (HI2.out.keep hu) hrk
      clear g1 g2 hrow hrow2 hi hi2
      go_wp2_with fail
      refine region_pure [.slice (some ⟨b, o, none⟩) xss.length c, .int .i64 (k : Int), .pointer (some ⟨b, o + k, none⟩), r, .slice (some ⟨b2, o2, none⟩) xss.length c', .int .i64 (k : Int), .pointer (some ⟨b2, o2 + k, none⟩), r2, .bool true, .bool false] (Pure wr) (by kernel_rfl) (by kernel_rfl) rfl (by kernel_rfl) (Pure.drew (Pure.refl _)) ?_ ?_ (by kernel_rfl)
      · simp only [foldPut, Act.put, List.setIfInBounds_toArray, List.set_cons_succ, List.set_cons_zero]
        refine ⟨fun u hu => ?_, fun u hu => ?_, fun u hu => ?_, fun u hu => ?_, fun u hu => ?_, fun u hu => ?_, fun u hu => ?_, fun u hu => ?_, fun u hu => ?_, fun u hu => ?_, trivial⟩
        all_goals
          have q0u := keepPc hu q0
          have q1u := keepPc hu q1
          go_wp2_with (go_at_call 69; refine (HS.out _ hu).mono ?_; rintro e w7 ⟨rfl, hp7⟩; have hu := hu.trans hp7)
          exact ⟨by assumption, rfl⟩
      · intro u hu
        simp only [foldPut, Act.put, List.setIfInBounds_toArray, List.set_cons_succ, List.set_cons_zero]
        go_wp2
        go_roundg (xss.length - (k + 1))
        case measure => have := Hgk.out; omega
        case rel => exact ⟨k + 1, by have := Hgk.out; omega, by go_num, HP.out.trans hu⟩
    · have hkl : k = xss.length := by omega
      subst hkl
      have hpf := HP.out
      go_wp2
      go_ret
      exact ⟨rfl, by exact (by repeat (first | assumption | exact Pure.refl _ | refine Pure.drewN ?_ _ | refine Pure.drew ?_ | refine Pure.alloc ?_ _ | refine Pure.setCell ?_ (by simp <;> omega) _))⟩

set_option maxHeartbeats 1000000 in
/-- PostDominates, for nodes of a valid graph. -/
theorem ipx_any (v : Value) (xss : List (List Int)) (a b en : Int) (w : World) (h : IntRows w v xss) (hG : GValid xss) (ha : InG xss a) (hb : InG xss b) (he : InG xss en) (B : Bool) (hB : B = true ↔ PD xss a b en) :
    Calls Try.prog 24 #[v, .int .i64 a, .int .i64 b, .int .i64 en] w fun e w' => e = .returned (.bool B) ∧ Pure w w' := by
  have H := Lib.hid h
  have HB := Lib.hid hB
  have HG := Lib.hid hG
  have HA := Lib.hid ha
  have HBB := Lib.hid hb
  have HE := Lib.hid he
  have hp1 : Pure w (w.alloc (.cells #[.int .i64 a, .int .i64 b, .int .i64 en] 3)) := (Pure.refl _).alloc _
  have Hlit := Lib.hid (Ints.lit w [a, b, en] 3 (by simp))
  obtain ⟨A, cc, rfl, hx1, hx2, hx3⟩ := h
  clear hx3 hB hG ha hb he
  go_enter Try.func24, Try.ntmps24
  go_wp2_with fail
  refine (areNodes_any _ _ _ [a, b, en] _ (H.out.keep hp1) Hlit.out true ?_).mono ?_
  · simp only [true_iff]
    refine ⟨HG.out, fun x hx => ?_⟩
    simp at hx
    rcases hx with rfl | rfl | rfl
    · exact HA.out
    · exact HBB.out
    · exact HE.out
  rintro e w' ⟨rfl, rfl⟩
  go_wp2_with fail
  refine (ipd_any _ xss a b en _ (H.out.keep hp1) HG.out HA.out HE.out B HB.out).mono ?_
  rintro e w2 ⟨rfl, hp2⟩
  go_wp2
  go_ret
  exact ⟨ret_bool (by simp), hp1.trans hp2⟩
theorem succs_len (cs : List Cd) (k : Nat) : (succs cs k).length ≤ 2 := by
  unfold succs
  simp only
  repeat' split
  all_goals simp
theorem graph_row_len (cs : List Cd) (k : Nat) : ((graph cs).getD k []).length ≤ 2 := by
  by_cases h : k < cs.length
  · rw [graph_lt h]; exact succs_len cs k
  · by_cases e : k = cs.length
    · rw [e, graph_end]; simp
    · have : (graph cs).getD k [] = [] := by
        rw [List.getD_eq_getElem?_getD, List.getElem?_eq_none (by rw [graph_length]; omega)]; rfl
      rw [this]; simp

end Go.Proofs.Ytmhaaihgepldhaa
