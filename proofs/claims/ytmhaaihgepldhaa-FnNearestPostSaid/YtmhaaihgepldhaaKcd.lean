/- A region that draws its order: what only reads is taken first, then every order of the rest is walked. Graphs with nodes that are drawn. Post-dominators for all arguments, in the program and in the reference; the nodes that can be reached. No condition. -/
import Derived.Test.YtmhaaihgepldhaaKac
import Derived.Test.YtmhaaihgepldhaaKaj
import Derived.Test.YtmhaaihgepldhaaKbi
import Derived.Test.YtmhaaihgepldhaaKcc

namespace Go.Proofs.Ytmhaaihgepldhaa
open Go.RowKit

section
variable {P : Program} {ops : Array Oper} {Q : Exit → Act → World → Prop} {md : Region.Mode} {S : World → Prop}
theorem anyK_end {z f : Nat} {l : Array Bool} {a : Act} {w : World} (hr : Region.ready md ops l = []) (h : Q .normal a w) : AnyK P md ops Q S z f l a w := by
  cases f with
  | zero => exact ⟨hr, h⟩
  | succ f => exact ⟨fun _ => h, by rw [hr]; simp⟩
theorem anyK_one {z f i : Nat} {l : Array Bool} {a : Act} {w : World} {o : Oper} (hr : Region.ready md ops l = [i]) (ho : ops[i]? = some o)
    (h : wpList P ops (thenK Q fun b u => (i ≠ z → S u) ∧ AnyK P md ops Q S z f (l.setIfInBounds i true) b u) [o] a w) : AnyK P md ops Q S z (f + 1) l a w := by
  refine ⟨fun h0 => absurd hr (by rw [h0]; simp), fun j hj => ?_⟩
  rw [hr] at hj
  obtain rfl : j = i := by simpa using hj
  exact wpOp_of_one ho h
theorem anyK_two {z f i j : Nat} {l : Array Bool} {a : Act} {w : World} {o p : Oper} (hr : Region.ready md ops l = [i, j]) (ho : ops[i]? = some o) (hp : ops[j]? = some p)
    (h1 : wpList P ops (thenK Q fun b u => (i ≠ z → S u) ∧ AnyK P md ops Q S z f (l.setIfInBounds i true) b u) [o] a w)
    (h2 : wpList P ops (thenK Q fun b u => (j ≠ z → S u) ∧ AnyK P md ops Q S z f (l.setIfInBounds j true) b u) [p] a w) : AnyK P md ops Q S z (f + 1) l a w := by
  refine ⟨fun h0 => absurd hr (by rw [h0]; simp), fun k hk => ?_⟩
  rw [hr] at hk
  have hk' : k = i ∨ k = j := by simpa using hk
  rcases hk' with rfl | rfl
  · exact wpOp_of_one ho h1
  · exact wpOp_of_one hp h2
def setsB (l : Array Bool) : List Nat → Array Bool
  | [] => l
  | i :: r => setsB (l.setIfInBounds i true) r
def hdsW (md : Region.Mode) (ops : Array Oper) : List Nat → Array Bool → Bool
  | [], _ => true
  | i :: r, l => (Region.ready md ops l).contains i && Region.free md ops l i && decide (i + 1 < ops.size) && hdsW md ops r (l.setIfInBounds i true)
theorem heads_way {z k : Nat} (hz : z + 1 = ops.size) (hns : Region.noSelect ops = true) (hk : Region.sinkB md ops z = true) (hc : Region.chainB md ops z = true)
    (hQ : ∀ (c : _) (a : Act) (d : Option Tmp) (v : Value) (w : World), Q (.panic c) (a.put d v) w → Q (.panic c) a w) :
    ∀ (hs : List Nat) (hl : List Oper) (f : Nat) (l : Array Bool) (a : Act) (w : World), hs.map (ops[·]?) = hl.map some → hdsW md ops hs l = true → hs.length + k = f → HeadInv md ops z l → S w →
      Held P ops S (fun b => AnyK P md ops Q S z k (setsB l hs) b w) hl a → AnyK P md ops Q S z f l a w
  | [], hl, f, l, a, w, hm, _, hf, inv, hS, h => by
    obtain rfl : hl = [] := by cases hl with
      | nil => rfl
      | cons => simp at hm
    obtain rfl : k = f := by simpa using hf
    exact h
  | i :: hs, [], _, _, _, _, hm, _, _, _, _, _ => by simp at hm
  | i :: hs, o :: hl, 0, _, _, _, _, _, hf, _, _, _ => by simp at hf
  | i :: hs, o :: hl, f + 1, l, a, w, hm, hB, hf, inv, hS, h => by
    simp only [List.map_cons, List.cons.injEq] at hm
    simp only [hdsW, Bool.and_eq_true, decide_eq_true_eq] at hB
    obtain ⟨⟨⟨hr, hfr⟩, hlt⟩, hB⟩ := hB
    obtain ⟨v, hy, h⟩ := h
    have hr' : i ∈ Region.ready md ops l := by simpa using hr
    exact AnyK.first hm.1 hns (fun c b u => hQ c b o.dst v u) hk hc hz (by omega) f l a w inv (Region.free_spec hm.1 hfr) hr' hy hS
      (heads_way hz hns hk hc hQ hs hl f _ _ w hm.2 hB (by simp at hf; omega) (inv.set hr' (by omega)) hS h)
end
/-- A region: the operations hs only read where S holds; the rest comes in any order. -/
theorem region_way {P : Program} {id : Nat} {Q : Exit → Act → World → Prop} {a : Act} {w : World} {l : List Oper} (S : World → Prop) (hs : List Nat) (k z : Nat) (fH : List Oper → List Oper) (hm : P.follows .mixedOrders = true)
    (hB : (Region.noSelect l.toArray && Region.sinkB .any l.toArray z && Region.chainB .any l.toArray z && decide (z + 1 = l.toArray.size) && decide (hs.length + k = l.toArray.size) && hdsW .any l.toArray hs (Array.replicate l.toArray.size false)) = true)
    (hh : hs.map (l.toArray[·]?) = (fH l).map some)
    (hQ : ∀ (c : _) (a : Act) (d : Option Tmp) (v : Value) (w : World), Q (.panic c) (a.put d v) w → Q (.panic c) a w) (hS : S w.drew)
    (h : Held P l.toArray S (fun b => AnyK P .any l.toArray Q S z k (setsB (Array.replicate l.toArray.size false) hs) b w.drew) (fH l) a) : (Code.region id l.toArray true).wp P Q a w := by
  simp only [Bool.and_eq_true, decide_eq_true_eq] at hB
  obtain ⟨⟨⟨⟨⟨hns, hk⟩, hc⟩, h0⟩, hlen⟩, hB⟩ := hB
  have inv0 : HeadInv .any l.toArray z (Array.replicate l.toArray.size false) :=
    ⟨by simp, fun j p _ hx => (by rw [getD_replicate_false] at hx; cases hx), fun t _ hx => getD_in (by simpa using hx) (getD_replicate_false _ _)⟩
  exact wp_region_any hm (AnyK.any _ _ _ _ (heads_way h0 hns hk hc hQ hs (fH l) _ _ a w.drew hh hB hlen inv0 hS h))

end Go.Proofs.Ytmhaaihgepldhaa

namespace Go.Proofs.Ytmhaaihgepldhaa
open Go.RowKit

def PdP (w : World) (e : Ending) (w' : World) : Prop :=
  ∃ A c xss a b en, e = .returned (.tuple #[.slice A xss.length c, .int .i64 a, .int .i64 b, .int .i64 en]) ∧ IntRows w' (.slice A xss.length c) xss ∧ 1 ≤ xss.length ∧ xss.length ≤ 65 ∧ -1 ≤ a ∧ a ≤ xss.length ∧ 0 ≤ b ∧ b < xss.length ∧ 0 ≤ en ∧ en < xss.length ∧ Pure w w'
def NpP (w : World) (e : Ending) (w' : World) : Prop :=
  ∃ A c xss a en, e = .returned (.tuple #[.slice A xss.length c, .int .i64 a, .int .i64 en]) ∧ IntRows w' (.slice A xss.length c) xss ∧ 1 ≤ xss.length ∧ xss.length ≤ 65 ∧ -1 ≤ a ∧ a ≤ xss.length ∧ 0 ≤ en ∧ en < xss.length ∧ Pure w w'

set_option maxHeartbeats 4000000 in
set_option maxRecDepth 100000 in
theorem draw_DrawPostDominates (v : Value) (bs : List Int) (w : World) (h : Bytes w v bs) (hs : bs.length ≤ 1048576) : Calls Try.prog 23 #[v] w (PdP w) := by
  have H := Lib.hid h
  obtain ⟨A0, c0, rfl, hnc, hcm⟩ := h.form
  clear h
  go_enter Try.func23, Try.ntmps23
  go_wp2_with fail
  refine (draw_open _ bs _ H.out hs).mono ?_
  rintro e w1 ⟨p, vb, bs', rfl, hr, hp1⟩
  have HR := Lib.hid hr
  clear hr
  go_wp2_with fail
  refine (graph_any w w1 p 0 14 vb bs' 14 rfl (by decide) HR.out (by decide)).mono ?_
  rintro e w2 ⟨A, c, n, S, vs, rfl, hR, hn1, hn65, hr2, hg2⟩
  have HRO := Lib.hid hR
  have HB := Lib.hid hr2
  have HG := Lib.hid hg2
  clear hR hr2 hg2 HR
  go_wp2_with fail
  refine (pick_t w _ p (0 + 2001000) vb bs' (n + 1) _ (by push_cast; rfl) HB.out (by omega) (by omega) (by omega)).mono ?_
  rintro e w3 ⟨x3, rfl, hx3, hr3, hg3⟩
  have HRO3 := Lib.hid (HRO.out.chg hg3 (rb_kind HB.out))
  have HB3 := Lib.hid hr3
  clear hr3 hg3 HRO
  go_wp2_with fail
  refine (pick_t w _ p (0 + 2001000 + 1) vb bs' 14 14 rfl HB3.out (by omega) (by decide) (by decide)).mono ?_
  rintro e w4 ⟨x4, rfl, hx4, hr4, hg4⟩
  have HRO4 := Lib.hid (HRO3.out.chg hg4 (rb_kind HB3.out))
  have HB4 := Lib.hid hr4
  have hq : (0 : Int) ≤ (x4 : Int) / 13 ∧ (x4 : Int) / 13 ≤ 1 := by omega
  obtain ⟨qd, Hqd⟩ : ∃ qd : Int, (x4 : Int) / 13 = qd := ⟨_, rfl⟩
  rw [Hqd] at hq
  clear hr4 hg4 HRO3
  go_wp2_with fail
  refine (pick_t w _ p (0 + 2001000 + 1 + 1) vb bs' n _ rfl HB4.out (by omega) (by omega) (by omega)).mono ?_
  rintro e w5 ⟨x5, rfl, hx5, hr5, hg5⟩
  have HRO5 := Lib.hid (HRO4.out.chg hg5 (rb_kind HB4.out))
  have HB5 := Lib.hid hr5
  clear hr5 hg5 HRO4
  go_wp2_with fail
  refine (pick_t w _ p (0 + 2001000 + 1 + 1 + 1) vb bs' n _ rfl HB5.out (by omega) (by omega) (by omega)).mono ?_
  rintro e w6 ⟨x6, rfl, hx6, hr6, hg6⟩
  have HRO6 := Lib.hid (HRO5.out.chg hg6 (rb_kind HB5.out))
  have HB6 := Lib.hid hr6
  clear hr6 hg6 HRO5
  go_wp2
  refine bodyPost_ret (v := .tuple #[.slice A n c, .int .i64 ((x3 : Int) - qd), .int .i64 (x5 : Int), .int .i64 (x6 : Int)]) (by simp [results, Try.results23, go_sem]) rfl ?_
  have hx := HRO6.out.rows
  have hl : ((List.range n).map S).length = n := by simp
  refine ⟨A, c, (List.range n).map S, (x3 : Int) - qd, x5, x6, by rw [hl], by rw [hl]; exact hx, by omega, by omega, by omega, by omega, by omega, by omega, by omega, by omega, HB6.out.pure⟩

theorem np_fin {w w' : World} {A : Option Addr} {B n c p C x3 : Nat} {S : Nat → List Int} {vs : List Value} {vb : Value} {bs : List Int} {qd y : Int} (hR : Hid (RowsO w' B (.slice A n c) n S vs)) (hB : Hid (Rb w w' p vb bs C)) (hn1 : 1 ≤ n) (hn65 : n ≤ 65) (hx : x3 < n + 1) (hq : 0 ≤ qd ∧ qd ≤ 1) (hy : 0 ≤ y ∧ y < n) :
    NpP w (.returned (.tuple #[.slice A n c, .int .i64 ((x3 : Int) - qd), .int .i64 y])) w' := by
  have hx2 := hR.out.rows
  have hl : ((List.range n).map S).length = n := by simp
  exact ⟨A, c, (List.range n).map S, (x3 : Int) - qd, y, by rw [hl], by rw [hl]; exact hx2, by omega, by omega, by omega, by omega, by omega, by omega, hB.out.pure⟩

set_option maxHeartbeats 4000000 in
set_option maxRecDepth 100000 in
theorem draw_DrawNearestPost (v : Value) (bs : List Int) (w : World) (h : Bytes w v bs) (hs : bs.length ≤ 1048576) : Calls Try.prog 29 #[v] w (NpP w) := by
  have H := Lib.hid h
  obtain ⟨A0, c0, rfl, hnc, hcm⟩ := h.form
  clear h
  go_enter Try.func29, Try.ntmps29
  go_wp2_with fail
  refine (draw_open _ bs _ H.out hs).mono ?_
  rintro e w1 ⟨p, vb, bs', rfl, hr, hp1⟩
  have HR := Lib.hid hr
  clear hr
  go_wp2_with fail
  refine (graph_any w w1 p 0 14 vb bs' 14 rfl (by decide) HR.out (by decide)).mono ?_
  rintro e w2 ⟨A, c, n, S, vs, rfl, hR, hn1, hn65, hr2, hg2⟩
  have HRO := Lib.hid hR
  have HB := Lib.hid hr2
  clear hR hr2 hg2 HR
  go_wp2_with fail
  refine (pick_t w _ p (0 + 2001000) vb bs' (n + 1) _ (by push_cast; rfl) HB.out (by omega) (by omega) (by omega)).mono ?_
  rintro e w3 ⟨x3, rfl, hx3, hr3, hg3⟩
  have HRO3 := Lib.hid (HRO.out.chg hg3 (rb_kind HB.out))
  have HB3 := Lib.hid hr3
  clear hr3 hg3 HRO
  go_wp2_with fail
  refine (pick_t w _ p (0 + 2001000 + 1) vb bs' 14 14 rfl HB3.out (by omega) (by decide) (by decide)).mono ?_
  rintro e w4 ⟨x4, rfl, hx4, hr4, hg4⟩
  have HRO4 := Lib.hid (HRO3.out.chg hg4 (rb_kind HB3.out))
  have HB4 := Lib.hid hr4
  have hq : (0 : Int) ≤ (x4 : Int) / 13 ∧ (x4 : Int) / 13 ≤ 1 := by omega
  obtain ⟨qd, Hqd⟩ : ∃ qd : Int, (x4 : Int) / 13 = qd := ⟨_, rfl⟩
  rw [Hqd] at hq
  clear hr4 hg4 HRO3
  go_wp2_with fail
  -- drawn region
  refine region_way (fun w' => w4.heap.size ≤ w'.heap.size) [0, 1, 2, 3, 4, 5, 6, 7, 10] 8 16 (fun l => l.take 8 ++ (l.drop 10).take 1) (by kernel_rfl) (by kernel_rfl) (by kernel_rfl) (fun c a d v w h => by cases d <;> exact h) (show w4.heap.size ≤ w4.drew.heap.size from Nat.le_refl _) ?_
  simp only [List.take_succ_cons, List.take_zero, List.drop_succ_cons, List.drop_zero, List.cons_append, List.nil_append]
  iterate 9
    apply held_of
    · exact rfl
    · intro w' hS
      go_simp
      try exact rfl
    try go_simp
  refine held_nil ?_
  refine anyK_one (i := 8) (by kernel_rfl) rfl ?_
  go_wp2_with fail
  refine (pick_t w _ p (0 + 2001000 + 1 + 1) vb bs' n _ rfl (HB4.out.keep (by repeat (first | assumption | exact Pure.refl _ | refine Pure.drewN ?_ _ | refine Pure.drew ?_ | refine Pure.alloc ?_ _ | refine Pure.setCell ?_ (by simp <;> omega) _))) (by omega) (by omega) (by omega)).mono ?_
  rintro e w5 ⟨x5, rfl, hx5, hr5, hg5⟩
  have HRO5 := Lib.hid ((HRO4.out.pure (show Pure w4 w4.drew from (by repeat (first | assumption | exact Pure.refl _ | refine Pure.drewN ?_ _ | refine Pure.drew ?_ | refine Pure.alloc ?_ _ | refine Pure.setCell ?_ (by simp <;> omega) _)))).chg hg5 (rb_kind (HB4.out.keep (show Pure w4 w4.drew from (by repeat (first | assumption | exact Pure.refl _ | refine Pure.drewN ?_ _ | refine Pure.drew ?_ | refine Pure.alloc ?_ _ | refine Pure.setCell ?_ (by simp <;> omega) _))))))
  have HB5 := Lib.hid hr5
  have hsz5 : w4.heap.size ≤ w5.heap.size := hg5.size
  clear hr5 hg5
  go_wp2
  refine And.intro (by first | exact hsz5 | exact fun _ => hsz5) ?_
  refine anyK_two (i := 9) (j := 11) (by kernel_rfl) rfl rfl ?_ ?_
  · skip
    have HLIT := Lib.hid (heap_alloc_new w5 (.cells (([(n : Int) - 1, (x5 : Int)] : List Int).map (Value.int .i64)).toArray 3))
    have HPL := Lib.hid (show Pure w5 (w5.alloc (.cells #[.int .i64 ((n : Int) - 1), .int .i64 (x5 : Int)] 3)) from (by repeat (first | assumption | exact Pure.refl _ | refine Pure.drewN ?_ _ | refine Pure.drew ?_ | refine Pure.alloc ?_ _ | refine Pure.setCell ?_ (by simp <;> omega) _)))
    have hpl : p < w5.heap.size := HB5.out.lt
    go_wp2
    refine And.intro (by first | exact Nat.le_trans hsz5 HPL.out.size | exact fun _ => Nat.le_trans hsz5 HPL.out.size) ?_
    refine anyK_one (i := 11) (by kernel_rfl) rfl ?_
    go_wp2_with fail
    refine (pick_t w _ p (0 + 2001000 + 1 + 1 + 1) vb bs' 2 2 rfl (HB5.out.keep HPL.out) (by omega) (by decide) (by decide)).mono ?_
    rintro e w6 ⟨x6, rfl, hx6, hr6, hg6⟩
    obtain ⟨y, hy, hym⟩ := lit_get [(n : Int) - 1, (x5 : Int)] hg6 HLIT.out (by omega) hx6
    have HRO7 := Lib.hid ((HRO5.out.pure HPL.out).chg hg6 (rb_kind (HB5.out.keep HPL.out)))
    have HB7 := Lib.hid hr6
    have hsz6 : w4.heap.size ≤ w6.heap.size := Nat.le_trans hsz5 (Nat.le_trans HPL.out.size hg6.size)
    have hym2 : 0 ≤ y ∧ y < n := by simp only [List.mem_cons, List.not_mem_nil, or_false] at hym; omega
    clear hr6 hg6 hym
    go_wp2
    refine And.intro (by first | exact hsz6 | exact fun _ => hsz6) ?_
    refine anyK_two (i := 12) (j := 14) (by kernel_rfl) rfl rfl ?_ ?_
    · skip
      go_wp2
      refine And.intro (by first | exact hsz6 | exact fun _ => hsz6) ?_
      refine anyK_two (i := 13) (j := 14) (by kernel_rfl) rfl rfl ?_ ?_
      · skip
        go_wp2
        refine And.intro (by first | exact hsz6 | exact fun _ => hsz6) ?_
        refine anyK_one (i := 14) (by kernel_rfl) rfl ?_
        go_wp2
        refine And.intro (by first | exact hsz6 | exact fun _ => hsz6) ?_
        refine anyK_one (i := 15) (by kernel_rfl) rfl ?_
        go_wp2
        refine And.intro (by first | exact hsz6 | exact fun _ => hsz6) ?_
        refine anyK_one (i := 16) (by kernel_rfl) rfl ?_
        go_wp2
        refine And.intro (by first | exact fun h => absurd rfl h | exact trivial) ?_
        refine anyK_end (by kernel_rfl) ?_
        go_wp2
        go_ret3
        exact np_fin HRO7 HB7 hn1 hn65 hx3 hq hym2
      · skip
        go_wp2
        refine And.intro (by first | exact hsz6 | exact fun _ => hsz6) ?_
        refine anyK_two (i := 13) (j := 15) (by kernel_rfl) rfl rfl ?_ ?_
        · skip
          go_wp2
          refine And.intro (by first | exact hsz6 | exact fun _ => hsz6) ?_
          refine anyK_one (i := 15) (by kernel_rfl) rfl ?_
          go_wp2
          refine And.intro (by first | exact hsz6 | exact fun _ => hsz6) ?_
          refine anyK_one (i := 16) (by kernel_rfl) rfl ?_
          go_wp2
          refine And.intro (by first | exact fun h => absurd rfl h | exact trivial) ?_
          refine anyK_end (by kernel_rfl) ?_
          go_wp2
          go_ret3
          exact np_fin HRO7 HB7 hn1 hn65 hx3 hq hym2
        · skip
          go_wp2
          refine And.intro (by first | exact hsz6 | exact fun _ => hsz6) ?_
          refine anyK_one (i := 13) (by kernel_rfl) rfl ?_
          go_wp2
          refine And.intro (by first | exact hsz6 | exact fun _ => hsz6) ?_
          refine anyK_one (i := 16) (by kernel_rfl) rfl ?_
          go_wp2
          refine And.intro (by first | exact fun h => absurd rfl h | exact trivial) ?_
          refine anyK_end (by kernel_rfl) ?_
          go_wp2
          go_ret3
          exact np_fin HRO7 HB7 hn1 hn65 hx3 hq hym2
    · skip
      go_wp2
      refine And.intro (by first | exact hsz6 | exact fun _ => hsz6) ?_
      refine anyK_two (i := 12) (j := 15) (by kernel_rfl) rfl rfl ?_ ?_
      · skip
        go_wp2
        refine And.intro (by first | exact hsz6 | exact fun _ => hsz6) ?_
        refine anyK_two (i := 13) (j := 15) (by kernel_rfl) rfl rfl ?_ ?_
        · skip
          go_wp2
          refine And.intro (by first | exact hsz6 | exact fun _ => hsz6) ?_
          refine anyK_one (i := 15) (by kernel_rfl) rfl ?_
          go_wp2
          refine And.intro (by first | exact hsz6 | exact fun _ => hsz6) ?_
          refine anyK_one (i := 16) (by kernel_rfl) rfl ?_
          go_wp2
          refine And.intro (by first | exact fun h => absurd rfl h | exact trivial) ?_
          refine anyK_end (by kernel_rfl) ?_
          go_wp2
          go_ret3
          exact np_fin HRO7 HB7 hn1 hn65 hx3 hq hym2
        · skip
          go_wp2
          refine And.intro (by first | exact hsz6 | exact fun _ => hsz6) ?_
          refine anyK_one (i := 13) (by kernel_rfl) rfl ?_
          go_wp2
          refine And.intro (by first | exact hsz6 | exact fun _ => hsz6) ?_
          refine anyK_one (i := 16) (by kernel_rfl) rfl ?_
          go_wp2
          refine And.intro (by first | exact fun h => absurd rfl h | exact trivial) ?_
          refine anyK_end (by kernel_rfl) ?_
          go_wp2
          go_ret3
          exact np_fin HRO7 HB7 hn1 hn65 hx3 hq hym2
      · skip
        go_wp2
        refine And.intro (by first | exact hsz6 | exact fun _ => hsz6) ?_
        refine anyK_one (i := 12) (by kernel_rfl) rfl ?_
        go_wp2
        refine And.intro (by first | exact hsz6 | exact fun _ => hsz6) ?_
        refine anyK_one (i := 13) (by kernel_rfl) rfl ?_
        go_wp2
        refine And.intro (by first | exact hsz6 | exact fun _ => hsz6) ?_
        refine anyK_one (i := 16) (by kernel_rfl) rfl ?_
        go_wp2
        refine And.intro (by first | exact fun h => absurd rfl h | exact trivial) ?_
        refine anyK_end (by kernel_rfl) ?_
        go_wp2
        go_ret3
        exact np_fin HRO7 HB7 hn1 hn65 hx3 hq hym2
  · skip
    go_wp2_with fail
    refine (pick_t w _ p (0 + 2001000 + 1 + 1 + 1) vb bs' 2 2 rfl HB5.out (by omega) (by decide) (by decide)).mono ?_
    rintro e w6 ⟨x6, rfl, hx6, hr6, hg6⟩
    have HRO6 := Lib.hid (HRO5.out.chg hg6 (rb_kind HB5.out))
    have HB6 := Lib.hid hr6
    have hsz6 : w4.heap.size ≤ w6.heap.size := Nat.le_trans hsz5 hg6.size
    clear hr6 hg6
    go_wp2
    refine And.intro (by first | exact hsz6 | exact fun _ => hsz6) ?_
    refine anyK_two (i := 9) (j := 14) (by kernel_rfl) rfl rfl ?_ ?_
    · skip
      obtain ⟨w7, Hw7⟩ : ∃ w7, Hid (w6.alloc (.cells #[.int .i64 ((n : Int) - 1), .int .i64 (x5 : Int)] 3) = w7) := ⟨_, Lib.hid rfl⟩
      have HPL : Hid (Pure w6 w7) := Lib.hid (by rw [← Hw7.out]; exact (by repeat (first | assumption | exact Pure.refl _ | refine Pure.drewN ?_ _ | refine Pure.drew ?_ | refine Pure.alloc ?_ _ | refine Pure.setCell ?_ (by simp <;> omega) _)))
      have HLIT : Hid (w7.heap[w6.heap.size]? = some (.cells (([(n : Int) - 1, (x5 : Int)] : List Int).map (Value.int .i64)).toArray 3 (0, 0))) := Lib.hid (by rw [← Hw7.out]; exact heap_alloc_new w6 _)
      have hpl : p < w6.heap.size := HB6.out.lt
      obtain ⟨y, hy, hym⟩ := lit_get [(n : Int) - 1, (x5 : Int)] (Chg.refl (fun k => k = p) w7) HLIT.out (by omega) hx6
      have HRO7 := Lib.hid (HRO6.out.pure HPL.out)
      have HB7 := Lib.hid (HB6.out.keep HPL.out)
      have hym2 : 0 ≤ y ∧ y < n := by simp only [List.mem_cons, List.not_mem_nil, or_false] at hym; omega
      have hsz7 : w4.heap.size ≤ w7.heap.size := Nat.le_trans hsz6 HPL.out.size
      clear hym
      go_wp2
      rw [Hw7.out]
      refine And.intro (by first | exact hsz7 | exact fun _ => hsz7) ?_
      refine anyK_two (i := 12) (j := 14) (by kernel_rfl) rfl rfl ?_ ?_
      · skip
        go_wp2
        refine And.intro (by first | exact hsz7 | exact fun _ => hsz7) ?_
        refine anyK_two (i := 13) (j := 14) (by kernel_rfl) rfl rfl ?_ ?_
        · skip
          go_wp2
          refine And.intro (by first | exact hsz7 | exact fun _ => hsz7) ?_
          refine anyK_one (i := 14) (by kernel_rfl) rfl ?_
          go_wp2
          refine And.intro (by first | exact hsz7 | exact fun _ => hsz7) ?_
          refine anyK_one (i := 15) (by kernel_rfl) rfl ?_
          go_wp2
          refine And.intro (by first | exact hsz7 | exact fun _ => hsz7) ?_
          refine anyK_one (i := 16) (by kernel_rfl) rfl ?_
          go_wp2
          refine And.intro (by first | exact fun h => absurd rfl h | exact trivial) ?_
          refine anyK_end (by kernel_rfl) ?_
          go_wp2
          go_ret3
          exact np_fin HRO7 HB7 hn1 hn65 hx3 hq hym2
        · skip
          go_wp2
          refine And.intro (by first | exact hsz7 | exact fun _ => hsz7) ?_
          refine anyK_two (i := 13) (j := 15) (by kernel_rfl) rfl rfl ?_ ?_
          · skip
            go_wp2
            refine And.intro (by first | exact hsz7 | exact fun _ => hsz7) ?_
            refine anyK_one (i := 15) (by kernel_rfl) rfl ?_
            go_wp2
            refine And.intro (by first | exact hsz7 | exact fun _ => hsz7) ?_
            refine anyK_one (i := 16) (by kernel_rfl) rfl ?_
            go_wp2
            refine And.intro (by first | exact fun h => absurd rfl h | exact trivial) ?_
            refine anyK_end (by kernel_rfl) ?_
            go_wp2
            go_ret3
            exact np_fin HRO7 HB7 hn1 hn65 hx3 hq hym2
          · skip
            go_wp2
            refine And.intro (by first | exact hsz7 | exact fun _ => hsz7) ?_
            refine anyK_one (i := 13) (by kernel_rfl) rfl ?_
            go_wp2
            refine And.intro (by first | exact hsz7 | exact fun _ => hsz7) ?_
            refine anyK_one (i := 16) (by kernel_rfl) rfl ?_
            go_wp2
            refine And.intro (by first | exact fun h => absurd rfl h | exact trivial) ?_
            refine anyK_end (by kernel_rfl) ?_
            go_wp2
            go_ret3
            exact np_fin HRO7 HB7 hn1 hn65 hx3 hq hym2
      · skip
        go_wp2
        refine And.intro (by first | exact hsz7 | exact fun _ => hsz7) ?_
        refine anyK_two (i := 12) (j := 15) (by kernel_rfl) rfl rfl ?_ ?_
        · skip
          go_wp2
          refine And.intro (by first | exact hsz7 | exact fun _ => hsz7) ?_
          refine anyK_two (i := 13) (j := 15) (by kernel_rfl) rfl rfl ?_ ?_
          · skip
            go_wp2
            refine And.intro (by first | exact hsz7 | exact fun _ => hsz7) ?_
            refine anyK_one (i := 15) (by kernel_rfl) rfl ?_
            go_wp2
            refine And.intro (by first | exact hsz7 | exact fun _ => hsz7) ?_
            refine anyK_one (i := 16) (by kernel_rfl) rfl ?_
            go_wp2
            refine And.intro (by first | exact fun h => absurd rfl h | exact trivial) ?_
            refine anyK_end (by kernel_rfl) ?_
            go_wp2
            go_ret3
            exact np_fin HRO7 HB7 hn1 hn65 hx3 hq hym2
          · skip
            go_wp2
            refine And.intro (by first | exact hsz7 | exact fun _ => hsz7) ?_
            refine anyK_one (i := 13) (by kernel_rfl) rfl ?_
            go_wp2
            refine And.intro (by first | exact hsz7 | exact fun _ => hsz7) ?_
            refine anyK_one (i := 16) (by kernel_rfl) rfl ?_
            go_wp2
            refine And.intro (by first | exact fun h => absurd rfl h | exact trivial) ?_
            refine anyK_end (by kernel_rfl) ?_
            go_wp2
            go_ret3
            exact np_fin HRO7 HB7 hn1 hn65 hx3 hq hym2
        · skip
          go_wp2
          refine And.intro (by first | exact hsz7 | exact fun _ => hsz7) ?_
          refine anyK_one (i := 12) (by kernel_rfl) rfl ?_
          go_wp2
          refine And.intro (by first | exact hsz7 | exact fun _ => hsz7) ?_
          refine anyK_one (i := 13) (by kernel_rfl) rfl ?_
          go_wp2
          refine And.intro (by first | exact hsz7 | exact fun _ => hsz7) ?_
          refine anyK_one (i := 16) (by kernel_rfl) rfl ?_
          go_wp2
          refine And.intro (by first | exact fun h => absurd rfl h | exact trivial) ?_
          refine anyK_end (by kernel_rfl) ?_
          go_wp2
          go_ret3
          exact np_fin HRO7 HB7 hn1 hn65 hx3 hq hym2
    · skip
      go_wp2
      refine And.intro (by first | exact hsz6 | exact fun _ => hsz6) ?_
      refine anyK_two (i := 9) (j := 15) (by kernel_rfl) rfl rfl ?_ ?_
      · skip
        obtain ⟨w7, Hw7⟩ : ∃ w7, Hid (w6.alloc (.cells #[.int .i64 ((n : Int) - 1), .int .i64 (x5 : Int)] 3) = w7) := ⟨_, Lib.hid rfl⟩
        have HPL : Hid (Pure w6 w7) := Lib.hid (by rw [← Hw7.out]; exact (by repeat (first | assumption | exact Pure.refl _ | refine Pure.drewN ?_ _ | refine Pure.drew ?_ | refine Pure.alloc ?_ _ | refine Pure.setCell ?_ (by simp <;> omega) _)))
        have HLIT : Hid (w7.heap[w6.heap.size]? = some (.cells (([(n : Int) - 1, (x5 : Int)] : List Int).map (Value.int .i64)).toArray 3 (0, 0))) := Lib.hid (by rw [← Hw7.out]; exact heap_alloc_new w6 _)
        have hpl : p < w6.heap.size := HB6.out.lt
        obtain ⟨y, hy, hym⟩ := lit_get [(n : Int) - 1, (x5 : Int)] (Chg.refl (fun k => k = p) w7) HLIT.out (by omega) hx6
        have HRO7 := Lib.hid (HRO6.out.pure HPL.out)
        have HB7 := Lib.hid (HB6.out.keep HPL.out)
        have hym2 : 0 ≤ y ∧ y < n := by simp only [List.mem_cons, List.not_mem_nil, or_false] at hym; omega
        have hsz7 : w4.heap.size ≤ w7.heap.size := Nat.le_trans hsz6 HPL.out.size
        clear hym
        go_wp2
        rw [Hw7.out]
        refine And.intro (by first | exact hsz7 | exact fun _ => hsz7) ?_
        refine anyK_two (i := 12) (j := 15) (by kernel_rfl) rfl rfl ?_ ?_
        · skip
          go_wp2
          refine And.intro (by first | exact hsz7 | exact fun _ => hsz7) ?_
          refine anyK_two (i := 13) (j := 15) (by kernel_rfl) rfl rfl ?_ ?_
          · skip
            go_wp2
            refine And.intro (by first | exact hsz7 | exact fun _ => hsz7) ?_
            refine anyK_one (i := 15) (by kernel_rfl) rfl ?_
            go_wp2
            refine And.intro (by first | exact hsz7 | exact fun _ => hsz7) ?_
            refine anyK_one (i := 16) (by kernel_rfl) rfl ?_
            go_wp2
            refine And.intro (by first | exact fun h => absurd rfl h | exact trivial) ?_
            refine anyK_end (by kernel_rfl) ?_
            go_wp2
            go_ret3
            exact np_fin HRO7 HB7 hn1 hn65 hx3 hq hym2
          · skip
            go_wp2
            refine And.intro (by first | exact hsz7 | exact fun _ => hsz7) ?_
            refine anyK_one (i := 13) (by kernel_rfl) rfl ?_
            go_wp2
            refine And.intro (by first | exact hsz7 | exact fun _ => hsz7) ?_
            refine anyK_one (i := 16) (by kernel_rfl) rfl ?_
            go_wp2
            refine And.intro (by first | exact fun h => absurd rfl h | exact trivial) ?_
            refine anyK_end (by kernel_rfl) ?_
            go_wp2
            go_ret3
            exact np_fin HRO7 HB7 hn1 hn65 hx3 hq hym2
        · skip
          go_wp2
          refine And.intro (by first | exact hsz7 | exact fun _ => hsz7) ?_
          refine anyK_one (i := 12) (by kernel_rfl) rfl ?_
          go_wp2
          refine And.intro (by first | exact hsz7 | exact fun _ => hsz7) ?_
          refine anyK_one (i := 13) (by kernel_rfl) rfl ?_
          go_wp2
          refine And.intro (by first | exact hsz7 | exact fun _ => hsz7) ?_
          refine anyK_one (i := 16) (by kernel_rfl) rfl ?_
          go_wp2
          refine And.intro (by first | exact fun h => absurd rfl h | exact trivial) ?_
          refine anyK_end (by kernel_rfl) ?_
          go_wp2
          go_ret3
          exact np_fin HRO7 HB7 hn1 hn65 hx3 hq hym2
      · skip
        go_wp2
        refine And.intro (by first | exact hsz6 | exact fun _ => hsz6) ?_
        refine anyK_one (i := 9) (by kernel_rfl) rfl ?_
        obtain ⟨w7, Hw7⟩ : ∃ w7, Hid (w6.alloc (.cells #[.int .i64 ((n : Int) - 1), .int .i64 (x5 : Int)] 3) = w7) := ⟨_, Lib.hid rfl⟩
        have HPL : Hid (Pure w6 w7) := Lib.hid (by rw [← Hw7.out]; exact (by repeat (first | assumption | exact Pure.refl _ | refine Pure.drewN ?_ _ | refine Pure.drew ?_ | refine Pure.alloc ?_ _ | refine Pure.setCell ?_ (by simp <;> omega) _)))
        have HLIT : Hid (w7.heap[w6.heap.size]? = some (.cells (([(n : Int) - 1, (x5 : Int)] : List Int).map (Value.int .i64)).toArray 3 (0, 0))) := Lib.hid (by rw [← Hw7.out]; exact heap_alloc_new w6 _)
        have hpl : p < w6.heap.size := HB6.out.lt
        obtain ⟨y, hy, hym⟩ := lit_get [(n : Int) - 1, (x5 : Int)] (Chg.refl (fun k => k = p) w7) HLIT.out (by omega) hx6
        have HRO7 := Lib.hid (HRO6.out.pure HPL.out)
        have HB7 := Lib.hid (HB6.out.keep HPL.out)
        have hym2 : 0 ≤ y ∧ y < n := by simp only [List.mem_cons, List.not_mem_nil, or_false] at hym; omega
        have hsz7 : w4.heap.size ≤ w7.heap.size := Nat.le_trans hsz6 HPL.out.size
        clear hym
        go_wp2
        rw [Hw7.out]
        refine And.intro (by first | exact hsz7 | exact fun _ => hsz7) ?_
        refine anyK_one (i := 12) (by kernel_rfl) rfl ?_
        go_wp2
        refine And.intro (by first | exact hsz7 | exact fun _ => hsz7) ?_
        refine anyK_one (i := 13) (by kernel_rfl) rfl ?_
        go_wp2
        refine And.intro (by first | exact hsz7 | exact fun _ => hsz7) ?_
        refine anyK_one (i := 16) (by kernel_rfl) rfl ?_
        go_wp2
        refine And.intro (by first | exact fun h => absurd rfl h | exact trivial) ?_
        refine anyK_end (by kernel_rfl) ?_
        go_wp2
        go_ret3
        exact np_fin HRO7 HB7 hn1 hn65 hx3 hq hym2

end Go.Proofs.Ytmhaaihgepldhaa

namespace Go.Proofs.Ytmhaaihgepldhaa
open Go.RowKit

def PdOk (xss : List (List Int)) (a b en : Int) : Prop := GValid xss ∧ InG xss a ∧ InG xss b ∧ InG xss en ∧ PD xss a b en
theorem pd_bool (xss : List (List Int)) (a b en : Int) : ∃ B : Bool, B = true ↔ PdOk xss a b en := by
  rcases Classical.em (PdOk xss a b en) with h | h
  · exact ⟨true, by simp [h]⟩
  · exact ⟨false, by simp [h]⟩

set_option maxHeartbeats 1000000 in
theorem ipda_any (v : Value) (xss : List (List Int)) (a b en : Int) (w : World) (h : IntRows w v xss) (B : Bool) (hB : B = true ↔ PdOk xss a b en) :
    Calls Try.prog 24 #[v, .int .i64 a, .int .i64 b, .int .i64 en] w fun e w' => e = .returned (.bool B) ∧ Pure w w' := by
  have H := Lib.hid h
  have HB := Lib.hid hB
  have hp1 : Pure w (w.alloc (.cells #[.int .i64 a, .int .i64 b, .int .i64 en] 3)) := (Pure.refl _).alloc _
  have HP1 := Lib.hid hp1
  have hlit := Ints.lit w [a, b, en] 3 (by simp)
  obtain ⟨A, cc, rfl, hx1, hx2, hx3⟩ := h
  clear hx3 hB hp1
  have Hlit := Lib.hid hlit
  clear hlit
  by_cases hall : GValid xss ∧ InG xss a ∧ InG xss b ∧ InG xss en
  · obtain ⟨hG, ha, hb, he⟩ := hall
    have HG := Lib.hid hG; have HA := Lib.hid ha; have HBB := Lib.hid hb; have HE := Lib.hid he
    clear hG ha hb he
    go_enter Try.func24, Try.ntmps24
    go_wp2_with fail
    refine (areNodes_any _ _ _ [a, b, en] _ (H.out.keep HP1.out) Hlit.out true ?_).mono ?_
    · simp only [true_iff]
      refine ⟨HG.out, fun x hx => ?_⟩
      simp at hx
      rcases hx with rfl | rfl | rfl
      · exact HA.out
      · exact HBB.out
      · exact HE.out
    rintro e w' ⟨rfl, rfl⟩
    go_wp2_with fail
    refine (ipd_any _ xss _ _ _ _ (H.out.keep HP1.out) HG.out HA.out HE.out B ⟨fun hb => (HB.out.1 hb).2.2.2.2, fun hp => HB.out.2 ⟨HG.out, HA.out, HBB.out, HE.out, hp⟩⟩).mono ?_
    rintro e w2 ⟨rfl, hp2⟩
    go_wp2
    go_ret
    exact ⟨rfl, HP1.out.trans hp2⟩
  · have Hn := Lib.hid hall; clear hall
    have hb : B = false := by
      cases hb : B
      · rfl
      · obtain ⟨h1, h2, h3, h4, _⟩ := HB.out.1 hb
        exact absurd ⟨h1, h2, h3, h4⟩ Hn.out
    subst hb
    go_enter Try.func24, Try.ntmps24
    go_wp2_with fail
    refine (areNodes_any _ _ _ [a, b, en] _ (H.out.keep HP1.out) Hlit.out false ?_).mono ?_
    · simp only [Bool.false_eq_true, false_iff]
      rintro ⟨h1, h2⟩
      exact Hn.out ⟨h1, h2 a (by simp), h2 b (by simp), h2 en (by simp)⟩
    rintro e w' ⟨rfl, rfl⟩
    go_wp2
    go_ret
    exact ⟨rfl, HP1.out⟩

set_option maxHeartbeats 1000000 in
theorem spda_any (v : Value) (xss : List (List Int)) (a b en : Int) (w : World) (h : IntRows w v xss) (B : Bool) (hB : B = true ↔ PdOk xss a b en) :
    Calls Try.prog 25 #[v, .int .i64 a, .int .i64 b, .int .i64 en] w fun e w' => e = .returned (.bool B) ∧ Pure w w' := by
  by_cases hall : GValid xss ∧ InG xss a ∧ InG xss b ∧ InG xss en
  · obtain ⟨hG, ha, hb, he⟩ := hall
    exact spd_in v xss a b en w h hG ha hb he B ⟨fun h => (hB.1 h).2.2.2.2, fun h => hB.2 ⟨hG, ha, hb, he, h⟩⟩
  · have hb : B = false := by
      cases hb : B
      · rfl
      · obtain ⟨h1, h2, h3, h4, _⟩ := hB.1 hb
        exact absurd ⟨h1, h2, h3, h4⟩ hall
    subst hb
    have H := Lib.hid h
    obtain ⟨A, cc, rfl, hx1, hx2, hx3⟩ := h
    clear hx3 hB
    by_cases hG : GValid xss
    · have HG := Lib.hid hG; clear hG
      by_cases ha : InG xss a
      · by_cases hb : InG xss b
        · have he : ¬ InG xss en := fun he => hall ⟨HG.out, ha, hb, he⟩
          clear hall
          go_enter Try.func25, Try.ntmps25
          go_wp2_with fail
          refine (gv_any _ _ _ H.out true (by simp [HG.out])).mono ?_
          rintro e w' ⟨rfl, n0, rfl⟩
          go_wp2_with fail
          refine (l1In_t _ _ _ _ ha).mono ?_
          rintro e w' ⟨rfl, rfl⟩
          go_wp2_with fail
          refine (l1In_t _ _ _ _ hb).mono ?_
          rintro e w' ⟨rfl, rfl⟩
          go_wp2_with fail
          refine (l1In_f _ _ _ _ he).mono ?_
          rintro e w' ⟨rfl, rfl⟩
          go_wp2
          go_ret
          exact ⟨rfl, Pure.drewN (Pure.refl _) _⟩
        · clear hall
          go_enter Try.func25, Try.ntmps25
          go_wp2_with fail
          refine (gv_any _ _ _ H.out true (by simp [HG.out])).mono ?_
          rintro e w' ⟨rfl, n0, rfl⟩
          go_wp2_with fail
          refine (l1In_t _ _ _ _ ha).mono ?_
          rintro e w' ⟨rfl, rfl⟩
          go_wp2_with fail
          refine (l1In_f _ _ _ _ hb).mono ?_
          rintro e w' ⟨rfl, rfl⟩
          go_wp2
          go_ret
          exact ⟨rfl, Pure.drewN (Pure.refl _) _⟩
      · clear hall
        go_enter Try.func25, Try.ntmps25
        go_wp2_with fail
        refine (gv_any _ _ _ H.out true (by simp [HG.out])).mono ?_
        rintro e w' ⟨rfl, n0, rfl⟩
        go_wp2_with fail
        refine (l1In_f _ _ _ _ ha).mono ?_
        rintro e w' ⟨rfl, rfl⟩
        go_wp2
        go_ret
        exact ⟨rfl, Pure.drewN (Pure.refl _) _⟩
    · have HG := Lib.hid hG; clear hG hall
      go_enter Try.func25, Try.ntmps25
      go_wp2_with fail
      refine (gv_any _ _ _ H.out false (by simp [HG.out])).mono ?_
      rintro e w' ⟨rfl, n0, rfl⟩
      go_wp2
      go_ret
      exact ⟨rfl, Pure.drewN (Pure.refl _) _⟩

set_option maxHeartbeats 1000000 in
theorem igr_in (v : Value) (xss : List (List Int)) (a : Int) (w : World) (h : IntRows w v xss) (hG : GValid xss) (ha : InG xss a) :
    Calls Try.prog 28 #[v, .int .i64 a, .int .i64 (-1)] w (ReachPost xss (-1) a w) := by
  have H := Lib.hid h
  have HG := Lib.hid hG
  have HA := Lib.hid ha
  obtain ⟨A, cc, rfl, hx1, hx2, hx3⟩ := h
  clear hx3 hG ha
  go_enter Try.func28, Try.ntmps28
  go_wp2_with fail
  refine (igv_any _ _ _ H.out true (by simp [HG.out])).mono ?_
  rintro e w' ⟨rfl, rfl⟩
  go_wp2_with fail
  refine (isNode_any _ _ _ _ H.out true (by simp only [true_iff]; exact HA.out)).mono ?_
  rintro e w' ⟨rfl, rfl⟩
  go_wp2_with fail
  refine (reach_any _ _ _ _ _ H.out HG.out HA.out).mono ?_
  rintro e w1 ⟨v1, bs, rfl, hb, hl, hi, hp⟩
  have HB := Lib.hid hb; have HI := Lib.hid hi; have HP := Lib.hid hp; have HL := Lib.hid hl
  obtain ⟨A1, c1, rfl, _⟩ := hb
  clear hi hp hl
  go_wp2
  go_ret
  exact ⟨_, bs, rfl, HB.out, HL.out, HI.out, HP.out⟩

end Go.Proofs.Ytmhaaihgepldhaa
