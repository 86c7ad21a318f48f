/- Slices of instructions in memory; the laws' helpers on them: size, copy, comparison. No condition. -/
import Derived.Test.YtokdfgodmhekmaaElems
import Derived.Test.YtokdfgodmhekmaaOwnO
import Derived.Test.YtokdfgodmhekmaaCd
import Derived.Deep.LoopGhost
import Derived.Deep.RegionWith
namespace Go.Proofs.Ytokdfgodmhekmaa
open Go.RowKit

theorem elLCode : ElT Try.prog 22 63 4 [.int .i64 0, .int .i64 0, .int .i64 0, .int .i64 0] 32 := ⟨by kernel_rfl, ⟨.agg #[.int .i64 0, .int .i64 0, .int .i64 0, .int .i64 0], by kernel_rfl, by kernel_rfl, rfl⟩, by decide⟩

def cdCells (c : Cd) : List Value := [.int .i64 c.op, .int .i64 c.a, .int .i64 c.b, .int .i64 c.c]
def cdv (c : Cd) : Value := .agg #[.int .i64 c.op, .int .i64 c.a, .int .i64 c.b, .int .i64 c.c]
def cdf (cs : List Cd) (j : Nat) : Value := (cdCells (cs.getD (j / 4) default)).getD (j % 4) undef
def Codes (w : World) (v : Value) (cs : List Cd) : Prop := Cells w v cs.length 4 (cdf cs)
theorem Codes.keep {w w' : World} {v : Value} {cs : List Cd} (h : Codes w v cs) (hp : Pure w w') : Codes w' v cs := Cells.keep h hp
theorem Codes.form {w : World} {v : Value} {cs : List Cd} (h : Codes w v cs) : ∃ A c, v = .slice A cs.length c ∧ cs.length ≤ c ∧ c ≤ 9223372036854775807 := by
  obtain ⟨A, c, h, h1, h2, _⟩ := h
  exact ⟨A, c, h, h1, h2⟩

/-- An instruction lies in block b from offset o on. -/
structure CodeAt (w : World) (b o : Nat) (c : Cd) : Prop where
  c0 : w.cell? ⟨b, o, none⟩ = some (.int .i64 c.op)
  c1 : w.cell? ⟨b, o + 1, none⟩ = some (.int .i64 c.a)
  c2 : w.cell? ⟨b, o + 2, none⟩ = some (.int .i64 c.b)
  c3 : w.cell? ⟨b, o + 3, none⟩ = some (.int .i64 c.c)
theorem CodeAt.keep {w w' : World} {b o : Nat} {c : Cd} (h : CodeAt w b o c) (hp : Pure w w') (hb : b < w.heap.size) : CodeAt w' b o c :=
  ⟨(hp.cell b _ hb).trans h.c0, (hp.cell b _ hb).trans h.c1, (hp.cell b _ hb).trans h.c2, (hp.cell b _ hb).trans h.c3⟩

theorem cdf_at (cs : List Cd) (k i : Nat) (hi : i < 4) : cdf cs (k * 4 + i) = (cdCells (cs.getD k default)).getD i undef := by
  unfold cdf
  rw [show (k * 4 + i) / 4 = k by omega, show (k * 4 + i) % 4 = i by omega]

theorem Codes.at_ {w : World} {A : Option Addr} {n c : Nat} {cs : List Cd} (h : Codes w (.slice A n c) cs) {k : Nat} (hk : k < cs.length) :
    ∃ b o, A = some ⟨b, o, none⟩ ∧ b < w.heap.size ∧ CodeAt w b (o + k * 4) (cs.getD k default) := by
  obtain ⟨A', c', hv, _, _, h4⟩ := h
  injection hv with e1 e2 e3
  subst e1
  obtain ⟨b, o, rfl, hb, hc⟩ := h4 (by omega)
  refine ⟨b, o, rfl, hb, ?_, ?_, ?_, ?_⟩
  · have := hc (k * 4 + 0) (by omega); rw [cdf_at _ _ _ (by omega)] at this; exact this
  · have := hc (k * 4 + 1) (by omega); rw [cdf_at _ _ _ (by omega)] at this; rw [Nat.add_assoc]; exact this
  · have := hc (k * 4 + 2) (by omega); rw [cdf_at _ _ _ (by omega)] at this; rw [Nat.add_assoc]; exact this
  · have := hc (k * 4 + 3) (by omega); rw [cdf_at _ _ _ (by omega)] at this; rw [Nat.add_assoc]; exact this

theorem Codes.of_ownO {w : World} {B e n : Nat} {v : Value} {xs : List Value} {cs : List Cd} (h : OwnO w B e 4 v n xs) (hn : n = cs.length) (hf : ∀ j, j < cs.length * 4 → xs[j]? = some (cdf cs j)) : Codes w v cs := by
  subst hn
  exact Cells.of_ownO h hf

set_option maxHeartbeats 400000 in
theorem szCodeS_any (v : Value) (cs : List Cd) (left : Int) (w : World) (h : Codes w v cs) (hl0 : 0 ≤ left) (hl1 : left ≤ 1048576) :
    Calls Try.prog 15 #[v, .int .i64 left] w fun e w' => e = .returned (.int .i64 (if left < cs.length then -1 else left - cs.length)) ∧ w = w' := by
  obtain ⟨A, c, rfl, hnc, hcm⟩ := h.form
  clear h
  by_cases hlt : left < cs.length
  · rw [if_pos hlt]
    go_enter Try.func15, Try.ntmps15
    go_wp2
    go_ret
    exact ⟨rfl, rfl⟩
  · rw [if_neg hlt]
    go_enter Try.func15, Try.ntmps15
    go_wp2
    go_ret
    exact ⟨rfl, rfl⟩

set_option maxHeartbeats 400000 in
theorem toCode_any (c : Cd) (w : World) :
    Calls Try.prog 59 #[cdv c] w fun e w' => e = .returned (cdv c) ∧ Pure w w' := by
  unfold cdv
  go_enter Try.func59, Try.ntmps59
  go_wp2
  exact bodyPost_ret (v := .agg #[.int .i64 c.op, .int .i64 c.a, .int .i64 c.b, .int .i64 c.c]) (by simp [results, Try.results59, go_sem]) rfl ⟨rfl, (by repeat (first | assumption | exact Pure.refl _ | refine Pure.drewN ?_ _ | refine Pure.drew ?_ | refine Pure.alloc ?_ _ | refine Pure.setCell ?_ (by simp <;> omega) _))⟩

def rep4 (ys : List Value) (k : Nat) (c : Cd) : List Value := (((ys.set (k * 4) (.int .i64 c.op)).set (k * 4 + 1) (.int .i64 c.a)).set (k * 4 + 2) (.int .i64 c.b)).set (k * 4 + 3) (.int .i64 c.c)
theorem rep4_length (ys : List Value) (k : Nat) (c : Cd) : (rep4 ys k c).length = ys.length := by simp [rep4]
theorem rep4_other (ys : List Value) (k : Nat) (c : Cd) (j : Nat) (h : j < k * 4 ∨ k * 4 + 4 ≤ j) : (rep4 ys k c)[j]? = ys[j]? := by
  unfold rep4
  rw [List.getElem?_set_ne (by omega), List.getElem?_set_ne (by omega), List.getElem?_set_ne (by omega), List.getElem?_set_ne (by omega)]
theorem rep4_same (ys : List Value) (k : Nat) (c : Cd) (i : Nat) (hi : i < 4) (hl : k * 4 + 4 ≤ ys.length) : (rep4 ys k c)[k * 4 + i]? = some ((cdCells c).getD i undef) := by
  unfold rep4
  match i, hi with
  | 0, _ => rw [List.getElem?_set_ne (by omega), List.getElem?_set_ne (by omega), List.getElem?_set_ne (by omega), Nat.add_zero, List.getElem?_set_self (by omega)]; rfl
  | 1, _ => rw [List.getElem?_set_ne (by omega), List.getElem?_set_ne (by omega), List.getElem?_set_self (by simp; omega)]; rfl
  | 2, _ => rw [List.getElem?_set_ne (by omega), List.getElem?_set_self (by simp; omega)]; rfl
  | 3, _ => rw [List.getElem?_set_self (by simp; omega)]; rfl
theorem rep4_cdf {ys : List Value} {k : Nat} {cs : List Cd} (hl : k * 4 + 4 ≤ ys.length) (h : ∀ j, j < k * 4 → ys[j]? = some (cdf cs j)) : ∀ j, j < (k + 1) * 4 → (rep4 ys k (cs.getD k default))[j]? = some (cdf cs j) := by
  intro j hj
  by_cases h1 : j < k * 4
  · rw [rep4_other _ _ _ _ (.inl h1)]; exact h j h1
  · obtain ⟨i, rfl⟩ : ∃ i, j = k * 4 + i := ⟨j - k * 4, by omega⟩
    rw [rep4_same _ _ _ _ (by omega) hl, cdf_at _ _ _ (by omega)]

set_option maxHeartbeats 400000 in
theorem toCodeS_any (v : Value) (cs : List Cd) (w : World) (h : Codes w v cs) (hlen : cs.length ≤ 1048576) :
    Calls Try.prog 17 #[v] w fun e w' => ∃ v', e = .returned v' ∧ OwnO w' w.heap.size 61 4 v' cs.length ((List.range (cs.length * 4)).map (cdf cs)) ∧ Pure w w' := by
  have H := Lib.hid h
  obtain ⟨A, c, rfl, hnc, hcm⟩ := h.form
  clear h
  go_enter Try.func17, Try.ntmps17
  go_wp2_with (at_make; go_must (refine wl_make elCode rfl _ _ rfl w.heap.size _ _ _ _ cs.length rfl rfl rfl rfl (by omega) (by omega) (Nat.le_refl _) ?_); intro w1 hown hp hsz)
  have hO := OwnO.of_own hown
  clear hown
  go_loopg [4] cs.length (fun gk i wr => ∃ k : Nat, gk + k = cs.length ∧ i = .int .i64 k ∧ Pure w wr ∧ ∃ ys, OwnO wr w.heap.size 61 4 (.slice (some ⟨w.heap.size, 0, none⟩) cs.length cs.length) cs.length ys ∧ ∀ j, j < k * 4 → ys[j]? = some (cdf cs j))
  case atStart => exact ⟨0, rfl, rfl, hp, _, hO, fun j hj => absurd hj (by omega)⟩
  case round =>
    clear hO hp hsz
    obtain ⟨k, hgk, rfl, hp, ys, hown, hys⟩ := hrel
    have Hgk := Lib.hid hgk
    have Hys := Lib.hid hys
    have Hown := Lib.hid hown
    have hkn : k ≤ cs.length := by omega
    clear hgk hys hown
    by_cases hlt : k < cs.length
    · obtain ⟨b, o, rfl, hb, hc⟩ := H.out.at_ hlt
      have hat := hc.keep hp hb
      obtain ⟨cd, Hcd⟩ : ∃ cd, Hid (cs.getD k default = cd) := ⟨_, rfl⟩
      rw [Hcd.out] at hat
      obtain ⟨q0, q1, q2, q3⟩ := hat
      clear hc
      go_wp2_with fail
      refine (toCode_any cd _).mono ?_
      rintro e w1 ⟨rfl, hp1⟩
      unfold cdv
      have hp2 := hp.trans hp1
      have hO1 := Hown.out.pure hp1
      have hl := hO1.1
      have f0 := hO1.frozen (k * 4)
      have f1 := hO1.frozen (k * 4 + 1)
      have f2 := hO1.frozen (k * 4 + 2)
      have f3 := hO1.frozen (k * 4 + 3)
      obtain ⟨u0, g0⟩ := hO1.cellSome (k * 4) (by omega)
      obtain ⟨u1, g1⟩ := hO1.cellSome (k * 4 + 1) (by omega)
      obtain ⟨u2, g2⟩ := hO1.cellSome (k * 4 + 2) (by omega)
      obtain ⟨u3, g3⟩ := hO1.cellSome (k * 4 + 3) (by omega)
      rw [Nat.zero_add] at g0 g1 g2 g3
      have s1 := hO1.stored (k * 4) (.int .i64 cd.op)
      have s2 := s1.stored (k * 4 + 1) (.int .i64 cd.a)
      have s3 := s2.stored (k * 4 + 2) (.int .i64 cd.b)
      have s4 := s3.stored (k * 4 + 3) (.int .i64 cd.c)
      simp only [Nat.zero_add] at s4
      have HS := Lib.hid s4
      have HL : Hid (ys.length = cs.length * 4) := hl
      clear s1 s2 s3 s4 hl hO1
      go_wp2
      go_roundg (cs.length - (k + 1))
      case measure => have := Hgk.out; omega
      case rel =>
        refine ⟨k + 1, by have := Hgk.out; omega, by go_num, ?_, rep4 ys k cd, HS.out, ?_⟩
        · exact (((hp2.setCell (Nat.le_refl _) _).setCell (Nat.le_refl _) _).setCell (Nat.le_refl _) _).setCell (Nat.le_refl _) _
        · rw [← Hcd.out]
          exact rep4_cdf (by have := HL.out; omega) Hys.out
      
    · have hkl : k = cs.length := by have := Hgk.out; omega
      subst hkl
      go_wp2
      go_ret
      refine ⟨_, rfl, ?_, hp⟩
      have : ys = (List.range (cs.length * 4)).map (cdf cs) := by
        apply List.ext_getElem?
        intro j
        by_cases hj : j < cs.length * 4
        · rw [Hys.out j hj]; simp [hj]
        · rw [List.getElem?_eq_none (by rw [Hown.out.1]; omega), List.getElem?_eq_none (by simp; omega)]
      rw [← this]; exact Hown.out

set_option maxHeartbeats 400000 in
theorem eqCode_any (x y : Cd) (w : World) (B : Bool) (hB : B = true ↔ x = y) :
    Calls Try.prog 62 #[cdv x, cdv y] w fun e w' => e = .returned (.bool B) ∧ Pure w w' := by
  unfold cdv
  obtain ⟨x0, x1, x2, x3⟩ := x
  obtain ⟨y0, y1, y2, y3⟩ := y
  simp only [Cd.mk.injEq] at hB
  have HB := Lib.hid hB; clear hB
  by_cases h0 : x0 = y0
  · have d0 : (x0 != y0) = false := by simp [h0]
    have H0 := Lib.hid h0; clear h0
    by_cases h1 : x1 = y1
    · have d1 : (x1 != y1) = false := by simp [h1]
      have H1 := Lib.hid h1; clear h1
      by_cases h2 : x2 = y2
      · have d2 : (x2 != y2) = false := by simp [h2]
        have H2 := Lib.hid h2; clear h2
        by_cases h3 : x3 = y3
        · have d3 : (x3 != y3) = false := by simp [h3]
          have H3 := Lib.hid h3; clear h3
          go_enter Try.func62, Try.ntmps62
          go_wp2
          go_ret
          exact ⟨ret_bool (HB.out.2 ⟨H0.out, H1.out, H2.out, H3.out⟩).symm, (by repeat (first | assumption | exact Pure.refl _ | refine Pure.drewN ?_ _ | refine Pure.drew ?_ | refine Pure.alloc ?_ _ | refine Pure.setCell ?_ (by simp <;> omega) _))⟩
        · have d3 : (x3 != y3) = true := by simp [h3]
          have H3 := Lib.hid h3; clear h3
          go_enter Try.func62, Try.ntmps62
          go_wp2
          go_ret
          exact ⟨ret_bool (by cases hb : B; rfl; exact absurd (HB.out.1 hb).2.2.2 H3.out), (by repeat (first | assumption | exact Pure.refl _ | refine Pure.drewN ?_ _ | refine Pure.drew ?_ | refine Pure.alloc ?_ _ | refine Pure.setCell ?_ (by simp <;> omega) _))⟩
      · have d2 : (x2 != y2) = true := by simp [h2]
        have H2 := Lib.hid h2; clear h2
        go_enter Try.func62, Try.ntmps62
        go_wp2
        go_ret
        exact ⟨ret_bool (by cases hb : B; rfl; exact absurd (HB.out.1 hb).2.2.1 H2.out), (by repeat (first | assumption | exact Pure.refl _ | refine Pure.drewN ?_ _ | refine Pure.drew ?_ | refine Pure.alloc ?_ _ | refine Pure.setCell ?_ (by simp <;> omega) _))⟩
    · have d1 : (x1 != y1) = true := by simp [h1]
      have H1 := Lib.hid h1; clear h1
      go_enter Try.func62, Try.ntmps62
      go_wp2
      go_ret
      exact ⟨ret_bool (by cases hb : B; rfl; exact absurd (HB.out.1 hb).2.1 H1.out), (by repeat (first | assumption | exact Pure.refl _ | refine Pure.drewN ?_ _ | refine Pure.drew ?_ | refine Pure.alloc ?_ _ | refine Pure.setCell ?_ (by simp <;> omega) _))⟩
  · have d0 : (x0 != y0) = true := by simp [h0]
    have H0 := Lib.hid h0; clear h0
    go_enter Try.func62, Try.ntmps62
    go_wp2
    go_ret
    exact ⟨ret_bool (by cases hb : B; rfl; exact absurd (HB.out.1 hb).1 H0.out), (by repeat (first | assumption | exact Pure.refl _ | refine Pure.drewN ?_ _ | refine Pure.drew ?_ | refine Pure.alloc ?_ _ | refine Pure.setCell ?_ (by simp <;> omega) _))⟩

set_option maxHeartbeats 400000 in
theorem eqCodeS_same (v v' : Value) (cs : List Cd) (w : World) (h : Codes w v cs) (h' : Codes w v' cs) :
    Calls Try.prog 21 #[v, v'] w fun e w' => e = .returned (.bool true) ∧ Pure w w' := by
  have H := Lib.hid h
  have H' := Lib.hid h'
  obtain ⟨A, c, rfl, hnc, hcm⟩ := h.form
  obtain ⟨A', c', rfl, hnc', hcm'⟩ := h'.form
  clear h h'
  have hd : ((cs.length : Int) != cs.length) = false := by simp
  go_enter Try.func21, Try.ntmps21
  go_wp2
  go_loopg [5] cs.length (fun gk i wr => ∃ k : Nat, gk + k = cs.length ∧ i = .int .i64 k ∧ Pure w wr)
  case atStart => exact ⟨0, rfl, rfl, Pure.refl _⟩
  case round =>
    obtain ⟨k, hgk, rfl, hp⟩ := hrel
    have Hgk := Lib.hid hgk
    have hkn : k ≤ cs.length := by omega
    clear hgk
    by_cases hlt : k < cs.length
    · obtain ⟨b, o, rfl, hb, hc⟩ := H.out.at_ hlt
      obtain ⟨b', o', rfl, hb', hc'⟩ := H'.out.at_ hlt
      have hat := hc.keep hp hb
      have hat' := hc'.keep hp hb'
      obtain ⟨cd, Hcd⟩ : ∃ cd, Hid (cs.getD k default = cd) := ⟨_, rfl⟩
      rw [Hcd.out] at hat hat'
      obtain ⟨q0, q1, q2, q3⟩ := hat
      obtain ⟨r0, r1, r2, r3⟩ := hat'
      clear hc hc'
      go_wp2
      go_region_with (first | (go_at_call 62; refine (eqCode_any cd cd _ true (by simp)).mono ?_; rintro e w1 ⟨rfl, hp1⟩))
      all_goals
        have hp2 := hp.drew.trans hp1
        go_wp2
        go_roundg (cs.length - (k + 1))
        case measure => have := Hgk.out; omega
        case rel => exact ⟨k + 1, by have := Hgk.out; omega, by go_num, hp2⟩
    · go_wp2
      go_ret
      exact ⟨rfl, hp⟩

end Go.Proofs.Ytokdfgodmhekmaa
