/- Crowds that came in: copies of slices of lanes and of crowds. Crowds that came in: a crowd's copy; crowds of the same values are found equal. Crowds that came in, opened into the words that the walks use. No condition. -/
import Derived.Test.YtajaonejpggcbaaKac
import Derived.Test.YtajaonejpggcbaaKca
import Derived.Test.YtajaonejpggcbaaKeb

namespace Go.Proofs.Ytajaonejpggcbaa
open Go.RowKit

def rep4v (ys : List Value) (k : Nat) (a b c d : Value) : List Value := (((ys.set (k * 4) a).set (k * 4 + 1) b).set (k * 4 + 2) c).set (k * 4 + 3) d
theorem rep4v_other (ys : List Value) (k : Nat) (a b c d : Value) (j : Nat) (h : j < k * 4 ∨ k * 4 + 4 ≤ j) : (rep4v ys k a b c d)[j]? = ys[j]? := by
  unfold rep4v
  rw [List.getElem?_set_ne (by omega), List.getElem?_set_ne (by omega), List.getElem?_set_ne (by omega), List.getElem?_set_ne (by omega)]
theorem rep4v_same (ys : List Value) (k : Nat) (a b c d : Value) (hl : k * 4 + 4 ≤ ys.length) : (rep4v ys k a b c d)[k * 4]? = some a ∧ (rep4v ys k a b c d)[k * 4 + 1]? = some b ∧ (rep4v ys k a b c d)[k * 4 + 2]? = some c ∧ (rep4v ys k a b c d)[k * 4 + 3]? = some d := by
  unfold rep4v
  refine ⟨?_, ?_, ?_, ?_⟩
  · rw [List.getElem?_set_ne (by omega), List.getElem?_set_ne (by omega), List.getElem?_set_ne (by omega), List.getElem?_set_self (by omega)]
  · rw [List.getElem?_set_ne (by omega), List.getElem?_set_ne (by omega), List.getElem?_set_self (by simp; omega)]
  · rw [List.getElem?_set_ne (by omega), List.getElem?_set_self (by simp; omega)]
  · rw [List.getElem?_set_self (by simp; omega)]
/-- A lane in a row of cells, with rows behind the block of that row. -/
def LnIn (w : World) (B : Nat) (ys : List Value) (j : Nat) (l : Lx) : Prop :=
  ∃ R T, ys[j * 4]? = some R ∧ ys[j * 4 + 1]? = some (.int .i64 l.at_) ∧ ys[j * 4 + 2]? = some T ∧ ys[j * 4 + 3]? = some (.bool l.wt) ∧ Ints w R l.rs ∧ Ints w T l.ts ∧ (∀ g, R.ownBlock = some g → B < g) ∧ (∀ g, T.ownBlock = some g → B < g)
theorem LnIn.chg {w w' : World} {B : Nat} {ys ys' : List Value} {j : Nat} {l : Lx} (h : LnIn w B ys j l) (hc : w.grownBy w' (some B)) (hy : ∀ i, i < 4 → ys'[j * 4 + i]? = ys[j * 4 + i]?) : LnIn w' B ys' j l := by
  obtain ⟨R, T, a, b, c, d, r, t, e, f⟩ := h
  exact ⟨R, T, (hy 0 (by omega)).trans a, (hy 1 (by omega)).trans b, (hy 2 (by omega)).trans c, (hy 3 (by omega)).trans d, r.other hc (fun g hg => by have := e g hg; simp; omega), t.other hc (fun g hg => by have := f g hg; simp; omega), e, f⟩
theorem LnIn.pure {w w' : World} {B : Nat} {ys : List Value} {j : Nat} {l : Lx} (h : LnIn w B ys j l) (hp : Pure w w') : LnIn w' B ys j l := by
  obtain ⟨R, T, a, b, c, d, r, t, e, f⟩ := h
  exact ⟨R, T, a, b, c, d, r.keep hp, t.keep hp, e, f⟩
theorem Lanes.of_own {w : World} {B B' e : Nat} {v : Value} {ys : List Value} {ls : List Lx} (h : OwnO w B e 4 v ls.length ys) (hf : ∀ j, j < ls.length → LnIn w B' ys j (ls.getD j default)) : Lanes w v ls := by
  rcases h.2 with ⟨rfl, h0⟩ | ⟨g, off, cap, cur, rfl, h1, h2, h3, h4, h5, h6⟩
  · exact ⟨none, 0, by rw [h0], by omega, by omega, fun h => absurd h (by omega)⟩
  · refine ⟨_, cap, rfl, h3, by omega, fun hn => ⟨g, off, rfl, (Array.getElem?_eq_some_iff.1 h2).1, fun k hk => ?_⟩⟩
    obtain ⟨R, T, a, b, c, d, r, t, _, _⟩ := hf k hk
    refine ⟨R, T, (h.cell (k * 4) (by omega)).trans a, ?_, ?_, ?_, r, t⟩
    · rw [Nat.add_assoc]; exact (h.cell (k * 4 + 1) (by omega)).trans b
    · rw [Nat.add_assoc]; exact (h.cell (k * 4 + 2) (by omega)).trans c
    · rw [Nat.add_assoc]; exact (h.cell (k * 4 + 3) (by omega)).trans d

/-- A slice of lanes of the call's own. -/
def LanesO (w : World) (B : Nat) (v : Value) (ls : List Lx) : Prop := ∃ ys, OwnO w B 55 4 v ls.length ys ∧ ∀ j, j < ls.length → LnIn w B ys j (ls.getD j default)
theorem LanesO.lanes {w : World} {B : Nat} {v : Value} {ls : List Lx} (h : LanesO w B v ls) : Lanes w v ls := by
  obtain ⟨ys, h1, h2⟩ := h
  exact Lanes.of_own h1 h2
theorem LanesO.pure {w w' : World} {B : Nat} {v : Value} {ls : List Lx} (h : LanesO w B v ls) (hp : Pure w w') : LanesO w' B v ls := by
  obtain ⟨ys, h1, h2⟩ := h
  exact ⟨ys, h1.pure hp, fun j hj => (h2 j hj).pure hp⟩
theorem LanesO.set {w w' : World} {B g : Nat} {v : Value} {ls : List Lx} (h : LanesO w B v ls) (hg : w.grownBy w' (some g)) (hB : g < B) : LanesO w' B v ls := by
  obtain ⟨ys, h1, h2⟩ := h
  refine ⟨ys, h1.kept hg (fun k hk => by have := (h1.lt k hk).1; simp; omega), fun j hj => ?_⟩
  obtain ⟨R, T, a, b, c, d, r, t, e, f⟩ := h2 j hj
  exact ⟨R, T, a, b, c, d, r.other hg (fun g hg => by have := e g hg; simp; omega), t.other hg (fun g hg => by have := f g hg; simp; omega), e, f⟩
theorem LanesO.form {w : World} {B : Nat} {v : Value} {ls : List Lx} (h : LanesO w B v ls) : ∃ A c, v = .slice A ls.length c := by
  obtain ⟨ys, h1, h2⟩ := h
  exact h1.form

set_option maxHeartbeats 1000000 in
theorem toLaneS_any (v : Value) (ls : List Lx) (w : World) (h : Lanes w v ls) (hlen : ls.length ≤ 1048576) (hlens : ∀ k, k < ls.length → (ls.getD k default).rs.length ≤ 1048576 ∧ (ls.getD k default).ts.length ≤ 1048576) :
    Calls Try.prog 52 #[v] w fun e w' => ∃ v', e = .returned v' ∧ LanesO w' w.heap.size v' ls ∧ Pure w w' := by
  have H := Lib.hid h
  have HLS := Lib.hid hlens
  obtain ⟨A, c, rfl, hnc, hcm⟩ := h.form
  clear h hlens
  go_enter Try.func52, Try.ntmps52
  go_wp2_with (at_make; go_must (refine wl_make elILane rfl _ _ rfl w.heap.size _ _ _ _ ls.length rfl rfl rfl rfl (by omega) (by omega) (Nat.le_refl _) ?_); intro w1 hown hp hsz)
  have hO := OwnO.of_own hown
  clear hown
  go_loopg [4] ls.length (fun gk i wr => ∃ k : Nat, gk + k = ls.length ∧ i = .int .i64 k ∧ Pure w wr ∧ ∃ ys, OwnO wr w.heap.size 55 4 (.slice (some ⟨w.heap.size, 0, none⟩) ls.length ls.length) ls.length ys ∧ ∀ j, j < k → LnIn wr w.heap.size ys j (ls.getD j default))
  case atStart => exact ⟨0, rfl, rfl, hp, _, hO, fun j hj => absurd hj (by omega)⟩
  case round =>
    clear hO hp hsz
    obtain ⟨k, hgk, rfl, hp, ys, hown, hys⟩ := hrel
    have Hgk := Lib.hid hgk
    have Hys := Lib.hid hys
    have Hown := Lib.hid hown
    have HP := Lib.hid hp
    have hkn : k ≤ ls.length := by omega
    clear hgk hys hown hp
    by_cases hlt : k < ls.length
    · obtain ⟨b, o, rfl, hb, R, T, hx⟩ := (H.out.keep HP.out).at_ hlt
      obtain ⟨l1, l2⟩ := HLS.out k hlt
      obtain ⟨x, Hx⟩ : ∃ x, Hid (ls.getD k default = x) := ⟨_, Lib.hid rfl⟩
      rw [Hx.out] at hx l1 l2
      have HX := Lib.hid hx
      obtain ⟨c0, c1, c2, c3, hr, ht⟩ := hx
      clear hr ht
      go_wp2_with fail
      refine (toLane_any R T x _ HX.out.r HX.out.t l1 l2).mono ?_
      rintro e w1 ⟨v1, v2, rfl, ho1, ho2, hp1⟩
      unfold lnVX
      obtain ⟨A1, cc1, rfl⟩ := ho1.form
      obtain ⟨A2, cc2, rfl⟩ := ho2.form
      have hp2 := HP.out.trans hp1
      have hO1 := Hown.out.pure hp1
      have hl := hO1.1
      have f0 := hO1.frozen (k * 4)
      have f1 := hO1.frozen (k * 4 + 1)
      have f2 := hO1.frozen (k * 4 + 2)
      have f3 := hO1.frozen (k * 4 + 3)
      obtain ⟨u0, g0⟩ := hO1.cellSome (k * 4) (by omega)
      obtain ⟨u1, g1⟩ := hO1.cellSome (k * 4 + 1) (by omega)
      obtain ⟨u2, g2⟩ := hO1.cellSome (k * 4 + 2) (by omega)
      obtain ⟨u3, g3⟩ := hO1.cellSome (k * 4 + 3) (by omega)
      rw [Nat.zero_add] at g0 g1 g2 g3
      have s1 := hO1.stored (k * 4) (.slice A1 x.rs.length cc1)
      have s2 := s1.stored (k * 4 + 1) (.int .i64 x.at_)
      have s3 := s2.stored (k * 4 + 2) (.slice A2 x.ts.length cc2)
      have s4 := s3.stored (k * 4 + 3) (.bool x.wt)
      simp only [Nat.zero_add] at s4
      have HS := Lib.hid s4
      have HL : Hid (ys.length = ls.length * 4) := hl
      have HO1 := Lib.hid ho1
      have HO2 := Lib.hid ho2
      have HP1 := Lib.hid hp1
      have HBZ : Hid (w.heap.size ≤ _) := Lib.hid HP.out.size
      have hbb : b < w1.heap.size := Nat.lt_of_lt_of_le hb hp1.size
      clear s1 s2 s3 s4 hl hO1 ho1 ho2 hp1
      go_wp2
      go_roundg (ls.length - (k + 1))
      case measure => have := Hgk.out; omega
      case rel =>
        refine ⟨k + 1, by have := Hgk.out; omega, by go_num, ?_, rep4v ys k (.slice A1 x.rs.length cc1) (.int .i64 x.at_) (.slice A2 x.ts.length cc2) (.bool x.wt), HS.out, fun j hj => ?_⟩
        · exact (((hp2.setCell (Nat.le_refl _) _).setCell (Nat.le_refl _) _).setCell (Nat.le_refl _) _).setCell (Nat.le_refl _) _
        · have hg := grown_set (grown_set (grown_set (grown_setCell w1 ⟨w.heap.size, k * 4, none⟩ (.slice A1 x.rs.length cc1)) (i := k * 4 + 1) (u := .int .i64 x.at_)) (i := k * 4 + 2) (u := .slice A2 x.ts.length cc2)) (i := k * 4 + 3) (u := .bool x.wt)
          by_cases hjk : j = k
          · subst hjk
            rw [Hx.out]
            obtain ⟨r0, r1, r2, r3⟩ := rep4v_same ys j (.slice A1 x.rs.length cc1) (.int .i64 x.at_) (.slice A2 x.ts.length cc2) (.bool x.wt) (by have := HL.out; omega)
            have n1 : ∀ g, (Value.slice A1 x.rs.length cc1).ownBlock = some g → w.heap.size < g := fun g hg => by have := (HO1.out.lt g hg).1; have := HBZ.out; omega
            have n2 : ∀ g, (Value.slice A2 x.ts.length cc2).ownBlock = some g → w.heap.size < g := fun g hg => by have := (HO2.out.lt g hg).1; have := HBZ.out; omega
            exact ⟨_, _, r0, r1, r2, r3, (Ints.of_ownO' HO1.out).other hg (fun g hg => by have := n1 g hg; simp; omega), (Ints.of_ownO' HO2.out).other hg (fun g hg => by have := n2 g hg; simp; omega), n1, n2⟩
          · exact ((Hys.out j (by omega)).pure HP1.out).chg hg (fun i hi => rep4v_other _ _ _ _ _ _ _ (by omega))
    · have hkl : k = ls.length := by have := Hgk.out; omega
      subst hkl
      go_wp2
      go_ret
      exact ⟨_, rfl, ⟨_, Hown.out, Hys.out⟩, HP.out⟩

end Go.Proofs.Ytajaonejpggcbaa

namespace Go.Proofs.Ytajaonejpggcbaa
open Go.RowKit

set_option maxHeartbeats 400000 in
theorem toCrowd_any (vl vm : Value) (c : Cx) (w : World) (hl : Lanes w vl c.ls) (hm : Ints w vm c.mem) (h1 : c.ls.length ≤ 1048576) (h2 : c.mem.length ≤ 1048576) (hlens : ∀ k, k < c.ls.length → (c.ls.getD k default).rs.length ≤ 1048576 ∧ (c.ls.getD k default).ts.length ≤ 1048576) :
    Calls Try.prog 16 #[.agg #[vl, vm]] w fun e w' => ∃ v1 v2, e = .returned (.agg #[v1, v2]) ∧ Lanes w' v1 c.ls ∧ Ints w' v2 c.mem ∧ Pure w w' := by
  have HL := Lib.hid hl
  have HM := Lib.hid hm
  have HLS := Lib.hid hlens
  obtain ⟨Al, cl, rfl, _⟩ := hl.form
  obtain ⟨Am, cm, rfl⟩ := hm.form
  clear hl hm hlens
  obtain ⟨wz, Hwz⟩ : ∃ wz, Hid (((w.alloc (.cells #[.slice Al c.ls.length cl, .slice Am c.mem.length cm] 25)).alloc (.cells #[.slice none 0 0, .slice none 0 0] 33)).alloc (.cells #[.slice none 0 0, .slice none 0 0] 33) = wz) := ⟨_, Lib.hid rfl⟩
  have HPZ : Hid (Pure w wz) := Lib.hid (by rw [← Hwz.out]; exact (by repeat (first | assumption | exact Pure.refl _ | refine Pure.drewN ?_ _ | refine Pure.drew ?_ | refine Pure.alloc ?_ _ | refine Pure.setCell ?_ (by simp <;> omega) _)))
  have HZ := Lib.hid (Hwz.out ▸ heap_alloc3 w _ _ _)
  have HZS : Hid (wz.heap.size = w.heap.size + 3) := Lib.hid (by rw [← Hwz.out]; simp)
  go_enter Try.func16, Try.ntmps16
  go_wp2_with fail
  rw [Hwz.out]
  refine (toLaneS_any _ c.ls _ (HL.out.keep HPZ.out) h1 HLS.out).mono ?_
  rintro e w1 ⟨v1, rfl, ho1, hp1⟩
  have HO1 := Lib.hid ho1
  obtain ⟨A1, c1, rfl⟩ := ho1.form
  obtain ⟨a0, _⟩ := row_pure hp1 HZ.out.1 0
  obtain ⟨a1, _⟩ := row_pure hp1 HZ.out.1 1
  obtain ⟨b0, f0⟩ := row_pure hp1 HZ.out.2.1 0
  obtain ⟨b1, f1⟩ := row_pure hp1 HZ.out.2.1 1
  obtain ⟨d0, g0⟩ := row_pure hp1 HZ.out.2.2 0
  obtain ⟨d1, g1⟩ := row_pure hp1 HZ.out.2.2 1
  simp only [List.getElem?_toArray, List.getElem?_cons_zero, List.getElem?_cons_succ] at a0 a1 b0 b1 d0 d1
  have HP1 := Lib.hid hp1
  obtain ⟨wy, Hwy⟩ : ∃ wy, Hid (w1.setCell ⟨w.heap.size + 1 + 1, 0, none⟩ (.slice A1 c.ls.length c1) = wy) := ⟨_, Lib.hid rfl⟩
  have hcy : Chg (fun b => b = w.heap.size + 1 + 1) w1 wy := by rw [← Hwy.out]; exact Chg.of_set w1 _ _ _ (by rfl)
  have Z0 := (Chg.of_pure (S := fun _ => False) hp1).heap HZ.out.1 id
  have Z1 := (Chg.of_pure (S := fun _ => False) hp1).heap HZ.out.2.1 id
  have Z2 := (Chg.of_pure (S := fun _ => False) hp1).heap HZ.out.2.2 id
  have HY0 := Lib.hid (hcy.heap Z0 (by omega))
  have HY1 := Lib.hid (hcy.heap Z1 (by omega))
  have HY2 : Hid (wy.heap[w.heap.size + 1 + 1]? = some (.cells #[.slice A1 c.ls.length c1, .slice none 0 0] 33 (0, 0))) := Lib.hid (by rw [← Hwy.out, heap_setCell_same w1 _ 0 _ _ _ Z2]; rfl)
  have HPY : Hid (Pure w wy) := Lib.hid (by rw [← Hwy.out]; exact (HPZ.out.trans hp1).setCell (show _ ≤ w.heap.size + 1 + 1 by omega) _)
  have HOY : Hid (LanesO wy wz.heap.size (.slice A1 c.ls.length c1) c.ls) := Lib.hid (by rw [← Hwy.out]; exact HO1.out.set (g := w.heap.size + 1 + 1) (grown_setCell w1 ⟨w.heap.size + 1 + 1, 0, none⟩ _) (by have := HZS.out; omega))
  clear ho1 hp1 hcy Z0 Z1 Z2
  go_wp2_with fail
  rw [Hwy.out]
  refine (toIntS_any _ c.mem _ (HM.out.keep HPY.out) (by omega)).mono ?_
  rintro e w2 ⟨v2, rfl, ho2, hp2⟩
  have HO2 := Lib.hid ho2
  obtain ⟨A2, c2, rfl⟩ := (Ints.of_map ho2).form
  obtain ⟨y0, p0⟩ := row_pure hp2 HY1.out 0
  obtain ⟨y1, p1⟩ := row_pure hp2 HY1.out 1
  obtain ⟨z0, q0⟩ := row_pure hp2 HY2.out 0
  obtain ⟨z1, q1⟩ := row_pure hp2 HY2.out 1
  simp only [List.getElem?_toArray, List.getElem?_cons_zero, List.getElem?_cons_succ] at y0 y1 z0 z1
  have HP2 := Lib.hid hp2
  have hys : wy.heap.size ≤ w2.heap.size := hp2.size
  have HSZ : Hid (w.heap.size + 3 ≤ wy.heap.size) := Lib.hid (by rw [← Hwy.out]; have := HP1.out.size; have := HZS.out; simp [World.setCell]; omega)
  clear ho2 hp2 a0 a1 b0 b1 d0 d1 f0 f1 g0 g1
  go_wp2_with fail
  refine bodyPost_ret (v := .agg #[.slice A1 c.ls.length c1, .slice A2 c.mem.length c2]) (by simp [results, Try.results16, go_sem, y0, y1]) rfl ?_
  refine ⟨_, _, rfl, (((HOY.out.pure HP2.out).set (g := w.heap.size + 1 + 1) (grown_setCell _ ⟨w.heap.size + 1 + 1, 1, none⟩ _) (by have := HZS.out; omega)).set (g := w.heap.size + 1) (grown_set (grown_setCell _ ⟨w.heap.size + 1, 0, none⟩ _)) (by have := HZS.out; omega)).lanes, ?_, ?_⟩
  · refine Ints.other (Ints.other (Ints.of_map HO2.out) (grown_setCell _ ⟨w.heap.size + 1 + 1, 1, none⟩ _) (fun g hg => ?_)) (grown_set (grown_setCell _ ⟨w.heap.size + 1, 0, none⟩ _)) (fun g hg => ?_)
    · have := own_lt HO2.out g hg; have := HSZ.out; simp; omega
    · have := own_lt HO2.out g hg; have := HSZ.out; simp; omega
  · exact (((HPY.out.trans HP2.out).setCell (show _ ≤ w.heap.size + 1 + 1 by omega) _).setCell (show _ ≤ w.heap.size + 1 by omega) _).setCell (show _ ≤ w.heap.size + 1 by omega) _

/-- The lanes' copies lie behind a world. -/
theorem Lanes.drawn {w : World} {v : Value} {ls : List Lx} (h : Lanes w v ls) (n : Nat) : Lanes (w.drewN n) v ls := h.keep (Pure.drewN (Pure.refl _) n)

set_option maxHeartbeats 400000 in
theorem eqLane_same (R T R' T' : Value) (l : Lx) (w : World) (hr : Ints w R l.rs) (ht : Ints w T l.ts) (hr' : Ints w R' l.rs) (ht' : Ints w T' l.ts) :
    Calls Try.prog 90 #[lnVX R l.at_ T l.wt, lnVX R' l.at_ T' l.wt] w fun e w' => e = .returned (.bool true) ∧ Pure w w' := by
  unfold lnVX
  have HR := Lib.hid hr
  have HT := Lib.hid ht
  have HR' := Lib.hid hr'
  have HT' := Lib.hid ht'
  obtain ⟨Ar, cr, rfl⟩ := hr.form
  obtain ⟨At, ct, rfl⟩ := ht.form
  obtain ⟨Ar', cr', rfl⟩ := hr'.form
  obtain ⟨At', ct', rfl⟩ := ht'.form
  clear hr ht hr' ht'
  have e1 : (l.at_ != l.at_) = false := by simp
  have e2 : (l.wt != l.wt) = false := by simp
  go_enter Try.func90, Try.ntmps90
  go_wp2_with fail
  refine (eqIntS_any _ _ l.rs l.rs _ (HR.out.keep (by exact (by repeat (first | assumption | exact Pure.refl _ | refine Pure.drewN ?_ _ | refine Pure.drew ?_ | refine Pure.alloc ?_ _ | refine Pure.setCell ?_ (by simp <;> omega) _)))) (HR'.out.keep (by exact (by repeat (first | assumption | exact Pure.refl _ | refine Pure.drewN ?_ _ | refine Pure.drew ?_ | refine Pure.alloc ?_ _ | refine Pure.setCell ?_ (by simp <;> omega) _)))) true (by simp)).mono ?_
  rintro e w1 ⟨rfl, n1, rfl⟩
  go_wp2_with fail
  refine (eqIntS_any _ _ l.ts l.ts _ (HT.out.keep (by exact (by repeat (first | assumption | exact Pure.refl _ | refine Pure.drewN ?_ _ | refine Pure.drew ?_ | refine Pure.alloc ?_ _ | refine Pure.setCell ?_ (by simp <;> omega) _)))) (HT'.out.keep (by exact (by repeat (first | assumption | exact Pure.refl _ | refine Pure.drewN ?_ _ | refine Pure.drew ?_ | refine Pure.alloc ?_ _ | refine Pure.setCell ?_ (by simp <;> omega) _)))) true (by simp)).mono ?_
  rintro e w1 ⟨rfl, n2, rfl⟩
  go_wp2_with fail
  go_ret
  exact ⟨rfl, (by repeat (first | assumption | exact Pure.refl _ | refine Pure.drewN ?_ _ | refine Pure.drew ?_ | refine Pure.alloc ?_ _ | refine Pure.setCell ?_ (by simp <;> omega) _))⟩

set_option maxHeartbeats 400000 in
theorem eqLaneS_same (v v' : Value) (ls : List Lx) (w : World) (h : Lanes w v ls) (h' : Lanes w v' ls) :
    Calls Try.prog 58 #[v, v'] w fun e w' => e = .returned (.bool true) ∧ Pure w w' := by
  have H := Lib.hid h
  have H' := Lib.hid h'
  obtain ⟨A, c, rfl, hnc, hcm⟩ := h.form
  obtain ⟨A', c', rfl, hnc', hcm'⟩ := h'.form
  clear h h'
  have hl2 : ((ls.length : Int) != ls.length) = false := by simp
  go_enter Try.func58, Try.ntmps58
  go_wp2
  go_loopg [5] ls.length (fun gk i wr => ∃ k : Nat, gk + k = ls.length ∧ i = .int .i64 k ∧ Pure w wr)
  case atStart => exact ⟨0, rfl, rfl, (by repeat (first | assumption | exact Pure.refl _ | refine Pure.drewN ?_ _ | refine Pure.drew ?_ | refine Pure.alloc ?_ _ | refine Pure.setCell ?_ (by simp <;> omega) _))⟩
  case round =>
    obtain ⟨k, hgk, rfl, hp⟩ := hrel
    have Hgk := Lib.hid hgk
    have HP := Lib.hid hp
    have hk : k ≤ ls.length := by omega
    clear hgk hp
    by_cases hlt : k < ls.length
    · obtain ⟨b, o, rfl, hb, R, T, hx⟩ := (H.out.keep HP.out).at_ hlt
      obtain ⟨b', o', rfl, hb', R', T', hx'⟩ := (H'.out.keep HP.out).at_ hlt
      obtain ⟨x, Hx⟩ : ∃ x, Hid (ls.getD k default = x) := ⟨_, Lib.hid rfl⟩
      rw [Hx.out] at hx hx'
      have HX := Lib.hid hx
      have HX' := Lib.hid hx'
      obtain ⟨c0, c1, c2, c3, hr, ht⟩ := hx
      obtain ⟨d0, d1, d2, d3, hr', ht'⟩ := hx'
      clear hr ht hr' ht'
      go_wp2
      go_region_with (first | (go_at_call 90; refine (eqLane_same R T R' T' x _ (HX.out.r.keep (Pure.drewN (Pure.refl _) _)) (HX.out.t.keep (Pure.drewN (Pure.refl _) _)) (HX'.out.r.keep (Pure.drewN (Pure.refl _) _)) (HX'.out.t.keep (Pure.drewN (Pure.refl _) _))).mono ?_; rintro e w1 ⟨rfl, hp1⟩))
      all_goals
        have hp2 := HP.out.drew.trans hp1
        go_wp2
        go_roundg (ls.length - (k + 1))
        case measure => have := Hgk.out; omega
        case rel => exact ⟨k + 1, by have := Hgk.out; omega, by go_num, hp2⟩
    · go_wp2
      go_ret
      exact ⟨rfl, HP.out⟩

set_option maxHeartbeats 400000 in
theorem eqCrowd_same (vl vm vl' vm' : Value) (c : Cx) (w : World) (hl : Lanes w vl c.ls) (hm : Ints w vm c.mem) (hl' : Lanes w vl' c.ls) (hm' : Ints w vm' c.mem) :
    Calls Try.prog 19 #[.agg #[vl, vm], .agg #[vl', vm']] w fun e w' => e = .returned (.bool true) ∧ Pure w w' := by
  have HL := Lib.hid hl
  have HM := Lib.hid hm
  have HL' := Lib.hid hl'
  have HM' := Lib.hid hm'
  obtain ⟨Al, cl, rfl, _⟩ := hl.form
  obtain ⟨Am, cm, rfl⟩ := hm.form
  obtain ⟨Al', cl', rfl, _⟩ := hl'.form
  obtain ⟨Am', cm', rfl⟩ := hm'.form
  clear hl hm hl' hm'
  obtain ⟨wz, Hwz⟩ : ∃ wz, Hid ((w.alloc (.cells #[.slice Al c.ls.length cl, .slice Am c.mem.length cm] 33)).alloc (.cells #[.slice Al' c.ls.length cl', .slice Am' c.mem.length cm'] 33) = wz) := ⟨_, Lib.hid rfl⟩
  have HPZ : Hid (Pure w wz) := Lib.hid (by rw [← Hwz.out]; exact (by repeat (first | assumption | exact Pure.refl _ | refine Pure.drewN ?_ _ | refine Pure.drew ?_ | refine Pure.alloc ?_ _ | refine Pure.setCell ?_ (by simp <;> omega) _)))
  have HZ0 : Hid (wz.heap[w.heap.size]? = some (.cells #[.slice Al c.ls.length cl, .slice Am c.mem.length cm] 33 (0, 0))) := Lib.hid (by rw [← Hwz.out]; exact (Chg.of_pure (S := fun _ => False) ((Pure.refl _).alloc _)).heap (heap_alloc_new w _) id)
  have HZ1 : Hid (wz.heap[w.heap.size + 1]? = some (.cells #[.slice Al' c.ls.length cl', .slice Am' c.mem.length cm'] 33 (0, 0))) := Lib.hid (by
    rw [← Hwz.out]
    have := heap_alloc_new (w.alloc (.cells #[.slice Al c.ls.length cl, .slice Am c.mem.length cm] 33)) (.cells #[.slice Al' c.ls.length cl', .slice Am' c.mem.length cm'] 33)
    simpa using this)
  go_enter Try.func19, Try.ntmps19
  go_wp2_with fail
  rw [Hwz.out]
  refine (eqLaneS_same _ _ c.ls _ (HL.out.keep HPZ.out) (HL'.out.keep HPZ.out)).mono ?_
  rintro e w1 ⟨rfl, hp1⟩
  obtain ⟨y0, _⟩ := row_pure hp1 HZ0.out 0
  obtain ⟨y1, _⟩ := row_pure hp1 HZ0.out 1
  obtain ⟨z0, _⟩ := row_pure hp1 HZ1.out 0
  obtain ⟨z1, _⟩ := row_pure hp1 HZ1.out 1
  simp only [List.getElem?_toArray, List.getElem?_cons_zero, List.getElem?_cons_succ] at y0 y1 z0 z1
  have HP1 := Lib.hid (HPZ.out.trans hp1)
  clear hp1
  go_wp2_with fail
  refine (eqIntS_any _ _ c.mem c.mem _ (HM.out.keep HP1.out) (HM'.out.keep HP1.out) true (by simp)).mono ?_
  rintro e w2 ⟨rfl, n2, rfl⟩
  go_wp2_with fail
  go_ret
  exact ⟨rfl, Pure.drewN HP1.out _⟩

end Go.Proofs.Ytajaonejpggcbaa

namespace Go.Proofs.Ytajaonejpggcbaa
open Go.ChangeShapes Go.WideShapes Go.ChangeAt Go.RowKit Go.Deep

section
variable {H : Type} {enc : TypeId × Value → H} {W : World} {base : Nat} {held : Bool}

set_option maxRecDepth 100000 in
theorem lanes_open {fuel : Nat} {cs : List Value} {x : DataW H × List MemPlace} (h : DataW.trod enc Try.prog W base (fun _ => true) held fuel 22 cs = some x) : ∃ v ls, cs = [v] ∧ Lanes W v ls := by
  rcases open_slice Try.underlying22 h with ⟨hcs, _⟩ | ⟨a, len, cap, m, n, D, Pl, hcs, _, hl, hm, hmm, _, hx⟩
  · exact ⟨_, [], hcs, ⟨none, 0, rfl, by simp, by omega, fun h => absurd h (by simp)⟩⟩
  · simp only [if_true] at hmm
    subst hmm
    have c67 : Try.prog.cellsOf 108 = 4 := by kernel_rfl
    have c3 : Try.prog.cellsOf 3 = 1 := by kernel_rfl
    have c4 : Try.prog.cellsOf 23 = 1 := by kernel_rfl
    have c5 : Try.prog.cellsOf 4 = 1 := by kernel_rfl
    have each : ∀ i, i < m → ∃ q : Lx, ∃ R T, W.cell? (a.add (i * 4)) = some R ∧ W.cell? (a.add (i * 4 + 1)) = some (.int .i64 q.at_) ∧ W.cell? (a.add (i * 4 + 2)) = some T ∧ W.cell? (a.add (i * 4 + 3)) = some (.bool q.wt) ∧ Ints W R q.rs ∧ Ints W T q.ts := by
      intro i hi
      obtain ⟨cs', h1, h2⟩ := hx i hi
      rw [c67] at h1
      obtain ⟨_, hlen, hcell⟩ := World.cells?_some h1
      obtain ⟨xs, k, hk, hxy, _, hxl, hf⟩ := DataW.trod_struct Try.underlying108 h2
      match cs', hlen with
      | [v0, v1, v2, v3], _ =>
        have g0 := hf 0 _ rfl
        have g1 := hf 1 _ rfl
        have g2 := hf 2 _ rfl
        have g3 := hf 3 _ rfl
        have e0 := hcell 0 (by omega)
        have e1 := hcell 1 (by omega)
        have e2 := hcell 2 (by omega)
        have e3 := hcell 3 (by omega)
        rw [add_add] at e0 e1 e2 e3
        match xs, hxl with
        | [y0, y1, y2, y3], _ =>
          simp [c3, c4, c5] at g0 g1 g2 g3
          obtain ⟨z0, r0, hz0, hi0, _⟩ := ints_open g0
          obtain ⟨z1, hz1, _⟩ := DataW.trod_int Try.underlying3 g1
          obtain ⟨z2, r2, hz2, hi2, _⟩ := ints_open g2
          obtain ⟨z3, hz3, _⟩ := DataW.trod_bool Try.underlying4 g3
          simp only [List.cons.injEq, and_true] at hz0 hz1 hz2 hz3
          subst hz0 hz1 hz2 hz3
          exact ⟨⟨r0, z1, r2, z3⟩, _, _, by simpa using e0, by simpa using e1, by simpa using e2, by simpa using e3, hi0, hi2⟩
    obtain ⟨q, hq⟩ := choose_lt each
    have hlen : ((List.range len).map q).length = len := by simp
    refine ⟨_, (List.range len).map q, hcs, ⟨some a, m, by rw [hlen], by rw [hlen]; exact hl, by unfold maxLen at hm; omega, fun hn => ?_⟩⟩
    rw [hlen] at hn
    obtain ⟨R0, T0, h0, _⟩ := hq 0 (by omega)
    obtain ⟨b, o, rfl⟩ := addr_form (show W.cell? a = _ by simpa [Addr.add] using h0)
    refine ⟨b, o, rfl, block_of_cell (show W.cell? ⟨b, o, none⟩ = _ by simpa [Addr.add] using h0), fun k hk => ?_⟩
    rw [hlen] at hk
    obtain ⟨R, T, a0, a1, a2, a3, hr, ht⟩ := hq k (by omega)
    have hd : ((List.range len).map q).getD k default = q k := by simp [List.getD_eq_getElem?_getD, hk]
    rw [hd]
    rw [add_mid] at a0 a1 a2 a3
    rw [← Nat.add_assoc] at a1 a2 a3
    exact ⟨R, T, ⟨a0, a1, a2, a3, hr, ht⟩⟩

set_option maxRecDepth 100000 in
theorem crowd_open {v : Value} {r : Reach} {b2 : Nat} {x : DataW H} {p : List MemPlace} (hv : Value.okWide Try.prog W r b2 25 v) (h : DataW.Trod enc Try.prog W base (fun _ => true) held 25 v x p) : ∃ c, Crowd W v c := by
  obtain ⟨cs, rfl, _⟩ := okWide_struct Try.underlying25 hv
  obtain ⟨fuel, hf⟩ := h
  have c4 : Try.prog.cellsOf 23 = 1 := by kernel_rfl
  have c6 : Try.prog.cellsOf 22 = 1 := by kernel_rfl
  have c7 : Try.prog.cellsOf 25 = 2 := by kernel_rfl
  simp only [Value.cells] at hf
  obtain ⟨xs, k, hk, hxy, hlen, hxl, hf⟩ := DataW.trod_struct Try.underlying25 hf
  rw [c7] at hlen
  obtain ⟨l⟩ := cs
  have hlen : l.length = 2 := hlen
  match l, hlen with
  | [v0, v1], _ =>
    have g0 := hf 0 _ rfl
    have g1 := hf 1 _ rfl
    match xs, hxl with
    | [y0, y1], _ =>
      simp [c4, c6] at g0 g1
      obtain ⟨z0, ls, hz0, hl⟩ := lanes_open g0
      obtain ⟨z1, m, hz1, hm, _⟩ := ints_open g1
      simp only [List.cons.injEq, and_true] at hz0 hz1
      subst hz0 hz1
      exact ⟨⟨ls, m⟩, v0, v1, rfl, hl, hm⟩
end
end Go.Proofs.Ytajaonejpggcbaa
