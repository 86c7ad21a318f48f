/- The trace's cost, as the program finds it; the law that both are the same. No condition. -/
import Derived.Test.YtokdfgodmhekmaaAll7
import Derived.Test.YtokdfgodmhekmaaCost8
import Derived.Test.YtokdfgodmhekmaaRes
namespace Go.Proofs.Ytokdfgodmhekmaa
open Go.RowKit

/-- What the steps below j cost that one of the lanes of b takes. -/
def costM (cs : List Cd) (b : Nat) (H : List (Nat × Nat × (Nat → Nat → Int))) : Nat → Nat
  | 0 => 0
  | j + 1 => if (H.getD j default).2.1 &&& b = 0 then costM cs b H j else costM cs b H j + cdCost (cs.getD (H.getD j default).1 default)
theorem costM_le (cs : List Cd) (b : Nat) (H : List (Nat × Nat × (Nat → Nat → Int))) : ∀ j, costM cs b H j ≤ 4 * j
  | 0 => Nat.le_refl _
  | j + 1 => by
    have h1 := costM_le cs b H j
    have h2 := cdCost_le (cs.getD (H.getD j default).1 default)
    unfold costM
    split <;> omega
theorem costM_all {cs : List Cd} {n : Nat} {H : List (Nat × Nat × (Nat → Nat → Int))} (h : ∀ x ∈ H, StepIn n 0 cs.length x) : ∀ j, j ≤ H.length → costM cs (2 ^ n - 1) H j = costTo cs H j
  | 0, _ => rfl
  | j + 1, hj => by
    have ih := costM_all h j (by omega)
    have hx := h _ (getD_mem' (show j < H.length by omega))
    unfold costM costTo
    rw [Nat.and_two_pow_sub_one_eq_mod, Nat.mod_eq_of_lt hx.2.2.2, if_neg hx.2.2.1, ih]

theorem neqI (x y : Nat) : (((x : Int) != (y : Int)) = true ∧ x ≠ y) ∨ (((x : Int) != (y : Int)) = false ∧ x = y) := by
  by_cases h : x = y
  · exact .inr ⟨by simp [h], h⟩
  · exact .inl ⟨by simp; omega, h⟩

/-- The cells that a step's cost is read from. -/
def CostS (P M : Nat) (vl : Value) (p g b k : Nat) (cd : Cd) (w : World) : Prop :=
  w.cell? ⟨P, 0, none⟩ = some (.pointer (some ⟨M, 0, none⟩)) ∧ w.cell? ⟨M, 0, none⟩ = some vl ∧ w.cell? ⟨g, 0, none⟩ = some (.int .i64 p) ∧
  w.cell? ⟨b, k, none⟩ = some (.int .i64 cd.op) ∧ w.cell? ⟨b, k + 1, none⟩ = some (.int .i64 cd.a) ∧ w.cell? ⟨b, k + 2, none⟩ = some (.int .i64 cd.b) ∧ w.cell? ⟨b, k + 3, none⟩ = some (.int .i64 cd.c)

set_option maxHeartbeats 2000000 in
set_option maxRecDepth 100000 in
theorem lcost_any (o : IObj) (hv : PValid o.cs) (b : Nat) (hb : b < 256) (w : World) (vb va : Value) (s : LS) (hr : ORun o w vb va s) (hin : ∀ x ∈ s.H, StepIn o.rm.n 0 o.cs.length x) (hlen : s.H.length ≤ 2560) (hn8 : o.rm.n ≤ 8) :
    Calls Try.prog 67 #[.pointer (some ⟨o.p, 0, none⟩), .int .i64 b] w fun e w' => e = .returned (.int .i64 (costM o.cs b s.H s.H.length : Nat)) ∧ Pure w w' := by
  have HV := Lib.hid hv
  have HIN := Lib.hid hin
  have HC := Lib.hid hr.codes
  have HPW := Lib.hid hr.pure
  obtain ⟨cs, Hcs⟩ : ∃ cs, Hid (o.cs = cs) := ⟨_, rfl⟩
  obtain ⟨L, HL⟩ : ∃ L, Hid (s.H = L) := ⟨_, rfl⟩
  rw [Hcs.out] at HV HIN HC ⊢
  have HB := Lib.hid hr.bt
  have hvl : w.cell? ⟨o.pm, 0, none⟩ = some o.vl := keepPc hr.pure hr.mach.1
  have m0 : w.cell? ⟨o.p, 0, none⟩ = some (.pointer (some ⟨o.pm, 0, none⟩)) := hr.obj.cell 0
  have m3 : w.cell? ⟨o.p, 3, none⟩ = some vb := hr.obj.cell 3
  rw [HL.out] at HIN hlen HB ⊢
  obtain ⟨Av, cv, rfl⟩ := HB.out.form
  obtain ⟨vl, Hvl⟩ : ∃ vl, Hid (o.vl = vl) := ⟨_, rfl⟩
  rw [Hvl.out] at hvl HC
  obtain ⟨A, c, rfl, hnc, hcm⟩ := HC.out.form
  clear hv hin hr
  go_enter Try.func67, Try.ntmps67
  go_wp2
  go_loopg [5, 13] L.length (fun gk q i wr => ∃ k : Nat, gk + k = L.length ∧ i = .int .i64 k ∧ q = .int .i64 (costM cs b L k : Nat) ∧ Pure w wr)
  case atStart => exact ⟨0, rfl, rfl, rfl, Pure.refl _⟩
  case round =>
    obtain ⟨k, hgk, rfl, rfl, hp⟩ := hrel
    have Hgk := Lib.hid hgk
    have hkn : k ≤ L.length := by omega
    clear hgk
    by_cases hlt : k < L.length
    · obtain ⟨g, off, c', hvv, h1, h2, h3, h4⟩ := HB.out.formSome (by omega)
      injection hvv with e1 e2 e3
      subst e1
      subst e3
      have q0 := (HB.out.pure hp).cell (k * 2) (by omega)
      have q1 := (HB.out.pure hp).cell (k * 2 + 1) (by omega)
      rw [show beatsI L = beatsL L from rfl, (beatsL_at L k hlt).1] at q0
      rw [show beatsI L = beatsL L from rfl, (beatsL_at L k hlt).2, ← Nat.add_assoc] at q1
      have hst := HIN.out _ (getD_mem' hlt)
      obtain ⟨p, Hp⟩ : ∃ p, Hid ((L.getD k default).1 = p) := ⟨_, rfl⟩
      obtain ⟨mk, Hmk⟩ : ∃ mk, Hid ((L.getD k default).2.1 = mk) := ⟨_, rfl⟩
      have hpl : p < cs.length := by rw [← Hp.out]; exact hst.2.1
      have hmk : mk < 256 := by rw [← Hmk.out]; exact Nat.lt_of_lt_of_le hst.2.2.2 (powI hn8)
      rw [Hp.out] at q0
      rw [Hmk.out] at q1
      clear hst
      obtain ⟨bb, oo, rfl, hbb, hc⟩ := HC.out.at_ hpl
      obtain ⟨cd, Hcd⟩ : ∃ cd, Hid (cs.getD p default = cd) := ⟨_, rfl⟩
      have hat := hc.keep (HPW.out.trans hp) hbb
      rw [Hcd.out] at hat
      obtain ⟨r0, r1, r2, r3⟩ := hat
      clear hc
      have HCD : Hid (CdOk cd) := Lib.hid (by rw [← Hcd.out]; exact HV.out.1 _ (cdOk_mem hpl))
      obtain ⟨u, Hu⟩ : ∃ u, Hid (cdCost cd = u) := ⟨_, rfl⟩
      have hu4 : u ≤ 4 := by rw [← Hu.out]; exact cdCost_le cd
      have hsum := costM_le cs b L k
      have hband : bits .and .i64 (mk : Int) (b : Int) = ((mk &&& b : Nat) : Int) := bits_and (by omega) (by omega)
      obtain ⟨x, Hx⟩ : ∃ x, Hid (mk &&& b = x) := ⟨_, rfl⟩
      rw [Hx.out] at hband
      have Hnext : Hid (costM cs b L (k + 1) = if x = 0 then costM cs b L k else costM cs b L k + u) := Lib.hid (by
        show (if (L.getD k default).2.1 &&& b = 0 then _ else _ + cdCost (cs.getD (L.getD k default).1 default)) = _
        rw [Hp.out, Hcd.out, Hu.out, Hmk.out, Hx.out])
      obtain ⟨su, Hsu⟩ : ∃ su, Hid (costM cs b L k = su) := ⟨_, rfl⟩
      rw [Hsu.out] at Hnext hsum ⊢
      have n0 := keepPc hp m0
      have n3 := keepPc hp m3
      have nv := keepPc hp hvl
      have HPA := Lib.hid (show Pure w (wr.alloc (.cells #[.int .i64 p, .int .i64 mk] 44)) from Pure.alloc hp _)
      by_cases hx0 : x = 0
      · subst hx0
        have Hn2 : Hid (costM cs b L (k + 1) = su) := Lib.hid (by rw [Hnext.out, if_pos rfl])
        go_wp2
        go_roundg (L.length - (k + 1))
        case measure => have := Hgk.out; omega
        case rel => exact ⟨k + 1, by have := Hgk.out; omega, by go_num, by rw [Hn2.out], HPA.out⟩
      · have Hn2 : Hid (costM cs b L (k + 1) = su + u) := Lib.hid (by rw [Hnext.out, if_neg hx0])
        have hxn : ((x : Int) != 0) = true := by simp [hx0]
        clear hx0
        have hpd : Pure wr (wr.alloc (.cells #[.int .i64 p, .int .i64 mk] 44)).drew := Pure.drew (Pure.alloc (Pure.refl _) _)
        have t0 := keepPc hpd n0
        have tv := keepPc hpd nv
        have s0 := keepPc hpd r0
        have s1 := keepPc hpd r1
        have s2 := keepPc hpd r2
        have s3 := keepPc hpd r3
        have x0 : (wr.alloc (.cells #[.int .i64 p, .int .i64 mk] 44)).cell? ⟨wr.heap.size, 0, none⟩ = some (.int .i64 p) := (cell_of_row _ _ 0 _ _ _ (heap_alloc_new wr (.cells #[.int .i64 p, .int .i64 mk] 44))).trans rfl
        have x1 : (wr.alloc (.cells #[.int .i64 p, .int .i64 mk] 44)).drew.cell? ⟨wr.heap.size, 0, none⟩ = some (.int .i64 p) := keepPc (Pure.drew (Pure.refl _)) x0
        clear hpd x0
        go_wp2_with fail
        refine region_heldF (CostS o.p o.pm (.slice (some ⟨bb, oo, none⟩) cs.length c) p wr.heap.size bb (oo + p * 4) cd) (List.range 12) [12, 13, 14] (fun l => List.take 12 l) (fun l => List.drop 12 l) (by kernel_rfl) (by kernel_rfl) (by kernel_rfl) (by kernel_rfl) (fun c a d v w h => by cases d <;> exact h) (by exact ⟨t0, tv, x1, s0, s1, s2, s3⟩) ?_
        simp only [List.take_succ_cons, List.take_zero, List.drop_succ_cons, List.drop_zero, List.cons_append, List.nil_append]
        apply held_of
        · exact rfl
        · intro w' hS
          obtain ⟨y0, y1, y2, y3, y4, y5, y6⟩ := hS
          go_simp
          try exact rfl
        try go_simp
        apply held_of
        · exact rfl
        · intro w' hS
          obtain ⟨y0, y1, y2, y3, y4, y5, y6⟩ := hS
          go_simp
          try exact rfl
        try go_simp
        apply held_of
        · exact rfl
        · intro w' hS
          obtain ⟨y0, y1, y2, y3, y4, y5, y6⟩ := hS
          go_simp
          try exact rfl
        try go_simp
        apply held_of
        · exact rfl
        · intro w' hS
          obtain ⟨y0, y1, y2, y3, y4, y5, y6⟩ := hS
          go_simp
          try exact rfl
        try go_simp
        apply held_of
        · exact rfl
        · intro w' hS
          obtain ⟨y0, y1, y2, y3, y4, y5, y6⟩ := hS
          go_simp
          try exact rfl
        try go_simp
        apply held_of
        · exact rfl
        · intro w' hS
          obtain ⟨y0, y1, y2, y3, y4, y5, y6⟩ := hS
          go_simp
          try exact rfl
        try go_simp
        apply held_of
        · exact rfl
        · intro w' hS
          obtain ⟨y0, y1, y2, y3, y4, y5, y6⟩ := hS
          go_simp
          try exact rfl
        try go_simp
        apply held_of
        · exact rfl
        · intro w' hS
          obtain ⟨y0, y1, y2, y3, y4, y5, y6⟩ := hS
          go_simp
          try exact rfl
        try go_simp
        apply held_of
        · exact rfl
        · intro w' hS
          obtain ⟨y0, y1, y2, y3, y4, y5, y6⟩ := hS
          go_simp
          try exact rfl
        try go_simp
        apply held_of
        · exact rfl
        · intro w' hS
          obtain ⟨y0, y1, y2, y3, y4, y5, y6⟩ := hS
          go_simp
          try exact rfl
        try go_simp
        apply held_of
        · exact rfl
        · intro w' hS
          obtain ⟨y0, y1, y2, y3, y4, y5, y6⟩ := hS
          go_simp
          try exact rfl
        try go_simp
        apply held_of
        · exact rfl
        · intro w' hS
          obtain ⟨y0, y1, y2, y3, y4, y5, y6⟩ := hS
          go_simp
          try exact rfl
        try go_simp
        refine held_nil ?_
        unfold Tail
        go_wp2_with fail
        refine (icost_any cd _ HCD.out u Hu.out).mono ?_
        rintro e w3 ⟨rfl, hp3⟩
        have hS3 : CostS o.p o.pm (.slice (some ⟨bb, oo, none⟩) cs.length c) p wr.heap.size bb (oo + p * 4) cd w3 := ⟨keepPc hp3 t0, keepPc hp3 tv, keepPc hp3 x1, keepPc hp3 s0, keepPc hp3 s1, keepPc hp3 s2, keepPc hp3 s3⟩
        have HS3 := Lib.hid hS3
        clear hS3
        go_wp2
        refine And.intro HS3.out ?_
        unfold Tail
        go_wp2
        refine And.intro HS3.out ?_
        unfold Tail
        go_wp2
        go_roundg (L.length - (k + 1))
        case measure => have := Hgk.out; omega
        case rel => exact ⟨k + 1, by have := Hgk.out; omega, by go_num, by rw [Hn2.out]; go_num, (Pure.drew HPA.out).trans hp3⟩
    · have hkl : k = L.length := by omega
      subst hkl
      go_wp2
      go_ret
      exact ⟨rfl, hp⟩

end Go.Proofs.Ytokdfgodmhekmaa
