/- The accesses of a run, plainly: as many as active lanes in steps that load or store; cells exist; phases never decrease. No program in sight. The number of lanes in a mask. No condition. -/
import Derived.Lib.QuoteBits
import Derived.Test.YtkolnakcgjlcgaaKae
import Derived.Test.YtkolnakcgjlcgaaKba
import Derived.Test.YtkolnakcgjlcgaaKch

namespace Go.Proofs.Ytkolnakcgjlcgaa

theorem cnt_succ (u i : Nat) : cnt u (i + 1) = cnt u i + if u.testBit i then 1 else 0 := by
  show cnt u i + u / 2 ^ i % 2 = _
  rw [digit_testBit]
theorem accTo_len (c : Cd) (m mask P : Nat) (R : Nat → Nat → Int) : ∀ j, (accTo c m mask P R j).length = cnt mask j
  | 0 => rfl
  | j + 1 => by
    have ih := accTo_len c m mask P R j
    unfold accTo
    rw [cnt_succ]
    split
    · rw [List.length_append, ih]; rfl
    · rw [ih]; rfl
theorem cnt_stop {u n : Nat} (h : u < 2 ^ n) : ∀ j, n ≤ j → cnt u j = cnt u n
  | 0, hj => by have : n = 0 := by omega
                subst this; rfl
  | j + 1, hj => by
    by_cases e : n = j + 1
    · rw [e]
    · rw [cnt_succ, testBit_hi h (by omega), cnt_stop h j (by omega)]; rfl
/-- How many lanes are active in the first j steps that load or store. -/
def manyTo (cs : List Cd) (H : List (Nat × Nat × (Nat → Nat → Int))) : Nat → Nat
  | 0 => 0
  | j + 1 => if (cs.getD (H.getD j default).1 default).op = 8 ∨ (cs.getD (H.getD j default).1 default).op = 9 then manyTo cs H j + cnt (H.getD j default).2.1 8 else manyTo cs H j
theorem manyTo_left {cs : List Cd} {H X : List (Nat × Nat × (Nat → Nat → Int))} : ∀ j, j ≤ H.length → manyTo cs (H ++ X) j = manyTo cs H j
  | 0, _ => rfl
  | j + 1, hj => by
    have ih := manyTo_left (cs := cs) (H := H) (X := X) j (by omega)
    have hj' : j < H.length := by omega
    have e : (H ++ X).getD j default = H.getD j default := by simp [List.getD_eq_getElem?_getD, List.getElem?_append_left hj']
    unfold manyTo
    rw [ih, e]
theorem manyTo_snoc (cs : List Cd) (H : List (Nat × Nat × (Nat → Nat → Int))) (x : Nat × Nat × (Nat → Nat → Int)) :
    manyTo cs (H ++ [x]) (H ++ [x]).length = if (cs.getD x.1 default).op = 8 ∨ (cs.getD x.1 default).op = 9 then manyTo cs H H.length + cnt x.2.1 8 else manyTo cs H H.length := by
  have hst : ∀ (K : List (Nat × Nat × (Nat → Nat → Int))) (j : Nat), manyTo cs K (j + 1) = if (cs.getD (K.getD j default).1 default).op = 8 ∨ (cs.getD (K.getD j default).1 default).op = 9 then manyTo cs K j + cnt (K.getD j default).2.1 8 else manyTo cs K j := fun _ _ => rfl
  have e : (H ++ [x]).getD H.length default = x := by simp [List.getD_eq_getElem?_getD]
  rw [List.length_append]
  show manyTo cs _ (H.length + 1) = _
  rw [hst, e, manyTo_left _ (Nat.le_refl _)]
theorem manyTo_le (cs : List Cd) (H : List (Nat × Nat × (Nat → Nat → Int))) : ∀ j, manyTo cs H j ≤ 8 * j
  | 0 => Nat.le_refl _
  | j + 1 => by
    have ih := manyTo_le cs H j
    have hc := cnt_le (H.getD j default).2.1 8
    unfold manyTo
    split <;> omega
/-- What holds of the accesses all along. -/
def AccQ (cs : List Cd) (n m : Nat) (s : LS) : Prop :=
  s.A.length = manyTo cs s.H s.H.length ∧ (∀ x ∈ s.A, x.who < n ∧ x.cell < m) ∧ s.A.Pairwise (fun x y => x.ph ≤ y.ph) ∧ ∀ x ∈ s.A, x.ph ≤ s.P
theorem acc_run {cs : List Cd} {n : Nat} {mem : List Int} (hok : RunOk cs n mem) : AccQ cs n mem.length (lockOf cs n mem) := by
  obtain ⟨h1, h2, h3⟩ := treeOf_spec hok.1
  have hn8 : n ≤ 8 := by have := hok.2.1.2; omega
  have hm : 0 < mem.length := hok.2.2.1.1
  unfold lockOf
  refine run_keep (cs := cs) n mem.length (AccQ cs n mem.length) (fun s i mask ho hi _ _ h => ?_) (fun s i mask hpl hi _ hmk h => ?_) _ 0 _ _ h2 (Seg.whole h1) (full_lt n) ⟨rfl, by simp [startLS], by simp [startLS], by simp [startLS]⟩
  · refine ⟨?_, h.2⟩
    show s.A.length = manyTo cs (s.H ++ [(i, mask, s.R)]) (s.H ++ [(i, mask, s.R)]).length
    rw [manyTo_snoc, if_neg (by rintro (e | e) <;> (simp only at e; rcases ho with ho | ho <;> omega))]
    exact h.1
  · obtain ⟨q1, q2, q3, q4⟩ := h
    have hA := exec_A (cs.getD i default) n mem.length i mask s
    have hH := exec_H (cs.getD i default) n mem.length i mask s
    have hP := exec_P (cs.getD i default) n mem.length i mask s
    have hPle : s.P ≤ (exec (cs.getD i default) n mem.length i mask s).P := by rw [hP]; split <;> omega
    by_cases hacc : (cs.getD i default).op = 8 ∨ (cs.getD i default).op = 9
    · rw [if_pos hacc] at hA
      have hmem : ∀ x ∈ accTo (cs.getD i default) mem.length mask s.P s.R n, x.who < n ∧ x.cell < mem.length ∧ x.ph = s.P := by
        intro x hx
        obtain ⟨l, hl, _, rfl⟩ := accTo_mem.1 hx
        exact ⟨hl, Nat.mod_lt _ hm, rfl⟩
      refine ⟨?_, ?_, ?_, ?_⟩
      · rw [hA, hH, manyTo_snoc, if_pos hacc, List.length_append, accTo_len, q1, cnt_stop hmk 8 hn8]
      · rw [hA]
        intro x hx
        rcases List.mem_append.1 hx with hx | hx
        · exact q2 x hx
        · have := hmem x hx; exact ⟨this.1, this.2.1⟩
      · rw [hA, List.pairwise_append]
        refine ⟨q3, ?_, fun x hx y hy => ?_⟩
        · have hall : ∀ x ∈ accTo (cs.getD i default) mem.length mask s.P s.R n, ∀ y ∈ accTo (cs.getD i default) mem.length mask s.P s.R n, x.ph ≤ y.ph := fun x hx y hy => by rw [(hmem x hx).2.2, (hmem y hy).2.2]; exact Nat.le_refl _
          exact List.pairwise_iff_getElem.2 fun i j hi hj _ => hall _ (List.getElem_mem hi) _ (List.getElem_mem hj)
        · rw [(hmem y hy).2.2]; exact q4 x hx
      · rw [hA]
        intro x hx
        rcases List.mem_append.1 hx with hx | hx
        · exact Nat.le_trans (q4 x hx) hPle
        · rw [(hmem x hx).2.2]; exact hPle
    · rw [if_neg hacc] at hA
      refine ⟨?_, ?_, ?_, ?_⟩
      · rw [hA, hH, manyTo_snoc, if_neg hacc]; exact q1
      · rw [hA]; exact q2
      · rw [hA]; exact q3
      · rw [hA]; exact fun x hx => Nat.le_trans (q4 x hx) hPle

end Go.Proofs.Ytkolnakcgjlcgaa

namespace Go.Proofs.Ytkolnakcgjlcgaa
open Go.RowKit

/-- The number of digits that are 1, as the library reckons it. -/
def popA (x y : Int) : Int := bits .and .u64 x y
def pop1 (u : Int) : Int := IntKind.u64.wrap (popA (u / 2) 6148914691236517205 + popA u 6148914691236517205)
def pop2 (x : Int) : Int := IntKind.u64.wrap (popA (x / 4) 3689348814741910323 + popA x 3689348814741910323)
def pop3 (x : Int) : Int := popA (IntKind.u64.wrap (x / 16 + x)) 1085102592571150095
def pop4 (x k : Int) : Int := IntKind.u64.wrap (x + x / k)
def pop64 (u : Int) : Int := bits .and .i64 (wrap64 (pop4 (pop4 (pop4 (pop3 (pop2 (pop1 u))) 256) 65536) 4294967296)) 127
theorem pop_fin : ∀ u : Fin 256, pop64 (u.val : Int) = (cnt u.val 8 : Nat) := by decide +kernel
theorem pop_eq {u : Nat} (h : u < 256) : pop64 (u : Int) = (cnt u 8 : Nat) := pop_fin ⟨u, h⟩

set_option maxHeartbeats 1000000 in
theorem ones64_any (u : Nat) (h : u < 256) (w : World) :
    Calls Try.prog 120 #[.int .u64 (u : Int)] w fun e w' => e = .returned (.int .i64 (cnt u 8 : Nat)) ∧ w = w' := by
  have HP := Lib.hid (pop_eq h)
  go_enter Try.func120, Try.ntmps120
  go_wp2
  go_ret
  refine ⟨ret_int ?_, rfl⟩
  rw [← HP.out]
  rfl

set_option maxHeartbeats 1000000 in
theorem ones_any (u : Nat) (h : u < 256) (w : World) :
    Calls Try.prog 97 #[.int .u64 (u : Int)] w fun e w' => e = .returned (.int .i64 (cnt u 8 : Nat)) ∧ w = w' := by
  go_enter Try.func97, Try.ntmps97
  go_wp2_with (go_at_call 120; go_must (refine (ones64_any u h _).mono ?_); rintro e w' ⟨rfl, rfl⟩)
  go_ret
  exact ⟨rfl, rfl⟩

set_option maxHeartbeats 1000000 in
theorem imany_any (u : Nat) (h : u < 256) (w : World) :
    Calls Try.prog 74 #[.int .i64 (u : Int)] w fun e w' => e = .returned (.int .i64 (cnt u 8 : Nat)) ∧ w = w' := by
  go_enter Try.func74, Try.ntmps74
  go_wp2_with (go_at_call 97; go_must (refine (ones_any u h _).mono ?_); rintro e w' ⟨rfl, rfl⟩)
  go_ret
  exact ⟨rfl, rfl⟩

end Go.Proofs.Ytkolnakcgjlcgaa
