/- Small helpers of the laws on drawn inputs. A program put into a block: the program that is made, and whether it is valid. No condition. -/
import Derived.Test.YtkolnakcgjlcgaaKbg
import Derived.Test.YtkolnakcgjlcgaaKbj
import Derived.Test.YtkolnakcgjlcgaaKcb

namespace Go.Proofs.Ytkolnakcgjlcgaa
open Go.RowKit

theorem range_cdf (cs : List Cd) : (List.range (cs.length * 4)).map (cdf cs) = cs.flatMap cdCells := by
  apply List.ext_getElem?
  intro j
  by_cases h : j < cs.length * 4
  · rw [flat_cdf cs j h]; simp [h]
  · rw [List.getElem?_eq_none (by simp; omega), List.getElem?_eq_none (by rw [flat4]; omega)]
theorem ints_own {w : World} {B : Nat} {v : Value} {xs : List Int} (ho : OwnO w B 3 1 v xs.length (xs.map (.int .i64))) : Ints w v xs := by
  unfold Ints
  refine Cells.of_ownO ho fun j hj => ?_
  have : j < xs.length := by omega
  simp [List.getD_eq_getElem?_getD, this]
theorem cdf_one (cs : List Cd) (j : Nat) (h : j < cs.length * 4) : (cdf cs j).oneCell' = true := (List.all_eq_true.1 (one_cells cs)) _ (List.mem_of_getElem? (flat_cdf cs j h))
theorem memA_small {cs : List Cd} {a : Int} {mem : List Int} (h : mem.length ≤ 33) : (memA cs a mem).length ≤ 1048576 := Nat.le_trans memA_len (by omega)

end Go.Proofs.Ytkolnakcgjlcgaa

namespace Go.Proofs.Ytkolnakcgjlcgaa
open Go.RowKit

def wrC (cd : Cd) (cs : List Cd) : List Cd := cd :: (cs ++ [cEnd])
theorem wr_cells (cd : Cd) (cs : List Cd) : (cdCells cd ++ (List.range (cs.length * 4)).map (cdf cs)) ++ cdCells cEnd = (wrC cd cs).flatMap cdCells := by
  rw [range_cdf]
  simp [wrC]
theorem wr_open {w : World} {B T : Nat} {v : Value} {n : Nat} {cd : Cd} {cs : List Cd} (hT : T = 36) (ho : OwnO w B T 4 v n (cdCells cd ++ (List.range (cs.length * 4)).map (cdf cs) ++ cdCells cEnd)) (hn : n = (wrC cd cs).length) : Codes w v (wrC cd cs) := by
  subst hT
  rw [wr_cells] at ho
  exact Codes.of_ownO ho hn (flat_cdf _)

set_option maxHeartbeats 2000000 in
set_option maxRecDepth 100000 in
theorem wrapped_any (cd : Cd) (v : Value) (cs : List Cd) (w : World) (h : Codes w v cs) (hs : cs.length ≤ 1000000) (B : Bool) (hB : B = true ↔ PValid (wrC cd cs)) :
    Calls Try.prog 55 #[.agg #[.int .i64 cd.op, .int .i64 cd.a, .int .i64 cd.b, .int .i64 cd.c], v] w fun e w' => ∃ v', e = .returned (.tuple #[v', .bool B]) ∧ Codes w' v' (wrC cd cs) ∧ Pure w w' := by
  have HC := Lib.hid h
  have HB := Lib.hid hB
  obtain ⟨Ac, cc, rfl, hcc1, hcc2⟩ := h.form
  clear h hB
  obtain ⟨op, ca, cb, c3⟩ := cd
  have hel : (wrC ⟨op, ca, cb, c3⟩ cs).length = 1 + cs.length + 1 := by simp [wrC]; omega
  obtain ⟨w1, Hw1⟩ : ∃ w1, Hid (w.alloc (.cells #[.int .i64 op, .int .i64 ca, .int .i64 cb, .int .i64 c3] 36) = w1) := ⟨_, Lib.hid rfl⟩
  have hsz : w.heap.size + 1 = w1.heap.size := by rw [← Hw1.out]; exact (Array.size_push _).symm
  have Hsz := Lib.hid hsz
  clear hsz
  have HPB := Lib.hid (show Pure w w1 from Hw1.out ▸ (by repeat (first | assumption | exact Pure.refl _ | refine Pure.drewN ?_ _ | refine Pure.drew ?_ | refine Pure.alloc ?_ _ | refine Pure.setCell ?_ (by simp <;> omega) _)))
  have HL0 := Lib.hid (OwnO.lit (e := 36) (s := 4) (B := w1.heap.size) w1 #[.int .i64 op, .int .i64 ca, .int .i64 cb, .int .i64 c3] 1 (Nat.le_refl _) (by decide) rfl)
  have HPA := Lib.hid (show Pure w1 (w1.alloc (.cells #[.int .i64 op, .int .i64 ca, .int .i64 cb, .int .i64 c3] 36)) from (by repeat (first | assumption | exact Pure.refl _ | refine Pure.drewN ?_ _ | refine Pure.drew ?_ | refine Pure.alloc ?_ _ | refine Pure.setCell ?_ (by simp <;> omega) _)))
  go_enter Try.func55, Try.ntmps55
  go_wp2_with (first
    | (at_builtin; refine wl_appendLF elCode rfl _ _ rfl w1.heap.size _ _ _ rfl HO5.out _ 1 _ [.int .i64 14, .int .i64 0, .int .i64 0, .int .i64 0] rfl rfl rfl rfl (by decide) (by omega) HW5.out.size ?_; intro v6 w6 r1 r2 _)
    | (at_builtin; rw [Hw1.out]; try rw [Hsz.out]; go_must (refine wl_appendC elCode rfl _ _ rfl w1.heap.size _ 1 _ rfl HL0.out (by decide) _ rfl (cdf cs) cs.length (Cells.keep (Codes.keep HC.out HPB.out) HPA.out) (cdf_one cs) (by decide) (by omega) HPA.out.size ?_); intro v5 w5 r1 r2; go_must (obtain ⟨g5, o5, c5, rfl, hc51, hc52, hg5, hgl5⟩ := r1.formSome (by omega)); go_must (have HW5 := Lib.hid (HPA.out.grown r2 (fun k hk => (HL0.out.lt k hk).1))); go_must (have HO5 := Lib.hid r1); clear r1 r2))
  obtain ⟨g6, o6, c6, rfl, hc61, hc62, hg6, hgl6⟩ := r1.formSome (by omega)
  have HW6 := Lib.hid (HW5.out.grown r2 (fun k hk => (HO5.out.lt k hk).1))
  have HC6 := Lib.hid (wr_open (cd := ⟨op, ca, cb, c3⟩) rfl r1 (by omega))
  clear r1 r2
  refine (spv_any _ _ _ HC6.out (by omega) B HB.out).mono ?_
  rintro e w7 ⟨rfl, hp7⟩
  go_wp2
  go_ret2
  exact ⟨_, rfl, HC6.out.keep hp7, (HPB.out.trans HW6.out).trans hp7⟩

end Go.Proofs.Ytkolnakcgjlcgaa
