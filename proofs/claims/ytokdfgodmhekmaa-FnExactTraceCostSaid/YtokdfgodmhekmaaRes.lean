/- What the functions under comparison give: numbers and lists that a rule fixes, in memory of their own. No condition. -/
import Derived.Test.YtokdfgodmhekmaaMarks
namespace Go.Proofs.Ytokdfgodmhekmaa
open Go.RowKit

def ResInts (P : List Int → Prop) (w : World) (e : Ending) (w' : World) : Prop :=
  ∃ v xs, e = .returned v ∧ P xs ∧ xs.length ≤ 1048576 ∧ OwnO w' w.heap.size 3 1 v xs.length (xs.map (.int .i64)) ∧ Pure w w'
def ResInt (P : Int → Prop) (w : World) (e : Ending) (w' : World) : Prop :=
  ∃ x, e = .returned (.int .i64 x) ∧ P x ∧ Pure w w'

theorem codes_of_own {w : World} {B : Nat} {v : Value} {cs : List Cd} (h : OwnO w B 61 4 v cs.length ((List.range (cs.length * 4)).map (cdf cs))) : Codes w v cs :=
  Codes.of_ownO h rfl fun j hj => by simp [hj]
theorem Ints.of_ownO' {w : World} {B e : Nat} {v : Value} {ys : List Int} (h : OwnO w B e 1 v ys.length (ys.map (.int .i64))) : Ints w v ys := by
  unfold Ints
  refine Cells.of_ownO h fun j hj => ?_
  have : j < ys.length := by omega
  simp [List.getD_eq_getElem?_getD, this]
theorem ints_marked {w : World} {B n : Nat} {v : Value} {k : Int} (h : OwnO w B 3 1 v n ((marked k n).map (.int .i64))) : Ints w v (marked k n) := by
  refine Ints.of_ownO' (B := B) (e := 3) ?_
  rw [marked_length]; exact h
/-- What was there before a row of the call's own is not that row. -/
theorem own_apart {w1 w2 : World} {B e s n B' e' s' n' : Nat} {v v' : Value} {xs xs' : List Value} (h : OwnO w1 B e s v n xs) (h' : OwnO w2 B' e' s' v' n' xs') (hB : w1.heap.size ≤ B') : ∀ g, v.ownBlock = some g → some g ≠ v'.ownBlock := by
  intro g hg he
  have a := (h.lt g hg).2
  have b := (h'.lt g he.symm).1
  omega
theorem own_apart' {w1 w2 : World} {B e s n B' e' s' n' : Nat} {v v' : Value} {xs xs' : List Value} (h : OwnO w1 B e s v n xs) (h' : OwnO w2 B' e' s' v' n' xs') (hB : w1.heap.size ≤ B') : ∀ g, v'.ownBlock = some g → some g ≠ v.ownBlock := by
  intro g hg he
  have a := (h'.lt g hg).1
  have b := (h.lt g he.symm).2
  omega

end Go.Proofs.Ytokdfgodmhekmaa
