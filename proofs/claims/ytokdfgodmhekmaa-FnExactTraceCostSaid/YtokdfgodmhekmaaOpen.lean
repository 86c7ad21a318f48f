/- Arguments that came in, opened into the words that the walks use. No condition. -/
import Derived.Test.YtokdfgodmhekmaaElems
import Derived.ProofKit
import Derived.OpenShut
import Derived.ChangeOld
import Derived.Deep.Matrix
namespace Go.Proofs.Ytokdfgodmhekmaa
open Go.ChangeShapes Go.WideShapes Go.ChangeAt Go.RowKit Go.Deep

theorem own_knob : ownKnob Try.prog.godebug = none := by kernel_rfl
theorem laid_out : laidOutB Try.prog = true := by kernel_rfl

theorem addr_form {w : World} {a : Addr} {v : Value} (h : w.cell? a = some v) : ∃ b o, a = ⟨b, o, none⟩ := by
  obtain ⟨b, o, s⟩ := a
  have := World.cell?_spot h
  simp only at this
  subst this
  exact ⟨b, o, rfl⟩
theorem block_of_cell {w : World} {b o : Nat} {v : Value} (h : w.cell? ⟨b, o, none⟩ = some v) : b < w.heap.size := World.block_lt_of_cell? w ⟨b, o, none⟩ h

theorem Cells.of_addr {w : World} {a : Addr} {len cap s : Nat} {f : Nat → Value} (hs : 0 < s) (h1 : len ≤ cap) (h2 : cap ≤ maxLen) (hc : ∀ j, j < len * s → w.cell? (a.add j) = some (f j)) : Cells w (.slice (some a) len cap) len s f := by
  refine ⟨_, cap, rfl, h1, by unfold maxLen at h2; omega, fun hn => ?_⟩
  have h0 := hc 0 (Nat.mul_pos hn hs)
  obtain ⟨b, o, rfl⟩ := addr_form (show w.cell? a = some (f 0) by simpa [Addr.add] using h0)
  refine ⟨b, o, rfl, block_of_cell (show w.cell? ⟨b, o, none⟩ = some (f 0) by simpa [Addr.add] using h0), fun j hj => ?_⟩
  rw [← add_mid]; exact hc j hj

section
variable {H : Type} {enc : TypeId × Value → H} {W : World} {base : Nat} {held : Bool}

theorem ints_open {fuel : Nat} {cs : List Value} {x : DataW H × List MemPlace} (h : DataW.trod enc Try.prog W base (fun _ => true) held fuel 23 cs = some x) : ∃ v xs, cs = [v] ∧ Ints W v xs ∧ xs.length * 8 ≤ maxLen * 8 := by
  rcases open_ints Try.underlying23 Try.underlying3 (by kernel_rfl) h with ⟨hcs, _⟩ | ⟨a, len, cap, zs, hcs, _, hl, hm, hz, _, hcell, hwz⟩
  · exact ⟨_, [], hcs, ⟨none, 0, rfl, by simp, by omega, fun h => absurd h (by simp)⟩, by simp⟩
  · simp only [if_true] at hz
    refine ⟨_, zs.take len, hcs, ?_, by simp; have := hm; omega⟩
    have hlen : (zs.take len).length = len := by simp; omega
    unfold Ints
    rw [hlen]
    refine Cells.of_addr (by omega) hl hm fun j hj => ?_
    rw [hcell j (by omega)]
    have : j < len := by omega
    simp [List.getD_eq_getElem?_getD, List.getElem?_take, this]

theorem introws_open {fuel : Nat} {cs : List Value} {x : DataW H × List MemPlace} (h : DataW.trod enc Try.prog W base (fun _ => true) held fuel 39 cs = some x) : ∃ v xss, cs = [v] ∧ IntRows W v xss := by
  rcases open_int_rows Try.underlying39 Try.underlying23 Try.underlying3 (by kernel_rfl) (by kernel_rfl) h with ⟨hcs, _⟩ | ⟨a, len, cap, A, L, C, Z, hcs, _, hl, hm, _, hr⟩
  · exact ⟨_, [], hcs, ⟨none, 0, rfl, by simp, by omega, fun h => absurd h (by simp)⟩⟩
  · refine ⟨_, (List.range len).map fun r => (Z r).take (L r), hcs, ?_⟩
    have hlen : ((List.range len).map fun r => (Z r).take (L r)).length = len := by simp
    refine ⟨some a, cap, by rw [hlen], by rw [hlen]; exact hl, by unfold maxLen at hm; omega, fun hn => ?_⟩
    rw [hlen] at hn
    have h0 := (hr 0 (by omega)).1
    obtain ⟨b, o, rfl⟩ := addr_form (show W.cell? a = _ by simpa [Addr.add] using h0)
    refine ⟨b, o, rfl, block_of_cell (show W.cell? ⟨b, o, none⟩ = _ by simpa [Addr.add] using h0), fun k hk => ?_⟩
    rw [hlen] at hk
    obtain ⟨c1, c2, c3, c4, c5, c6, c7⟩ := hr k (by omega)
    refine ⟨_, by rw [← add_mid]; exact c1, ?_⟩
    have hrow : ((List.range len).map fun r => (Z r).take (L r)).getD k [] = (Z k).take (L k) := by simp [List.getD_eq_getElem?_getD, hk]
    rw [hrow]
    have hl2 : ((Z k).take (L k)).length = L k := by simp; omega
    unfold Ints
    rw [hl2]
    cases hA : A k with
    | none =>
      have := c6 hA
      exact ⟨none, C k, rfl, by omega, by unfold maxLen at c3; omega, fun h => absurd h (by omega)⟩
    | some a' =>
      refine Cells.of_addr (by omega) c2 c3 fun j hj => ?_
      rw [(c7 a' hA).2 j (by omega)]
      have : j < L k := by omega
      simp [List.getD_eq_getElem?_getD, List.getElem?_take, this]
end
end Go.Proofs.Ytokdfgodmhekmaa
