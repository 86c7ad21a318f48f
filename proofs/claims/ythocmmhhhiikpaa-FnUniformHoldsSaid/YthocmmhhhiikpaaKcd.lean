/- Bytes that came in, opened into the words that the walks use. No condition. -/
import Derived.Test.YthocmmhhhiikpaaKbf
import Derived.Test.YthocmmhhhiikpaaKbh

namespace Go.Proofs.Ythocmmhhhiikpaa
open Go.ChangeShapes Go.WideShapes Go.ChangeAt Go.RowKit Go.Deep

section
variable {H : Type} {enc : TypeId × Value → H} {W : World} {base : Nat} {held : Bool}

theorem bytes_open {fuel : Nat} {cs : List Value} {x : DataW H × List MemPlace} (h : DataW.trod enc Try.prog W base (fun _ => true) held fuel 33 cs = some x) : ∃ v xs, cs = [v] ∧ Bytes W v xs := by
  rcases open_ints Try.underlying33 Try.underlying5 (by kernel_rfl) h with ⟨hcs, _⟩ | ⟨a, len, cap, zs, hcs, _, hl, hm, hz, _, hcell, hwz⟩
  · exact ⟨_, [], hcs, ⟨none, 0, rfl, by simp, by omega, fun h => absurd h (by simp)⟩, by simp⟩
  · simp only [if_true] at hz
    refine ⟨_, zs.take len, hcs, ?_, fun x hx => ?_⟩
    · have hlen : (zs.take len).length = len := by simp; omega
      rw [hlen]
      refine Cells.of_addr (by omega) hl hm fun j hj => ?_
      rw [hcell j (by omega)]
      have : j < len := by omega
      simp [List.getD_eq_getElem?_getD, this]
    · have := hwz x (List.mem_of_mem_take hx)
      simp only [Lit.wf, Bool.and_eq_true, decide_eq_true_eq] at this
      exact ⟨this.1, this.2⟩
end
end Go.Proofs.Ythocmmhhhiikpaa
