/- Arguments of instructions that came in, opened into the words that the walks use. No condition. -/
import Derived.Test.YtokdfgodmhekmaaOpen
import Derived.Test.YtokdfgodmhekmaaCodes
namespace Go.Proofs.Ytokdfgodmhekmaa
open Go.ChangeShapes Go.WideShapes Go.ChangeAt Go.RowKit Go.Deep

section
variable {H : Type} {enc : TypeId × Value → H} {W : World} {base : Nat} {held : Bool}

set_option maxRecDepth 100000 in
theorem codes_open {fuel : Nat} {cs : List Value} {x : DataW H × List MemPlace} (h : DataW.trod enc Try.prog W base (fun _ => true) held fuel 22 cs = some x) : ∃ v xs, cs = [v] ∧ Codes W v xs := by
  rcases open_slice Try.underlying22 h with ⟨hcs, _⟩ | ⟨a, len, cap, m, n, D, Pl, hcs, _, hl, hm, hmm, _, hx⟩
  · exact ⟨_, [], hcs, ⟨none, 0, rfl, by simp, by omega, fun h => absurd h (by simp)⟩⟩
  · simp only [if_true] at hmm
    subst hmm
    have c67 : Try.prog.cellsOf 63 = 4 := by kernel_rfl
    have c3 : Try.prog.cellsOf 3 = 1 := by kernel_rfl
    have each : ∀ i, i < m → ∃ c : Cd, W.cell? (a.add (i * 4)) = some (.int .i64 c.op) ∧ W.cell? (a.add (i * 4 + 1)) = some (.int .i64 c.a) ∧ W.cell? (a.add (i * 4 + 2)) = some (.int .i64 c.b) ∧ W.cell? (a.add (i * 4 + 3)) = some (.int .i64 c.c) := by
      intro i hi
      obtain ⟨cs', h1, h2⟩ := hx i hi
      rw [c67] at h1
      obtain ⟨_, hlen, hcell⟩ := World.cells?_some h1
      obtain ⟨xs, k, hk, hxy, _, hxl, hf⟩ := DataW.trod_struct Try.underlying63 h2
      match cs', hlen with
      | [v0, v1, v2, v3], _ =>
        have g0 := hf 0 _ rfl
        have g1 := hf 1 _ rfl
        have g2 := hf 2 _ rfl
        have g3 := hf 3 _ rfl
        have e0 := hcell 0 (by omega)
        have e1 := hcell 1 (by omega)
        have e2 := hcell 2 (by omega)
        have e3 := hcell 3 (by omega)
        rw [add_add] at e0 e1 e2 e3
        match xs, hxl with
        | [y0, y1, y2, y3], _ =>
          simp [c3] at g0 g1 g2 g3
          obtain ⟨z0, hz0, _⟩ := DataW.trod_int Try.underlying3 g0
          obtain ⟨z1, hz1, _⟩ := DataW.trod_int Try.underlying3 g1
          obtain ⟨z2, hz2, _⟩ := DataW.trod_int Try.underlying3 g2
          obtain ⟨z3, hz3, _⟩ := DataW.trod_int Try.underlying3 g3
          simp only [List.cons.injEq, and_true] at hz0 hz1 hz2 hz3
          subst hz0 hz1 hz2 hz3
          exact ⟨⟨z0, z1, z2, z3⟩, by simpa using e0, by simpa using e1, by simpa using e2, by simpa using e3⟩
    obtain ⟨q, hq⟩ := choose_lt each
    refine ⟨_, (List.range len).map q, hcs, ?_⟩
    have hlen : ((List.range len).map q).length = len := by simp
    unfold Codes
    rw [hlen]
    refine Cells.of_addr (by omega) hl hm fun j hj => ?_
    have hj4 : j / 4 < len := by omega
    have hd : ((List.range len).map q).getD (j / 4) default = q (j / 4) := by simp [List.getD_eq_getElem?_getD, hj4]
    obtain ⟨a0, a1, a2, a3⟩ := hq (j / 4) (by omega)
    unfold cdf
    rw [hd]
    have hm4 : j % 4 < 4 := Nat.mod_lt _ (by decide)
    have hsplit : j = j / 4 * 4 + j % 4 := by omega
    clear hd
    generalize j / 4 = p at *
    generalize j % 4 = r at *
    subst hsplit
    match r, hm4 with
    | 0, _ => exact a0
    | 1, _ => exact a1
    | 2, _ => exact a2
    | 3, _ => exact a3
end
end Go.Proofs.Ytokdfgodmhekmaa
