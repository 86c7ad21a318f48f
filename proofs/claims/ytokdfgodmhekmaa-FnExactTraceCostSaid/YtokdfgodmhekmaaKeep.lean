/- Cells that are kept. No condition. -/
import Derived.Test.YtokdfgodmhekmaaChg
namespace Go.Proofs.Ytokdfgodmhekmaa
open Go.RowKit

theorem keepPc {w w' : World} {b i : Nat} {v : Value} (h : Pure w w') (hc : w.cell? ⟨b, i, none⟩ = some v) : w'.cell? ⟨b, i, none⟩ = some v := (h.cell b i (World.block_lt_of_cell? _ _ hc)).trans hc

end Go.Proofs.Ytokdfgodmhekmaa
