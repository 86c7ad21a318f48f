/- What the laws' walks share. No condition. -/
import Derived.Test.YtkolnakcgjlcgaaKac

namespace Go.Proofs.Ytkolnakcgjlcgaa
open Go.RowKit

theorem ints_of_row {w : World} {B e : Nat} {v : Value} {ys : List Int} (h : w.ownsRow B e 1 v ys.length (ys.map (.int .i64))) : Ints w v ys := Ints.of_map h
theorem OwnO.of_own' {w : World} {B e s n : Nat} {v : Value} {xs : List Value} (h : w.ownsRow B e s v n xs) : OwnO w B e s v n xs := OwnO.of_own h

end Go.Proofs.Ytkolnakcgjlcgaa
