/-
  The reference of layer 35: Has, add.
-/
import Derived.Test.YthiiehanlconeaaDoorOut
namespace Go.Proofs.YthiiehanlconeaaDoor
open Go.RowKit
set_option linter.unusedVariables false
set_option linter.unusedSimpArgs false

def addI (l : List Int) (n count : Int) : List Int := if n < 0 ∨ count ≤ n ∨ n ∈ l then l else l ++ [n]

end Go.Proofs.YthiiehanlconeaaDoor
