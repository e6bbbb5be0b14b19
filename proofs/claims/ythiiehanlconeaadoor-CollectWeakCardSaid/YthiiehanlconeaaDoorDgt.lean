/-
  The decimal text of a small number has at least one byte.
-/
import Derived.Test.YthiiehanlconeaaDoorHnd
import Derived.Lib.Strings
import Derived.IntWalk
namespace Go.Proofs.YthiiehanlconeaaDoor
open Go.RowKit
set_option linter.unusedVariables false
set_option linter.unusedSimpArgs false

theorem digit_size (n : Nat) : ((⟨#[48, 49, 50, 51, 52, 53, 54, 55, 56, 57]⟩ : ByteArray).extract (n % 10) (n % 10 + 1)).size = 1 := by
  rw [ByteArray.size_extract]
  show min (n % 10 + 1) 10 - n % 10 = 1
  omega
end Go.Proofs.YthiiehanlconeaaDoor
