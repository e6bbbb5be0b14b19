/-
  The law's lists of handles and of numbers.
-/
import Derived.Test.YthiiehanlconeaaDoorOut
import Derived.Test.YthiiehanlconeaaDoorOpen
import Derived.Test.YthiiehanlconeaaDoorOpenc
namespace Go.Proofs.YthiiehanlconeaaDoor
open Go.RowKit
set_option linter.unusedVariables false
set_option linter.unusedSimpArgs false

def u8C (zs : List Nat) : List Value := zs.map fun z : Nat => Value.int .u8 (z : Int)
theorem u8C_len (zs : List Nat) : (u8C zs).length = zs.length := List.length_map ..
def handlesM (L : List Int) (zs : List Nat) : List Int := zs.map fun z => L.getD (z % L.length) 0
def numbersM (n : Nat) (zs : List Nat) : List Int := zs.map fun z => ((z % n : Nat) : Int)
theorem tmod_nat (z n : Nat) : ((z : Int)).tmod (n : Int) = ((z % n : Nat) : Int) := by
  rw [Int.tmod_eq_emod_of_nonneg (by omega)]
  rfl
/-- A number of a row that came in. -/
theorem argU8 {w : World} {v : Value} {zs : List Nat} (h : ArgRow w v (u8C zs)) {k : Nat} (hk : k < zs.length) : ∃ g off cap, v = .slice (some ⟨g, off, none⟩) zs.length cap ∧ w.cell? ⟨g, off + k, none⟩ = some (.int .u8 (zs[k] : Nat)) := by
  obtain ⟨a, cap, rfl, -, -, h3⟩ := h
  obtain ⟨g, off, rfl, -, hc⟩ := h3 (by intro e; have := congrArg List.length e; rw [u8C_len, List.length_nil] at this; omega)
  rw [u8C_len]
  exact ⟨g, off, cap, rfl, hc k _ (by simp [u8C, hk])⟩

end Go.Proofs.YthiiehanlconeaaDoor
