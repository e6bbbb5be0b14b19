/-
  DERIVED. GIVEN WITH THE SEED: THE CARDS: each row of YthiiehanlconeaaDoorRows.lean that lists a variable, with what it lists TIED to the program's text (the seventh form; the later family's looks); each row that meets fmt, with fmt's text TOLD by the authors' own Lean function (tested against real Go, not proved from fmt's source: count such statements apart). THE CARD IS WHAT COUNTS. Prove the row's statement (the work); the ties are given (YthiiehanlconeaaDoorTie.lean); close each card by the builder's one call (the guide's Derived/Test/ToyasCard.lean, 'card_holds'). Laid BY PROGRAM, IN A SANDBOX (cutbox-door.mjs). By AI agents, Wed Nov 11 2026. No macro, syntax, notation, axiom, sorry.
-/
import Derived.Test.YthiiehanlconeaaDoorRows
import GoSem.ClaimSeven
namespace Go.Proofs.YthiiehanlconeaaDoor
namespace Rows

/-- THE TIED CARD OF 'knapsacklaw35.CollectWeak'. -/
def collectWeakCard : Claim7 := { stood := { row := collectWeakRow, standIns := [], harness := (true, "951837b2e4e75a82fe4c2f52c58f5ae9e16d24bab38f5f266125a116e7f649cb"), looks := true }, kinds := [], alts := [], laidByText := true, laidKinds := [.data, .pinned], laidTests := true, laidLooks := .later }
def CollectWeakCardSaid : Prop := Claim7.holds Tryd.pinned (.plain (OpenSpec.ofChange collectWeakSpec)) collectWeakCard

/-- THE TIED CARD OF 'knapsacklaw35.CollectRings'. -/
def collectRingsCard : Claim7 := { stood := { row := collectRingsRow, standIns := [], harness := (true, "951837b2e4e75a82fe4c2f52c58f5ae9e16d24bab38f5f266125a116e7f649cb"), looks := true }, kinds := [], alts := [], laidByText := true, laidKinds := [.data, .data, .data, .data, .sentinel, .sentinel, .pinned], laidTests := true, laidLooks := .later }
def CollectRingsCardSaid : Prop := Claim7.holds Tryd.pinned (.plain (OpenSpec.ofChange collectRingsSpec)) collectRingsCard

/-- THE SECOND FORM's CARD OF 'knapsacklaw35.CollectWeak'. -/
def collectWeakUptoCard : Claim7 := { stood := { row := collectWeakUptoRow, standIns := [], harness := (true, "951837b2e4e75a82fe4c2f52c58f5ae9e16d24bab38f5f266125a116e7f649cb"), looks := true }, kinds := [], alts := [], laidByText := true, laidKinds := [.data, .pinned], laidTests := true, laidLooks := .later }
def CollectWeakUptoCardSaid : Prop := Claim7.holds Tryd.pinned (.plain (OpenSpec.upto collectWeakSpec)) collectWeakUptoCard

/-- THE SECOND FORM's CARD OF 'knapsacklaw35.CollectRings'. -/
def collectRingsUptoCard : Claim7 := { stood := { row := collectRingsUptoRow, standIns := [], harness := (true, "951837b2e4e75a82fe4c2f52c58f5ae9e16d24bab38f5f266125a116e7f649cb"), looks := true }, kinds := [], alts := [], laidByText := true, laidKinds := [.data, .data, .data, .data, .sentinel, .sentinel, .pinned], laidTests := true, laidLooks := .later }
def CollectRingsUptoCardSaid : Prop := Claim7.holds Tryd.pinned (.plain (OpenSpec.upto collectRingsSpec)) collectRingsUptoCard
end Rows
end Go.Proofs.YthiiehanlconeaaDoor
