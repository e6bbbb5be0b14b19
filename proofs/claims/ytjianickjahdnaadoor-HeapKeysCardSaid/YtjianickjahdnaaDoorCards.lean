/-
  DERIVED. GIVEN WITH THE SEED: THE CARDS: each row of YtjianickjahdnaaDoorRows.lean that lists a variable, with what it lists TIED to the program's text (the seventh form; the later family's looks); each row that meets fmt, with fmt's text TOLD by the authors' own Lean function (tested against real Go, not proved from fmt's source: count such statements apart). THE CARD IS WHAT COUNTS. Prove the row's statement (the work); the ties are given (YtjianickjahdnaaDoorTie.lean); close each card by the builder's one call (the guide's Derived/Test/ToyasCard.lean, 'card_holds'). Laid BY PROGRAM, IN A SANDBOX (cutbox-door.mjs). By AI agents, Wed Nov 11 2026. No macro, syntax, notation, axiom, sorry.
-/
import Derived.Test.YtjianickjahdnaaDoorRows
import GoSem.ClaimSeven
namespace Go.Proofs.YtjianickjahdnaaDoor
namespace Rows

/-- THE TIED CARD OF 'knapsacklaw31.HeapFull'. -/
def heapFullCard : Claim7 := { stood := { row := heapFullRow, standIns := [], harness := (true, "636fa0cf656b845260888479d8dec8b4104d4bf207a4c1410bbf735bdb57acf8"), looks := true }, kinds := [], alts := [], laidByText := true, laidKinds := [.data, .data, .data, .data, .sentinel, .sentinel, .pinned], laidTests := true, laidLooks := .later }
def HeapFullCardSaid : Prop := Claim7.holds Tryd.pinned (.plain (OpenSpec.ofChange heapFullSpec)) heapFullCard

/-- THE TIED CARD OF 'knapsacklaw31.HeapBegins'. -/
def heapBeginsCard : Claim7 := { stood := { row := heapBeginsRow, standIns := [], harness := (true, "636fa0cf656b845260888479d8dec8b4104d4bf207a4c1410bbf735bdb57acf8"), looks := true }, kinds := [], alts := [], laidByText := true, laidKinds := [.data, .data, .data, .data, .sentinel, .sentinel, .pinned], laidTests := true, laidLooks := .later }
def HeapBeginsCardSaid : Prop := Claim7.holds Tryd.pinned (.plain (OpenSpec.ofChange heapBeginsSpec)) heapBeginsCard

/-- THE TIED CARD OF 'knapsacklaw31.HeapKeys'. -/
def heapKeysCard : Claim7 := { stood := { row := heapKeysRow, standIns := [], harness := (true, "636fa0cf656b845260888479d8dec8b4104d4bf207a4c1410bbf735bdb57acf8"), looks := true }, kinds := [], alts := [], laidByText := true, laidKinds := [.data, .data, .data, .data, .sentinel, .sentinel, .pinned], laidTests := true, laidLooks := .later }
def HeapKeysCardSaid : Prop := Claim7.holds Tryd.pinned (.plain (OpenSpec.ofChange heapKeysSpec)) heapKeysCard

/-- THE TIED CARD OF 'knapsacklaw31.HeapOrders'. -/
def heapOrdersCard : Claim7 := { stood := { row := heapOrdersRow, standIns := [], harness := (true, "636fa0cf656b845260888479d8dec8b4104d4bf207a4c1410bbf735bdb57acf8"), looks := true }, kinds := [], alts := [], laidByText := true, laidKinds := [.data, .data, .data, .data, .sentinel, .sentinel, .pinned], laidTests := true, laidLooks := .later }
def HeapOrdersCardSaid : Prop := Claim7.holds Tryd.pinned (.plain (OpenSpec.ofChange heapOrdersSpec)) heapOrdersCard

/-- THE TIED CARD OF 'knapsacklaw31.HeapChains'. -/
def heapChainsCard : Claim7 := { stood := { row := heapChainsRow, standIns := [], harness := (true, "636fa0cf656b845260888479d8dec8b4104d4bf207a4c1410bbf735bdb57acf8"), looks := true }, kinds := [], alts := [], laidByText := true, laidKinds := [.data, .data, .data, .data, .sentinel, .sentinel, .pinned], laidTests := true, laidLooks := .later }
def HeapChainsCardSaid : Prop := Claim7.holds Tryd.pinned (.plain (OpenSpec.ofChange heapChainsSpec)) heapChainsCard

/-- THE TIED CARD OF 'knapsacklaw31.HeapArrays'. -/
def heapArraysCard : Claim7 := { stood := { row := heapArraysRow, standIns := [], harness := (true, "636fa0cf656b845260888479d8dec8b4104d4bf207a4c1410bbf735bdb57acf8"), looks := true }, kinds := [], alts := [], laidByText := true, laidKinds := [.data, .data, .data, .data, .sentinel, .sentinel, .pinned], laidTests := true, laidLooks := .later }
def HeapArraysCardSaid : Prop := Claim7.holds Tryd.pinned (.plain (OpenSpec.ofChange heapArraysSpec)) heapArraysCard

/-- THE SECOND FORM's CARD OF 'knapsacklaw31.HeapFull'. -/
def heapFullUptoCard : Claim7 := { stood := { row := heapFullUptoRow, standIns := [], harness := (true, "636fa0cf656b845260888479d8dec8b4104d4bf207a4c1410bbf735bdb57acf8"), looks := true }, kinds := [], alts := [], laidByText := true, laidKinds := [.data, .data, .data, .data, .sentinel, .sentinel, .pinned], laidTests := true, laidLooks := .later }
def HeapFullUptoCardSaid : Prop := Claim7.holds Tryd.pinned (.plain (OpenSpec.upto heapFullSpec)) heapFullUptoCard

/-- THE SECOND FORM's CARD OF 'knapsacklaw31.HeapBegins'. -/
def heapBeginsUptoCard : Claim7 := { stood := { row := heapBeginsUptoRow, standIns := [], harness := (true, "636fa0cf656b845260888479d8dec8b4104d4bf207a4c1410bbf735bdb57acf8"), looks := true }, kinds := [], alts := [], laidByText := true, laidKinds := [.data, .data, .data, .data, .sentinel, .sentinel, .pinned], laidTests := true, laidLooks := .later }
def HeapBeginsUptoCardSaid : Prop := Claim7.holds Tryd.pinned (.plain (OpenSpec.upto heapBeginsSpec)) heapBeginsUptoCard

/-- THE SECOND FORM's CARD OF 'knapsacklaw31.HeapKeys'. -/
def heapKeysUptoCard : Claim7 := { stood := { row := heapKeysUptoRow, standIns := [], harness := (true, "636fa0cf656b845260888479d8dec8b4104d4bf207a4c1410bbf735bdb57acf8"), looks := true }, kinds := [], alts := [], laidByText := true, laidKinds := [.data, .data, .data, .data, .sentinel, .sentinel, .pinned], laidTests := true, laidLooks := .later }
def HeapKeysUptoCardSaid : Prop := Claim7.holds Tryd.pinned (.plain (OpenSpec.upto heapKeysSpec)) heapKeysUptoCard

/-- THE SECOND FORM's CARD OF 'knapsacklaw31.HeapOrders'. -/
def heapOrdersUptoCard : Claim7 := { stood := { row := heapOrdersUptoRow, standIns := [], harness := (true, "636fa0cf656b845260888479d8dec8b4104d4bf207a4c1410bbf735bdb57acf8"), looks := true }, kinds := [], alts := [], laidByText := true, laidKinds := [.data, .data, .data, .data, .sentinel, .sentinel, .pinned], laidTests := true, laidLooks := .later }
def HeapOrdersUptoCardSaid : Prop := Claim7.holds Tryd.pinned (.plain (OpenSpec.upto heapOrdersSpec)) heapOrdersUptoCard

/-- THE SECOND FORM's CARD OF 'knapsacklaw31.HeapChains'. -/
def heapChainsUptoCard : Claim7 := { stood := { row := heapChainsUptoRow, standIns := [], harness := (true, "636fa0cf656b845260888479d8dec8b4104d4bf207a4c1410bbf735bdb57acf8"), looks := true }, kinds := [], alts := [], laidByText := true, laidKinds := [.data, .data, .data, .data, .sentinel, .sentinel, .pinned], laidTests := true, laidLooks := .later }
def HeapChainsUptoCardSaid : Prop := Claim7.holds Tryd.pinned (.plain (OpenSpec.upto heapChainsSpec)) heapChainsUptoCard

/-- THE SECOND FORM's CARD OF 'knapsacklaw31.HeapArrays'. -/
def heapArraysUptoCard : Claim7 := { stood := { row := heapArraysUptoRow, standIns := [], harness := (true, "636fa0cf656b845260888479d8dec8b4104d4bf207a4c1410bbf735bdb57acf8"), looks := true }, kinds := [], alts := [], laidByText := true, laidKinds := [.data, .data, .data, .data, .sentinel, .sentinel, .pinned], laidTests := true, laidLooks := .later }
def HeapArraysUptoCardSaid : Prop := Claim7.holds Tryd.pinned (.plain (OpenSpec.upto heapArraysSpec)) heapArraysUptoCard
end Rows
end Go.Proofs.YtjianickjahdnaaDoor
