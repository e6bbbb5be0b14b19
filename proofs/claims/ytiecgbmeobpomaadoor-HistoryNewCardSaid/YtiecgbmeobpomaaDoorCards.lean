/-
  DERIVED. GIVEN WITH THE SEED: THE CARDS: each row of YtiecgbmeobpomaaDoorRows.lean that lists a variable, with what it lists TIED to the program's text (the seventh form; the later family's looks); each row that meets fmt, with fmt's text TOLD by the authors' own Lean function (tested against real Go, not proved from fmt's source: count such statements apart). THE CARD IS WHAT COUNTS. Prove the row's statement (the work); the ties are given (YtiecgbmeobpomaaDoorTie.lean); close each card by the builder's one call (the guide's Derived/Test/ToyasCard.lean, 'card_holds'). Laid BY PROGRAM, IN A SANDBOX (cutbox-door.mjs). By AI agents, Wed Nov 11 2026. No macro, syntax, notation, axiom, sorry.
-/
import Derived.Test.YtiecgbmeobpomaaDoorRows
import GoSem.ClaimSeven
namespace Go.Proofs.YtiecgbmeobpomaaDoor
namespace Rows

/-- THE TIED CARD OF 'knapsacklaw48.HistoryRuns'. -/
def historyRunsCard : Claim7 := { stood := { row := historyRunsRow, standIns := [], harness := (true, "0941bf190c3a28f3ae36453b5d1c59fc91a940c36410a163c016236f562c16d8"), looks := false }, kinds := [], alts := [], laidByText := true, laidKinds := [.data, .pinned], laidTests := true, laidLooks := .later }
def HistoryRunsCardSaid : Prop := Claim7.holds Tryd.pinned (.plain (OpenSpec.ofChange historyRunsSpec)) historyRunsCard

/-- THE TIED CARD OF 'knapsacklaw48.HistoryBack'. -/
def historyBackCard : Claim7 := { stood := { row := historyBackRow, standIns := [], harness := (true, "0941bf190c3a28f3ae36453b5d1c59fc91a940c36410a163c016236f562c16d8"), looks := false }, kinds := [], alts := [], laidByText := true, laidKinds := [.data, .pinned], laidTests := true, laidLooks := .later }
def HistoryBackCardSaid : Prop := Claim7.holds Tryd.pinned (.plain (OpenSpec.ofChange historyBackSpec)) historyBackCard

/-- THE TIED CARD OF 'knapsacklaw48.HistoryPages'. -/
def historyPagesCard : Claim7 := { stood := { row := historyPagesRow, standIns := [], harness := (true, "0941bf190c3a28f3ae36453b5d1c59fc91a940c36410a163c016236f562c16d8"), looks := false }, kinds := [], alts := [], laidByText := true, laidKinds := [.data, .pinned], laidTests := true, laidLooks := .later }
def HistoryPagesCardSaid : Prop := Claim7.holds Tryd.pinned (.plain (OpenSpec.ofChange historyPagesSpec)) historyPagesCard

/-- THE TIED CARD OF 'knapsacklaw48.HistoryNew'. -/
def historyNewCard : Claim7 := { stood := { row := historyNewRow, standIns := [], harness := (true, "0941bf190c3a28f3ae36453b5d1c59fc91a940c36410a163c016236f562c16d8"), looks := false }, kinds := [], alts := [], laidByText := true, laidKinds := [.data, .pinned], laidTests := true, laidLooks := .later }
def HistoryNewCardSaid : Prop := Claim7.holds Tryd.pinned (.plain (OpenSpec.ofChange historyNewSpec)) historyNewCard

/-- THE TIED CARD OF 'knapsacklaw48.HistoryStates'. -/
def historyStatesCard : Claim7 := { stood := { row := historyStatesRow, standIns := [], harness := (true, "0941bf190c3a28f3ae36453b5d1c59fc91a940c36410a163c016236f562c16d8"), looks := false }, kinds := [], alts := [], laidByText := true, laidKinds := [.data, .pinned], laidTests := true, laidLooks := .later }
def HistoryStatesCardSaid : Prop := Claim7.holds Tryd.pinned (.plain (OpenSpec.ofChange historyStatesSpec)) historyStatesCard

/-- THE TIED CARD OF 'knapsacklaw48.HistoryMarks'. -/
def historyMarksCard : Claim7 := { stood := { row := historyMarksRow, standIns := [], harness := (true, "0941bf190c3a28f3ae36453b5d1c59fc91a940c36410a163c016236f562c16d8"), looks := false }, kinds := [], alts := [], laidByText := true, laidKinds := [.data, .pinned], laidTests := true, laidLooks := .later }
def HistoryMarksCardSaid : Prop := Claim7.holds Tryd.pinned (.plain (OpenSpec.ofChange historyMarksSpec)) historyMarksCard

/-- THE TIED CARD OF 'knapsacklaw48.HistoryEvict'. -/
def historyEvictCard : Claim7 := { stood := { row := historyEvictRow, standIns := [], harness := (true, "0941bf190c3a28f3ae36453b5d1c59fc91a940c36410a163c016236f562c16d8"), looks := false }, kinds := [], alts := [], laidByText := true, laidKinds := [.data, .pinned], laidTests := true, laidLooks := .later }
def HistoryEvictCardSaid : Prop := Claim7.holds Tryd.pinned (.plain (OpenSpec.ofChange historyEvictSpec)) historyEvictCard

/-- THE TIED CARD OF 'knapsacklaw48.HistoryValid'. -/
def historyValidCard : Claim7 := { stood := { row := historyValidRow, standIns := [], harness := (true, "0941bf190c3a28f3ae36453b5d1c59fc91a940c36410a163c016236f562c16d8"), looks := false }, kinds := [], alts := [], laidByText := true, laidKinds := [.data, .pinned], laidTests := true, laidLooks := .later }
def HistoryValidCardSaid : Prop := Claim7.holds Tryd.pinned (.plain (OpenSpec.ofChange historyValidSpec)) historyValidCard

/-- THE SECOND FORM's CARD OF 'knapsacklaw48.HistoryRuns'. -/
def historyRunsUptoCard : Claim7 := { stood := { row := historyRunsUptoRow, standIns := [], harness := (true, "0941bf190c3a28f3ae36453b5d1c59fc91a940c36410a163c016236f562c16d8"), looks := false }, kinds := [], alts := [], laidByText := true, laidKinds := [.data, .pinned], laidTests := true, laidLooks := .later }
def HistoryRunsUptoCardSaid : Prop := Claim7.holds Tryd.pinned (.plain (OpenSpec.upto historyRunsSpec)) historyRunsUptoCard

/-- THE SECOND FORM's CARD OF 'knapsacklaw48.HistoryBack'. -/
def historyBackUptoCard : Claim7 := { stood := { row := historyBackUptoRow, standIns := [], harness := (true, "0941bf190c3a28f3ae36453b5d1c59fc91a940c36410a163c016236f562c16d8"), looks := false }, kinds := [], alts := [], laidByText := true, laidKinds := [.data, .pinned], laidTests := true, laidLooks := .later }
def HistoryBackUptoCardSaid : Prop := Claim7.holds Tryd.pinned (.plain (OpenSpec.upto historyBackSpec)) historyBackUptoCard

/-- THE SECOND FORM's CARD OF 'knapsacklaw48.HistoryPages'. -/
def historyPagesUptoCard : Claim7 := { stood := { row := historyPagesUptoRow, standIns := [], harness := (true, "0941bf190c3a28f3ae36453b5d1c59fc91a940c36410a163c016236f562c16d8"), looks := false }, kinds := [], alts := [], laidByText := true, laidKinds := [.data, .pinned], laidTests := true, laidLooks := .later }
def HistoryPagesUptoCardSaid : Prop := Claim7.holds Tryd.pinned (.plain (OpenSpec.upto historyPagesSpec)) historyPagesUptoCard

/-- THE SECOND FORM's CARD OF 'knapsacklaw48.HistoryNew'. -/
def historyNewUptoCard : Claim7 := { stood := { row := historyNewUptoRow, standIns := [], harness := (true, "0941bf190c3a28f3ae36453b5d1c59fc91a940c36410a163c016236f562c16d8"), looks := false }, kinds := [], alts := [], laidByText := true, laidKinds := [.data, .pinned], laidTests := true, laidLooks := .later }
def HistoryNewUptoCardSaid : Prop := Claim7.holds Tryd.pinned (.plain (OpenSpec.upto historyNewSpec)) historyNewUptoCard

/-- THE SECOND FORM's CARD OF 'knapsacklaw48.HistoryStates'. -/
def historyStatesUptoCard : Claim7 := { stood := { row := historyStatesUptoRow, standIns := [], harness := (true, "0941bf190c3a28f3ae36453b5d1c59fc91a940c36410a163c016236f562c16d8"), looks := false }, kinds := [], alts := [], laidByText := true, laidKinds := [.data, .pinned], laidTests := true, laidLooks := .later }
def HistoryStatesUptoCardSaid : Prop := Claim7.holds Tryd.pinned (.plain (OpenSpec.upto historyStatesSpec)) historyStatesUptoCard

/-- THE SECOND FORM's CARD OF 'knapsacklaw48.HistoryMarks'. -/
def historyMarksUptoCard : Claim7 := { stood := { row := historyMarksUptoRow, standIns := [], harness := (true, "0941bf190c3a28f3ae36453b5d1c59fc91a940c36410a163c016236f562c16d8"), looks := false }, kinds := [], alts := [], laidByText := true, laidKinds := [.data, .pinned], laidTests := true, laidLooks := .later }
def HistoryMarksUptoCardSaid : Prop := Claim7.holds Tryd.pinned (.plain (OpenSpec.upto historyMarksSpec)) historyMarksUptoCard

/-- THE SECOND FORM's CARD OF 'knapsacklaw48.HistoryEvict'. -/
def historyEvictUptoCard : Claim7 := { stood := { row := historyEvictUptoRow, standIns := [], harness := (true, "0941bf190c3a28f3ae36453b5d1c59fc91a940c36410a163c016236f562c16d8"), looks := false }, kinds := [], alts := [], laidByText := true, laidKinds := [.data, .pinned], laidTests := true, laidLooks := .later }
def HistoryEvictUptoCardSaid : Prop := Claim7.holds Tryd.pinned (.plain (OpenSpec.upto historyEvictSpec)) historyEvictUptoCard

/-- THE SECOND FORM's CARD OF 'knapsacklaw48.HistoryValid'. -/
def historyValidUptoCard : Claim7 := { stood := { row := historyValidUptoRow, standIns := [], harness := (true, "0941bf190c3a28f3ae36453b5d1c59fc91a940c36410a163c016236f562c16d8"), looks := false }, kinds := [], alts := [], laidByText := true, laidKinds := [.data, .pinned], laidTests := true, laidLooks := .later }
def HistoryValidUptoCardSaid : Prop := Claim7.holds Tryd.pinned (.plain (OpenSpec.upto historyValidSpec)) historyValidUptoCard
end Rows
end Go.Proofs.YtiecgbmeobpomaaDoor
