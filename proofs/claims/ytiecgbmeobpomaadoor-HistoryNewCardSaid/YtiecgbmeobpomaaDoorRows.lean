/-
  NARROWER THAN 'FOR EVERY INPUT', by the rows' own cells (each row's printed sentence says how): HistoryRuns: laid · HistoryBack: laid · HistoryPages: laid · HistoryNew: laid · HistoryStates: laid · HistoryMarks: laid · HistoryEvict: laid · HistoryValid: laid.
  DERIVED. THE GIVEN ROWS OF THIS SEAT. 8 by the template 'for every input the law returns true; each argument reads behind the call as it read before'; 0 by the template 'total and deterministic' (their statements: YtiecgbmeobpomaaDoorTotals.lean).
  GIVEN WITH THE SEED: the statements are not yours to turn. If you find one false, say at which input.
  Laid BY PROGRAM, IN A SANDBOX (cutbox-rows.mjs): the forced cells as the released guide's own fill.sh prints them over the translation e08b61bdff30aef5… (all of the seat's roots in one cut). By AI agents, Wed Nov 11 2026. No macro, syntax, notation, axiom, sorry.
-/
import Derived.Test.YtiecgbmeobpomaaDoorChecked
import GoSem.PinnedTables
import GoSem.Claim
import GoSem.ClaimJoined
import GoSem.ClaimMapViews
import Derived.JoinedTies
import Derived.KernelRfl
namespace Go.Proofs.YtiecgbmeobpomaaDoor
/- THE CELL 'sum', in the pinned program and in every row, IS THE sha256 OF THE DUMP (.gsa) THAT YtiecgbmeobpomaaDoorProg.lean LOADS. Nothing in Lean hashes anything: it is a label: what it is worth is what the hold of that sum in a sandbox is worth. -/
noncomputable def Tryd.pinned : Pinned := { name := "ytiecgbmeobpomaadoor", sum := "e08b61bdff30aef57c6da9d1aa8510ef2794d34fb873b1816d051841bcbc316f", checked := Tryd.checked }
namespace Rows
def none {H : Type} : Left H := { results := [], args := [] }

/- WHAT THE LISTED PACKAGE-LEVEL VARIABLES READ AS WHEN THE CALL BEGINS. Each datum BY PROGRAM (the guide's laid-datum.mjs) off the statement by which the dump's own 'gosem.cut.vars' lays the variable. In a bare row this is a premise. The card (YtiecgbmeobpomaaDoorCards.lean) ties it to the program's text. -/
def laid_unicode_utf8_acceptRanges {H : Type} : DataW H := .agg [.agg [.lit (.int .u8 128), .lit (.int .u8 191)], .agg [.lit (.int .u8 160), .lit (.int .u8 191)], .agg [.lit (.int .u8 128), .lit (.int .u8 159)], .agg [.lit (.int .u8 144), .lit (.int .u8 191)], .agg [.lit (.int .u8 128), .lit (.int .u8 143)], .agg [.lit (.int .u8 0), .lit (.int .u8 0)], .agg [.lit (.int .u8 0), .lit (.int .u8 0)], .agg [.lit (.int .u8 0), .lit (.int .u8 0)], .agg [.lit (.int .u8 0), .lit (.int .u8 0)], .agg [.lit (.int .u8 0), .lit (.int .u8 0)], .agg [.lit (.int .u8 0), .lit (.int .u8 0)], .agg [.lit (.int .u8 0), .lit (.int .u8 0)], .agg [.lit (.int .u8 0), .lit (.int .u8 0)], .agg [.lit (.int .u8 0), .lit (.int .u8 0)], .agg [.lit (.int .u8 0), .lit (.int .u8 0)], .agg [.lit (.int .u8 0), .lit (.int .u8 0)]]
/-- One of Go's own tables, pinned by name: the form's constant. -/
def laid_unicode_utf8_first : DataW Unit := Go.Pinned.utf8First

/-- 'knapsacklaw48.HistoryRuns': WHATEVER THE INPUT: true; the input reads as it did. -/
def historyRunsSpec : ChangeSpec := { name := "historyRuns", fn := fun _ => fun
  | [d1, d2] => { results := [.lit (.bool true)], args := [d1, d2] }
  | _ => none }
def historyRunsRow : OpenClaim := { program := "ytiecgbmeobpomaadoor", sum := "e08b61bdff30aef57c6da9d1aa8510ef2794d34fb873b1816d051841bcbc316f", func := "knapsack/knapsacklaw48.HistoryRuns", spec := "historyRuns", inPlace := ["internal/abi.NoEscape"], unfollowed := true, recurses := true, named := ["unicode/utf8.first", "unicode/utf8.acceptRanges"], plainKeys := false, apart := false, laid := [("unicode/utf8.acceptRanges", laid_unicode_utf8_acceptRanges), ("unicode/utf8.first", laid_unicode_utf8_first)] }
def HistoryRunsSaid : Prop := historyRunsRow.holds Tryd.pinned (OpenSpec.ofChange historyRunsSpec)

/-- ITS FALSE NEIGHBOUR: 'it returns false'. Refute it at one input. -/
def historyRunsWrong : ChangeSpec := { name := "historyRuns", fn := fun _ => fun
  | [d1, d2] => { results := [.lit (.bool false)], args := [d1, d2] }
  | _ => none }
def HistoryRunsWrongFalsely : Prop := historyRunsRow.holds Tryd.pinned (OpenSpec.ofChange historyRunsWrong)

/-- 'knapsacklaw48.HistoryBack': WHATEVER THE INPUT: true; the input reads as it did. -/
def historyBackSpec : ChangeSpec := { name := "historyBack", fn := fun _ => fun
  | [d1, d2] => { results := [.lit (.bool true)], args := [d1, d2] }
  | _ => none }
def historyBackRow : OpenClaim := { program := "ytiecgbmeobpomaadoor", sum := "e08b61bdff30aef57c6da9d1aa8510ef2794d34fb873b1816d051841bcbc316f", func := "knapsack/knapsacklaw48.HistoryBack", spec := "historyBack", inPlace := ["internal/abi.NoEscape"], unfollowed := true, recurses := true, named := ["unicode/utf8.first", "unicode/utf8.acceptRanges"], plainKeys := false, apart := false, laid := [("unicode/utf8.acceptRanges", laid_unicode_utf8_acceptRanges), ("unicode/utf8.first", laid_unicode_utf8_first)] }
def HistoryBackSaid : Prop := historyBackRow.holds Tryd.pinned (OpenSpec.ofChange historyBackSpec)

/-- ITS FALSE NEIGHBOUR: 'it returns false'. Refute it at one input. -/
def historyBackWrong : ChangeSpec := { name := "historyBack", fn := fun _ => fun
  | [d1, d2] => { results := [.lit (.bool false)], args := [d1, d2] }
  | _ => none }
def HistoryBackWrongFalsely : Prop := historyBackRow.holds Tryd.pinned (OpenSpec.ofChange historyBackWrong)

/-- 'knapsacklaw48.HistoryPages': WHATEVER THE INPUT: true; the input reads as it did. -/
def historyPagesSpec : ChangeSpec := { name := "historyPages", fn := fun _ => fun
  | [d] => { results := [.lit (.bool true)], args := [d] }
  | _ => none }
def historyPagesRow : OpenClaim := { program := "ytiecgbmeobpomaadoor", sum := "e08b61bdff30aef57c6da9d1aa8510ef2794d34fb873b1816d051841bcbc316f", func := "knapsack/knapsacklaw48.HistoryPages", spec := "historyPages", inPlace := ["internal/abi.NoEscape"], unfollowed := true, recurses := true, named := ["unicode/utf8.first", "unicode/utf8.acceptRanges"], plainKeys := false, apart := false, laid := [("unicode/utf8.acceptRanges", laid_unicode_utf8_acceptRanges), ("unicode/utf8.first", laid_unicode_utf8_first)] }
def HistoryPagesSaid : Prop := historyPagesRow.holds Tryd.pinned (OpenSpec.ofChange historyPagesSpec)

/-- ITS FALSE NEIGHBOUR: 'it returns false'. Refute it at one input. -/
def historyPagesWrong : ChangeSpec := { name := "historyPages", fn := fun _ => fun
  | [d] => { results := [.lit (.bool false)], args := [d] }
  | _ => none }
def HistoryPagesWrongFalsely : Prop := historyPagesRow.holds Tryd.pinned (OpenSpec.ofChange historyPagesWrong)

/-- 'knapsacklaw48.HistoryNew': WHATEVER THE INPUT: true; the input reads as it did. -/
def historyNewSpec : ChangeSpec := { name := "historyNew", fn := fun _ => fun
  | [d1, d2, d3] => { results := [.lit (.bool true)], args := [d1, d2, d3] }
  | _ => none }
def historyNewRow : OpenClaim := { program := "ytiecgbmeobpomaadoor", sum := "e08b61bdff30aef57c6da9d1aa8510ef2794d34fb873b1816d051841bcbc316f", func := "knapsack/knapsacklaw48.HistoryNew", spec := "historyNew", inPlace := ["internal/abi.NoEscape"], unfollowed := true, recurses := true, named := ["unicode/utf8.first", "unicode/utf8.acceptRanges"], plainKeys := false, apart := false, laid := [("unicode/utf8.acceptRanges", laid_unicode_utf8_acceptRanges), ("unicode/utf8.first", laid_unicode_utf8_first)] }
def HistoryNewSaid : Prop := historyNewRow.holds Tryd.pinned (OpenSpec.ofChange historyNewSpec)

/-- ITS FALSE NEIGHBOUR: 'it returns false'. Refute it at one input. -/
def historyNewWrong : ChangeSpec := { name := "historyNew", fn := fun _ => fun
  | [d1, d2, d3] => { results := [.lit (.bool false)], args := [d1, d2, d3] }
  | _ => none }
def HistoryNewWrongFalsely : Prop := historyNewRow.holds Tryd.pinned (OpenSpec.ofChange historyNewWrong)

/-- 'knapsacklaw48.HistoryStates': WHATEVER THE INPUT: true; the input reads as it did. -/
def historyStatesSpec : ChangeSpec := { name := "historyStates", fn := fun _ => fun
  | [d1, d2, d3] => { results := [.lit (.bool true)], args := [d1, d2, d3] }
  | _ => none }
def historyStatesRow : OpenClaim := { program := "ytiecgbmeobpomaadoor", sum := "e08b61bdff30aef57c6da9d1aa8510ef2794d34fb873b1816d051841bcbc316f", func := "knapsack/knapsacklaw48.HistoryStates", spec := "historyStates", inPlace := ["internal/abi.NoEscape"], unfollowed := true, recurses := true, named := ["unicode/utf8.first", "unicode/utf8.acceptRanges"], plainKeys := false, apart := false, laid := [("unicode/utf8.acceptRanges", laid_unicode_utf8_acceptRanges), ("unicode/utf8.first", laid_unicode_utf8_first)] }
def HistoryStatesSaid : Prop := historyStatesRow.holds Tryd.pinned (OpenSpec.ofChange historyStatesSpec)

/-- ITS FALSE NEIGHBOUR: 'it returns false'. Refute it at one input. -/
def historyStatesWrong : ChangeSpec := { name := "historyStates", fn := fun _ => fun
  | [d1, d2, d3] => { results := [.lit (.bool false)], args := [d1, d2, d3] }
  | _ => none }
def HistoryStatesWrongFalsely : Prop := historyStatesRow.holds Tryd.pinned (OpenSpec.ofChange historyStatesWrong)

/-- 'knapsacklaw48.HistoryMarks': WHATEVER THE INPUT: true; the input reads as it did. -/
def historyMarksSpec : ChangeSpec := { name := "historyMarks", fn := fun _ => fun
  | [d1, d2, d3] => { results := [.lit (.bool true)], args := [d1, d2, d3] }
  | _ => none }
def historyMarksRow : OpenClaim := { program := "ytiecgbmeobpomaadoor", sum := "e08b61bdff30aef57c6da9d1aa8510ef2794d34fb873b1816d051841bcbc316f", func := "knapsack/knapsacklaw48.HistoryMarks", spec := "historyMarks", inPlace := ["internal/abi.NoEscape"], unfollowed := true, recurses := true, named := ["unicode/utf8.first", "unicode/utf8.acceptRanges"], plainKeys := false, apart := false, laid := [("unicode/utf8.acceptRanges", laid_unicode_utf8_acceptRanges), ("unicode/utf8.first", laid_unicode_utf8_first)] }
def HistoryMarksSaid : Prop := historyMarksRow.holds Tryd.pinned (OpenSpec.ofChange historyMarksSpec)

/-- ITS FALSE NEIGHBOUR: 'it returns false'. Refute it at one input. -/
def historyMarksWrong : ChangeSpec := { name := "historyMarks", fn := fun _ => fun
  | [d1, d2, d3] => { results := [.lit (.bool false)], args := [d1, d2, d3] }
  | _ => none }
def HistoryMarksWrongFalsely : Prop := historyMarksRow.holds Tryd.pinned (OpenSpec.ofChange historyMarksWrong)

/-- 'knapsacklaw48.HistoryEvict': WHATEVER THE INPUT: true; the input reads as it did. -/
def historyEvictSpec : ChangeSpec := { name := "historyEvict", fn := fun _ => fun
  | [d1, d2, d3] => { results := [.lit (.bool true)], args := [d1, d2, d3] }
  | _ => none }
def historyEvictRow : OpenClaim := { program := "ytiecgbmeobpomaadoor", sum := "e08b61bdff30aef57c6da9d1aa8510ef2794d34fb873b1816d051841bcbc316f", func := "knapsack/knapsacklaw48.HistoryEvict", spec := "historyEvict", inPlace := ["internal/abi.NoEscape"], unfollowed := true, recurses := true, named := ["unicode/utf8.first", "unicode/utf8.acceptRanges"], plainKeys := false, apart := false, laid := [("unicode/utf8.acceptRanges", laid_unicode_utf8_acceptRanges), ("unicode/utf8.first", laid_unicode_utf8_first)] }
def HistoryEvictSaid : Prop := historyEvictRow.holds Tryd.pinned (OpenSpec.ofChange historyEvictSpec)

/-- ITS FALSE NEIGHBOUR: 'it returns false'. Refute it at one input. -/
def historyEvictWrong : ChangeSpec := { name := "historyEvict", fn := fun _ => fun
  | [d1, d2, d3] => { results := [.lit (.bool false)], args := [d1, d2, d3] }
  | _ => none }
def HistoryEvictWrongFalsely : Prop := historyEvictRow.holds Tryd.pinned (OpenSpec.ofChange historyEvictWrong)

/-- 'knapsacklaw48.HistoryValid': WHATEVER THE INPUT: true; the input reads as it did. -/
def historyValidSpec : ChangeSpec := { name := "historyValid", fn := fun _ => fun
  | [d1, d2] => { results := [.lit (.bool true)], args := [d1, d2] }
  | _ => none }
def historyValidRow : OpenClaim := { program := "ytiecgbmeobpomaadoor", sum := "e08b61bdff30aef57c6da9d1aa8510ef2794d34fb873b1816d051841bcbc316f", func := "knapsack/knapsacklaw48.HistoryValid", spec := "historyValid", inPlace := ["internal/abi.NoEscape"], unfollowed := true, recurses := true, named := ["unicode/utf8.first", "unicode/utf8.acceptRanges"], plainKeys := false, apart := false, laid := [("unicode/utf8.acceptRanges", laid_unicode_utf8_acceptRanges), ("unicode/utf8.first", laid_unicode_utf8_first)] }
def HistoryValidSaid : Prop := historyValidRow.holds Tryd.pinned (OpenSpec.ofChange historyValidSpec)

/-- ITS FALSE NEIGHBOUR: 'it returns false'. Refute it at one input. -/
def historyValidWrong : ChangeSpec := { name := "historyValid", fn := fun _ => fun
  | [d1, d2] => { results := [.lit (.bool false)], args := [d1, d2] }
  | _ => none }
def HistoryValidWrongFalsely : Prop := historyValidRow.holds Tryd.pinned (OpenSpec.ofChange historyValidWrong)

/- THE SECOND FORM. 'bulk': how many values and letters a reading holds, each counted each time it is reached (what is shared counts as often as it is met; a slice's spare places count too). A statement '..UptoSaid' is the law's where the arguments, and the package variables that the reading takes, are together of bulk at most 1048576: NARROWER than '..Said'. Prove '..Said' where nothing that the law and all that it calls make is longer than what came in: it says more and counts as full. Else prove '..UptoSaid'. A law counts once. -/
mutual
def uptoBulk {H : Type} : DataW H → Nat
  | .lit (.string bytes) => bytes.length + 1
  | .lit _ => 1
  | .nil => 1
  | .ptr d => uptoBulk d + 1
  | .slice elems spare => uptoBulkAll elems + uptoBulkAll spare + 1
  | .agg parts => uptoBulkAll parts + 1
  | .iface _ d => uptoBulk d + 1
  | .map entries => uptoBulkEntries entries + 1
  | .held _ => 1
def uptoBulkAll {H : Type} : List (DataW H) → Nat
  | [] => 0
  | d :: r => uptoBulk d + uptoBulkAll r
def uptoBulkEntries {H : Type} : List (Lit × DataW H) → Nat
  | [] => 0
  | x :: r => uptoBulkEntry x + uptoBulkEntries r
def uptoBulkEntry {H : Type} : Lit × DataW H → Nat
  | (.string bytes, d) => bytes.length + uptoBulk d + 1
  | (_, d) => uptoBulk d + 1
 end
def uptoSmall : (H : Type) → List (DataW H) → Bool := fun _ ds => decide (uptoBulkAll ds ≤ 1048576)
def OpenSpec.upto (s : _root_.Go.ChangeSpec) : _root_.Go.OpenSpec := { _root_.Go.OpenSpec.ofChange s with cond := some uptoSmall }

/-- 'knapsacklaw48.HistoryRuns', WHERE WHAT IT READS IS OF BULK AT MOST 1048576: true; the input reads as it did. -/
def historyRunsUptoRow : OpenClaim := { program := "ytiecgbmeobpomaadoor", sum := "e08b61bdff30aef57c6da9d1aa8510ef2794d34fb873b1816d051841bcbc316f", func := "knapsack/knapsacklaw48.HistoryRuns", spec := "historyRuns", inPlace := ["internal/abi.NoEscape"], unfollowed := true, recurses := true, named := ["unicode/utf8.first", "unicode/utf8.acceptRanges"], plainKeys := false, apart := false, laid := [("unicode/utf8.acceptRanges", laid_unicode_utf8_acceptRanges), ("unicode/utf8.first", laid_unicode_utf8_first)], narrowed := true }
def HistoryRunsUptoSaid : Prop := historyRunsUptoRow.holds Tryd.pinned (OpenSpec.upto historyRunsSpec)

/-- 'knapsacklaw48.HistoryBack', WHERE WHAT IT READS IS OF BULK AT MOST 1048576: true; the input reads as it did. -/
def historyBackUptoRow : OpenClaim := { program := "ytiecgbmeobpomaadoor", sum := "e08b61bdff30aef57c6da9d1aa8510ef2794d34fb873b1816d051841bcbc316f", func := "knapsack/knapsacklaw48.HistoryBack", spec := "historyBack", inPlace := ["internal/abi.NoEscape"], unfollowed := true, recurses := true, named := ["unicode/utf8.first", "unicode/utf8.acceptRanges"], plainKeys := false, apart := false, laid := [("unicode/utf8.acceptRanges", laid_unicode_utf8_acceptRanges), ("unicode/utf8.first", laid_unicode_utf8_first)], narrowed := true }
def HistoryBackUptoSaid : Prop := historyBackUptoRow.holds Tryd.pinned (OpenSpec.upto historyBackSpec)

/-- 'knapsacklaw48.HistoryPages', WHERE WHAT IT READS IS OF BULK AT MOST 1048576: true; the input reads as it did. -/
def historyPagesUptoRow : OpenClaim := { program := "ytiecgbmeobpomaadoor", sum := "e08b61bdff30aef57c6da9d1aa8510ef2794d34fb873b1816d051841bcbc316f", func := "knapsack/knapsacklaw48.HistoryPages", spec := "historyPages", inPlace := ["internal/abi.NoEscape"], unfollowed := true, recurses := true, named := ["unicode/utf8.first", "unicode/utf8.acceptRanges"], plainKeys := false, apart := false, laid := [("unicode/utf8.acceptRanges", laid_unicode_utf8_acceptRanges), ("unicode/utf8.first", laid_unicode_utf8_first)], narrowed := true }
def HistoryPagesUptoSaid : Prop := historyPagesUptoRow.holds Tryd.pinned (OpenSpec.upto historyPagesSpec)

/-- 'knapsacklaw48.HistoryNew', WHERE WHAT IT READS IS OF BULK AT MOST 1048576: true; the input reads as it did. -/
def historyNewUptoRow : OpenClaim := { program := "ytiecgbmeobpomaadoor", sum := "e08b61bdff30aef57c6da9d1aa8510ef2794d34fb873b1816d051841bcbc316f", func := "knapsack/knapsacklaw48.HistoryNew", spec := "historyNew", inPlace := ["internal/abi.NoEscape"], unfollowed := true, recurses := true, named := ["unicode/utf8.first", "unicode/utf8.acceptRanges"], plainKeys := false, apart := false, laid := [("unicode/utf8.acceptRanges", laid_unicode_utf8_acceptRanges), ("unicode/utf8.first", laid_unicode_utf8_first)], narrowed := true }
def HistoryNewUptoSaid : Prop := historyNewUptoRow.holds Tryd.pinned (OpenSpec.upto historyNewSpec)

/-- 'knapsacklaw48.HistoryStates', WHERE WHAT IT READS IS OF BULK AT MOST 1048576: true; the input reads as it did. -/
def historyStatesUptoRow : OpenClaim := { program := "ytiecgbmeobpomaadoor", sum := "e08b61bdff30aef57c6da9d1aa8510ef2794d34fb873b1816d051841bcbc316f", func := "knapsack/knapsacklaw48.HistoryStates", spec := "historyStates", inPlace := ["internal/abi.NoEscape"], unfollowed := true, recurses := true, named := ["unicode/utf8.first", "unicode/utf8.acceptRanges"], plainKeys := false, apart := false, laid := [("unicode/utf8.acceptRanges", laid_unicode_utf8_acceptRanges), ("unicode/utf8.first", laid_unicode_utf8_first)], narrowed := true }
def HistoryStatesUptoSaid : Prop := historyStatesUptoRow.holds Tryd.pinned (OpenSpec.upto historyStatesSpec)

/-- 'knapsacklaw48.HistoryMarks', WHERE WHAT IT READS IS OF BULK AT MOST 1048576: true; the input reads as it did. -/
def historyMarksUptoRow : OpenClaim := { program := "ytiecgbmeobpomaadoor", sum := "e08b61bdff30aef57c6da9d1aa8510ef2794d34fb873b1816d051841bcbc316f", func := "knapsack/knapsacklaw48.HistoryMarks", spec := "historyMarks", inPlace := ["internal/abi.NoEscape"], unfollowed := true, recurses := true, named := ["unicode/utf8.first", "unicode/utf8.acceptRanges"], plainKeys := false, apart := false, laid := [("unicode/utf8.acceptRanges", laid_unicode_utf8_acceptRanges), ("unicode/utf8.first", laid_unicode_utf8_first)], narrowed := true }
def HistoryMarksUptoSaid : Prop := historyMarksUptoRow.holds Tryd.pinned (OpenSpec.upto historyMarksSpec)

/-- 'knapsacklaw48.HistoryEvict', WHERE WHAT IT READS IS OF BULK AT MOST 1048576: true; the input reads as it did. -/
def historyEvictUptoRow : OpenClaim := { program := "ytiecgbmeobpomaadoor", sum := "e08b61bdff30aef57c6da9d1aa8510ef2794d34fb873b1816d051841bcbc316f", func := "knapsack/knapsacklaw48.HistoryEvict", spec := "historyEvict", inPlace := ["internal/abi.NoEscape"], unfollowed := true, recurses := true, named := ["unicode/utf8.first", "unicode/utf8.acceptRanges"], plainKeys := false, apart := false, laid := [("unicode/utf8.acceptRanges", laid_unicode_utf8_acceptRanges), ("unicode/utf8.first", laid_unicode_utf8_first)], narrowed := true }
def HistoryEvictUptoSaid : Prop := historyEvictUptoRow.holds Tryd.pinned (OpenSpec.upto historyEvictSpec)

/-- 'knapsacklaw48.HistoryValid', WHERE WHAT IT READS IS OF BULK AT MOST 1048576: true; the input reads as it did. -/
def historyValidUptoRow : OpenClaim := { program := "ytiecgbmeobpomaadoor", sum := "e08b61bdff30aef57c6da9d1aa8510ef2794d34fb873b1816d051841bcbc316f", func := "knapsack/knapsacklaw48.HistoryValid", spec := "historyValid", inPlace := ["internal/abi.NoEscape"], unfollowed := true, recurses := true, named := ["unicode/utf8.first", "unicode/utf8.acceptRanges"], plainKeys := false, apart := false, laid := [("unicode/utf8.acceptRanges", laid_unicode_utf8_acceptRanges), ("unicode/utf8.first", laid_unicode_utf8_first)], narrowed := true }
def HistoryValidUptoSaid : Prop := historyValidUptoRow.holds Tryd.pinned (OpenSpec.upto historyValidSpec)

end Rows
end Go.Proofs.YtiecgbmeobpomaaDoor
