/-
  No cell of these rows narrows 'for every input' (looked for: loops, veiled, ifaces, maps, wideKeys, modest, calm, conditions, laid).
  DERIVED. THE GIVEN ROWS OF THIS SEAT. 8 by the template 'for every input the law returns true; each argument reads behind the call as it read before'; 0 by the template 'total and deterministic' (their statements: YtaacafdlklnegaaTotals.lean).
  GIVEN WITH THE SEED: the statements are not yours to turn. If you find one false, say at which input.
  Laid BY PROGRAM, IN A SANDBOX (cutbox-rows.mjs): the forced cells as the released guide's own fill.sh prints them over the translation 3f69328f38f73f50… (all of the seat's roots in one cut). By AI agents, Wed Nov 11 2026. No macro, syntax, notation, axiom, sorry.
-/
import Derived.Test.YtaacafdlklnegaaChecked
import GoSem.Claim
import GoSem.ClaimJoined
import GoSem.ClaimMapViews
import Derived.JoinedTies
import Derived.KernelRfl
namespace Go.Proofs.Ytaacafdlklnegaa
/- THE CELL 'sum', in the pinned program and in every row, IS THE sha256 OF THE DUMP (.gsa) THAT YtaacafdlklnegaaProg.lean LOADS. Nothing in Lean hashes anything: it is a label: what it is worth is what the hold of that sum in a sandbox is worth. -/
noncomputable def Try.pinned : Pinned := { name := "ytaacafdlklnegaa", sum := "3f69328f38f73f507b43abe59f5e40835b68331feff4a2e68be171c4f8de4b4c", checked := Try.checked }
namespace Rows
def none {H : Type} : Left H := { results := [], args := [] }

/-- 'knapsacklaw53.TicketLimits': WHATEVER THE INPUT: true; the input reads as it did. -/
def ticketLimitsSpec : ChangeSpec := { name := "ticketLimits", fn := fun _ => fun
  | [d1, d2, d3] => { results := [.lit (.bool true)], args := [d1, d2, d3] }
  | _ => none }
def ticketLimitsRow : OpenClaim := { program := "ytaacafdlklnegaa", sum := "3f69328f38f73f507b43abe59f5e40835b68331feff4a2e68be171c4f8de4b4c", func := "knapsack/knapsacklaw53.TicketLimits", spec := "ticketLimits", recurses := true, apart := false }
def TicketLimitsSaid : Prop := ticketLimitsRow.holds Try.pinned (OpenSpec.ofChange ticketLimitsSpec)

/-- ITS FALSE NEIGHBOUR: 'it returns false'. Refute it at one input. -/
def ticketLimitsWrong : ChangeSpec := { name := "ticketLimits", fn := fun _ => fun
  | [d1, d2, d3] => { results := [.lit (.bool false)], args := [d1, d2, d3] }
  | _ => none }
def TicketLimitsWrongFalsely : Prop := ticketLimitsRow.holds Try.pinned (OpenSpec.ofChange ticketLimitsWrong)

/-- 'knapsacklaw53.TicketPieces': WHATEVER THE INPUT: true; the input reads as it did. -/
def ticketPiecesSpec : ChangeSpec := { name := "ticketPieces", fn := fun _ => fun
  | [d1, d2] => { results := [.lit (.bool true)], args := [d1, d2] }
  | _ => none }
def ticketPiecesRow : OpenClaim := { program := "ytaacafdlklnegaa", sum := "3f69328f38f73f507b43abe59f5e40835b68331feff4a2e68be171c4f8de4b4c", func := "knapsack/knapsacklaw53.TicketPieces", spec := "ticketPieces", recurses := true, apart := false }
def TicketPiecesSaid : Prop := ticketPiecesRow.holds Try.pinned (OpenSpec.ofChange ticketPiecesSpec)

/-- ITS FALSE NEIGHBOUR: 'it returns false'. Refute it at one input. -/
def ticketPiecesWrong : ChangeSpec := { name := "ticketPieces", fn := fun _ => fun
  | [d1, d2] => { results := [.lit (.bool false)], args := [d1, d2] }
  | _ => none }
def TicketPiecesWrongFalsely : Prop := ticketPiecesRow.holds Try.pinned (OpenSpec.ofChange ticketPiecesWrong)

/-- 'knapsacklaw53.TicketOnce': WHATEVER THE INPUT: true; the input reads as it did. -/
def ticketOnceSpec : ChangeSpec := { name := "ticketOnce", fn := fun _ => fun
  | [d] => { results := [.lit (.bool true)], args := [d] }
  | _ => none }
def ticketOnceRow : OpenClaim := { program := "ytaacafdlklnegaa", sum := "3f69328f38f73f507b43abe59f5e40835b68331feff4a2e68be171c4f8de4b4c", func := "knapsack/knapsacklaw53.TicketOnce", spec := "ticketOnce", recurses := true, apart := false }
def TicketOnceSaid : Prop := ticketOnceRow.holds Try.pinned (OpenSpec.ofChange ticketOnceSpec)

/-- ITS FALSE NEIGHBOUR: 'it returns false'. Refute it at one input. -/
def ticketOnceWrong : ChangeSpec := { name := "ticketOnce", fn := fun _ => fun
  | [d] => { results := [.lit (.bool false)], args := [d] }
  | _ => none }
def TicketOnceWrongFalsely : Prop := ticketOnceRow.holds Try.pinned (OpenSpec.ofChange ticketOnceWrong)

/-- 'knapsacklaw53.TicketPlays': WHATEVER THE INPUT: true; the input reads as it did. -/
def ticketPlaysSpec : ChangeSpec := { name := "ticketPlays", fn := fun _ => fun
  | [d] => { results := [.lit (.bool true)], args := [d] }
  | _ => none }
def ticketPlaysRow : OpenClaim := { program := "ytaacafdlklnegaa", sum := "3f69328f38f73f507b43abe59f5e40835b68331feff4a2e68be171c4f8de4b4c", func := "knapsack/knapsacklaw53.TicketPlays", spec := "ticketPlays", recurses := true, apart := false }
def TicketPlaysSaid : Prop := ticketPlaysRow.holds Try.pinned (OpenSpec.ofChange ticketPlaysSpec)

/-- ITS FALSE NEIGHBOUR: 'it returns false'. Refute it at one input. -/
def ticketPlaysWrong : ChangeSpec := { name := "ticketPlays", fn := fun _ => fun
  | [d] => { results := [.lit (.bool false)], args := [d] }
  | _ => none }
def TicketPlaysWrongFalsely : Prop := ticketPlaysRow.holds Try.pinned (OpenSpec.ofChange ticketPlaysWrong)

/-- 'knapsacklaw53.TicketEpochs': WHATEVER THE INPUT: true; the input reads as it did. -/
def ticketEpochsSpec : ChangeSpec := { name := "ticketEpochs", fn := fun _ => fun
  | [d1, d2] => { results := [.lit (.bool true)], args := [d1, d2] }
  | _ => none }
def ticketEpochsRow : OpenClaim := { program := "ytaacafdlklnegaa", sum := "3f69328f38f73f507b43abe59f5e40835b68331feff4a2e68be171c4f8de4b4c", func := "knapsack/knapsacklaw53.TicketEpochs", spec := "ticketEpochs", recurses := true, apart := false }
def TicketEpochsSaid : Prop := ticketEpochsRow.holds Try.pinned (OpenSpec.ofChange ticketEpochsSpec)

/-- ITS FALSE NEIGHBOUR: 'it returns false'. Refute it at one input. -/
def ticketEpochsWrong : ChangeSpec := { name := "ticketEpochs", fn := fun _ => fun
  | [d1, d2] => { results := [.lit (.bool false)], args := [d1, d2] }
  | _ => none }
def TicketEpochsWrongFalsely : Prop := ticketEpochsRow.holds Try.pinned (OpenSpec.ofChange ticketEpochsWrong)

/-- 'knapsacklaw53.TicketForms': WHATEVER THE INPUT: true; the input reads as it did. -/
def ticketFormsSpec : ChangeSpec := { name := "ticketForms", fn := fun _ => fun
  | [d1, d2] => { results := [.lit (.bool true)], args := [d1, d2] }
  | _ => none }
def ticketFormsRow : OpenClaim := { program := "ytaacafdlklnegaa", sum := "3f69328f38f73f507b43abe59f5e40835b68331feff4a2e68be171c4f8de4b4c", func := "knapsack/knapsacklaw53.TicketForms", spec := "ticketForms", recurses := true, apart := false }
def TicketFormsSaid : Prop := ticketFormsRow.holds Try.pinned (OpenSpec.ofChange ticketFormsSpec)

/-- ITS FALSE NEIGHBOUR: 'it returns false'. Refute it at one input. -/
def ticketFormsWrong : ChangeSpec := { name := "ticketForms", fn := fun _ => fun
  | [d1, d2] => { results := [.lit (.bool false)], args := [d1, d2] }
  | _ => none }
def TicketFormsWrongFalsely : Prop := ticketFormsRow.holds Try.pinned (OpenSpec.ofChange ticketFormsWrong)

/-- 'knapsacklaw53.TicketDecodes': WHATEVER THE INPUT: true; the input reads as it did. -/
def ticketDecodesSpec : ChangeSpec := { name := "ticketDecodes", fn := fun _ => fun
  | [d] => { results := [.lit (.bool true)], args := [d] }
  | _ => none }
def ticketDecodesRow : OpenClaim := { program := "ytaacafdlklnegaa", sum := "3f69328f38f73f507b43abe59f5e40835b68331feff4a2e68be171c4f8de4b4c", func := "knapsack/knapsacklaw53.TicketDecodes", spec := "ticketDecodes", recurses := true, apart := false }
def TicketDecodesSaid : Prop := ticketDecodesRow.holds Try.pinned (OpenSpec.ofChange ticketDecodesSpec)

/-- ITS FALSE NEIGHBOUR: 'it returns false'. Refute it at one input. -/
def ticketDecodesWrong : ChangeSpec := { name := "ticketDecodes", fn := fun _ => fun
  | [d] => { results := [.lit (.bool false)], args := [d] }
  | _ => none }
def TicketDecodesWrongFalsely : Prop := ticketDecodesRow.holds Try.pinned (OpenSpec.ofChange ticketDecodesWrong)

/-- 'knapsacklaw53.TicketCodes': WHATEVER THE INPUT: true; the input reads as it did. -/
def ticketCodesSpec : ChangeSpec := { name := "ticketCodes", fn := fun _ => fun
  | [d1, d2] => { results := [.lit (.bool true)], args := [d1, d2] }
  | _ => none }
def ticketCodesRow : OpenClaim := { program := "ytaacafdlklnegaa", sum := "3f69328f38f73f507b43abe59f5e40835b68331feff4a2e68be171c4f8de4b4c", func := "knapsack/knapsacklaw53.TicketCodes", spec := "ticketCodes", recurses := true, apart := false }
def TicketCodesSaid : Prop := ticketCodesRow.holds Try.pinned (OpenSpec.ofChange ticketCodesSpec)

/-- ITS FALSE NEIGHBOUR: 'it returns false'. Refute it at one input. -/
def ticketCodesWrong : ChangeSpec := { name := "ticketCodes", fn := fun _ => fun
  | [d1, d2] => { results := [.lit (.bool false)], args := [d1, d2] }
  | _ => none }
def TicketCodesWrongFalsely : Prop := ticketCodesRow.holds Try.pinned (OpenSpec.ofChange ticketCodesWrong)

/- THE SECOND FORM. 'bulk': how many values and letters a reading holds, each counted each time it is reached (what is shared counts as often as it is met; a slice's spare places count too). A statement '..UptoSaid' is the law's where the arguments, and the package variables that the reading takes, are together of bulk at most 1048576: NARROWER than '..Said'. Prove '..Said' where nothing that the law and all that it calls make is longer than what came in: it says more and counts as full. Else prove '..UptoSaid'. A law counts once. -/
mutual
def uptoBulk {H : Type} : DataW H → Nat
  | .lit (.string bytes) => bytes.length + 1
  | .lit _ => 1
  | .nil => 1
  | .ptr d => uptoBulk d + 1
  | .slice elems spare => uptoBulkAll elems + uptoBulkAll spare + 1
  | .agg parts => uptoBulkAll parts + 1
  | .iface _ d => uptoBulk d + 1
  | .map entries => uptoBulkEntries entries + 1
  | .held _ => 1
def uptoBulkAll {H : Type} : List (DataW H) → Nat
  | [] => 0
  | d :: r => uptoBulk d + uptoBulkAll r
def uptoBulkEntries {H : Type} : List (Lit × DataW H) → Nat
  | [] => 0
  | x :: r => uptoBulkEntry x + uptoBulkEntries r
def uptoBulkEntry {H : Type} : Lit × DataW H → Nat
  | (.string bytes, d) => bytes.length + uptoBulk d + 1
  | (_, d) => uptoBulk d + 1
 end
def uptoSmall : (H : Type) → List (DataW H) → Bool := fun _ ds => decide (uptoBulkAll ds ≤ 1048576)
def OpenSpec.upto (s : _root_.Go.ChangeSpec) : _root_.Go.OpenSpec := { _root_.Go.OpenSpec.ofChange s with cond := some uptoSmall }

/-- 'knapsacklaw53.TicketLimits', WHERE WHAT IT READS IS OF BULK AT MOST 1048576: true; the input reads as it did. -/
def ticketLimitsUptoRow : OpenClaim := { program := "ytaacafdlklnegaa", sum := "3f69328f38f73f507b43abe59f5e40835b68331feff4a2e68be171c4f8de4b4c", func := "knapsack/knapsacklaw53.TicketLimits", spec := "ticketLimits", recurses := true, apart := false, narrowed := true }
def TicketLimitsUptoSaid : Prop := ticketLimitsUptoRow.holds Try.pinned (OpenSpec.upto ticketLimitsSpec)

/-- 'knapsacklaw53.TicketPieces', WHERE WHAT IT READS IS OF BULK AT MOST 1048576: true; the input reads as it did. -/
def ticketPiecesUptoRow : OpenClaim := { program := "ytaacafdlklnegaa", sum := "3f69328f38f73f507b43abe59f5e40835b68331feff4a2e68be171c4f8de4b4c", func := "knapsack/knapsacklaw53.TicketPieces", spec := "ticketPieces", recurses := true, apart := false, narrowed := true }
def TicketPiecesUptoSaid : Prop := ticketPiecesUptoRow.holds Try.pinned (OpenSpec.upto ticketPiecesSpec)

/-- 'knapsacklaw53.TicketOnce', WHERE WHAT IT READS IS OF BULK AT MOST 1048576: true; the input reads as it did. -/
def ticketOnceUptoRow : OpenClaim := { program := "ytaacafdlklnegaa", sum := "3f69328f38f73f507b43abe59f5e40835b68331feff4a2e68be171c4f8de4b4c", func := "knapsack/knapsacklaw53.TicketOnce", spec := "ticketOnce", recurses := true, apart := false, narrowed := true }
def TicketOnceUptoSaid : Prop := ticketOnceUptoRow.holds Try.pinned (OpenSpec.upto ticketOnceSpec)

/-- 'knapsacklaw53.TicketPlays', WHERE WHAT IT READS IS OF BULK AT MOST 1048576: true; the input reads as it did. -/
def ticketPlaysUptoRow : OpenClaim := { program := "ytaacafdlklnegaa", sum := "3f69328f38f73f507b43abe59f5e40835b68331feff4a2e68be171c4f8de4b4c", func := "knapsack/knapsacklaw53.TicketPlays", spec := "ticketPlays", recurses := true, apart := false, narrowed := true }
def TicketPlaysUptoSaid : Prop := ticketPlaysUptoRow.holds Try.pinned (OpenSpec.upto ticketPlaysSpec)

/-- 'knapsacklaw53.TicketEpochs', WHERE WHAT IT READS IS OF BULK AT MOST 1048576: true; the input reads as it did. -/
def ticketEpochsUptoRow : OpenClaim := { program := "ytaacafdlklnegaa", sum := "3f69328f38f73f507b43abe59f5e40835b68331feff4a2e68be171c4f8de4b4c", func := "knapsack/knapsacklaw53.TicketEpochs", spec := "ticketEpochs", recurses := true, apart := false, narrowed := true }
def TicketEpochsUptoSaid : Prop := ticketEpochsUptoRow.holds Try.pinned (OpenSpec.upto ticketEpochsSpec)

/-- 'knapsacklaw53.TicketForms', WHERE WHAT IT READS IS OF BULK AT MOST 1048576: true; the input reads as it did. -/
def ticketFormsUptoRow : OpenClaim := { program := "ytaacafdlklnegaa", sum := "3f69328f38f73f507b43abe59f5e40835b68331feff4a2e68be171c4f8de4b4c", func := "knapsack/knapsacklaw53.TicketForms", spec := "ticketForms", recurses := true, apart := false, narrowed := true }
def TicketFormsUptoSaid : Prop := ticketFormsUptoRow.holds Try.pinned (OpenSpec.upto ticketFormsSpec)

/-- 'knapsacklaw53.TicketDecodes', WHERE WHAT IT READS IS OF BULK AT MOST 1048576: true; the input reads as it did. -/
def ticketDecodesUptoRow : OpenClaim := { program := "ytaacafdlklnegaa", sum := "3f69328f38f73f507b43abe59f5e40835b68331feff4a2e68be171c4f8de4b4c", func := "knapsack/knapsacklaw53.TicketDecodes", spec := "ticketDecodes", recurses := true, apart := false, narrowed := true }
def TicketDecodesUptoSaid : Prop := ticketDecodesUptoRow.holds Try.pinned (OpenSpec.upto ticketDecodesSpec)

/-- 'knapsacklaw53.TicketCodes', WHERE WHAT IT READS IS OF BULK AT MOST 1048576: true; the input reads as it did. -/
def ticketCodesUptoRow : OpenClaim := { program := "ytaacafdlklnegaa", sum := "3f69328f38f73f507b43abe59f5e40835b68331feff4a2e68be171c4f8de4b4c", func := "knapsack/knapsacklaw53.TicketCodes", spec := "ticketCodes", recurses := true, apart := false, narrowed := true }
def TicketCodesUptoSaid : Prop := ticketCodesUptoRow.holds Try.pinned (OpenSpec.upto ticketCodesSpec)

end Rows
end Go.Proofs.Ytaacafdlklnegaa
