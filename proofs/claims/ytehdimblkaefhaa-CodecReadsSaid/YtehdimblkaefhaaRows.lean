/-
  No cell of these rows narrows 'for every input' (looked for: loops, veiled, ifaces, maps, wideKeys, modest, calm, conditions, laid).
  DERIVED. THE GIVEN ROWS OF THIS SEAT. 8 by the template 'for every input the law returns true; each argument reads behind the call as it read before'; 0 by the template 'total and deterministic' (their statements: YtehdimblkaefhaaTotals.lean).
  GIVEN WITH THE SEED: the statements are not yours to turn. If you find one false, say at which input.
  Laid BY PROGRAM, IN A SANDBOX (cutbox-rows.mjs): the forced cells as the released guide's own fill.sh prints them over the translation 46e1e98bb30aa9e3… (all of the seat's roots in one cut). By AI agents, Wed Nov 11 2026. No macro, syntax, notation, axiom, sorry.
-/
import Derived.Test.YtehdimblkaefhaaChecked
import GoSem.Claim
import GoSem.ClaimJoined
import GoSem.ClaimMapViews
import Derived.JoinedTies
import Derived.KernelRfl
namespace Go.Proofs.Ytehdimblkaefhaa
/- THE CELL 'sum', in the pinned program and in every row, IS THE sha256 OF THE DUMP (.gsa) THAT YtehdimblkaefhaaProg.lean LOADS. Nothing in Lean hashes anything: it is a label: what it is worth is what the hold of that sum in a sandbox is worth. -/
noncomputable def Try.pinned : Pinned := { name := "ytehdimblkaefhaa", sum := "46e1e98bb30aa9e39b90ecc6716c0f1cb3d82a461c31768c70dc724282da4523", checked := Try.checked }
namespace Rows
def none {H : Type} : Left H := { results := [], args := [] }

/-- 'knapsacklaw01.CodecStrings': WHATEVER THE INPUT: true; the input reads as it did. -/
def codecStringsSpec : ChangeSpec := { name := "codecStrings", fn := fun _ => fun
  | [d1, d2] => { results := [.lit (.bool true)], args := [d1, d2] }
  | _ => none }
def codecStringsRow : OpenClaim := { program := "ytehdimblkaefhaa", sum := "46e1e98bb30aa9e39b90ecc6716c0f1cb3d82a461c31768c70dc724282da4523", func := "knapsack/knapsacklaw01.CodecStrings", spec := "codecStrings", apart := false }
def CodecStringsSaid : Prop := codecStringsRow.holds Try.pinned (OpenSpec.ofChange codecStringsSpec)

/-- ITS FALSE NEIGHBOUR: 'it returns false'. Refute it at one input. -/
def codecStringsWrong : ChangeSpec := { name := "codecStrings", fn := fun _ => fun
  | [d1, d2] => { results := [.lit (.bool false)], args := [d1, d2] }
  | _ => none }
def CodecStringsWrongFalsely : Prop := codecStringsRow.holds Try.pinned (OpenSpec.ofChange codecStringsWrong)

/-- 'knapsacklaw01.CodecPrefix': WHATEVER THE INPUT: true; the input reads as it did. -/
def codecPrefixSpec : ChangeSpec := { name := "codecPrefix", fn := fun _ => fun
  | [d1, d2, d3] => { results := [.lit (.bool true)], args := [d1, d2, d3] }
  | _ => none }
def codecPrefixRow : OpenClaim := { program := "ytehdimblkaefhaa", sum := "46e1e98bb30aa9e39b90ecc6716c0f1cb3d82a461c31768c70dc724282da4523", func := "knapsack/knapsacklaw01.CodecPrefix", spec := "codecPrefix", apart := false }
def CodecPrefixSaid : Prop := codecPrefixRow.holds Try.pinned (OpenSpec.ofChange codecPrefixSpec)

/-- ITS FALSE NEIGHBOUR: 'it returns false'. Refute it at one input. -/
def codecPrefixWrong : ChangeSpec := { name := "codecPrefix", fn := fun _ => fun
  | [d1, d2, d3] => { results := [.lit (.bool false)], args := [d1, d2, d3] }
  | _ => none }
def CodecPrefixWrongFalsely : Prop := codecPrefixRow.holds Try.pinned (OpenSpec.ofChange codecPrefixWrong)

/-- 'knapsacklaw01.CodecSum': WHATEVER THE INPUT: true; the input reads as it did. -/
def codecSumSpec : ChangeSpec := { name := "codecSum", fn := fun _ => fun
  | [d] => { results := [.lit (.bool true)], args := [d] }
  | _ => none }
def codecSumRow : OpenClaim := { program := "ytehdimblkaefhaa", sum := "46e1e98bb30aa9e39b90ecc6716c0f1cb3d82a461c31768c70dc724282da4523", func := "knapsack/knapsacklaw01.CodecSum", spec := "codecSum", apart := false }
def CodecSumSaid : Prop := codecSumRow.holds Try.pinned (OpenSpec.ofChange codecSumSpec)

/-- ITS FALSE NEIGHBOUR: 'it returns false'. Refute it at one input. -/
def codecSumWrong : ChangeSpec := { name := "codecSum", fn := fun _ => fun
  | [d] => { results := [.lit (.bool false)], args := [d] }
  | _ => none }
def CodecSumWrongFalsely : Prop := codecSumRow.holds Try.pinned (OpenSpec.ofChange codecSumWrong)

/-- 'knapsacklaw01.CodecAffine': WHATEVER THE INPUT: true; the input reads as it did. -/
def codecAffineSpec : ChangeSpec := { name := "codecAffine", fn := fun _ => fun
  | [d1, d2, d3] => { results := [.lit (.bool true)], args := [d1, d2, d3] }
  | _ => none }
def codecAffineRow : OpenClaim := { program := "ytehdimblkaefhaa", sum := "46e1e98bb30aa9e39b90ecc6716c0f1cb3d82a461c31768c70dc724282da4523", func := "knapsack/knapsacklaw01.CodecAffine", spec := "codecAffine", apart := false }
def CodecAffineSaid : Prop := codecAffineRow.holds Try.pinned (OpenSpec.ofChange codecAffineSpec)

/-- ITS FALSE NEIGHBOUR: 'it returns false'. Refute it at one input. -/
def codecAffineWrong : ChangeSpec := { name := "codecAffine", fn := fun _ => fun
  | [d1, d2, d3] => { results := [.lit (.bool false)], args := [d1, d2, d3] }
  | _ => none }
def CodecAffineWrongFalsely : Prop := codecAffineRow.holds Try.pinned (OpenSpec.ofChange codecAffineWrong)

/-- 'knapsacklaw01.CodecSeal': WHATEVER THE INPUT: true; the input reads as it did. -/
def codecSealSpec : ChangeSpec := { name := "codecSeal", fn := fun _ => fun
  | [d1, d2, d3] => { results := [.lit (.bool true)], args := [d1, d2, d3] }
  | _ => none }
def codecSealRow : OpenClaim := { program := "ytehdimblkaefhaa", sum := "46e1e98bb30aa9e39b90ecc6716c0f1cb3d82a461c31768c70dc724282da4523", func := "knapsack/knapsacklaw01.CodecSeal", spec := "codecSeal", apart := false }
def CodecSealSaid : Prop := codecSealRow.holds Try.pinned (OpenSpec.ofChange codecSealSpec)

/-- ITS FALSE NEIGHBOUR: 'it returns false'. Refute it at one input. -/
def codecSealWrong : ChangeSpec := { name := "codecSeal", fn := fun _ => fun
  | [d1, d2, d3] => { results := [.lit (.bool false)], args := [d1, d2, d3] }
  | _ => none }
def CodecSealWrongFalsely : Prop := codecSealRow.holds Try.pinned (OpenSpec.ofChange codecSealWrong)

/-- 'knapsacklaw01.CodecReads': WHATEVER THE INPUT: true; the input reads as it did. -/
def codecReadsSpec : ChangeSpec := { name := "codecReads", fn := fun _ => fun
  | [d1, d2, d3] => { results := [.lit (.bool true)], args := [d1, d2, d3] }
  | _ => none }
def codecReadsRow : OpenClaim := { program := "ytehdimblkaefhaa", sum := "46e1e98bb30aa9e39b90ecc6716c0f1cb3d82a461c31768c70dc724282da4523", func := "knapsack/knapsacklaw01.CodecReads", spec := "codecReads", apart := false }
def CodecReadsSaid : Prop := codecReadsRow.holds Try.pinned (OpenSpec.ofChange codecReadsSpec)

/-- ITS FALSE NEIGHBOUR: 'it returns false'. Refute it at one input. -/
def codecReadsWrong : ChangeSpec := { name := "codecReads", fn := fun _ => fun
  | [d1, d2, d3] => { results := [.lit (.bool false)], args := [d1, d2, d3] }
  | _ => none }
def CodecReadsWrongFalsely : Prop := codecReadsRow.holds Try.pinned (OpenSpec.ofChange codecReadsWrong)

/-- 'knapsacklaw01.CodecNumbers': WHATEVER THE INPUT: true; the input reads as it did. -/
def codecNumbersSpec : ChangeSpec := { name := "codecNumbers", fn := fun _ => fun
  | [d1, d2, d3] => { results := [.lit (.bool true)], args := [d1, d2, d3] }
  | _ => none }
def codecNumbersRow : OpenClaim := { program := "ytehdimblkaefhaa", sum := "46e1e98bb30aa9e39b90ecc6716c0f1cb3d82a461c31768c70dc724282da4523", func := "knapsack/knapsacklaw01.CodecNumbers", spec := "codecNumbers", apart := false }
def CodecNumbersSaid : Prop := codecNumbersRow.holds Try.pinned (OpenSpec.ofChange codecNumbersSpec)

/-- ITS FALSE NEIGHBOUR: 'it returns false'. Refute it at one input. -/
def codecNumbersWrong : ChangeSpec := { name := "codecNumbers", fn := fun _ => fun
  | [d1, d2, d3] => { results := [.lit (.bool false)], args := [d1, d2, d3] }
  | _ => none }
def CodecNumbersWrongFalsely : Prop := codecNumbersRow.holds Try.pinned (OpenSpec.ofChange codecNumbersWrong)

/-- 'knapsacklaw01.CodecCanonical': WHATEVER THE INPUT: true; the input reads as it did. -/
def codecCanonicalSpec : ChangeSpec := { name := "codecCanonical", fn := fun _ => fun
  | [d1, d2] => { results := [.lit (.bool true)], args := [d1, d2] }
  | _ => none }
def codecCanonicalRow : OpenClaim := { program := "ytehdimblkaefhaa", sum := "46e1e98bb30aa9e39b90ecc6716c0f1cb3d82a461c31768c70dc724282da4523", func := "knapsack/knapsacklaw01.CodecCanonical", spec := "codecCanonical", apart := false }
def CodecCanonicalSaid : Prop := codecCanonicalRow.holds Try.pinned (OpenSpec.ofChange codecCanonicalSpec)

/-- ITS FALSE NEIGHBOUR: 'it returns false'. Refute it at one input. -/
def codecCanonicalWrong : ChangeSpec := { name := "codecCanonical", fn := fun _ => fun
  | [d1, d2] => { results := [.lit (.bool false)], args := [d1, d2] }
  | _ => none }
def CodecCanonicalWrongFalsely : Prop := codecCanonicalRow.holds Try.pinned (OpenSpec.ofChange codecCanonicalWrong)

/- THE SECOND FORM. 'bulk': how many values and letters a reading holds, each counted each time it is reached (what is shared counts as often as it is met; a slice's spare places count too). A statement '..UptoSaid' is the law's where the arguments, and the package variables that the reading takes, are together of bulk at most 1048576: NARROWER than '..Said'. Prove '..Said' where nothing that the law and all that it calls make is longer than what came in: it says more and counts as full. Else prove '..UptoSaid'. A law counts once. -/
mutual
def uptoBulk {H : Type} : DataW H → Nat
  | .lit (.string bytes) => bytes.length + 1
  | .lit _ => 1
  | .nil => 1
  | .ptr d => uptoBulk d + 1
  | .slice elems spare => uptoBulkAll elems + uptoBulkAll spare + 1
  | .agg parts => uptoBulkAll parts + 1
  | .iface _ d => uptoBulk d + 1
  | .map entries => uptoBulkEntries entries + 1
  | .held _ => 1
def uptoBulkAll {H : Type} : List (DataW H) → Nat
  | [] => 0
  | d :: r => uptoBulk d + uptoBulkAll r
def uptoBulkEntries {H : Type} : List (Lit × DataW H) → Nat
  | [] => 0
  | x :: r => uptoBulkEntry x + uptoBulkEntries r
def uptoBulkEntry {H : Type} : Lit × DataW H → Nat
  | (.string bytes, d) => bytes.length + uptoBulk d + 1
  | (_, d) => uptoBulk d + 1
 end
def uptoSmall : (H : Type) → List (DataW H) → Bool := fun _ ds => decide (uptoBulkAll ds ≤ 1048576)
def OpenSpec.upto (s : _root_.Go.ChangeSpec) : _root_.Go.OpenSpec := { _root_.Go.OpenSpec.ofChange s with cond := some uptoSmall }

/-- 'knapsacklaw01.CodecStrings', WHERE WHAT IT READS IS OF BULK AT MOST 1048576: true; the input reads as it did. -/
def codecStringsUptoRow : OpenClaim := { program := "ytehdimblkaefhaa", sum := "46e1e98bb30aa9e39b90ecc6716c0f1cb3d82a461c31768c70dc724282da4523", func := "knapsack/knapsacklaw01.CodecStrings", spec := "codecStrings", apart := false, narrowed := true }
def CodecStringsUptoSaid : Prop := codecStringsUptoRow.holds Try.pinned (OpenSpec.upto codecStringsSpec)

/-- 'knapsacklaw01.CodecPrefix', WHERE WHAT IT READS IS OF BULK AT MOST 1048576: true; the input reads as it did. -/
def codecPrefixUptoRow : OpenClaim := { program := "ytehdimblkaefhaa", sum := "46e1e98bb30aa9e39b90ecc6716c0f1cb3d82a461c31768c70dc724282da4523", func := "knapsack/knapsacklaw01.CodecPrefix", spec := "codecPrefix", apart := false, narrowed := true }
def CodecPrefixUptoSaid : Prop := codecPrefixUptoRow.holds Try.pinned (OpenSpec.upto codecPrefixSpec)

/-- 'knapsacklaw01.CodecSum', WHERE WHAT IT READS IS OF BULK AT MOST 1048576: true; the input reads as it did. -/
def codecSumUptoRow : OpenClaim := { program := "ytehdimblkaefhaa", sum := "46e1e98bb30aa9e39b90ecc6716c0f1cb3d82a461c31768c70dc724282da4523", func := "knapsack/knapsacklaw01.CodecSum", spec := "codecSum", apart := false, narrowed := true }
def CodecSumUptoSaid : Prop := codecSumUptoRow.holds Try.pinned (OpenSpec.upto codecSumSpec)

/-- 'knapsacklaw01.CodecAffine', WHERE WHAT IT READS IS OF BULK AT MOST 1048576: true; the input reads as it did. -/
def codecAffineUptoRow : OpenClaim := { program := "ytehdimblkaefhaa", sum := "46e1e98bb30aa9e39b90ecc6716c0f1cb3d82a461c31768c70dc724282da4523", func := "knapsack/knapsacklaw01.CodecAffine", spec := "codecAffine", apart := false, narrowed := true }
def CodecAffineUptoSaid : Prop := codecAffineUptoRow.holds Try.pinned (OpenSpec.upto codecAffineSpec)

/-- 'knapsacklaw01.CodecSeal', WHERE WHAT IT READS IS OF BULK AT MOST 1048576: true; the input reads as it did. -/
def codecSealUptoRow : OpenClaim := { program := "ytehdimblkaefhaa", sum := "46e1e98bb30aa9e39b90ecc6716c0f1cb3d82a461c31768c70dc724282da4523", func := "knapsack/knapsacklaw01.CodecSeal", spec := "codecSeal", apart := false, narrowed := true }
def CodecSealUptoSaid : Prop := codecSealUptoRow.holds Try.pinned (OpenSpec.upto codecSealSpec)

/-- 'knapsacklaw01.CodecReads', WHERE WHAT IT READS IS OF BULK AT MOST 1048576: true; the input reads as it did. -/
def codecReadsUptoRow : OpenClaim := { program := "ytehdimblkaefhaa", sum := "46e1e98bb30aa9e39b90ecc6716c0f1cb3d82a461c31768c70dc724282da4523", func := "knapsack/knapsacklaw01.CodecReads", spec := "codecReads", apart := false, narrowed := true }
def CodecReadsUptoSaid : Prop := codecReadsUptoRow.holds Try.pinned (OpenSpec.upto codecReadsSpec)

/-- 'knapsacklaw01.CodecNumbers', WHERE WHAT IT READS IS OF BULK AT MOST 1048576: true; the input reads as it did. -/
def codecNumbersUptoRow : OpenClaim := { program := "ytehdimblkaefhaa", sum := "46e1e98bb30aa9e39b90ecc6716c0f1cb3d82a461c31768c70dc724282da4523", func := "knapsack/knapsacklaw01.CodecNumbers", spec := "codecNumbers", apart := false, narrowed := true }
def CodecNumbersUptoSaid : Prop := codecNumbersUptoRow.holds Try.pinned (OpenSpec.upto codecNumbersSpec)

/-- 'knapsacklaw01.CodecCanonical', WHERE WHAT IT READS IS OF BULK AT MOST 1048576: true; the input reads as it did. -/
def codecCanonicalUptoRow : OpenClaim := { program := "ytehdimblkaefhaa", sum := "46e1e98bb30aa9e39b90ecc6716c0f1cb3d82a461c31768c70dc724282da4523", func := "knapsack/knapsacklaw01.CodecCanonical", spec := "codecCanonical", apart := false, narrowed := true }
def CodecCanonicalUptoSaid : Prop := codecCanonicalUptoRow.holds Try.pinned (OpenSpec.upto codecCanonicalSpec)

end Rows
end Go.Proofs.Ytehdimblkaefhaa
