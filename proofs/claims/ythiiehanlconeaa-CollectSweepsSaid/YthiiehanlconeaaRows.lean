/-
  No cell of these rows narrows 'for every input' (looked for: loops, veiled, ifaces, maps, wideKeys, modest, calm, conditions, laid).
  DERIVED. THE GIVEN ROWS OF THIS SEAT. 3 by the template 'for every input the law returns true; each argument reads behind the call as it read before'; 0 by the template 'total and deterministic' (their statements: YthiiehanlconeaaTotals.lean).
  GIVEN WITH THE SEED: the statements are not yours to turn. If you find one false, say at which input.
  Laid BY PROGRAM, IN A SANDBOX (cutbox-rows.mjs): the forced cells as the released guide's own fill.sh prints them over the translation 4e73161f1a5752e4… (all of the seat's roots in one cut). By AI agents, Wed Nov 11 2026. No macro, syntax, notation, axiom, sorry.
-/
import Derived.Test.YthiiehanlconeaaChecked
import GoSem.Claim
import GoSem.ClaimJoined
import GoSem.ClaimMapViews
import Derived.JoinedTies
import Derived.KernelRfl
namespace Go.Proofs.Ythiiehanlconeaa
/- THE CELL 'sum', in the pinned program and in every row, IS THE sha256 OF THE DUMP (.gsa) THAT YthiiehanlconeaaProg.lean LOADS. Nothing in Lean hashes anything: it is a label: what it is worth is what the hold of that sum in a sandbox is worth. -/
noncomputable def Try.pinned : Pinned := { name := "ythiiehanlconeaa", sum := "4e73161f1a5752e4fe57d4d2446b15b08fcf0049141afc10d90a61ca38163eec", checked := Try.checked }
namespace Rows
def none {H : Type} : Left H := { results := [], args := [] }

/-- 'knapsacklaw35.CollectLives': WHATEVER THE INPUT: true; the input reads as it did. -/
def collectLivesSpec : ChangeSpec := { name := "collectLives", fn := fun _ => fun
  | [d1, d2, d3] => { results := [.lit (.bool true)], args := [d1, d2, d3] }
  | _ => none }
def collectLivesRow : OpenClaim := { program := "ythiiehanlconeaa", sum := "4e73161f1a5752e4fe57d4d2446b15b08fcf0049141afc10d90a61ca38163eec", func := "knapsack/knapsacklaw35.CollectLives", spec := "collectLives", unfollowed := true, recurses := true, apart := false }
def CollectLivesSaid : Prop := collectLivesRow.holds Try.pinned (OpenSpec.ofChange collectLivesSpec)

/-- ITS FALSE NEIGHBOUR: 'it returns false'. Refute it at one input. -/
def collectLivesWrong : ChangeSpec := { name := "collectLives", fn := fun _ => fun
  | [d1, d2, d3] => { results := [.lit (.bool false)], args := [d1, d2, d3] }
  | _ => none }
def CollectLivesWrongFalsely : Prop := collectLivesRow.holds Try.pinned (OpenSpec.ofChange collectLivesWrong)

/-- 'knapsacklaw35.CollectRoots': WHATEVER THE INPUT: true; the input reads as it did. -/
def collectRootsSpec : ChangeSpec := { name := "collectRoots", fn := fun _ => fun
  | [d1, d2] => { results := [.lit (.bool true)], args := [d1, d2] }
  | _ => none }
def collectRootsRow : OpenClaim := { program := "ythiiehanlconeaa", sum := "4e73161f1a5752e4fe57d4d2446b15b08fcf0049141afc10d90a61ca38163eec", func := "knapsack/knapsacklaw35.CollectRoots", spec := "collectRoots", unfollowed := true, recurses := true, apart := false }
def CollectRootsSaid : Prop := collectRootsRow.holds Try.pinned (OpenSpec.ofChange collectRootsSpec)

/-- ITS FALSE NEIGHBOUR: 'it returns false'. Refute it at one input. -/
def collectRootsWrong : ChangeSpec := { name := "collectRoots", fn := fun _ => fun
  | [d1, d2] => { results := [.lit (.bool false)], args := [d1, d2] }
  | _ => none }
def CollectRootsWrongFalsely : Prop := collectRootsRow.holds Try.pinned (OpenSpec.ofChange collectRootsWrong)

/-- 'knapsacklaw35.CollectSweeps': WHATEVER THE INPUT: true; the input reads as it did. -/
def collectSweepsSpec : ChangeSpec := { name := "collectSweeps", fn := fun _ => fun
  | [d] => { results := [.lit (.bool true)], args := [d] }
  | _ => none }
def collectSweepsRow : OpenClaim := { program := "ythiiehanlconeaa", sum := "4e73161f1a5752e4fe57d4d2446b15b08fcf0049141afc10d90a61ca38163eec", func := "knapsack/knapsacklaw35.CollectSweeps", spec := "collectSweeps", unfollowed := true, recurses := true, apart := false }
def CollectSweepsSaid : Prop := collectSweepsRow.holds Try.pinned (OpenSpec.ofChange collectSweepsSpec)

/-- ITS FALSE NEIGHBOUR: 'it returns false'. Refute it at one input. -/
def collectSweepsWrong : ChangeSpec := { name := "collectSweeps", fn := fun _ => fun
  | [d] => { results := [.lit (.bool false)], args := [d] }
  | _ => none }
def CollectSweepsWrongFalsely : Prop := collectSweepsRow.holds Try.pinned (OpenSpec.ofChange collectSweepsWrong)

/- THE SECOND FORM. 'bulk': how many values and letters a reading holds, each counted each time it is reached (what is shared counts as often as it is met; a slice's spare places count too). A statement '..UptoSaid' is the law's where the arguments, and the package variables that the reading takes, are together of bulk at most 1048576: NARROWER than '..Said'. Prove '..Said' where nothing that the law and all that it calls make is longer than what came in: it says more and counts as full. Else prove '..UptoSaid'. A law counts once. -/
mutual
def uptoBulk {H : Type} : DataW H → Nat
  | .lit (.string bytes) => bytes.length + 1
  | .lit _ => 1
  | .nil => 1
  | .ptr d => uptoBulk d + 1
  | .slice elems spare => uptoBulkAll elems + uptoBulkAll spare + 1
  | .agg parts => uptoBulkAll parts + 1
  | .iface _ d => uptoBulk d + 1
  | .map entries => uptoBulkEntries entries + 1
  | .held _ => 1
def uptoBulkAll {H : Type} : List (DataW H) → Nat
  | [] => 0
  | d :: r => uptoBulk d + uptoBulkAll r
def uptoBulkEntries {H : Type} : List (Lit × DataW H) → Nat
  | [] => 0
  | x :: r => uptoBulkEntry x + uptoBulkEntries r
def uptoBulkEntry {H : Type} : Lit × DataW H → Nat
  | (.string bytes, d) => bytes.length + uptoBulk d + 1
  | (_, d) => uptoBulk d + 1
 end
def uptoSmall : (H : Type) → List (DataW H) → Bool := fun _ ds => decide (uptoBulkAll ds ≤ 1048576)
def OpenSpec.upto (s : _root_.Go.ChangeSpec) : _root_.Go.OpenSpec := { _root_.Go.OpenSpec.ofChange s with cond := some uptoSmall }

/-- 'knapsacklaw35.CollectLives', WHERE WHAT IT READS IS OF BULK AT MOST 1048576: true; the input reads as it did. -/
def collectLivesUptoRow : OpenClaim := { program := "ythiiehanlconeaa", sum := "4e73161f1a5752e4fe57d4d2446b15b08fcf0049141afc10d90a61ca38163eec", func := "knapsack/knapsacklaw35.CollectLives", spec := "collectLives", unfollowed := true, recurses := true, apart := false, narrowed := true }
def CollectLivesUptoSaid : Prop := collectLivesUptoRow.holds Try.pinned (OpenSpec.upto collectLivesSpec)

/-- 'knapsacklaw35.CollectRoots', WHERE WHAT IT READS IS OF BULK AT MOST 1048576: true; the input reads as it did. -/
def collectRootsUptoRow : OpenClaim := { program := "ythiiehanlconeaa", sum := "4e73161f1a5752e4fe57d4d2446b15b08fcf0049141afc10d90a61ca38163eec", func := "knapsack/knapsacklaw35.CollectRoots", spec := "collectRoots", unfollowed := true, recurses := true, apart := false, narrowed := true }
def CollectRootsUptoSaid : Prop := collectRootsUptoRow.holds Try.pinned (OpenSpec.upto collectRootsSpec)

/-- 'knapsacklaw35.CollectSweeps', WHERE WHAT IT READS IS OF BULK AT MOST 1048576: true; the input reads as it did. -/
def collectSweepsUptoRow : OpenClaim := { program := "ythiiehanlconeaa", sum := "4e73161f1a5752e4fe57d4d2446b15b08fcf0049141afc10d90a61ca38163eec", func := "knapsack/knapsacklaw35.CollectSweeps", spec := "collectSweeps", unfollowed := true, recurses := true, apart := false, narrowed := true }
def CollectSweepsUptoSaid : Prop := collectSweepsUptoRow.holds Try.pinned (OpenSpec.upto collectSweepsSpec)

end Rows
end Go.Proofs.Ythiiehanlconeaa
