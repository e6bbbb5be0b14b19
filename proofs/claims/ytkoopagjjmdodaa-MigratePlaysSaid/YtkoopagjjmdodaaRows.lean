/-
  No cell of these rows narrows 'for every input' (looked for: loops, veiled, ifaces, maps, wideKeys, modest, calm, conditions, laid).
  DERIVED. THE GIVEN ROWS OF THIS SEAT. 7 by the template 'for every input the law returns true; each argument reads behind the call as it read before'; 0 by the template 'total and deterministic' (their statements: YtkoopagjjmdodaaTotals.lean).
  GIVEN WITH THE SEED: the statements are not yours to turn. If you find one false, say at which input.
  Laid BY PROGRAM, IN A SANDBOX (cutbox-rows.mjs): the forced cells as the released guide's own fill.sh prints them over the translation 3b77b435a214d1f2… (all of the seat's roots in one cut). By AI agents, Wed Nov 11 2026. No macro, syntax, notation, axiom, sorry.
-/
import Derived.Test.YtkoopagjjmdodaaChecked
import GoSem.Claim
import GoSem.ClaimJoined
import GoSem.ClaimMapViews
import Derived.JoinedTies
import Derived.KernelRfl
namespace Go.Proofs.Ytkoopagjjmdodaa
/- THE CELL 'sum', in the pinned program and in every row, IS THE sha256 OF THE DUMP (.gsa) THAT YtkoopagjjmdodaaProg.lean LOADS. Nothing in Lean hashes anything: it is a label: what it is worth is what the hold of that sum in a sandbox is worth. -/
noncomputable def Try.pinned : Pinned := { name := "ytkoopagjjmdodaa", sum := "3b77b435a214d1f2af6e01301a823649618baff2c0b90afc2fd519f076b5f62a", checked := Try.checked }
namespace Rows
def none {H : Type} : Left H := { results := [], args := [] }

/-- 'knapsacklaw54.MigrateErrors': WHATEVER THE INPUT: true; the input reads as it did. -/
def migrateErrorsSpec : ChangeSpec := { name := "migrateErrors", fn := fun _ => fun
  | [d1, d2, d3] => { results := [.lit (.bool true)], args := [d1, d2, d3] }
  | _ => none }
def migrateErrorsRow : OpenClaim := { program := "ytkoopagjjmdodaa", sum := "3b77b435a214d1f2af6e01301a823649618baff2c0b90afc2fd519f076b5f62a", func := "knapsack/knapsacklaw54.MigrateErrors", spec := "migrateErrors", unfollowed := true, recurses := true, apart := false }
def MigrateErrorsSaid : Prop := migrateErrorsRow.holds Try.pinned (OpenSpec.ofChange migrateErrorsSpec)

/-- ITS FALSE NEIGHBOUR: 'it returns false'. Refute it at one input. -/
def migrateErrorsWrong : ChangeSpec := { name := "migrateErrors", fn := fun _ => fun
  | [d1, d2, d3] => { results := [.lit (.bool false)], args := [d1, d2, d3] }
  | _ => none }
def MigrateErrorsWrongFalsely : Prop := migrateErrorsRow.holds Try.pinned (OpenSpec.ofChange migrateErrorsWrong)

/-- 'knapsacklaw54.MigrateDecodes': WHATEVER THE INPUT: true; the input reads as it did. -/
def migrateDecodesSpec : ChangeSpec := { name := "migrateDecodes", fn := fun _ => fun
  | [d] => { results := [.lit (.bool true)], args := [d] }
  | _ => none }
def migrateDecodesRow : OpenClaim := { program := "ytkoopagjjmdodaa", sum := "3b77b435a214d1f2af6e01301a823649618baff2c0b90afc2fd519f076b5f62a", func := "knapsack/knapsacklaw54.MigrateDecodes", spec := "migrateDecodes", unfollowed := true, recurses := true, apart := false }
def MigrateDecodesSaid : Prop := migrateDecodesRow.holds Try.pinned (OpenSpec.ofChange migrateDecodesSpec)

/-- ITS FALSE NEIGHBOUR: 'it returns false'. Refute it at one input. -/
def migrateDecodesWrong : ChangeSpec := { name := "migrateDecodes", fn := fun _ => fun
  | [d] => { results := [.lit (.bool false)], args := [d] }
  | _ => none }
def MigrateDecodesWrongFalsely : Prop := migrateDecodesRow.holds Try.pinned (OpenSpec.ofChange migrateDecodesWrong)

/-- 'knapsacklaw54.MigratePlays': WHATEVER THE INPUT: true; the input reads as it did. -/
def migratePlaysSpec : ChangeSpec := { name := "migratePlays", fn := fun _ => fun
  | [d] => { results := [.lit (.bool true)], args := [d] }
  | _ => none }
def migratePlaysRow : OpenClaim := { program := "ytkoopagjjmdodaa", sum := "3b77b435a214d1f2af6e01301a823649618baff2c0b90afc2fd519f076b5f62a", func := "knapsack/knapsacklaw54.MigratePlays", spec := "migratePlays", inPlace := ["internal/abi.NoEscape", "internal/bytealg.MakeNoZero"], unfollowed := true, recurses := true, apart := false }
def MigratePlaysSaid : Prop := migratePlaysRow.holds Try.pinned (OpenSpec.ofChange migratePlaysSpec)

/-- ITS FALSE NEIGHBOUR: 'it returns false'. Refute it at one input. -/
def migratePlaysWrong : ChangeSpec := { name := "migratePlays", fn := fun _ => fun
  | [d] => { results := [.lit (.bool false)], args := [d] }
  | _ => none }
def MigratePlaysWrongFalsely : Prop := migratePlaysRow.holds Try.pinned (OpenSpec.ofChange migratePlaysWrong)

/-- 'knapsacklaw54.MigrateLetters': WHATEVER THE INPUT: true; the input reads as it did. -/
def migrateLettersSpec : ChangeSpec := { name := "migrateLetters", fn := fun _ => fun
  | [d1, d2] => { results := [.lit (.bool true)], args := [d1, d2] }
  | _ => none }
def migrateLettersRow : OpenClaim := { program := "ytkoopagjjmdodaa", sum := "3b77b435a214d1f2af6e01301a823649618baff2c0b90afc2fd519f076b5f62a", func := "knapsack/knapsacklaw54.MigrateLetters", spec := "migrateLetters", inPlace := ["internal/abi.NoEscape", "internal/bytealg.MakeNoZero"], unfollowed := true, recurses := true, apart := false }
def MigrateLettersSaid : Prop := migrateLettersRow.holds Try.pinned (OpenSpec.ofChange migrateLettersSpec)

/-- ITS FALSE NEIGHBOUR: 'it returns false'. Refute it at one input. -/
def migrateLettersWrong : ChangeSpec := { name := "migrateLetters", fn := fun _ => fun
  | [d1, d2] => { results := [.lit (.bool false)], args := [d1, d2] }
  | _ => none }
def MigrateLettersWrongFalsely : Prop := migrateLettersRow.holds Try.pinned (OpenSpec.ofChange migrateLettersWrong)

/-- 'knapsacklaw54.MigrateParts': WHATEVER THE INPUT: true; the input reads as it did. -/
def migratePartsSpec : ChangeSpec := { name := "migrateParts", fn := fun _ => fun
  | [d1, d2] => { results := [.lit (.bool true)], args := [d1, d2] }
  | _ => none }
def migratePartsRow : OpenClaim := { program := "ytkoopagjjmdodaa", sum := "3b77b435a214d1f2af6e01301a823649618baff2c0b90afc2fd519f076b5f62a", func := "knapsack/knapsacklaw54.MigrateParts", spec := "migrateParts", inPlace := ["internal/abi.NoEscape", "internal/bytealg.MakeNoZero"], unfollowed := true, recurses := true, apart := false }
def MigratePartsSaid : Prop := migratePartsRow.holds Try.pinned (OpenSpec.ofChange migratePartsSpec)

/-- ITS FALSE NEIGHBOUR: 'it returns false'. Refute it at one input. -/
def migratePartsWrong : ChangeSpec := { name := "migrateParts", fn := fun _ => fun
  | [d1, d2] => { results := [.lit (.bool false)], args := [d1, d2] }
  | _ => none }
def MigratePartsWrongFalsely : Prop := migratePartsRow.holds Try.pinned (OpenSpec.ofChange migratePartsWrong)

/-- 'knapsacklaw54.MigrateBack': WHATEVER THE INPUT: true; the input reads as it did. -/
def migrateBackSpec : ChangeSpec := { name := "migrateBack", fn := fun _ => fun
  | [d1, d2] => { results := [.lit (.bool true)], args := [d1, d2] }
  | _ => none }
def migrateBackRow : OpenClaim := { program := "ytkoopagjjmdodaa", sum := "3b77b435a214d1f2af6e01301a823649618baff2c0b90afc2fd519f076b5f62a", func := "knapsack/knapsacklaw54.MigrateBack", spec := "migrateBack", inPlace := ["internal/abi.NoEscape", "internal/bytealg.MakeNoZero"], unfollowed := true, recurses := true, apart := false }
def MigrateBackSaid : Prop := migrateBackRow.holds Try.pinned (OpenSpec.ofChange migrateBackSpec)

/-- ITS FALSE NEIGHBOUR: 'it returns false'. Refute it at one input. -/
def migrateBackWrong : ChangeSpec := { name := "migrateBack", fn := fun _ => fun
  | [d1, d2] => { results := [.lit (.bool false)], args := [d1, d2] }
  | _ => none }
def MigrateBackWrongFalsely : Prop := migrateBackRow.holds Try.pinned (OpenSpec.ofChange migrateBackWrong)

/-- 'knapsacklaw54.MigrateCodes': WHATEVER THE INPUT: true; the input reads as it did. -/
def migrateCodesSpec : ChangeSpec := { name := "migrateCodes", fn := fun _ => fun
  | [d] => { results := [.lit (.bool true)], args := [d] }
  | _ => none }
def migrateCodesRow : OpenClaim := { program := "ytkoopagjjmdodaa", sum := "3b77b435a214d1f2af6e01301a823649618baff2c0b90afc2fd519f076b5f62a", func := "knapsack/knapsacklaw54.MigrateCodes", spec := "migrateCodes", inPlace := ["internal/abi.NoEscape", "internal/bytealg.MakeNoZero"], unfollowed := true, recurses := true, apart := false }
def MigrateCodesSaid : Prop := migrateCodesRow.holds Try.pinned (OpenSpec.ofChange migrateCodesSpec)

/-- ITS FALSE NEIGHBOUR: 'it returns false'. Refute it at one input. -/
def migrateCodesWrong : ChangeSpec := { name := "migrateCodes", fn := fun _ => fun
  | [d] => { results := [.lit (.bool false)], args := [d] }
  | _ => none }
def MigrateCodesWrongFalsely : Prop := migrateCodesRow.holds Try.pinned (OpenSpec.ofChange migrateCodesWrong)

/- THE SECOND FORM. 'bulk': how many values and letters a reading holds, each counted each time it is reached (what is shared counts as often as it is met; a slice's spare places count too). A statement '..UptoSaid' is the law's where the arguments, and the package variables that the reading takes, are together of bulk at most 1048576: NARROWER than '..Said'. Prove '..Said' where nothing that the law and all that it calls make is longer than what came in: it says more and counts as full. Else prove '..UptoSaid'. A law counts once. -/
mutual
def uptoBulk {H : Type} : DataW H → Nat
  | .lit (.string bytes) => bytes.length + 1
  | .lit _ => 1
  | .nil => 1
  | .ptr d => uptoBulk d + 1
  | .slice elems spare => uptoBulkAll elems + uptoBulkAll spare + 1
  | .agg parts => uptoBulkAll parts + 1
  | .iface _ d => uptoBulk d + 1
  | .map entries => uptoBulkEntries entries + 1
  | .held _ => 1
def uptoBulkAll {H : Type} : List (DataW H) → Nat
  | [] => 0
  | d :: r => uptoBulk d + uptoBulkAll r
def uptoBulkEntries {H : Type} : List (Lit × DataW H) → Nat
  | [] => 0
  | x :: r => uptoBulkEntry x + uptoBulkEntries r
def uptoBulkEntry {H : Type} : Lit × DataW H → Nat
  | (.string bytes, d) => bytes.length + uptoBulk d + 1
  | (_, d) => uptoBulk d + 1
 end
def uptoSmall : (H : Type) → List (DataW H) → Bool := fun _ ds => decide (uptoBulkAll ds ≤ 1048576)
def OpenSpec.upto (s : _root_.Go.ChangeSpec) : _root_.Go.OpenSpec := { _root_.Go.OpenSpec.ofChange s with cond := some uptoSmall }

/-- 'knapsacklaw54.MigrateErrors', WHERE WHAT IT READS IS OF BULK AT MOST 1048576: true; the input reads as it did. -/
def migrateErrorsUptoRow : OpenClaim := { program := "ytkoopagjjmdodaa", sum := "3b77b435a214d1f2af6e01301a823649618baff2c0b90afc2fd519f076b5f62a", func := "knapsack/knapsacklaw54.MigrateErrors", spec := "migrateErrors", unfollowed := true, recurses := true, apart := false, narrowed := true }
def MigrateErrorsUptoSaid : Prop := migrateErrorsUptoRow.holds Try.pinned (OpenSpec.upto migrateErrorsSpec)

/-- 'knapsacklaw54.MigrateDecodes', WHERE WHAT IT READS IS OF BULK AT MOST 1048576: true; the input reads as it did. -/
def migrateDecodesUptoRow : OpenClaim := { program := "ytkoopagjjmdodaa", sum := "3b77b435a214d1f2af6e01301a823649618baff2c0b90afc2fd519f076b5f62a", func := "knapsack/knapsacklaw54.MigrateDecodes", spec := "migrateDecodes", unfollowed := true, recurses := true, apart := false, narrowed := true }
def MigrateDecodesUptoSaid : Prop := migrateDecodesUptoRow.holds Try.pinned (OpenSpec.upto migrateDecodesSpec)

/-- 'knapsacklaw54.MigratePlays', WHERE WHAT IT READS IS OF BULK AT MOST 1048576: true; the input reads as it did. -/
def migratePlaysUptoRow : OpenClaim := { program := "ytkoopagjjmdodaa", sum := "3b77b435a214d1f2af6e01301a823649618baff2c0b90afc2fd519f076b5f62a", func := "knapsack/knapsacklaw54.MigratePlays", spec := "migratePlays", inPlace := ["internal/abi.NoEscape", "internal/bytealg.MakeNoZero"], unfollowed := true, recurses := true, apart := false, narrowed := true }
def MigratePlaysUptoSaid : Prop := migratePlaysUptoRow.holds Try.pinned (OpenSpec.upto migratePlaysSpec)

/-- 'knapsacklaw54.MigrateLetters', WHERE WHAT IT READS IS OF BULK AT MOST 1048576: true; the input reads as it did. -/
def migrateLettersUptoRow : OpenClaim := { program := "ytkoopagjjmdodaa", sum := "3b77b435a214d1f2af6e01301a823649618baff2c0b90afc2fd519f076b5f62a", func := "knapsack/knapsacklaw54.MigrateLetters", spec := "migrateLetters", inPlace := ["internal/abi.NoEscape", "internal/bytealg.MakeNoZero"], unfollowed := true, recurses := true, apart := false, narrowed := true }
def MigrateLettersUptoSaid : Prop := migrateLettersUptoRow.holds Try.pinned (OpenSpec.upto migrateLettersSpec)

/-- 'knapsacklaw54.MigrateParts', WHERE WHAT IT READS IS OF BULK AT MOST 1048576: true; the input reads as it did. -/
def migratePartsUptoRow : OpenClaim := { program := "ytkoopagjjmdodaa", sum := "3b77b435a214d1f2af6e01301a823649618baff2c0b90afc2fd519f076b5f62a", func := "knapsack/knapsacklaw54.MigrateParts", spec := "migrateParts", inPlace := ["internal/abi.NoEscape", "internal/bytealg.MakeNoZero"], unfollowed := true, recurses := true, apart := false, narrowed := true }
def MigratePartsUptoSaid : Prop := migratePartsUptoRow.holds Try.pinned (OpenSpec.upto migratePartsSpec)

/-- 'knapsacklaw54.MigrateBack', WHERE WHAT IT READS IS OF BULK AT MOST 1048576: true; the input reads as it did. -/
def migrateBackUptoRow : OpenClaim := { program := "ytkoopagjjmdodaa", sum := "3b77b435a214d1f2af6e01301a823649618baff2c0b90afc2fd519f076b5f62a", func := "knapsack/knapsacklaw54.MigrateBack", spec := "migrateBack", inPlace := ["internal/abi.NoEscape", "internal/bytealg.MakeNoZero"], unfollowed := true, recurses := true, apart := false, narrowed := true }
def MigrateBackUptoSaid : Prop := migrateBackUptoRow.holds Try.pinned (OpenSpec.upto migrateBackSpec)

/-- 'knapsacklaw54.MigrateCodes', WHERE WHAT IT READS IS OF BULK AT MOST 1048576: true; the input reads as it did. -/
def migrateCodesUptoRow : OpenClaim := { program := "ytkoopagjjmdodaa", sum := "3b77b435a214d1f2af6e01301a823649618baff2c0b90afc2fd519f076b5f62a", func := "knapsack/knapsacklaw54.MigrateCodes", spec := "migrateCodes", inPlace := ["internal/abi.NoEscape", "internal/bytealg.MakeNoZero"], unfollowed := true, recurses := true, apart := false, narrowed := true }
def MigrateCodesUptoSaid : Prop := migrateCodesUptoRow.holds Try.pinned (OpenSpec.upto migrateCodesSpec)

end Rows
end Go.Proofs.Ytkoopagjjmdodaa
