/-
  A region that draws its order, whose operations read and whose callees may make memory but change nothing old: walked once, in the order of the text.
-/
import Derived.Test.YtkoopagjjmdodaaHoldc
import Derived.Deep.QuietTactic
import Derived.BigQuiet
namespace Go.Proofs.Ytkoopagjjmdodaa
open Go.RowKit
set_option linter.unusedVariables false

/-- A world behind w in which all that was there is as it was. -/
structure Later (w : World) where
  at_ : World
  chg : Chg (fun _ => False) w at_
instance (w : World) : Nonempty (Later w) := ⟨⟨w, .refl _ _⟩⟩
theorem Later.cell {w : World} {a : Addr} {v : Value} (h : w.cell? a = some v) : ∀ x : Later w, x.at_.cell? a = some v := fun x => x.chg.cell h
theorem wp_region_later {P : Program} {id : Nat} {Q : Exit → Act → World → Prop} {a : Act} {w : World} {l : List Oper} (hm : P.follows .mixedOrders = true) (hB : Region.lexB .any l.toArray = true)
    (h : wpQuiet P l.toArray (fun w' => ∃ x : Later w, w' = x.at_) (fun a' => ∀ w', (∃ x : Later w, w' = x.at_) → Q .normal a' w') l a) : (Code.region id l.toArray true).wp P Q a w :=
  wp_region_quiet (C := fun w' => ∃ x : Later w, w' = x.at_) hm hB ⟨⟨w.drew, (Chg.refl _ w).drewR⟩, rfl⟩ (by simpa using h)
/-- A callee within such a region. -/
theorem Later.call {P : Program} {f : FuncId} {args : Array Value} {w : World} {x : Later w} {v : Value}
    (h : Calls P f args x.at_ fun e w' => e = .returned v ∧ Chg (fun _ => False) x.at_ w') : Calls P f args x.at_ fun e w'' => e = .returned v ∧ ∃ y : Later w, w'' = y.at_ :=
  h.mono fun _ w' ⟨he, hc⟩ => ⟨he, ⟨w', x.chg.trans' hc⟩, rfl⟩
end Go.Proofs.Ytkoopagjjmdodaa
