/-
  The law's two graphs side by side: the heap, the reference's objects, and blocks that neither of them touches.
-/
import Derived.Test.YthiiehanlconeaaDoorMku
import Derived.Test.YthiiehanlconeaaDoorRlv
namespace Go.Proofs.YthiiehanlconeaaDoor
open Go.RowKit
set_option linter.unusedVariables false
set_option linter.unusedSimpArgs false

/-- The blocks B lie as they lay. -/
def KeepB (B : List Nat) (W W' : World) : Prop := ∀ k ∈ B, ∀ o, W.heap[k]? = some o → W'.heap[k]? = some o
theorem KeepB.refl (B : List Nat) (W : World) : KeepB B W W := fun _ _ _ h => h
theorem KeepB.trans {B : List Nat} {W W' W'' : World} (h : KeepB B W W') (k : KeepB B W' W'') : KeepB B W W'' := fun i hi o ho => k i hi o (h i hi o ho)
theorem KeepB.still {B : List Nat} {W W' : World} (hc : Chg (fun _ => False) W W') : KeepB B W W' := fun k _ _ ho => hc.keep ho (fun x => x)
theorem KeepB.sub {B B' : List Nat} {W W' : World} (h : KeepB B W W') (hs : ∀ k ∈ B', k ∈ B) : KeepB B' W W' := fun k hk => h k (hs k hk)
section
variable {w0 W W' : World} {bh : Nat} {hp hp' : Hp} {vx : Value} {xs : List RObj} {Fh Fx B : List Nat}
def putO (hp : Hp) (i : Nat) (o : Obj) : Hp := { hp with slots := hp.slots.set i { hp.slots.getD i noSlt with obj := o } }
theorem setCell_heap_eq {w w' : World} {p : Addr} {v : Value} {j : Nat} (h : w.heap[j]? = w'.heap[j]?) : (w.setCell p v).heap[j]? = (w'.setCell p v).heap[j]? := by
  simp only [World.setCell, Array.getElem?_modify, h]
end
end Go.Proofs.YthiiehanlconeaaDoor
