/-
  arena.Get, heap.Get.
  heap.Own of an object that is no array.
  heap.Own of an array; value.Normal of an integer.
  heap.Make.
  The fixed example of the laws of heaps (awake).
  A heap and a list of numbers side by side, both made behind w0.
  A range over a function whose body looks for something and may leave: a law.
  The iterator heap.chain.
  heap.Within.
-/
import Derived.Test.YtjianickjahdnaaDoorPHeapBeginsd
import Derived.Laws.ResultCell
import Derived.Test.YtjianickjahdnaaDoorPHeapBeginse
import Derived.Test.YtjianickjahdnaaDoorPHeapBeginsb
import Derived.Test.YtjianickjahdnaaDoorPHeapBeginsf
import Derived.RangeFuncNested
import Derived.RangeFuncBound
import Derived.RangeFuncCalls
import Derived.RangeFuncLeaves
import Derived.OwnWalkIn
import Derived.TacticsInMore
import Derived.LoopNIn
import Derived.LoopIn
import Derived.Shelf.Abstract
namespace Go.Proofs.YtjianickjahdnaaDoor
open Go.RowKit
set_option linter.unusedVariables false
set_option linter.unusedSimpArgs false

theorem chg_put {W W' : World} {b k : Nat} {v : Value} (h : Chg (fun j => j = b) W W') : Chg (fun j => j = b) W (W'.setCell ⟨b, k, none⟩ v) := h.trans' (show Chg (fun j => j = b) W' (W'.setCell ⟨b, k, none⟩ v) from Chg.setCell W' ⟨b, k, none⟩ v)
theorem results_cell_row_tmp {fn : Func} {p u : Tmp} {ty : TypeId} {P : Program} (h : fn.results = #[.cell p ty, .tmp u]) (tmps : Array Value) (w : World) (g : Nat) (cs : Array Value)
    (hp : tmps.getD p undef = .pointer (some ⟨g, 0, none⟩)) (hl : (loadVar ty ⟨g, 0, none⟩).run P w = .ok (.agg cs) w) :
    (results fn tmps).run P w = .ok (.tuple #[.agg cs, tmps.getD u undef]) w := by
  have hp' : tmps[p]?.getD undef = .pointer (some ⟨g, 0, none⟩) := by simpa using hp
  rw [results_cell_tmp h]
  simp [hp', asAddr, hl, Result.andThen]
/-- Ten cells of a block stored one after the other. -/
theorem store10 {w : World} {g T : Nat} {u0 u1 u2 u3 u4 u5 u6 u7 u8 u9 : Value} (b0 : w.heap[g]? = some (.cells #[u0, u1, u2, u3, u4, u5, u6, u7, u8, u9] T (0, 0))) (v0 v1 v2 v3 v4 v5 v6 v7 v8 v9 : Value) :
    w.cell? ⟨g, 0, none⟩ = some u0 ∧ w.frozen? ⟨g, 0, none⟩ = false ∧
    (w.setCell ⟨g, 0, none⟩ v0).cell? ⟨g, 1, none⟩ = some u1 ∧ (w.setCell ⟨g, 0, none⟩ v0).frozen? ⟨g, 1, none⟩ = false ∧
    ((w.setCell ⟨g, 0, none⟩ v0).setCell ⟨g, 1, none⟩ v1).cell? ⟨g, 2, none⟩ = some u2 ∧ ((w.setCell ⟨g, 0, none⟩ v0).setCell ⟨g, 1, none⟩ v1).frozen? ⟨g, 2, none⟩ = false ∧
    (((w.setCell ⟨g, 0, none⟩ v0).setCell ⟨g, 1, none⟩ v1).setCell ⟨g, 2, none⟩ v2).cell? ⟨g, 3, none⟩ = some u3 ∧ (((w.setCell ⟨g, 0, none⟩ v0).setCell ⟨g, 1, none⟩ v1).setCell ⟨g, 2, none⟩ v2).frozen? ⟨g, 3, none⟩ = false ∧
    ((((w.setCell ⟨g, 0, none⟩ v0).setCell ⟨g, 1, none⟩ v1).setCell ⟨g, 2, none⟩ v2).setCell ⟨g, 3, none⟩ v3).cell? ⟨g, 4, none⟩ = some u4 ∧ ((((w.setCell ⟨g, 0, none⟩ v0).setCell ⟨g, 1, none⟩ v1).setCell ⟨g, 2, none⟩ v2).setCell ⟨g, 3, none⟩ v3).frozen? ⟨g, 4, none⟩ = false ∧
    (((((w.setCell ⟨g, 0, none⟩ v0).setCell ⟨g, 1, none⟩ v1).setCell ⟨g, 2, none⟩ v2).setCell ⟨g, 3, none⟩ v3).setCell ⟨g, 4, none⟩ v4).cell? ⟨g, 5, none⟩ = some u5 ∧ (((((w.setCell ⟨g, 0, none⟩ v0).setCell ⟨g, 1, none⟩ v1).setCell ⟨g, 2, none⟩ v2).setCell ⟨g, 3, none⟩ v3).setCell ⟨g, 4, none⟩ v4).frozen? ⟨g, 5, none⟩ = false ∧
    ((((((w.setCell ⟨g, 0, none⟩ v0).setCell ⟨g, 1, none⟩ v1).setCell ⟨g, 2, none⟩ v2).setCell ⟨g, 3, none⟩ v3).setCell ⟨g, 4, none⟩ v4).setCell ⟨g, 5, none⟩ v5).cell? ⟨g, 6, none⟩ = some u6 ∧ ((((((w.setCell ⟨g, 0, none⟩ v0).setCell ⟨g, 1, none⟩ v1).setCell ⟨g, 2, none⟩ v2).setCell ⟨g, 3, none⟩ v3).setCell ⟨g, 4, none⟩ v4).setCell ⟨g, 5, none⟩ v5).frozen? ⟨g, 6, none⟩ = false ∧
    (((((((w.setCell ⟨g, 0, none⟩ v0).setCell ⟨g, 1, none⟩ v1).setCell ⟨g, 2, none⟩ v2).setCell ⟨g, 3, none⟩ v3).setCell ⟨g, 4, none⟩ v4).setCell ⟨g, 5, none⟩ v5).setCell ⟨g, 6, none⟩ v6).cell? ⟨g, 7, none⟩ = some u7 ∧ (((((((w.setCell ⟨g, 0, none⟩ v0).setCell ⟨g, 1, none⟩ v1).setCell ⟨g, 2, none⟩ v2).setCell ⟨g, 3, none⟩ v3).setCell ⟨g, 4, none⟩ v4).setCell ⟨g, 5, none⟩ v5).setCell ⟨g, 6, none⟩ v6).frozen? ⟨g, 7, none⟩ = false ∧
    ((((((((w.setCell ⟨g, 0, none⟩ v0).setCell ⟨g, 1, none⟩ v1).setCell ⟨g, 2, none⟩ v2).setCell ⟨g, 3, none⟩ v3).setCell ⟨g, 4, none⟩ v4).setCell ⟨g, 5, none⟩ v5).setCell ⟨g, 6, none⟩ v6).setCell ⟨g, 7, none⟩ v7).cell? ⟨g, 8, none⟩ = some u8 ∧ ((((((((w.setCell ⟨g, 0, none⟩ v0).setCell ⟨g, 1, none⟩ v1).setCell ⟨g, 2, none⟩ v2).setCell ⟨g, 3, none⟩ v3).setCell ⟨g, 4, none⟩ v4).setCell ⟨g, 5, none⟩ v5).setCell ⟨g, 6, none⟩ v6).setCell ⟨g, 7, none⟩ v7).frozen? ⟨g, 8, none⟩ = false ∧
    (((((((((w.setCell ⟨g, 0, none⟩ v0).setCell ⟨g, 1, none⟩ v1).setCell ⟨g, 2, none⟩ v2).setCell ⟨g, 3, none⟩ v3).setCell ⟨g, 4, none⟩ v4).setCell ⟨g, 5, none⟩ v5).setCell ⟨g, 6, none⟩ v6).setCell ⟨g, 7, none⟩ v7).setCell ⟨g, 8, none⟩ v8).cell? ⟨g, 9, none⟩ = some u9 ∧ (((((((((w.setCell ⟨g, 0, none⟩ v0).setCell ⟨g, 1, none⟩ v1).setCell ⟨g, 2, none⟩ v2).setCell ⟨g, 3, none⟩ v3).setCell ⟨g, 4, none⟩ v4).setCell ⟨g, 5, none⟩ v5).setCell ⟨g, 6, none⟩ v6).setCell ⟨g, 7, none⟩ v7).setCell ⟨g, 8, none⟩ v8).frozen? ⟨g, 9, none⟩ = false ∧
    ((((((((((w.setCell ⟨g, 0, none⟩ v0).setCell ⟨g, 1, none⟩ v1).setCell ⟨g, 2, none⟩ v2).setCell ⟨g, 3, none⟩ v3).setCell ⟨g, 4, none⟩ v4).setCell ⟨g, 5, none⟩ v5).setCell ⟨g, 6, none⟩ v6).setCell ⟨g, 7, none⟩ v7).setCell ⟨g, 8, none⟩ v8).setCell ⟨g, 9, none⟩ v9).heap[g]? = some (.cells #[v0, v1, v2, v3, v4, v5, v6, v7, v8, v9] T (0, 0)) ∧ Chg (fun k => k = g) w ((((((((((w.setCell ⟨g, 0, none⟩ v0).setCell ⟨g, 1, none⟩ v1).setCell ⟨g, 2, none⟩ v2).setCell ⟨g, 3, none⟩ v3).setCell ⟨g, 4, none⟩ v4).setCell ⟨g, 5, none⟩ v5).setCell ⟨g, 6, none⟩ v6).setCell ⟨g, 7, none⟩ v7).setCell ⟨g, 8, none⟩ v8).setCell ⟨g, 9, none⟩ v9) := by
  have c0 : w.cell? ⟨g, 0, none⟩ = some u0 := cell_of_block b0 rfl
  have f0 : w.frozen? ⟨g, 0, none⟩ = false := frozen_of_block b0
  have b1 : (w.setCell ⟨g, 0, none⟩ v0).heap[g]? = some (.cells #[v0, u1, u2, u3, u4, u5, u6, u7, u8, u9] T (0, 0)) := setCell_block (i := 0) v0 b0
  have c1 : (w.setCell ⟨g, 0, none⟩ v0).cell? ⟨g, 1, none⟩ = some u1 := cell_of_block b1 rfl
  have f1 : (w.setCell ⟨g, 0, none⟩ v0).frozen? ⟨g, 1, none⟩ = false := frozen_of_block b1
  have b2 : ((w.setCell ⟨g, 0, none⟩ v0).setCell ⟨g, 1, none⟩ v1).heap[g]? = some (.cells #[v0, v1, u2, u3, u4, u5, u6, u7, u8, u9] T (0, 0)) := setCell_block (i := 1) v1 b1
  have c2 : ((w.setCell ⟨g, 0, none⟩ v0).setCell ⟨g, 1, none⟩ v1).cell? ⟨g, 2, none⟩ = some u2 := cell_of_block b2 rfl
  have f2 : ((w.setCell ⟨g, 0, none⟩ v0).setCell ⟨g, 1, none⟩ v1).frozen? ⟨g, 2, none⟩ = false := frozen_of_block b2
  have b3 : (((w.setCell ⟨g, 0, none⟩ v0).setCell ⟨g, 1, none⟩ v1).setCell ⟨g, 2, none⟩ v2).heap[g]? = some (.cells #[v0, v1, v2, u3, u4, u5, u6, u7, u8, u9] T (0, 0)) := setCell_block (i := 2) v2 b2
  have c3 : (((w.setCell ⟨g, 0, none⟩ v0).setCell ⟨g, 1, none⟩ v1).setCell ⟨g, 2, none⟩ v2).cell? ⟨g, 3, none⟩ = some u3 := cell_of_block b3 rfl
  have f3 : (((w.setCell ⟨g, 0, none⟩ v0).setCell ⟨g, 1, none⟩ v1).setCell ⟨g, 2, none⟩ v2).frozen? ⟨g, 3, none⟩ = false := frozen_of_block b3
  have b4 : ((((w.setCell ⟨g, 0, none⟩ v0).setCell ⟨g, 1, none⟩ v1).setCell ⟨g, 2, none⟩ v2).setCell ⟨g, 3, none⟩ v3).heap[g]? = some (.cells #[v0, v1, v2, v3, u4, u5, u6, u7, u8, u9] T (0, 0)) := setCell_block (i := 3) v3 b3
  have c4 : ((((w.setCell ⟨g, 0, none⟩ v0).setCell ⟨g, 1, none⟩ v1).setCell ⟨g, 2, none⟩ v2).setCell ⟨g, 3, none⟩ v3).cell? ⟨g, 4, none⟩ = some u4 := cell_of_block b4 rfl
  have f4 : ((((w.setCell ⟨g, 0, none⟩ v0).setCell ⟨g, 1, none⟩ v1).setCell ⟨g, 2, none⟩ v2).setCell ⟨g, 3, none⟩ v3).frozen? ⟨g, 4, none⟩ = false := frozen_of_block b4
  have b5 : (((((w.setCell ⟨g, 0, none⟩ v0).setCell ⟨g, 1, none⟩ v1).setCell ⟨g, 2, none⟩ v2).setCell ⟨g, 3, none⟩ v3).setCell ⟨g, 4, none⟩ v4).heap[g]? = some (.cells #[v0, v1, v2, v3, v4, u5, u6, u7, u8, u9] T (0, 0)) := setCell_block (i := 4) v4 b4
  have c5 : (((((w.setCell ⟨g, 0, none⟩ v0).setCell ⟨g, 1, none⟩ v1).setCell ⟨g, 2, none⟩ v2).setCell ⟨g, 3, none⟩ v3).setCell ⟨g, 4, none⟩ v4).cell? ⟨g, 5, none⟩ = some u5 := cell_of_block b5 rfl
  have f5 : (((((w.setCell ⟨g, 0, none⟩ v0).setCell ⟨g, 1, none⟩ v1).setCell ⟨g, 2, none⟩ v2).setCell ⟨g, 3, none⟩ v3).setCell ⟨g, 4, none⟩ v4).frozen? ⟨g, 5, none⟩ = false := frozen_of_block b5
  have b6 : ((((((w.setCell ⟨g, 0, none⟩ v0).setCell ⟨g, 1, none⟩ v1).setCell ⟨g, 2, none⟩ v2).setCell ⟨g, 3, none⟩ v3).setCell ⟨g, 4, none⟩ v4).setCell ⟨g, 5, none⟩ v5).heap[g]? = some (.cells #[v0, v1, v2, v3, v4, v5, u6, u7, u8, u9] T (0, 0)) := setCell_block (i := 5) v5 b5
  have c6 : ((((((w.setCell ⟨g, 0, none⟩ v0).setCell ⟨g, 1, none⟩ v1).setCell ⟨g, 2, none⟩ v2).setCell ⟨g, 3, none⟩ v3).setCell ⟨g, 4, none⟩ v4).setCell ⟨g, 5, none⟩ v5).cell? ⟨g, 6, none⟩ = some u6 := cell_of_block b6 rfl
  have f6 : ((((((w.setCell ⟨g, 0, none⟩ v0).setCell ⟨g, 1, none⟩ v1).setCell ⟨g, 2, none⟩ v2).setCell ⟨g, 3, none⟩ v3).setCell ⟨g, 4, none⟩ v4).setCell ⟨g, 5, none⟩ v5).frozen? ⟨g, 6, none⟩ = false := frozen_of_block b6
  have b7 : (((((((w.setCell ⟨g, 0, none⟩ v0).setCell ⟨g, 1, none⟩ v1).setCell ⟨g, 2, none⟩ v2).setCell ⟨g, 3, none⟩ v3).setCell ⟨g, 4, none⟩ v4).setCell ⟨g, 5, none⟩ v5).setCell ⟨g, 6, none⟩ v6).heap[g]? = some (.cells #[v0, v1, v2, v3, v4, v5, v6, u7, u8, u9] T (0, 0)) := setCell_block (i := 6) v6 b6
  have c7 : (((((((w.setCell ⟨g, 0, none⟩ v0).setCell ⟨g, 1, none⟩ v1).setCell ⟨g, 2, none⟩ v2).setCell ⟨g, 3, none⟩ v3).setCell ⟨g, 4, none⟩ v4).setCell ⟨g, 5, none⟩ v5).setCell ⟨g, 6, none⟩ v6).cell? ⟨g, 7, none⟩ = some u7 := cell_of_block b7 rfl
  have f7 : (((((((w.setCell ⟨g, 0, none⟩ v0).setCell ⟨g, 1, none⟩ v1).setCell ⟨g, 2, none⟩ v2).setCell ⟨g, 3, none⟩ v3).setCell ⟨g, 4, none⟩ v4).setCell ⟨g, 5, none⟩ v5).setCell ⟨g, 6, none⟩ v6).frozen? ⟨g, 7, none⟩ = false := frozen_of_block b7
  have b8 : ((((((((w.setCell ⟨g, 0, none⟩ v0).setCell ⟨g, 1, none⟩ v1).setCell ⟨g, 2, none⟩ v2).setCell ⟨g, 3, none⟩ v3).setCell ⟨g, 4, none⟩ v4).setCell ⟨g, 5, none⟩ v5).setCell ⟨g, 6, none⟩ v6).setCell ⟨g, 7, none⟩ v7).heap[g]? = some (.cells #[v0, v1, v2, v3, v4, v5, v6, v7, u8, u9] T (0, 0)) := setCell_block (i := 7) v7 b7
  have c8 : ((((((((w.setCell ⟨g, 0, none⟩ v0).setCell ⟨g, 1, none⟩ v1).setCell ⟨g, 2, none⟩ v2).setCell ⟨g, 3, none⟩ v3).setCell ⟨g, 4, none⟩ v4).setCell ⟨g, 5, none⟩ v5).setCell ⟨g, 6, none⟩ v6).setCell ⟨g, 7, none⟩ v7).cell? ⟨g, 8, none⟩ = some u8 := cell_of_block b8 rfl
  have f8 : ((((((((w.setCell ⟨g, 0, none⟩ v0).setCell ⟨g, 1, none⟩ v1).setCell ⟨g, 2, none⟩ v2).setCell ⟨g, 3, none⟩ v3).setCell ⟨g, 4, none⟩ v4).setCell ⟨g, 5, none⟩ v5).setCell ⟨g, 6, none⟩ v6).setCell ⟨g, 7, none⟩ v7).frozen? ⟨g, 8, none⟩ = false := frozen_of_block b8
  have b9 : (((((((((w.setCell ⟨g, 0, none⟩ v0).setCell ⟨g, 1, none⟩ v1).setCell ⟨g, 2, none⟩ v2).setCell ⟨g, 3, none⟩ v3).setCell ⟨g, 4, none⟩ v4).setCell ⟨g, 5, none⟩ v5).setCell ⟨g, 6, none⟩ v6).setCell ⟨g, 7, none⟩ v7).setCell ⟨g, 8, none⟩ v8).heap[g]? = some (.cells #[v0, v1, v2, v3, v4, v5, v6, v7, v8, u9] T (0, 0)) := setCell_block (i := 8) v8 b8
  have c9 : (((((((((w.setCell ⟨g, 0, none⟩ v0).setCell ⟨g, 1, none⟩ v1).setCell ⟨g, 2, none⟩ v2).setCell ⟨g, 3, none⟩ v3).setCell ⟨g, 4, none⟩ v4).setCell ⟨g, 5, none⟩ v5).setCell ⟨g, 6, none⟩ v6).setCell ⟨g, 7, none⟩ v7).setCell ⟨g, 8, none⟩ v8).cell? ⟨g, 9, none⟩ = some u9 := cell_of_block b9 rfl
  have f9 : (((((((((w.setCell ⟨g, 0, none⟩ v0).setCell ⟨g, 1, none⟩ v1).setCell ⟨g, 2, none⟩ v2).setCell ⟨g, 3, none⟩ v3).setCell ⟨g, 4, none⟩ v4).setCell ⟨g, 5, none⟩ v5).setCell ⟨g, 6, none⟩ v6).setCell ⟨g, 7, none⟩ v7).setCell ⟨g, 8, none⟩ v8).frozen? ⟨g, 9, none⟩ = false := frozen_of_block b9
  have b10 : ((((((((((w.setCell ⟨g, 0, none⟩ v0).setCell ⟨g, 1, none⟩ v1).setCell ⟨g, 2, none⟩ v2).setCell ⟨g, 3, none⟩ v3).setCell ⟨g, 4, none⟩ v4).setCell ⟨g, 5, none⟩ v5).setCell ⟨g, 6, none⟩ v6).setCell ⟨g, 7, none⟩ v7).setCell ⟨g, 8, none⟩ v8).setCell ⟨g, 9, none⟩ v9).heap[g]? = some (.cells #[v0, v1, v2, v3, v4, v5, v6, v7, v8, v9] T (0, 0)) := setCell_block (i := 9) v9 b9
  exact ⟨c0, f0, c1, f1, c2, f2, c3, f3, c4, f4, c5, f5, c6, f6, c7, f7, c8, f8, c9, f9, b10, chg_put (chg_put (chg_put (chg_put (chg_put (chg_put (chg_put (chg_put (chg_put (chg_put (Chg.refl _ _))))))))))⟩

def getO (hp : Hp) (h : Int) : Obj := match slotOf hp h with | some i => (hp.slots.getD i noSlt).obj | none => noSlt.obj
theorem objCells {w : World} {g o : Nat} {x : Obj} {G : List Nat} (H : Here objR w g o x G) : ∃ a1 n1 c1 a2 n2 c2 a3 n3 c3 a4 n4 c4, RowAt w 36 4 (.slice a3 n3 c3) x.data.length (x.data.flatMap Val.cells) ∧ (∀ k, (Value.slice a3 n3 c3).ownBlock = some k → k ∈ G) ∧ w.cell? ⟨g, o, none⟩ = some (.int .i64 x.kind) ∧ w.cell? ⟨g, o + 1, none⟩ = some (.int .i64 x.proto) ∧ w.cell? ⟨g, o + 2, none⟩ = some (.slice a1 n1 c1) ∧ w.cell? ⟨g, o + 3, none⟩ = some (.slice a2 n2 c2) ∧ w.cell? ⟨g, o + 4, none⟩ = some (.slice a3 n3 c3) ∧ w.cell? ⟨g, o + 5, none⟩ = some (.int .i64 x.code) ∧ w.cell? ⟨g, o + 6, none⟩ = some (.int .i64 x.env) ∧ w.cell? ⟨g, o + 7, none⟩ = some (.int .i64 x.cls) ∧ w.cell? ⟨g, o + 8, none⟩ = some (.int .i64 x.ref) ∧ w.cell? ⟨g, o + 9, none⟩ = some (.slice a4 n4 c4) := by
  obtain ⟨cs, ⟨vp, ve, vd, vs, F1, F2, F3, F4, rfl, h1, h2, h3, h4, hG⟩, hc⟩ := H.cell
  obtain ⟨v3, e3, r3, eF3⟩ := row_flat.1 h3
  obtain rfl : vd = v3 := by simpa using e3
  obtain ⟨_, _, p1⟩ := Rep.opened h1
  obtain ⟨a1, c1, rfl, -, -⟩ := p1.val
  obtain ⟨_, _, p2⟩ := Rep.opened h2
  obtain ⟨a2, c2, rfl, -, -⟩ := p2.val
  obtain ⟨a3, c3, rfl, -⟩ := r3.slice
  obtain ⟨_, _, p4⟩ := Rep.opened h4
  obtain ⟨a4, c4, rfl, -, -⟩ := p4.val
  exact ⟨a1, _, c1, a2, _, c2, a3, _, c3, a4, _, c4, r3, (fun k hk => by rw [hG, eF3]; simp [mem_ownL, hk]), hc 0 _ rfl, hc 1 _ rfl, hc 2 _ rfl, hc 3 _ rfl, hc 4 _ rfl, hc 5 _ rfl, hc 6 _ rfl, hc 7 _ rfl, hc 8 _ rfl, hc 9 _ rfl⟩
end Go.Proofs.YtjianickjahdnaaDoor
namespace Go.Proofs.YtjianickjahdnaaDoor
open Go.RowKit
set_option linter.unusedVariables false
set_option linter.unusedSimpArgs false

set_option maxHeartbeats 6400000 in
set_option maxRecDepth 100000 in
theorem own_not (w : World) (b : Nat) (hp : Hp) (F : List Nat) (h : Int) (i : Nat) (key : ByteArray) (H : Here hpR w b 0 hp F) (hi : -9223372036854775808 ≤ h ∧ h ≤ 9223372036854775807) (hs : slotOf hp h = some i) (hl : i < hp.slots.length) (hk : hp.slots[i].obj.kind ≠ 1)
    (hf : findP key hp.slots[i].obj.props 0 = none) :
    Calls Tryd.prog 23 #[.pointer (some ⟨b, 0, none⟩), .int .i64 h, .string key] w fun e w' => e = .returned (.tuple #[.agg #[.int .i64 0, .int .i64 0, .string ⟨#[]⟩, .int .i64 0], .bool false]) ∧ Chg (fun _ => False) w w' := by
  have hca := Chg.alloc (fun _ => False) w (.cells #[.int .i64 0, .int .i64 0, .string ⟨#[]⟩, .int .i64 0] 36)
  have kb := alloc_block w (.cells #[.int .i64 0, .int .i64 0, .string ⟨#[]⟩, .int .i64 0] 36)
  have HKB := Lib.hid kb
  obtain ⟨gh, oh, kh, c2, G, HOBJ0, hGF, hput⟩ := hpPut H hl
  obtain ⟨vp, ve, vd, vs, HOC⟩ := objOpen HOBJ0
  have z1 : (hp.slots[i].obj.kind == 1) = false := beq_false_of_ne hk
  have hat := hat_any _ b 0 hp F h _ (H.still hca) (by rw [Nat.zero_add]; exact hca.cell c2) hi
  rw [hs, show objPtr (.slice (some ⟨gh, oh, none⟩) hp.slots.length kh) (some i) = some ⟨gh, oh + i * 11 + 1, none⟩ from rfl] at hat
  have HAT := Lib.hid hat
  have HC0 := Lib.hid HOC.c0
  have HC2 := Lib.hid HOC.c2
  have HRP := Lib.hid HOC.rp
  generalize hp.slots[i].obj = x at *
  have HCA := Lib.hid hca
  have HF := Lib.hid hf
  clear kb hca HOBJ0 hGF hput HOC c2 hi hs H hk hat hf
  go_enter Tryd.func23, Tryd.ntmps23
  go_upto_region 1 with fail
  generalize w.alloc (.cells #[.int .i64 0, .int .i64 0, .string ⟨#[]⟩, .int .i64 0] 36) = w1 at *
  generalize hb6 : w.heap.size = b6 at *
  have HB6 := Lib.hid hb6
  clear hb6
  go_upto_region 4 with (go_at_call 35; refine HAT.out.mono ?_; rintro e wa ⟨rfl, hca⟩)
  have HC1 := Lib.hid (HCA.out.trans' hca)
  have HKB2 := Lib.hid (hca.keep HKB.out (fun x => x))
  have c0 := HC1.out.cell HC0.out
  have HPL := Lib.hid (place_any wa gh (oh + i * 11 + 1) _ x.props key (HC1.out.cell HC2.out) (HRP.out.chg HC1.out (fun _ _ x => x)))
  rw [HF.out] at HPL
  clear hca HAT HKB HCA
  go_upto_region 13 with (go_at_call 43; refine HPL.out.mono ?_; rintro e w5 ⟨rfl, hc5⟩)
  have HC5 := Lib.hid (HC1.out.trans' hc5)
  have HK5 := Lib.hid (hc5.keep HKB2.out (fun x => x))
  clear hc5 HPL c0 z1
  rw [show idxP none = -1 from rfl]
  obtain ⟨z0, q0, z1, q1, z2, q2, z3, q3, hbf, hcs⟩ := store4 HK5.out (.int .i64 0) (.int .i64 0) (.string ⟨#[]⟩) (.int .i64 0)
  go_wp2_with fail
  generalize ((((w5.setCell ⟨b6, 0, none⟩ (.int .i64 0)).setCell ⟨b6, 1, none⟩ (.int .i64 0)).setCell ⟨b6, 2, none⟩ (.string ⟨#[]⟩)).setCell ⟨b6, 3, none⟩ (.int .i64 0)) = wz at *
  refine bodyPost_ret (results_cell_row_tmp rfl _ _ b6 #[.int .i64 0, .int .i64 0, .string ⟨#[]⟩, .int .i64 0] (by rfl) (run_loadVar_row _ b6 36 36 _ _ _ hbf Tryd.underlying36 rfl (by kernel_rfl))) rfl ?_
  exact ⟨rfl, HC5.out.trans hcs (fun _ _ x => x) (fun k hk e => by have := HB6.out; omega)⟩
set_option maxHeartbeats 6400000 in
set_option maxRecDepth 100000 in
theorem own_has (w : World) (b : Nat) (hp : Hp) (F : List Nat) (h : Int) (i : Nat) (key : ByteArray) (j : Nat) (H : Here hpR w b 0 hp F) (hi : -9223372036854775808 ≤ h ∧ h ≤ 9223372036854775807) (hs : slotOf hp h = some i) (hl : i < hp.slots.length) (hk : hp.slots[i].obj.kind ≠ 1)
    (hf : findP key hp.slots[i].obj.props 0 = some j) (hj : j < hp.slots[i].obj.props.length) (hlp : hp.slots[i].obj.props.length ≤ 1000000) :
    Calls Tryd.prog 23 #[.pointer (some ⟨b, 0, none⟩), .int .i64 h, .string key] w fun e w' => e = .returned (.tuple #[.agg #[.int .i64 hp.slots[i].obj.props[j].vkind, .int .i64 hp.slots[i].obj.props[j].vint, .string hp.slots[i].obj.props[j].vstr, .int .i64 hp.slots[i].obj.props[j].vref], .bool true]) ∧ Chg (fun _ => False) w w' := by
  have hca := Chg.alloc (fun _ => False) w (.cells #[.int .i64 0, .int .i64 0, .string ⟨#[]⟩, .int .i64 0] 36)
  have kb := alloc_block w (.cells #[.int .i64 0, .int .i64 0, .string ⟨#[]⟩, .int .i64 0] 36)
  have HKB := Lib.hid kb
  obtain ⟨gh, oh, kh, c2, G, HOBJ0, hGF, hput⟩ := hpPut H hl
  obtain ⟨vp, ve, vd, vs, HOC⟩ := objOpen HOBJ0
  have z1 : (hp.slots[i].obj.kind == 1) = false := beq_false_of_ne hk
  have hat := hat_any _ b 0 hp F h _ (H.still hca) (by rw [Nat.zero_add]; exact hca.cell c2) hi
  rw [hs, show objPtr (.slice (some ⟨gh, oh, none⟩) hp.slots.length kh) (some i) = some ⟨gh, oh + i * 11 + 1, none⟩ from rfl] at hat
  have HAT := Lib.hid hat
  have HC0 := Lib.hid HOC.c0
  have HC2 := Lib.hid HOC.c2
  have HRP := Lib.hid HOC.rp
  generalize hp.slots[i].obj = x at *
  have HCA := Lib.hid hca
  have HF := Lib.hid hf
  clear kb hca HOBJ0 hGF hput HOC c2 hi hs H hk hat hf
  go_enter Tryd.func23, Tryd.ntmps23
  go_upto_region 1 with fail
  generalize w.alloc (.cells #[.int .i64 0, .int .i64 0, .string ⟨#[]⟩, .int .i64 0] 36) = w1 at *
  generalize hb6 : w.heap.size = b6 at *
  have HB6 := Lib.hid hb6
  clear hb6
  go_upto_region 4 with (go_at_call 35; refine HAT.out.mono ?_; rintro e wa ⟨rfl, hca⟩)
  have HC1 := Lib.hid (HCA.out.trans' hca)
  have HKB2 := Lib.hid (hca.keep HKB.out (fun x => x))
  have c0 := HC1.out.cell HC0.out
  have HPL := Lib.hid (place_any wa gh (oh + i * 11 + 1) _ x.props key (HC1.out.cell HC2.out) (HRP.out.chg HC1.out (fun _ _ x => x)))
  rw [HF.out] at HPL
  clear hca HAT HKB HCA
  go_upto_region 13 with (go_at_call 43; refine HPL.out.mono ?_; rintro e w5 ⟨rfl, hc5⟩)
  have HC5 := Lib.hid (HC1.out.trans' hc5)
  have HK5 := Lib.hid (hc5.keep HKB2.out (fun x => x))
  have c2 := HC5.out.cell HC2.out
  clear hc5 HPL c0 z1
  rw [show idxP (some j) = (j : Int) from rfl]
  have hr2 := HRP.out.chg HC5.out (fun _ _ x => x)
  obtain ⟨gp, opp, cp, rfl, -, -⟩ := hr2.addr (by omega)
  have hcells : ∀ t u, x.props[j].cells[t]? = some u → t < 5 → w5.cell? ⟨gp, opp + j * 5 + t, none⟩ = some u := fun t u hu ht => by
    rw [Nat.add_assoc]
    exact hr2.cellAt (j * 5 + t) u (by rw [flat_get _ 5 Prp.len x.props j t hj ht]; exact hu)
  have p1 := hcells 1 _ rfl (by omega)
  have p2 := hcells 2 _ rfl (by omega)
  have p3 := hcells 3 _ rfl (by omega)
  have p4 := hcells 4 _ rfl (by omega)
  have j0 : (0 : Int) ≤ (j : Int) := by omega
  have j1 : (j : Int) < (x.props.length : Int) := by omega
  obtain ⟨z0, q0, z1, q1, z2, q2, z3, q3, hbf, hcs⟩ := store4 HK5.out (.int .i64 x.props[j].vkind) (.int .i64 x.props[j].vint) (.string x.props[j].vstr) (.int .i64 x.props[j].vref)
  clear hcells hr2
  go_wp2_with fail
  generalize ((((w5.setCell ⟨b6, 0, none⟩ (.int .i64 x.props[j].vkind)).setCell ⟨b6, 1, none⟩ (.int .i64 x.props[j].vint)).setCell ⟨b6, 2, none⟩ (.string x.props[j].vstr)).setCell ⟨b6, 3, none⟩ (.int .i64 x.props[j].vref)) = wz at *
  refine bodyPost_ret (results_cell_row_tmp rfl _ _ b6 #[.int .i64 x.props[j].vkind, .int .i64 x.props[j].vint, .string x.props[j].vstr, .int .i64 x.props[j].vref] (by rfl) (run_loadVar_row _ b6 36 36 _ _ _ hbf Tryd.underlying36 rfl (by kernel_rfl))) rfl ?_
  exact ⟨rfl, HC5.out.trans hcs (fun _ _ x => x) (fun k hk e => by have := HB6.out; omega)⟩
set_option maxHeartbeats 6400000 in
set_option maxRecDepth 100000 in
theorem own_nil (w : World) (b : Nat) (hp : Hp) (F : List Nat) (h : Int) (key : ByteArray) (H : Here hpR w b 0 hp F) (hi : -9223372036854775808 ≤ h ∧ h ≤ 9223372036854775807) (hs : slotOf hp h = none) :
    Calls Tryd.prog 23 #[.pointer (some ⟨b, 0, none⟩), .int .i64 h, .string key] w fun e w' => e = .returned (.tuple #[.agg #[.int .i64 0, .int .i64 0, .string ⟨#[]⟩, .int .i64 0], .bool false]) ∧ Chg (fun _ => False) w w' := by
  have hca := Chg.alloc (fun _ => False) w (.cells #[.int .i64 0, .int .i64 0, .string ⟨#[]⟩, .int .i64 0] 36)
  have kb := alloc_block w (.cells #[.int .i64 0, .int .i64 0, .string ⟨#[]⟩, .int .i64 0] 36)
  have HKB := Lib.hid kb
  obtain ⟨-, -, ⟨a, cap, c2⟩, -⟩ := hpCells H
  have hat := hat_any _ b 0 hp F h _ (H.still hca) (hca.cell c2) hi
  rw [hs, show objPtr (.slice a hp.slots.length cap) none = none by unfold objPtr; split <;> simp_all] at hat
  have HAT := Lib.hid hat
  have HCA := Lib.hid hca
  clear kb hca c2 hi hs H hat
  go_enter Tryd.func23, Tryd.ntmps23
  go_upto_region 1 with fail
  generalize w.alloc (.cells #[.int .i64 0, .int .i64 0, .string ⟨#[]⟩, .int .i64 0] 36) = w1 at *
  generalize hb6 : w.heap.size = b6 at *
  have HB6 := Lib.hid hb6
  clear hb6
  go_upto_region 2 with (go_at_call 35; refine HAT.out.mono ?_; rintro e wa ⟨rfl, hca⟩)
  have HC1 := Lib.hid (HCA.out.trans' hca)
  have HK5 := Lib.hid (hca.keep HKB.out (fun x => x))
  clear hca HAT HKB HCA
  obtain ⟨z0, q0, z1, q1, z2, q2, z3, q3, hbf, hcs⟩ := store4 HK5.out (.int .i64 0) (.int .i64 0) (.string ⟨#[]⟩) (.int .i64 0)
  go_wp2_with fail
  generalize ((((wa.setCell ⟨b6, 0, none⟩ (.int .i64 0)).setCell ⟨b6, 1, none⟩ (.int .i64 0)).setCell ⟨b6, 2, none⟩ (.string ⟨#[]⟩)).setCell ⟨b6, 3, none⟩ (.int .i64 0)) = wz at *
  refine bodyPost_ret (results_cell_row_tmp rfl _ _ b6 #[.int .i64 0, .int .i64 0, .string ⟨#[]⟩, .int .i64 0] (by rfl) (run_loadVar_row _ b6 36 36 _ _ _ hbf Tryd.underlying36 rfl (by kernel_rfl))) rfl ?_
  exact ⟨rfl, HC1.out.trans hcs (fun _ _ x => x) (fun k hk e => by have := HB6.out; omega)⟩
end Go.Proofs.YtjianickjahdnaaDoor
namespace Go.Proofs.YtjianickjahdnaaDoor
open Go.RowKit
set_option linter.unusedVariables false
set_option linter.unusedSimpArgs false

set_option maxHeartbeats 400000 in
set_option maxRecDepth 100000 in
theorem vofA (h : Int) (w : World) :
    Calls Tryd.prog 25 #[.int .i64 h] w fun e w' => e = .returned (.agg #[.int .i64 3, .int .i64 h, .string ⟨#[]⟩, .int .i64 0]) ∧ Chg (fun _ => False) w w' := by
  go_enter Tryd.func25, Tryd.ntmps25
  go_wp2_with fail
  refine bodyPost_ret (results_cell_row rfl _ _ w.heap.size _ _ _ _ (by rfl) (heap_alloc_new _ _) Tryd.underlying36 rfl (by kernel_rfl)) rfl ?_
  exact ⟨rfl, Chg.alloc _ _ _⟩
set_option maxHeartbeats 3200000 in
set_option maxRecDepth 100000 in
theorem normal_int (h : Int) (w : World) :
    Calls Tryd.prog 37 #[.agg #[.int .i64 3, .int .i64 h, .string ⟨#[]⟩, .int .i64 0]] w fun e w' => e = .returned (.agg #[.int .i64 3, .int .i64 h, .string ⟨#[]⟩, .int .i64 0]) ∧ Chg (fun _ => False) w w' := by
  have hc2 := (Chg.alloc (fun _ => False) w (.cells #[.int .i64 3, .int .i64 h, .string ⟨#[]⟩, .int .i64 0] 36)).allocR (.cells #[.int .i64 0, .int .i64 0, .string ⟨#[]⟩, .int .i64 0] 36)
  have hb := alloc_block (w.alloc (.cells #[.int .i64 3, .int .i64 h, .string ⟨#[]⟩, .int .i64 0] 36)) (.cells #[.int .i64 0, .int .i64 0, .string ⟨#[]⟩, .int .i64 0] 36)
  have hs1 : (w.alloc (.cells #[.int .i64 3, .int .i64 h, .string ⟨#[]⟩, .int .i64 0] 36)).heap.size = w.heap.size + 1 := Array.size_push ..
  rw [hs1] at hb
  have HB := Lib.hid hb
  have HC := Lib.hid hc2
  have kb := alloc_block w (.cells #[.int .i64 3, .int .i64 h, .string ⟨#[]⟩, .int .i64 0] 36)
  have k0 := (Chg.alloc (fun _ => False) (w.alloc (.cells #[.int .i64 3, .int .i64 h, .string ⟨#[]⟩, .int .i64 0] 36)) (.cells #[.int .i64 0, .int .i64 0, .string ⟨#[]⟩, .int .i64 0] 36)).cell (cell_of_block (i := 0) kb rfl)
  have k1 := (Chg.alloc (fun _ => False) (w.alloc (.cells #[.int .i64 3, .int .i64 h, .string ⟨#[]⟩, .int .i64 0] 36)) (.cells #[.int .i64 0, .int .i64 0, .string ⟨#[]⟩, .int .i64 0] 36)).cell (cell_of_block (i := 1) kb rfl)
  simp only [List.getElem_toArray, List.getElem_cons_zero, List.getElem_cons_succ] at k0 k1
  have HK0 := Lib.hid k0
  have HK1 := Lib.hid k1
  clear hb hc2 hs1 kb k0 k1
  go_enter Tryd.func37, Tryd.ntmps37
  go_upto_region 1 with fail
  generalize ((w.alloc (.cells #[.int .i64 3, .int .i64 h, .string ⟨#[]⟩, .int .i64 0] 36)).alloc (.cells #[.int .i64 0, .int .i64 0, .string ⟨#[]⟩, .int .i64 0] 36)) = w3 at *
  generalize hb2e : w.heap.size + 1 = b2 at *
  have HB2 := Lib.hid hb2e
  have k0 := HK0.out
  have k1 := HK1.out
  clear hb2e
  go_wp2_with fail
  refine (vofA h _).mono ?_
  rintro e wf ⟨rfl, hcf⟩
  have hb4 := hcf.keep HB.out (fun x => x)
  obtain ⟨z0, q0, z1, q1, z2, q2, z3, q3, hbf, hcs⟩ := store4 hb4 (.int .i64 3) (.int .i64 h) (.string ⟨#[]⟩) (.int .i64 0)
  go_wp2_with fail
  generalize ((((wf.setCell ⟨b2, 0, none⟩ (.int .i64 3)).setCell ⟨b2, 1, none⟩ (.int .i64 h)).setCell ⟨b2, 2, none⟩ (.string ⟨#[]⟩)).setCell ⟨b2, 3, none⟩ (.int .i64 0)) = wz at *
  refine bodyPost_ret (results_cell_row rfl _ _ b2 _ _ _ _ (by rfl) hbf Tryd.underlying36 rfl (by kernel_rfl)) rfl ?_
  exact ⟨rfl, (HC.out.trans' hcf).trans hcs (fun _ _ x => x) (fun k hk e => by have := HB2.out; omega)⟩
set_option maxHeartbeats 6400000 in
set_option maxRecDepth 100000 in
theorem own_len (w : World) (b : Nat) (hp : Hp) (F : List Nat) (h : Int) (i : Nat) (H : Here hpR w b 0 hp F) (hi : -9223372036854775808 ≤ h ∧ h ≤ 9223372036854775807) (hs : slotOf hp h = some i) (hl : i < hp.slots.length) (hk : hp.slots[i].obj.kind = 1) :
    Calls Tryd.prog 23 #[.pointer (some ⟨b, 0, none⟩), .int .i64 h, .string ⟨#[108, 101, 110, 103, 116, 104]⟩] w fun e w' => e = .returned (.tuple #[.agg #[.int .i64 3, .int .i64 hp.slots[i].obj.elems.length, .string ⟨#[]⟩, .int .i64 0], .bool true]) ∧ Chg (fun _ => False) w w' := by
  have hca := Chg.alloc (fun _ => False) w (.cells #[.int .i64 0, .int .i64 0, .string ⟨#[]⟩, .int .i64 0] 36)
  have kb := alloc_block w (.cells #[.int .i64 0, .int .i64 0, .string ⟨#[]⟩, .int .i64 0] 36)
  have HKB := Lib.hid kb
  obtain ⟨gh, oh, kh, c2, G, HOBJ0, hGF, hput⟩ := hpPut H hl
  obtain ⟨vp, ve, vd, vs, HOC⟩ := objOpen HOBJ0
  obtain ⟨ae, cape, rfl, -, -⟩ := HOC.re.slice
  have hat := hat_any _ b 0 hp F h _ (H.still hca) (by rw [Nat.zero_add]; exact hca.cell c2) hi
  rw [hs, show objPtr (.slice (some ⟨gh, oh, none⟩) hp.slots.length kh) (some i) = some ⟨gh, oh + i * 11 + 1, none⟩ from rfl] at hat
  have HAT := Lib.hid hat
  have HRE := Lib.hid HOC.re
  have k0 := HOC.c0
  rw [hk] at k0
  have HC0 := Lib.hid k0
  have HC3 := Lib.hid HOC.c3
  generalize hp.slots[i].obj = x at *
  have HCA := Lib.hid hca
  clear kb hca HOBJ0 hGF hput HOC c2 hi hs H hk hat k0
  go_enter Tryd.func23, Tryd.ntmps23
  go_upto_region 1 with fail
  generalize w.alloc (.cells #[.int .i64 0, .int .i64 0, .string ⟨#[]⟩, .int .i64 0] 36) = w1 at *
  generalize hb6 : w.heap.size = b6 at *
  have HB6 := Lib.hid hb6
  clear hb6
  go_upto_region 4 with (go_at_call 35; refine HAT.out.mono ?_; rintro e wa ⟨rfl, hca⟩)
  have HC1 := Lib.hid (HCA.out.trans' hca)
  have HKB2 := Lib.hid (hca.keep HKB.out (fun x => x))
  have c0 := HC1.out.cell HC0.out
  have c3 := HC1.out.cell HC3.out
  clear hca HAT HKB HCA
  go_wp2_with fail
  refine (vofA x.elems.length _).mono ?_
  rintro e w5 ⟨rfl, hc5⟩
  have HC5 := Lib.hid (HC1.out.trans' hc5)
  have HK5 := Lib.hid (hc5.keep HKB2.out (fun x => x))
  obtain ⟨z0, q0, z1, q1, z2, q2, z3, q3, hbf, hcs⟩ := store4 HK5.out (.int .i64 3) (.int .i64 (x.elems.length : Int)) (.string ⟨#[]⟩) (.int .i64 0)
  go_wp2_with fail
  generalize ((((w5.setCell ⟨b6, 0, none⟩ (.int .i64 3)).setCell ⟨b6, 1, none⟩ (.int .i64 (x.elems.length : Int))).setCell ⟨b6, 2, none⟩ (.string ⟨#[]⟩)).setCell ⟨b6, 3, none⟩ (.int .i64 0)) = wz at *
  refine bodyPost_ret (results_cell_row_tmp rfl _ _ b6 #[.int .i64 3, .int .i64 (x.elems.length : Int), .string ⟨#[]⟩, .int .i64 0] (by rfl) (run_loadVar_row _ b6 36 36 _ _ _ hbf Tryd.underlying36 rfl (by kernel_rfl))) rfl ?_
  exact ⟨rfl, HC5.out.trans hcs (fun _ _ x => x) (fun k hk e => by have := HB6.out; omega)⟩
set_option maxHeartbeats 6400000 in
set_option maxRecDepth 100000 in
theorem own_elem (w : World) (b : Nat) (hp : Hp) (F : List Nat) (h : Int) (i : Nat) (key : ByteArray) (H : Here hpR w b 0 hp F) (hi : -9223372036854775808 ≤ h ∧ h ≤ 9223372036854775807) (hs : slotOf hp h = some i) (hl : i < hp.slots.length) (hk : hp.slots[i].obj.kind = 1) (hkl : ¬ key.toList = [108, 101, 110, 103, 116, 104]) (hks : key.size ≤ 1000000) (HT : Tabs w) (j : Nat) (hj : j < hp.slots[i].obj.elems.length) (hlp : hp.slots[i].obj.elems.length ≤ 1000000) (hpz : posM key = (j : Int)) :
    Calls Tryd.prog 23 #[.pointer (some ⟨b, 0, none⟩), .int .i64 h, .string key] w fun e w' => e = .returned (.tuple #[.agg #[.int .i64 hp.slots[i].obj.elems[j].kind, .int .i64 hp.slots[i].obj.elems[j].int, .string hp.slots[i].obj.elems[j].str, .int .i64 hp.slots[i].obj.elems[j].ref], .bool true]) ∧ Chg (fun _ => False) w w' := by
  have hca := Chg.alloc (fun _ => False) w (.cells #[.int .i64 0, .int .i64 0, .string ⟨#[]⟩, .int .i64 0] 36)
  have kb := alloc_block w (.cells #[.int .i64 0, .int .i64 0, .string ⟨#[]⟩, .int .i64 0] 36)
  have HKB := Lib.hid kb
  obtain ⟨gh, oh, kh, c2, G, HOBJ0, hGF, hput⟩ := hpPut H hl
  obtain ⟨vp, ve, vd, vs, HOC⟩ := objOpen HOBJ0
  obtain ⟨ae, cape, rfl, -, -⟩ := HOC.re.slice
  have hat := hat_any _ b 0 hp F h _ (H.still hca) (by rw [Nat.zero_add]; exact hca.cell c2) hi
  rw [hs, show objPtr (.slice (some ⟨gh, oh, none⟩) hp.slots.length kh) (some i) = some ⟨gh, oh + i * 11 + 1, none⟩ from rfl] at hat
  have HAT := Lib.hid hat
  have HRE := Lib.hid HOC.re
  have k0 := HOC.c0
  rw [hk] at k0
  have HC0 := Lib.hid k0
  have HC3 := Lib.hid HOC.c3
  generalize hp.slots[i].obj = x at *
  have HCA := Lib.hid hca
  clear kb hca HOBJ0 hGF hput HOC c2 hi hs H hk hat k0
  have HPS := Lib.hid (fun W (hc : Chg (fun _ => False) w W) => position_any key W hks (HT.still hc))
  have s1 : (key.toList == [108, 101, 110, 103, 116, 104]) = false := beq_false_of_ne hkl
  clear HT hks
  rw [hpz] at HPS
  clear hpz
  go_enter Tryd.func23, Tryd.ntmps23
  go_upto_region 1 with fail
  generalize w.alloc (.cells #[.int .i64 0, .int .i64 0, .string ⟨#[]⟩, .int .i64 0] 36) = w1 at *
  generalize hb6 : w.heap.size = b6 at *
  have HB6 := Lib.hid hb6
  clear hb6
  go_upto_region 4 with (go_at_call 35; refine HAT.out.mono ?_; rintro e wa ⟨rfl, hca⟩)
  have HC1 := Lib.hid (HCA.out.trans' hca)
  have HKB2 := Lib.hid (hca.keep HKB.out (fun x => x))
  have c0 := HC1.out.cell HC0.out
  have c3 := HC1.out.cell HC3.out
  clear hca HAT HKB HCA
  go_upto_region 8 with (go_at_call 21; refine (HPS.out _ HC1.out).mono ?_; rintro e w5 ⟨rfl, hc5⟩)
  have HC5 := Lib.hid (HC1.out.trans' hc5)
  have HK5 := Lib.hid (hc5.keep HKB2.out (fun x => x))
  have c3 := HC5.out.cell HC3.out
  clear hc5 HPS
  have hr2 := HRE.out.chg HC5.out (fun _ _ x => x)
  obtain ⟨gp, opp, cp, hve, -, -⟩ := hr2.addr (by omega)
  cases hve
  have hcells : ∀ t u, x.elems[j].cells[t]? = some u → t < 4 → w5.cell? ⟨gp, opp + j * 4 + t, none⟩ = some u := fun t u hu ht => by
    rw [Nat.add_assoc]
    exact hr2.cellAt (j * 4 + t) u (by rw [flat_get _ 4 Val.len x.elems j t hj ht]; exact hu)
  have p1 : w5.cell? ⟨gp, opp + j * 4, none⟩ = some (.int .i64 x.elems[j].kind) := hcells 0 _ rfl (by omega)
  have p2 := hcells 1 _ rfl (by omega)
  have p3 := hcells 2 _ rfl (by omega)
  have p4 := hcells 3 _ rfl (by omega)
  have j0 : (0 : Int) ≤ (j : Int) := by omega
  have j1 : (j : Int) < (x.elems.length : Int) := by omega
  obtain ⟨z0, q0, z1, q1, z2, q2, z3, q3, hbf, hcs⟩ := store4 HK5.out (.int .i64 x.elems[j].kind) (.int .i64 x.elems[j].int) (.string x.elems[j].str) (.int .i64 x.elems[j].ref)
  clear hcells hr2
  go_wp2_with fail
  generalize ((((w5.setCell ⟨b6, 0, none⟩ (.int .i64 x.elems[j].kind)).setCell ⟨b6, 1, none⟩ (.int .i64 x.elems[j].int)).setCell ⟨b6, 2, none⟩ (.string x.elems[j].str)).setCell ⟨b6, 3, none⟩ (.int .i64 x.elems[j].ref)) = wz at *
  refine bodyPost_ret (results_cell_row_tmp rfl _ _ b6 #[.int .i64 x.elems[j].kind, .int .i64 x.elems[j].int, .string x.elems[j].str, .int .i64 x.elems[j].ref] (by rfl) (run_loadVar_row _ b6 36 36 _ _ _ hbf Tryd.underlying36 rfl (by kernel_rfl))) rfl ?_
  exact ⟨rfl, HC5.out.trans hcs (fun _ _ x => x) (fun k hk e => by have := HB6.out; omega)⟩
set_option maxHeartbeats 6400000 in
set_option maxRecDepth 100000 in
theorem own_beyond (w : World) (b : Nat) (hp : Hp) (F : List Nat) (h : Int) (i : Nat) (key : ByteArray) (H : Here hpR w b 0 hp F) (hi : -9223372036854775808 ≤ h ∧ h ≤ 9223372036854775807) (hs : slotOf hp h = some i) (hl : i < hp.slots.length) (hk : hp.slots[i].obj.kind = 1) (hkl : ¬ key.toList = [108, 101, 110, 103, 116, 104]) (hks : key.size ≤ 1000000) (HT : Tabs w) (j : Nat) (hj : hp.slots[i].obj.elems.length ≤ j) (hlp : hp.slots[i].obj.elems.length ≤ 1000000) (hpz : posM key = (j : Int)) :
    Calls Tryd.prog 23 #[.pointer (some ⟨b, 0, none⟩), .int .i64 h, .string key] w fun e w' => e = .returned (.tuple #[.agg #[.int .i64 0, .int .i64 0, .string ⟨#[]⟩, .int .i64 0], .bool false]) ∧ Chg (fun _ => False) w w' := by
  have hca := Chg.alloc (fun _ => False) w (.cells #[.int .i64 0, .int .i64 0, .string ⟨#[]⟩, .int .i64 0] 36)
  have kb := alloc_block w (.cells #[.int .i64 0, .int .i64 0, .string ⟨#[]⟩, .int .i64 0] 36)
  have HKB := Lib.hid kb
  obtain ⟨gh, oh, kh, c2, G, HOBJ0, hGF, hput⟩ := hpPut H hl
  obtain ⟨vp, ve, vd, vs, HOC⟩ := objOpen HOBJ0
  obtain ⟨ae, cape, rfl, -, -⟩ := HOC.re.slice
  have hat := hat_any _ b 0 hp F h _ (H.still hca) (by rw [Nat.zero_add]; exact hca.cell c2) hi
  rw [hs, show objPtr (.slice (some ⟨gh, oh, none⟩) hp.slots.length kh) (some i) = some ⟨gh, oh + i * 11 + 1, none⟩ from rfl] at hat
  have HAT := Lib.hid hat
  have HRE := Lib.hid HOC.re
  have k0 := HOC.c0
  rw [hk] at k0
  have HC0 := Lib.hid k0
  have HC3 := Lib.hid HOC.c3
  generalize hp.slots[i].obj = x at *
  have HCA := Lib.hid hca
  clear kb hca HOBJ0 hGF hput HOC c2 hi hs H hk hat k0
  have HPS := Lib.hid (fun W (hc : Chg (fun _ => False) w W) => position_any key W hks (HT.still hc))
  have s1 : (key.toList == [108, 101, 110, 103, 116, 104]) = false := beq_false_of_ne hkl
  clear HT hks
  rw [hpz] at HPS
  clear hpz
  go_enter Tryd.func23, Tryd.ntmps23
  go_upto_region 1 with fail
  generalize w.alloc (.cells #[.int .i64 0, .int .i64 0, .string ⟨#[]⟩, .int .i64 0] 36) = w1 at *
  generalize hb6 : w.heap.size = b6 at *
  have HB6 := Lib.hid hb6
  clear hb6
  go_upto_region 4 with (go_at_call 35; refine HAT.out.mono ?_; rintro e wa ⟨rfl, hca⟩)
  have HC1 := Lib.hid (HCA.out.trans' hca)
  have HKB2 := Lib.hid (hca.keep HKB.out (fun x => x))
  have c0 := HC1.out.cell HC0.out
  have c3 := HC1.out.cell HC3.out
  clear hca HAT HKB HCA
  go_upto_region 8 with (go_at_call 21; refine (HPS.out _ HC1.out).mono ?_; rintro e w5 ⟨rfl, hc5⟩)
  have HC5 := Lib.hid (HC1.out.trans' hc5)
  have HK5 := Lib.hid (hc5.keep HKB2.out (fun x => x))
  have c3 := HC5.out.cell HC3.out
  clear hc5 HPS
  have j0 : (0 : Int) ≤ (j : Int) := by omega
  have j1 : ¬ (j : Int) < (x.elems.length : Int) := by omega
  have hr2 := HRE.out.chg HC5.out (fun _ _ x => x)
  obtain ⟨z0, q0, z1, q1, z2, q2, z3, q3, hbf, hcs⟩ := store4 HK5.out (.int .i64 0) (.int .i64 0) (.string ⟨#[]⟩) (.int .i64 0)
  go_wp2_with fail
  generalize ((((w5.setCell ⟨b6, 0, none⟩ (.int .i64 0)).setCell ⟨b6, 1, none⟩ (.int .i64 0)).setCell ⟨b6, 2, none⟩ (.string ⟨#[]⟩)).setCell ⟨b6, 3, none⟩ (.int .i64 0)) = wz at *
  refine bodyPost_ret (results_cell_row_tmp rfl _ _ b6 #[.int .i64 0, .int .i64 0, .string ⟨#[]⟩, .int .i64 0] (by rfl) (run_loadVar_row _ b6 36 36 _ _ _ hbf Tryd.underlying36 rfl (by kernel_rfl))) rfl ?_
  exact ⟨rfl, HC5.out.trans hcs (fun _ _ x => x) (fun k hk e => by have := HB6.out; omega)⟩
end Go.Proofs.YtjianickjahdnaaDoor
namespace Go.Proofs.YtjianickjahdnaaDoor
open Go.RowKit
set_option linter.unusedVariables false
set_option linter.unusedSimpArgs false

set_option maxHeartbeats 3200000 in
set_option maxRecDepth 100000 in
theorem make_any (w : World) (b : Nat) (hp : Hp) (F : List Nat) (k : Nat) (H : Here hpR w b 0 hp F) (hfree : hp.free = []) (hlive : hp.live = hp.slots.length) (hl : hp.slots.length < 100000) (hp12 : hp.protos.length = 12) (hk : k < 12) :
    Calls Tryd.prog 11 #[.pointer (some ⟨b, 0, none⟩), .int .i64 (k : Int)] w
      fun e w' => e = .returned (.tuple #[.int .i64 (handleM hp.base hp.stride hp.slots.length), .int .i64 0]) ∧ Added w b 0 (addedM hp ⟨true, newObj k (hp.protos.getD k 0)⟩) F w' := by
  have HL := Lib.hid (len_any w b 0 hp F H)
  obtain ⟨g, off, cap, c7, hset⟩ := protoSet H (by omega)
  obtain ⟨q1, -, -⟩ := hset k (by omega)
  have hgd : hp.protos.getD k 0 = hp.protos[k]'(by omega) := by rw [List.getD_eq_getElem?_getD, List.getElem?_eq_getElem (by omega)]; rfl
  rw [← hgd] at q1
  rw [hp12, Nat.zero_add] at c7
  generalize hp.protos.getD k 0 = pr at *
  have h0 : (0 : Int) ≤ (k : Int) := by omega
  have h1 : (k : Int) < 12 := by omega
  have h2 : ¬ ((12 : Int) ≤ (k : Int)) := by omega
  have h3 : ¬ (100000 : Int) ≤ hp.live := by omega
  have C7 := Lib.hid c7
  have Q1 := Lib.hid q1
  have HH := Lib.hid H
  have HFR := Lib.hid hfree
  have HLV := Lib.hid hlive
  have HSL := Lib.hid hl
  clear hset hgd H hfree hlive hl hp12 hk
  go_enter Tryd.func11, Tryd.ntmps11
  go_upto_region 5 with (go_at_call 16; refine HL.out.mono ?_; rintro e w2 ⟨rfl, rfl⟩)
  have hc := Chg.alloc (fun _ => False) w2 (.cells #[.int .i64 (k : Int), .int .i64 0, .slice none 0 0, .slice none 0 0, .slice none 0 0, .int .i64 0, .int .i64 0, .int .i64 0, .int .i64 0, .slice none 0 0] 47)
  have d7 := hc.cell C7.out
  have d1 := hc.cell Q1.out
  clear c7 q1
  go_upto_region 8 with fail
  have hb : (w2.alloc (.cells #[.int .i64 (k : Int), .int .i64 pr, .slice none 0 0, .slice none 0 0, .slice none 0 0, .int .i64 0, .int .i64 0, .int .i64 0, .int .i64 0, .slice none 0 0] 47)).heap[w2.heap.size]? = some (.cells #[.int .i64 (k : Int), .int .i64 pr, .slice none 0 0, .slice none 0 0, .slice none 0 0, .int .i64 0, .int .i64 0, .int .i64 0, .int .i64 0, .slice none 0 0] 47 (0, 0)) := alloc_block _ _
  have hcW : Chg (fun _ => False) w2 (w2.alloc (.cells #[.int .i64 (k : Int), .int .i64 pr, .slice none 0 0, .slice none 0 0, .slice none 0 0, .int .i64 0, .int .i64 0, .int .i64 0, .int .i64 0, .slice none 0 0] 47)) := Chg.alloc _ _ _
  have HCW := Lib.hid hcW
  clear hc d7 d1 hcW
  generalize w2.alloc (.cells #[.int .i64 (k : Int), .int .i64 pr, .slice none 0 0, .slice none 0 0, .slice none 0 0, .int .i64 0, .int .i64 0, .int .i64 0, .int .i64 0, .slice none 0 0] 47) = W3 at *
  generalize w2.heap.size = nb at *
  have m0 : W3.cell? ⟨nb, 0, none⟩ = some (.int .i64 (k : Int)) := cell_of_block hb rfl
  have m1 : W3.cell? ⟨nb, 1, none⟩ = some (.int .i64 pr) := cell_of_block hb rfl
  have m2 : W3.cell? ⟨nb, 2, none⟩ = some (.slice none 0 0) := cell_of_block hb rfl
  have m3 : W3.cell? ⟨nb, 3, none⟩ = some (.slice none 0 0) := cell_of_block hb rfl
  have m4 : W3.cell? ⟨nb, 4, none⟩ = some (.slice none 0 0) := cell_of_block hb rfl
  have m5 : W3.cell? ⟨nb, 5, none⟩ = some (.int .i64 0) := cell_of_block hb rfl
  have m6 : W3.cell? ⟨nb, 6, none⟩ = some (.int .i64 0) := cell_of_block hb rfl
  have m7 : W3.cell? ⟨nb, 7, none⟩ = some (.int .i64 0) := cell_of_block hb rfl
  have m8 : W3.cell? ⟨nb, 8, none⟩ = some (.int .i64 0) := cell_of_block hb rfl
  have m9 : W3.cell? ⟨nb, 9, none⟩ = some (.slice none 0 0) := cell_of_block hb rfl
  have HC := Lib.hid (add_any W3.drew b 0 hp F k pr (HH.out.still (HCW.out.drewR)) HFR.out ⟨by have := HSL.out; omega⟩ HLV.out)
  clear hb
  go_region_law (go_simp; go_at_call 31; refine HC.out.mono ?_; rintro e w4 ⟨rfl, hA⟩)
  all_goals (
    go_wp2_with fail
    go_ret2
    exact ⟨rfl, ⟨Post.pre (HCW.out.drewR) hA.post, fun j u hj hu => hA.rest j u hj ((HCW.out.drewR).cell hu)⟩⟩)
end Go.Proofs.YtjianickjahdnaaDoor
namespace Go.Proofs.YtjianickjahdnaaDoor
open Go.RowKit
set_option linter.unusedVariables false
set_option linter.unusedSimpArgs false

def hpB : Hp := addedM (newM 5 3) ⟨true, newObj ((1 : Nat) : Int) ((newM 5 3).protos.getD 1 0)⟩
theorem hpB_len : hpB.slots.length = 13 := rfl
theorem hpB_kind {hh : 12 < hpB.slots.length} : hpB.slots[12].obj.kind = 1 := rfl
theorem hpB_elems {hh : 12 < hpB.slots.length} : hpB.slots[12].obj.elems = [] := rfl
theorem hpB_slot : slotOf hpB (handleM 5 3 12) = some 12 := by kernel_rfl
theorem posOne : posM ⟨#[49]⟩ = ((1 : Nat) : Int) := by kernel_rfl
theorem hB_in : -9223372036854775808 ≤ handleM 5 3 12 ∧ handleM 5 3 12 ≤ 9223372036854775807 := by
  have := handle_in 5 3 (i := 12) (by omega)
  have e : handleM 5 3 ((12 : Nat) : Int) = handleM 5 3 12 := rfl
  omega
def hpC (x : Obj) : Hp := putO hpB 12 x
theorem hpC_len (x : Obj) : (hpC x).slots.length = 13 := rfl
theorem hpC_obj (x : Obj) {hh : 12 < (hpC x).slots.length} : (hpC x).slots[12].obj = x := rfl
def xB : Obj := { hpB.slots[12].obj with elems := (resizeL hpB.slots[12].obj.elems 2).set 1 ⟨3, 7, ⟨#[]⟩, 0⟩ }
theorem xB_kind : xB.kind = 1 := rfl
theorem xB_len : xB.elems.length = 2 := rfl
theorem putB (w : World) (bh : Nat) (F : List Nat) (H : Here hpR w bh 0 hpB F) (HT : Tabs w) : Calls Tryd.prog 24 #[.pointer (some ⟨bh, 0, none⟩), .int .i64 (handleM 5 3 12), .string ⟨#[49]⟩, .agg #[.int .i64 3, .int .i64 7, .string ⟨#[]⟩, .int .i64 0]] w fun e w' => e = .returned (.int .i64 0) ∧ Post hpR w bh 0 (hpC xB) F w' :=
  put_grow w bh hpB F (handleM 5 3 12) 12 ⟨#[49]⟩ ⟨3, 7, ⟨#[]⟩, 0⟩ ⟨3, 7, ⟨#[]⟩, 0⟩ H hB_in hpB_slot (by rw [hpB_len]; omega) hpB_kind (by rw [hpB_elems]; simp) (fun W _ => normal_int 7 W) (by rw [show (⟨#[49]⟩ : ByteArray).toList = [49] from by kernel_rfl]; decide) (by decide) HT 1 posOne (by rw [hpB_elems]; simp) (by omega)
theorem ownB (w : World) (bh : Nat) (F : List Nat) (H : Here hpR w bh 0 (hpC xB) F) : Calls Tryd.prog 23 #[.pointer (some ⟨bh, 0, none⟩), .int .i64 (handleM 5 3 12), .string ⟨#[108, 101, 110, 103, 116, 104]⟩] w fun e w' => e = .returned (.tuple #[.agg #[.int .i64 3, .int .i64 2, .string ⟨#[]⟩, .int .i64 0], .bool true]) ∧ Chg (fun _ => False) w w' :=
  own_len w bh (hpC xB) F (handleM 5 3 12) 12 H hB_in (show slotOf (hpC xB) _ = _ by kernel_rfl) (by rw [hpC_len]; omega) (by rw [hpC_obj]; exact xB_kind)
set_option maxHeartbeats 3200000 in
set_option maxRecDepth 100000 in
theorem awake_heap (w : World) (HT : Tabs w) : Calls Tryd.prog 9 #[] w fun e w' => e = .returned (.bool true) ∧ Chg (fun _ => False) w w' := by
  have HN := Lib.hid (new_any 5 3 w)
  have HTT := Lib.hid HT
  have HOF := Lib.hid (fun (h : Int) (W : World) => vofA h W)
  clear HT
  go_enter Tryd.func9, Tryd.ntmps9
  go_upto_region 2 with (go_at_call 10; refine HN.out.mono ?_; rintro e w1 ⟨cs, F, rfl, hown, hnd, hlo, hch⟩; have hown' := hown; obtain ⟨v1, v2, v3, F1, F2, F3, rfl, o1, o2, o3, -⟩ := hown'; obtain ⟨x1, y1, p1⟩ := Rep.opened o1; obtain ⟨n1, m1, rfl, -⟩ := p1.val; obtain ⟨x2, y2, p2⟩ := Rep.opened o2; obtain ⟨n2, m2, rfl, -⟩ := p2.val; obtain ⟨x3, y3, p3⟩ := Rep.opened o3; obtain ⟨n3, m3, rfl, -⟩ := p3.val; clear o1 o2 o3 p1 p2 p3)
  have HO0 : Own hpR w (w1.alloc (.cells _ 30)) w1.heap.size 0 (newM 5 3) F := ⟨Here.made w1 30 _ (newM 5 3) F hown hnd, hch.allocR _, hch.size, hlo⟩
  have HO := Lib.hid HO0
  clear HN hown hnd hlo hch HO0
  generalize w1.alloc (.cells #[.int .i64 (newM 5 3).base, .int .i64 (newM 5 3).stride, .slice n1 (newM 5 3).slots.length m1, .slice n2 (newM 5 3).free.length m2, .int .i64 (newM 5 3).live, .int .i64 (newM 5 3).global, .int .i64 (newM 5 3).texts, .slice n3 (newM 5 3).protos.length m3] 30) = W2 at *
  generalize w1.heap.size = bh at *
  have HMK := Lib.hid (make_any W2 bh (newM 5 3) F 1 HO.out.here rfl rfl (by show 12 < 100000; omega) rfl (by omega))
  go_upto_region 3 with (go_at_call 11; refine HMK.out.mono ?_; rintro e W3 ⟨rfl, hA⟩)
  obtain ⟨F3, HO3⟩ : ∃ F3, Own hpR w W3 bh 0 hpB F3 := hA.post.own HO.out
  have H3 := Lib.hid HO3
  clear HMK hA HO HO3
  rw [show handleM (newM 5 3).base (newM 5 3).stride (newM 5 3).slots.length = handleM 5 3 12 from rfl]
  go_upto_region 4 with (first
    | (go_at_call 25; refine (HOF.out _ _).mono ?_; rintro e W4 ⟨rfl, hc4⟩; have H4 := Lib.hid (show Own hpR w W4 bh 0 hpB F3 from ⟨H3.out.here.still hc4, H3.out.chg.trans' hc4, H3.out.lo, H3.out.los⟩); clear hc4)
    | (go_at_call 24; refine (putB W4 bh F3 H4.out.here (HTT.out.still H4.out.chg)).mono ?_; rintro e W5 ⟨rfl, hp5⟩))
  obtain ⟨F5, HO5⟩ := hp5.own H4.out
  have H5 := Lib.hid HO5
  clear hp5 HO5
  have HOW := Lib.hid (ownB W5 bh F5 H5.out.here)
  go_upto_region 5 with (go_at_call 23; refine HOW.out.mono ?_; rintro e W6 ⟨rfl, hc6⟩)
  have hb5 := alloc_block W6 (.cells #[.int .i64 3, .int .i64 2, .string ⟨#[]⟩, .int .i64 0] 36)
  have HCO := Lib.hid (hc6.trans' (Chg.alloc (fun _ => False) W6 (.cells #[.int .i64 3, .int .i64 2, .string ⟨#[]⟩, .int .i64 0] 36)))
  generalize W6.alloc (.cells #[.int .i64 3, .int .i64 2, .string ⟨#[]⟩, .int .i64 0] 36) = w5 at *
  generalize W6.heap.size = b5 at *
  have m0 := cell_of_block (i := 0) hb5 rfl
  have m1 := cell_of_block (i := 1) hb5 rfl
  have m2 := cell_of_block (i := 2) hb5 rfl
  have m3 := cell_of_block (i := 3) hb5 rfl
  simp only [List.getElem_toArray, List.getElem_cons_zero, List.getElem_cons_succ] at m0 m1 m2 m3
  obtain ⟨-, -, -, -, -, c5, -, p7, k7, c7⟩ := hpCells H5.out.here
  rw [Nat.zero_add] at c5
  change W5.cell? ⟨bh, 5, none⟩ = some (.int .i64 (handleM 5 3 11)) at c5
  have HS0 : Hid (w5.cell? ⟨b5, 0, none⟩ = some (.int .i64 3) ∧ w5.cell? ⟨b5, 1, none⟩ = some (.int .i64 2) ∧ w5.cell? ⟨b5, 2, none⟩ = some (.string ⟨#[]⟩) ∧ w5.cell? ⟨b5, 3, none⟩ = some (.int .i64 0) ∧ w5.cell? ⟨bh, 5, none⟩ = some (.int .i64 (handleM 5 3 11))) := Lib.hid ⟨m0, m1, m2, m3, HCO.out.cell c5⟩
  have hg : (handleM 5 3 11 != 0) = true := by kernel_rfl
  have hg2 : (handleM 5 3 11 == 0) = false := by kernel_rfl
  have hg3 : ¬ handleM 5 3 11 = 0 := by decide
  have HCZ := Lib.hid (H5.out.chg.trans' HCO.out)
  clear m0 m1 m2 m3 hb5 hc6 c5 c7 HOW H3 H4
  generalize handleM 5 3 11 = hgl at *
  refine wp_region_held_split 19 (fun w' => w'.cell? ⟨b5, 0, none⟩ = some (.int .i64 3) ∧ w'.cell? ⟨b5, 1, none⟩ = some (.int .i64 2) ∧ w'.cell? ⟨b5, 2, none⟩ = some (.string ⟨#[]⟩) ∧ w'.cell? ⟨b5, 3, none⟩ = some (.int .i64 0) ∧ w'.cell? ⟨bh, 5, none⟩ = some (.int .i64 hgl)) (by kernel_rfl) (by kernel_rfl) ?_ (fun hHeld => ?_)
  · (first | exact HS0.out | exact HKS.out _ HCC.out)
  simp only [List.take_succ_cons, List.take_zero]
  have HKS : Hid (∀ W, Chg (fun _ => False) w5.drew W → W.cell? ⟨b5, 0, none⟩ = some (.int .i64 3) ∧ W.cell? ⟨b5, 1, none⟩ = some (.int .i64 2) ∧ W.cell? ⟨b5, 2, none⟩ = some (.string ⟨#[]⟩) ∧ W.cell? ⟨b5, 3, none⟩ = some (.int .i64 0) ∧ W.cell? ⟨bh, 5, none⟩ = some (.int .i64 hgl)) := Lib.hid (fun W hc => ⟨hc.cell HS0.out.1, hc.cell HS0.out.2.1, hc.cell HS0.out.2.2.1, hc.cell HS0.out.2.2.2.1, hc.cell HS0.out.2.2.2.2⟩)
  have HWD : Hid (Chg (fun _ => False) w5 w5.drew) := Lib.hid (Chg.refl _ w5).drewR
  generalize w5.drew = wD at *
  have HCC := Lib.hid (Chg.refl (fun _ => False) wD)
  refine wpAnyH_take (i := 0) (v := ?_) rfl (by kernel_rfl) (by kernel_rfl) (by kernel_rfl) (fun _ _ _ h => h) (Or.inl ⟨by rfl, ?_⟩) (by assumption) ?_
  rotate_left
  · (intro wq hSw; (try dsimp only at hSw); go_simp; (try with_reducible rfl))
  simp only [Act.put, List.getElem_toArray, List.getElem_cons_zero, List.getElem_cons_succ, List.setIfInBounds_toArray, List.set_cons_zero, List.set_cons_succ]
  refine wpAnyH_take (i := 1) (v := ?_) rfl (by kernel_rfl) (by kernel_rfl) (by kernel_rfl) (fun _ _ _ h => h) (Or.inl ⟨by rfl, ?_⟩) (by assumption) ?_
  rotate_left
  · (intro wq hSw; (try dsimp only at hSw); go_simp; (try with_reducible rfl))
  simp only [Act.put, List.getElem_toArray, List.getElem_cons_zero, List.getElem_cons_succ, List.setIfInBounds_toArray, List.set_cons_zero, List.set_cons_succ]
  refine wpAnyH_take (i := 2) (v := ?_) rfl (by kernel_rfl) (by kernel_rfl) (by kernel_rfl) (fun _ _ _ h => h) (Or.inl ⟨by rfl, ?_⟩) (by assumption) ?_
  rotate_left
  · (intro wq hSw; (try dsimp only at hSw); go_simp; (try with_reducible rfl))
  simp only [Act.put, List.getElem_toArray, List.getElem_cons_zero, List.getElem_cons_succ, List.setIfInBounds_toArray, List.set_cons_zero, List.set_cons_succ]
  first
  | (refine wpAnyH_take (i := 3) (v := undef) rfl (by kernel_rfl) (by kernel_rfl) (by kernel_rfl) (fun _ _ _ h => h) (Or.inr ⟨by rfl, rfl⟩) (by assumption) ?_)
  | (refine wpAnyH_take (i := 3) (v := ?_) rfl (by kernel_rfl) (by kernel_rfl) (by kernel_rfl) (fun _ _ _ h => h) (Or.inl ⟨by rfl, ?_⟩) (by assumption) ?_; rotate_left; (focus (intro wq hSw; (try dsimp only at hSw); go_simp; (try with_reducible rfl))))
  simp only [Act.put, List.getElem_toArray, List.getElem_cons_zero, List.getElem_cons_succ, List.setIfInBounds_toArray, List.set_cons_zero, List.set_cons_succ]
  first
  | (refine wpAnyH_take (i := 4) (v := undef) rfl (by kernel_rfl) (by kernel_rfl) (by kernel_rfl) (fun _ _ _ h => h) (Or.inr ⟨by rfl, rfl⟩) (by assumption) ?_)
  | (refine wpAnyH_take (i := 4) (v := ?_) rfl (by kernel_rfl) (by kernel_rfl) (by kernel_rfl) (fun _ _ _ h => h) (Or.inl ⟨by rfl, ?_⟩) (by assumption) ?_; rotate_left; (focus (intro wq hSw; (try dsimp only at hSw); go_simp; (try with_reducible rfl))))
  simp only [Act.put, List.getElem_toArray, List.getElem_cons_zero, List.getElem_cons_succ, List.setIfInBounds_toArray, List.set_cons_zero, List.set_cons_succ]
  refine wpAnyH_take (i := 5) (v := ?_) rfl (by kernel_rfl) (by kernel_rfl) (by kernel_rfl) (fun _ _ _ h => h) (Or.inl ⟨by rfl, ?_⟩) (by assumption) ?_
  rotate_left
  · (intro wq hSw; (try dsimp only at hSw); go_simp; (try with_reducible rfl))
  simp only [Act.put, List.getElem_toArray, List.getElem_cons_zero, List.getElem_cons_succ, List.setIfInBounds_toArray, List.set_cons_zero, List.set_cons_succ]
  refine wpAnyH_take (i := 6) (v := ?_) rfl (by kernel_rfl) (by kernel_rfl) (by kernel_rfl) (fun _ _ _ h => h) (Or.inl ⟨by rfl, ?_⟩) (by assumption) ?_
  rotate_left
  · (intro wq hSw; (try dsimp only at hSw); go_simp; (try with_reducible rfl))
  simp only [Act.put, List.getElem_toArray, List.getElem_cons_zero, List.getElem_cons_succ, List.setIfInBounds_toArray, List.set_cons_zero, List.set_cons_succ]
  first
  | (refine wpAnyH_take (i := 7) (v := undef) rfl (by kernel_rfl) (by kernel_rfl) (by kernel_rfl) (fun _ _ _ h => h) (Or.inr ⟨by rfl, rfl⟩) (by assumption) ?_)
  | (refine wpAnyH_take (i := 7) (v := ?_) rfl (by kernel_rfl) (by kernel_rfl) (by kernel_rfl) (fun _ _ _ h => h) (Or.inl ⟨by rfl, ?_⟩) (by assumption) ?_; rotate_left; (focus (intro wq hSw; (try dsimp only at hSw); go_simp; (try with_reducible rfl))))
  simp only [Act.put, List.getElem_toArray, List.getElem_cons_zero, List.getElem_cons_succ, List.setIfInBounds_toArray, List.set_cons_zero, List.set_cons_succ]
  refine wpAnyH_take (i := 8) (v := ?_) rfl (by kernel_rfl) (by kernel_rfl) (by kernel_rfl) (fun _ _ _ h => h) (Or.inl ⟨by rfl, ?_⟩) (by assumption) ?_
  rotate_left
  · (intro wq hSw; (try dsimp only at hSw); go_simp; (try with_reducible rfl))
  simp only [Act.put, List.getElem_toArray, List.getElem_cons_zero, List.getElem_cons_succ, List.setIfInBounds_toArray, List.set_cons_zero, List.set_cons_succ]
  refine wpAnyH_take (i := 9) (v := ?_) rfl (by kernel_rfl) (by kernel_rfl) (by kernel_rfl) (fun _ _ _ h => h) (Or.inl ⟨by rfl, ?_⟩) (by assumption) ?_
  rotate_left
  · (intro wq hSw; (try dsimp only at hSw); go_simp; (try with_reducible rfl))
  simp only [Act.put, List.getElem_toArray, List.getElem_cons_zero, List.getElem_cons_succ, List.setIfInBounds_toArray, List.set_cons_zero, List.set_cons_succ]
  first
  | (refine wpAnyH_take (i := 10) (v := undef) rfl (by kernel_rfl) (by kernel_rfl) (by kernel_rfl) (fun _ _ _ h => h) (Or.inr ⟨by rfl, rfl⟩) (by assumption) ?_)
  | (refine wpAnyH_take (i := 10) (v := ?_) rfl (by kernel_rfl) (by kernel_rfl) (by kernel_rfl) (fun _ _ _ h => h) (Or.inl ⟨by rfl, ?_⟩) (by assumption) ?_; rotate_left; (focus (intro wq hSw; (try dsimp only at hSw); go_simp; (try with_reducible rfl))))
  simp only [Act.put, List.getElem_toArray, List.getElem_cons_zero, List.getElem_cons_succ, List.setIfInBounds_toArray, List.set_cons_zero, List.set_cons_succ]
  refine wpAnyH_ready (rs := [11]) (by kernel_rfl) (by simp) ?_
  refine AllReadyH.cons (by simp only [List.getElem?_toArray, List.getElem?_cons_succ, List.getElem?_cons_zero]; rfl) (fun K hK => ?_) AllReadyH.nil
  (go_simp; go_at_call 25; refine (HOF.out _ _).mono ?_; rintro _ wd ⟨rfl, hcd⟩; have HCC := Lib.hid (HCC.out.trans' hcd); clear hcd; go_simp)
  refine hK.out _ _ ?_ (fun hHeld => ?_)
  · (first | exact HS0.out | exact HKS.out _ HCC.out)
  clear hK K
  (try simp only [Act.put, List.getElem_toArray, List.getElem_cons_zero, List.getElem_cons_succ, List.setIfInBounds_toArray, List.set_cons_zero, List.set_cons_succ])
  first
  | (refine wpAnyH_take (i := 12) (v := undef) rfl (by kernel_rfl) (by kernel_rfl) (by kernel_rfl) (fun _ _ _ h => h) (Or.inr ⟨by rfl, rfl⟩) (by assumption) ?_)
  | (refine wpAnyH_take (i := 12) (v := ?_) rfl (by kernel_rfl) (by kernel_rfl) (by kernel_rfl) (fun _ _ _ h => h) (Or.inl ⟨by rfl, ?_⟩) (by assumption) ?_; rotate_left; (focus (intro wq hSw; (try dsimp only at hSw); go_simp; (try with_reducible rfl))))
  simp only [Act.put, List.getElem_toArray, List.getElem_cons_zero, List.getElem_cons_succ, List.setIfInBounds_toArray, List.set_cons_zero, List.set_cons_succ]
  refine wpAnyH_take (i := 13) (v := ?_) rfl (by kernel_rfl) (by kernel_rfl) (by kernel_rfl) (fun _ _ _ h => h) (Or.inl ⟨by rfl, ?_⟩) (by assumption) ?_
  rotate_left
  · (intro wq hSw; (try dsimp only at hSw); go_simp; (try with_reducible rfl))
  simp only [Act.put, List.getElem_toArray, List.getElem_cons_zero, List.getElem_cons_succ, List.setIfInBounds_toArray, List.set_cons_zero, List.set_cons_succ]
  refine wpAnyH_take (i := 14) (v := ?_) rfl (by kernel_rfl) (by kernel_rfl) (by kernel_rfl) (fun _ _ _ h => h) (Or.inl ⟨by rfl, ?_⟩) (by assumption) ?_
  rotate_left
  · (intro wq hSw; (try dsimp only at hSw); go_simp; (try with_reducible rfl))
  simp only [Act.put, List.getElem_toArray, List.getElem_cons_zero, List.getElem_cons_succ, List.setIfInBounds_toArray, List.set_cons_zero, List.set_cons_succ]
  first
  | (refine wpAnyH_take (i := 15) (v := undef) rfl (by kernel_rfl) (by kernel_rfl) (by kernel_rfl) (fun _ _ _ h => h) (Or.inr ⟨by rfl, rfl⟩) (by assumption) ?_)
  | (refine wpAnyH_take (i := 15) (v := ?_) rfl (by kernel_rfl) (by kernel_rfl) (by kernel_rfl) (fun _ _ _ h => h) (Or.inl ⟨by rfl, ?_⟩) (by assumption) ?_; rotate_left; (focus (intro wq hSw; (try dsimp only at hSw); go_simp; (try with_reducible rfl))))
  simp only [Act.put, List.getElem_toArray, List.getElem_cons_zero, List.getElem_cons_succ, List.setIfInBounds_toArray, List.set_cons_zero, List.set_cons_succ]
  first
  | (refine wpAnyH_take (i := 16) (v := undef) rfl (by kernel_rfl) (by kernel_rfl) (by kernel_rfl) (fun _ _ _ h => h) (Or.inr ⟨by rfl, rfl⟩) (by assumption) ?_)
  | (refine wpAnyH_take (i := 16) (v := ?_) rfl (by kernel_rfl) (by kernel_rfl) (by kernel_rfl) (fun _ _ _ h => h) (Or.inl ⟨by rfl, ?_⟩) (by assumption) ?_; rotate_left; (focus (intro wq hSw; (try dsimp only at hSw); go_simp; (try with_reducible rfl))))
  simp only [Act.put, List.getElem_toArray, List.getElem_cons_zero, List.getElem_cons_succ, List.setIfInBounds_toArray, List.set_cons_zero, List.set_cons_succ]
  first
  | (refine wpAnyH_take (i := 17) (v := undef) rfl (by kernel_rfl) (by kernel_rfl) (by kernel_rfl) (fun _ _ _ h => h) (Or.inr ⟨by rfl, rfl⟩) (by assumption) ?_)
  | (refine wpAnyH_take (i := 17) (v := ?_) rfl (by kernel_rfl) (by kernel_rfl) (by kernel_rfl) (fun _ _ _ h => h) (Or.inl ⟨by rfl, ?_⟩) (by assumption) ?_; rotate_left; (focus (intro wq hSw; (try dsimp only at hSw); go_simp; (try with_reducible rfl))))
  simp only [Act.put, List.getElem_toArray, List.getElem_cons_zero, List.getElem_cons_succ, List.setIfInBounds_toArray, List.set_cons_zero, List.set_cons_succ]
  refine wpAnyH_take (i := 18) (v := ?_) rfl (by kernel_rfl) (by kernel_rfl) (by kernel_rfl) (fun _ _ _ h => h) (Or.inl ⟨by rfl, ?_⟩) (by assumption) ?_
  rotate_left
  · (intro wq hSw; (try dsimp only at hSw); go_simp; (try with_reducible rfl))
  simp only [Act.put, List.getElem_toArray, List.getElem_cons_zero, List.getElem_cons_succ, List.setIfInBounds_toArray, List.set_cons_zero, List.set_cons_succ]
  refine wpAnyH_done (by kernel_rfl) ?_ _
  change wpList _ _ _ _ _ _
  simp only [List.drop_succ_cons, List.drop_zero]
  go_wp2_with fail
  go_ret
  exact ⟨rfl, (HCZ.out.trans' HWD.out).trans' HCC.out⟩
end Go.Proofs.YtjianickjahdnaaDoor
namespace Go.Proofs.YtjianickjahdnaaDoor
open Go.RowKit
set_option linter.unusedVariables false
set_option linter.unusedSimpArgs false

section
variable {α : Type} {A : Rep α} {w W W' : World} {b o : Nat} {a : α} {F : List Nat}
theorem Own.beside {S : Nat → Prop} (h : Own A w W b o a F) (hc : Chg S W W') (hd : ∀ k ∈ b :: F, ¬ S k) (hlo : ∀ k, S k → w.heap.size ≤ k) : Own A w W' b o a F :=
  ⟨h.here.chg hc (hd b (List.mem_cons_self ..)) (fun k hk => hd k (List.mem_cons_of_mem _ hk)), h.chg.trans hc (fun _ _ x => x) (fun i hi x => by have := hlo i x; omega), h.lo, h.los⟩
theorem Own.allLt (h : Own A w W b o a F) : ∀ k ∈ b :: F, k < W.heap.size := fun k hk => by
  rcases List.mem_cons.1 hk with rfl | hk
  · exact h.here.lt.1
  · exact h.here.lt.2 k hk
theorem Own.allLo (h : Own A w W b o a F) : ∀ k ∈ b :: F, w.heap.size ≤ k := fun k hk => by
  rcases List.mem_cons.1 hk with rfl | hk
  · exact h.lo
  · exact h.los k hk
end
theorem apart_grow {b N : Nat} {F F' X : List Nat} (h : ∀ k ∈ b :: F, k ∉ X) (hn : ∀ k ∈ F', k ∈ F ∨ N ≤ k) (hx : ∀ k ∈ X, k < N) : ∀ k ∈ b :: F', k ∉ X := fun k hk x => by
  rcases List.mem_cons.1 hk with rfl | hk
  · exact h _ (List.mem_cons_self ..) x
  · rcases hn k hk with y | y
    · exact h k (List.mem_cons_of_mem _ y) x
    · have := hx k x; omega
structure HL (w W : World) (bh : Nat) (hp : Hp) (v : Value) (L : List Int) (F : List Nat) : Prop where
  heap : Own hpR w W bh 0 hp F
  li : OutI w W v L
  d : ∀ k ∈ bh :: F, k ∉ ownL v
section
variable {w W W' : World} {bh : Nat} {hp hp' : Hp} {v v' : Value} {L L' : List Int} {F : List Nat}
theorem HL.still (h : HL w W bh hp v L F) (hc : Chg (fun _ => False) W W') : HL w W' bh hp v L F := ⟨h.heap.still hc, h.li.still hc, h.d⟩
theorem HL.heapS (h : HL w W bh hp v L F) (hp1 : Post hpR W bh 0 hp' F W') : ∃ F', HL w W' bh hp' v L F' := by
  obtain ⟨F', h1, h2⟩ := hp1
  have hS : ∀ k, (k = bh ∨ k ∈ F) → k ∈ bh :: F := fun k x => x.elim (fun e => e ▸ List.mem_cons_self ..) (List.mem_cons_of_mem _)
  have hlo : ∀ k, (k = bh ∨ k ∈ F) → w.heap.size ≤ k := fun k x => h.heap.allLo k (hS k x)
  exact ⟨F', h.heap.step h1 h2, h.li.other h2.chg (fun k hk x => h.d k (hS k x) (mem_ownL.2 hk)) (fun k hk x => by have := hlo k x; omega),
    apart_grow h.d h2.new (fun k hk => h.li.row.lt k (mem_ownL.1 hk))⟩
theorem HL.liS (h : HL w W bh hp v L F) (hc : Chg (fun k => v.ownBlock = some k) W W') (ho : OutI w W' v' L') (hold : ∀ k, v'.ownBlock = some k → v.ownBlock = some k ∨ W.heap.size ≤ k) : HL w W' bh hp v' L' F :=
  ⟨h.heap.beside hc (fun k hk x => h.d k hk (mem_ownL.2 x)) h.li.lo, ho, fun k hk x => by
    rcases hold k (mem_ownL.1 x) with y | y
    · exact h.d k hk (mem_ownL.2 y)
    · have := h.heap.allLt k hk; omega⟩
theorem HL.of (h : Own hpR w W bh 0 hp F) : HL w W bh hp (.slice none 0 0) [] F :=
  ⟨h, ⟨RowAt.nil _ _ _, fun k hk => by simp [Value.ownBlock] at hk, h.chg⟩, fun k hk x => by simp [ownL, Value.ownBlock] at x⟩
end
end Go.Proofs.YtjianickjahdnaaDoor
namespace Go.Proofs.YtjianickjahdnaaDoor
open Go.RowKit
attribute [local go_sem] Oper.semAt_some
set_option linter.unusedVariables false
set_option linter.unusedSimpArgs false

theorem Chg.putL {S : Nat → Prop} {a b : World} (h : Chg S a b) (l : Nat) (o : _root_.Go.Obj) (hl : l < a.heap.size → S l) : Chg S a (b.putObj l o) :=
  h.trans (Chg.grown (grownBy_putObj' b l o)) (fun _ _ x => x) (fun i hi e => by cases e; exact hl hi)
/-- The contract of an iterator over a list, with one box of its own that it writes; a round may leave. -/
def SeqFind {α : Type} (F : Fence) (n : Nat) (P : Program) (g : Nat) (lb : Array Value) (encs : α → Array Value) (xs : List α) (bo : Nat) (w : World) : Prop :=
  ∀ (l : Nat) (J Jx : List α → World → Prop) (W : World), Chg (fun _ => False) w W →
    (∀ pre A B, J pre A → Chg (fun k => k = bo) A B → J pre B) →
    (∀ pre x W1, J pre W1 → (pre ++ [x]) <+: xs → Chg (fun k => k = bo) w W1 → YieldAt F (n - 1) P l (encs x) W1 fun e W' =>
      (e = .returned (.bool true) ∧ J (pre ++ [x]) W' ∧ Chg (fun k => w.heap.size ≤ k) W1 W') ∨ (e = .returned (.bool false) ∧ Jx (pre ++ [x]) W')) →
    J [] W →
    CallsIn F n P g (#[.func (.yield l) #[] #[]] ++ lb) W fun e W' => (∃ v, e = .returned v) ∧ (J xs W' ∨ ∃ pre, Jx pre W')

theorem wpIn_rangeFunc_find {F : Fence} {n : Nat} {P : Program} {α : Type} {g : Operand} {ps : Array Tmp} {assign body : Code} {Q : Exit → Act → World → Prop} {a : Act} {w : World}
    (hro : F.round = none) (h1 : 1 ≤ n) {gf : Nat} {lb : Array Value} (hg : a.eval g = .func (.func gf) #[] lb) (hFg : F.fn gf) (eg : ∀ args w, (callFunc gf args).run P w = .ok (.enter gf args) w)
    {encs : α → Array Value} {xs : List α} {bo : Nat} (hbo : bo < w.heap.size) (hseq : SeqFind F (n - 1) P gf lb encs xs bo w) (hps : ∀ x, (encs x).size = ps.size)
    (Ip : List α → Prop) (R : List α → World → Prop) (T : Nat → Prop) (hT : ∀ k, T k → k < w.heap.size)
    (hR : ∀ pre A B, R pre A → Chg (fun k => w.heap.size ≤ k) A B → R pre B)
    (h0 : Ip []) (a₁ : α → Act)
    (hassign : ∀ (l : Nat) (x : α) (W : World) (K : Act → World → Prop), K (a₁ x) W →
      assign.wpIn (F.inRound l) (n - 1 - 1) P (Exit.then K (fun _ _ _ => False)) { tmps := (ps.zip (encs x)).foldl (fun t (p, v) => t.setIfInBounds p v) a.tmps, defers := [] } W)
    (hbody : ∀ (l : Nat) (pre : List α) (x : α) (W : World), Ip pre → (pre ++ [x]) <+: xs → Chg (fun k => k = bo) w W →
      body.wpIn (F.inRound l) (n - 1 - 1) P (fun e _ W' => (e = .normal ∧ Ip (pre ++ [x]) ∧ Chg (fun _ => False) W W') ∨ (e = .ret ∧ R (pre ++ [x]) W' ∧ Chg T W W')) (a₁ x) W)
    (hdone : ∀ (D : Nat) (W : World), w.heap.size ≤ D → Ip xs → Chg (fun k => k = bo) w W → W.heap[D]? = some (.deferred (some [])) → Q .normal { a with defers := { target := .collected D, args := #[] } :: a.defers } W)
    (hstop : ∀ (D : Nat) (pre : List α) (W : World), w.heap.size ≤ D → R pre W → Chg (fun k => T k ∨ k = bo) w W → W.heap[D]? = some (.deferred (some [])) → Code.ret.wpIn F n P Q { a with defers := { target := .collected D, args := #[] } :: a.defers } W) :
    (Code.rangeFunc g ps assign body).wpIn F n P Q a w := by
  refine wpIn_rangeFunc ?_
  intro fn hfn
  rw [hro]
  obtain ⟨rec, hrec⟩ : ∃ rec : LoopState → Option Code → Loop, rec = fun st pe => { state := st, pending := pe, fn, tmps := a.tmps, params := ps, assign, body, defers := w.heap.size } := ⟨_, rfl⟩
  obtain ⟨W1, hW1⟩ : ∃ W1, (w.alloc (.deferred (some []))).alloc (.loop (rec .ready none)) = W1 := ⟨_, rfl⟩
  have hc1 : Chg (fun _ => False) w W1 := by rw [← hW1]; exact (Chg.alloc _ _ _).allocR _
  have hL1 : W1.heap[w.heap.size + 1]? = some (.loop (rec .ready none)) := by
    rw [← hW1]; have := World.alloc_heap_new (w.alloc (.deferred (some []))) (.loop (rec .ready none)); rwa [World.size_alloc] at this
  have hK1 : W1.heap[w.heap.size]? = some (.deferred (some [])) := by
    rw [← hW1]; exact (Below.heap_alloc _ _ _ (by simp)).trans (World.alloc_heap_new w _)
  refine ⟨w.heap.size + 1, [{ target := .collected w.heap.size, args := #[] }], W1, { target := .fn (.func gf) lb, args := #[.func (.yield (w.heap.size + 1)) #[] #[]] }, W1, gf,
    #[.func (.yield (w.heap.size + 1)) #[] #[]] ++ lb, W1, ?_, ?_, ?_, ?_, fun _ => h1, ?_⟩
  · rw [← hW1, hrec]; exact run_enterLoop_outer _ _ _ _ _
  · simp only [resolve, hg]
    simp [go_sem]
  · intro f' hf'; simp [Target.leads] at hf'; subst hf'; exact hFg
  · simp [invoke, go_sem, eg]
  · refine (hseq (w.heap.size + 1)
      (fun pre W => Ip pre ∧ Chg (fun k => k = bo) w W ∧ W.heap[w.heap.size + 1]? = some (.loop (rec .ready none)) ∧ W.heap[w.heap.size]? = some (.deferred (some [])))
      (fun pre W => R pre W ∧ Chg (fun k => T k ∨ k = bo) w W ∧ W.heap[w.heap.size + 1]? = some (.loop (rec .done (some .ret))) ∧ W.heap[w.heap.size]? = some (.deferred (some [])))
      W1 hc1 (fun pre A B hj hc => ⟨hj.1, hj.2.1.trans' hc, hc.keep hj.2.2.1 (by omega), hc.keep hj.2.2.2 (by omega)⟩) ?_ ⟨h0, hc1.mono (fun _ _ x => x.elim), hL1, hK1⟩).mono ?_
    · rintro pre x W ⟨hi, hcw, hl, hk⟩ hpre -
      have hlt : w.heap.size + 1 < W.heap.size := (Array.getElem?_eq_some_iff.1 hl).1
      have hy := run_yield (P := P) (args := encs x) hl (by rw [hrec]; exact hps x)
      rw [hrec] at hy
      refine ⟨fn, _, assign, body, hy, roundIn_of_wpIn hfn (hassign _ x W _ ⟨_, run_beginRound hl (by rw [hrec]), ?_⟩)⟩
      have hl2 : (W.putObj (w.heap.size + 1) (.loop { rec .ready none with state := .busy })).heap[w.heap.size + 1]? = some (.loop { rec .ready none with state := .busy }) := World.putObj_heap_same hlt
      have hk2 : (W.putObj (w.heap.size + 1) (.loop { rec .ready none with state := .busy })).heap[w.heap.size]? = some (.deferred (some [])) := (World.putObj_heap_other (by omega)).trans hk
      have hcb : Chg (fun k => w.heap.size ≤ k) W (W.putObj (w.heap.size + 1) (.loop { rec .ready none with state := .busy })) := (Chg.refl _ W).putL _ _ (fun _ => by omega)
      have hcb2 : Chg (fun k => k = bo) w (W.putObj (w.heap.size + 1) (.loop { rec .ready none with state := .busy })) := hcw.putL _ _ (fun h => by omega)
      refine wpIn_mono (hbody _ pre x _ hi hpre hcb2) ?_
      rintro e a3 W3 (⟨rfl, hi3, hc3⟩ | ⟨rfl, hr3, hc3⟩)
      · have hl3 := hc3.keep hl2 (fun x => x)
        have hk3 := hc3.keep hk2 (fun x => x)
        have hr := run_endRound (P := P) none hl3
        have hlt3 := (Array.getElem?_eq_some_iff.1 hl3).1
        rw [hrec] at hr
        refine ⟨_, _, hr, .inl ⟨rfl, ⟨hi3, (hcb2.trans hc3 (fun _ _ x => x) (fun _ _ x => x.elim)).putL _ _ (fun h => by omega), ?_, (World.putObj_heap_other (by omega)).trans hk3⟩, (hcb.trans hc3 (fun _ _ x => x) (fun _ _ x => x.elim)).putL _ _ (fun _ => by omega)⟩⟩
        rw [hrec]; exact World.putObj_heap_same hlt3
      · have hl3 := hc3.keep hl2 (fun x => by have := hT _ x; omega)
        have hk3 := hc3.keep hk2 (fun x => by have := hT _ x; omega)
        have hr := run_endRound (P := P) (some .ret) hl3
        have hlt3 := (Array.getElem?_eq_some_iff.1 hl3).1
        rw [hrec] at hr
        refine ⟨_, _, hr, .inr ⟨rfl, hR _ _ _ hr3 ((Chg.refl _ W3).putL _ _ (fun _ => by omega)), (hcb2.trans hc3 (fun _ _ x => .inr x) (fun _ _ x => .inl x)).putL _ _ (fun h => by omega), ?_, (World.putObj_heap_other (by omega)).trans hk3⟩⟩
        rw [hrec]; exact World.putObj_heap_same hlt3
    · rintro e W2 ⟨⟨v, rfl⟩, (⟨hi, hc, hl, hk⟩ | ⟨pre, hi, hc, hl, hk⟩)⟩
      · exact ⟨none, _, by have := run_endLoop (P := P) hl (by rw [hrec]; simp); rw [hrec] at this; exact this, hdone _ _ (Nat.le_refl _) hi (hc.putL _ _ (fun h => by omega)) ((World.putObj_heap_other (by omega)).trans hk)⟩
      · exact ⟨some .ret, _, by have := run_endLoop (P := P) hl (by rw [hrec]; simp); rw [hrec] at this; exact this, hstop _ pre _ (Nat.le_refl _) (hR _ _ _ hi ((Chg.refl _ W2).putL _ _ (fun _ => by omega))) (hc.putL _ _ (fun h => by omega)) ((World.putObj_heap_other (by omega)).trans hk)⟩
end Go.Proofs.YtjianickjahdnaaDoor
namespace Go.Proofs.YtjianickjahdnaaDoor
open Go.RowKit
set_option linter.unusedVariables false
set_option linter.unusedSimpArgs false

/-- The handles of a prototype chain. -/
def chainM (hp : Hp) : Nat → Int → List Int
  | 0, _ => []
  | n + 1, o => match slotOf hp o with
    | none => []
    | some i => o :: chainM hp n (hp.slots.getD i noSlt).obj.proto
theorem chainM_none {hp : Hp} {o : Int} (h : slotOf hp o = none) : ∀ n, chainM hp n o = []
  | 0 => rfl
  | n + 1 => by unfold chainM; rw [h]
theorem chainM_some {hp : Hp} {o : Int} {i : Nat} (h : slotOf hp o = some i) (hi : i < hp.slots.length) (n : Nat) : chainM hp (n + 1) o = o :: chainM hp n hp.slots[i].obj.proto := by
  conv => lhs; unfold chainM
  rw [h]
  simp only
  rw [List.getD_eq_getElem?_getD, List.getElem?_eq_getElem hi]
  rfl
def InJ (h : Int) : Prop := -9223372036854775808 ≤ h ∧ h ≤ 9223372036854775807

set_option maxHeartbeats 800000 in
set_option maxRecDepth 100000 in
theorem chain_any (w : World) (p : Option Addr) (o : Int) :
    Calls Tryd.prog 36 #[.pointer p, .int .i64 o] w fun e w' => e = .returned (.func (.func 52) #[] #[.pointer (some ⟨w.heap.size, 0, none⟩), .pointer (some ⟨w.heap.size + 1, 0, none⟩)]) ∧ w' = (w.alloc (.cells #[.pointer p] 73)).alloc (.cells #[.int .i64 o] 3) := by
  go_enter Tryd.func36, Tryd.ntmps36
  go_wp2_with fail
  go_ret
  exact ⟨rfl, rfl⟩

set_option maxHeartbeats 6400000 in
set_option maxRecDepth 100000 in
theorem chain1_find (nf : Nat) (w : World) (bh : Nat) (hp : Hp) (F : List Nat) (b1 bo T1 : Nat) (o : Int) (H : Here hpR w bh 0 hp F) (hb1 : w.heap[b1]? = some (.cells #[.pointer (some ⟨bh, 0, none⟩)] T1 (0, 0)))
    (hb2 : w.heap[bo]? = some (.cells #[.int .i64 o] 3 (0, 0))) (h12 : b1 ≠ bo) (hbF : bo ∉ F) (hbb : bh ≠ bo) (ho : InJ o) (hpr : ∀ s (hs : s < hp.slots.length), InJ hp.slots[s].obj.proto) :
    SeqFind Fence.wide nf Tryd.prog 52 #[.pointer (some ⟨b1, 0, none⟩), .pointer (some ⟨bo, 0, none⟩)] (fun h : Int => #[.int .i64 h]) (chainM hp 100001 o) bo w := by
  intro l J Jx W0 hc0 hJ hY hJ0
  refine callsIn_wide.2 ?_
  have HH := Lib.hid H
  have HB1 := Lib.hid hb1
  have HB2 := Lib.hid (hc0.keep hb2 (fun x => x))
  have HNE := Lib.hid (show bo ∉ F ∧ bh ≠ bo ∧ b1 ≠ bo from ⟨hbF, hbb, h12⟩)
  have HPR := Lib.hid hpr
  have HYY := Lib.hid hY
  have HJJ := Lib.hid hJ
  have HJ0 := Lib.hid hJ0
  have HO := Lib.hid ho
  have HLB := Lib.hid (lt_of_block hb2)
  have HC0 : Hid (Chg (fun k => k = bo) w W0) := Lib.hid (hc0.mono (fun _ _ x => x.elim))
  obtain ⟨xs, hxs⟩ : ∃ xs, chainM hp 100001 o = xs := ⟨_, rfl⟩
  rw [hxs] at HYY
  rw [hxs]
  have HXS := Lib.hid hxs
  clear H hb1 hb2 h12 hbF hbb ho hpr hY hJ hJ0 hc0 hxs
  show Calls Tryd.prog 52 #[.func (.yield l) #[] #[], .pointer (some ⟨b1, 0, none⟩), .pointer (some ⟨bo, 0, none⟩)] W0 _
  go_enter Tryd.func52, Tryd.ntmps52
  go_wp2_with fail
  go_loopw [4, 5] (fun _ u5 wr => ∃ (i : Nat) (pre : List Int) (cur : Int), i ≤ 100001 ∧ u5 = .int .i64 i ∧ Hid (InJ cur) ∧ Hid (pre ++ chainM hp (100001 - i) cur = xs) ∧ Hid (J pre wr) ∧ Hid (Chg (fun k => k = bo) w wr) ∧ Hid (wr.heap[bo]? = some (.cells #[.int .i64 cur] 3 (0, 0)))) (fun _ u5 _ => 100001 - (intOf u5).toNat)
  case atStart => exact ⟨0, [], o, by omega, rfl, HO, HXS, HJ0, HC0, HB2⟩
  case round =>
    obtain ⟨i, pre, cur, hi, rfl, HCI, HPX, HJP, HCW, HBO⟩ := hrel
    clear HJ0 HC0 HB2 HXS
    by_cases hlt : i < 100001
    · have i0 : (0 : Int) ≤ (i : Int) := by omega
      have i1 : (i : Int) < 100001 := by omega
      have w64 : IntKind.i64.wrap ((i : Int) + 1) = ((i + 1 : Nat) : Int) := IntWalk.i64_in _ (by omega)
      have HLT := Lib.hid hlt
      have HR : Hid (Here hpR wr bh 0 hp F) := Lib.hid (HH.out.chg HCW.out HNE.out.2.1 (fun k hk e => HNE.out.1 (e ▸ hk)))
      have hb1r := HCW.out.keep HB1.out HNE.out.2.2
      have k1 := cell_of_block (i := 0) hb1r rfl
      have k2 := cell_of_block (i := 0) HBO.out rfl
      simp only [List.getElem_toArray, List.getElem_cons_zero] at k1 k2
      obtain ⟨-, -, ⟨as_, cs_, c2⟩, -⟩ := hpCells HR.out
      obtain ⟨q, hq⟩ : ∃ q, 100001 - i = q + 1 := ⟨100000 - i, by omega⟩
      rw [hq] at HPX
      have HQ := Lib.hid hq
      clear hi hlt hb1r hq
      cases hs : slotOf hp cur with
      | none =>
        have hat := hat_any wr bh 0 hp F cur _ HR.out c2 HCI.out
        rw [hs, objPtr_none] at hat
        have HAT := Lib.hid hat
        rw [chainM_none hs, List.append_nil] at HPX
        clear hat hs c2
        go_wp2_with (go_at_call 35; refine HAT.out.mono ?_; rintro e wa ⟨rfl, hca⟩)
        refine bodyPost_ret (results_none rfl _ _ _) rfl ?_
        have hj := HJJ.out _ _ _ HJP.out (hca.mono (fun _ _ x => x.elim))
        rw [HPX.out] at hj
        exact ⟨⟨_, rfl⟩, .inl hj⟩
      | some s =>
        obtain ⟨hsl, -, -⟩ := slotOf_lt hs
        rw [chainM_some hs hsl] at HPX
        obtain ⟨gh, oh, kh, chw, G, HOBJ0, -, -⟩ := hpPut HH.out hsl
        have ch := HCW.out.cellS chw HNE.out.2.1
        have hat := hat_any wr bh 0 hp F cur _ HR.out (by rw [Nat.zero_add]; exact ch) HCI.out
        rw [hs, show objPtr (.slice (some ⟨gh, oh, none⟩) hp.slots.length kh) (some s) = some ⟨gh, oh + s * 11 + 1, none⟩ from rfl] at hat
        have HAT := Lib.hid hat
        have HCH := Lib.hid chw
        have HIN := Lib.hid (HPR.out s hsl)
        have HSL := Lib.hid hsl
        clear hat hs ch chw HOBJ0 c2
        go_upto_region 3 with (go_at_call 35; refine HAT.out.mono ?_; rintro e wa ⟨rfl, hca⟩)
        have HJA := Lib.hid (HJJ.out _ _ _ HJP.out (hca.mono (fun _ _ x => x.elim)))
        have HCA := Lib.hid (HCW.out.trans hca (fun _ _ x => x) (fun _ _ x => x.elim))
        have HBA := Lib.hid (hca.keep HBO.out (fun x => x))
        have k1 := hca.cell k1
        have k2 := hca.cell k2
        clear hca HAT HJP HCW HBO HR
        obtain ⟨fn, tmps, assign, body, hy, hR⟩ := HYY.out pre cur wa HJA.out ⟨chainM hp q hp.slots[s].obj.proto, by rw [List.append_assoc]; exact HPX.out⟩ HCA.out
        refine (wpIn_wide (n := nf) (P := Tryd.prog)).1 ?_
        gi_wp2
        refine ⟨fun h => (by cases h), ?_⟩
        refine hR.mono ?_
        rintro e Wr (⟨rfl, hJr, hcr⟩ | ⟨rfl, hxr⟩)
        · have HJR := Lib.hid hJr
          have HCR := Lib.hid (HCA.out.trans hcr (fun _ _ x => x) (fun i hi x => by omega))
          have hlbo := HLB.out
          have HBR := Lib.hid (hcr.keep HBA.out (by omega))
          have HRR : Hid (Here hpR Wr bh 0 hp F) := Lib.hid (HH.out.chg HCR.out HNE.out.2.1 (fun k hk e => HNE.out.1 (e ▸ hk)))
          obtain ⟨gh', oh', kh', ch', G, HOBJ, -, -⟩ := hpPut HRR.out HSL.out
          rw [HCR.out.cellS HCH.out HNE.out.2.1] at ch'
          cases ch'
          obtain ⟨vp, ve, vd, vs, HOC⟩ := objOpen HOBJ
          have p1 := HOC.c1
          have kb := cell_of_block (i := 0) HBR.out rfl
          have fb := frozen_of_block (i := 0) HBR.out
          simp only [List.getElem_toArray, List.getElem_cons_zero] at kb
          have hbs := setCell_block (i := 0) (.int .i64 hp.slots[s].obj.proto) HBR.out
          have HBS := Lib.hid hbs
          clear hJr hcr hlbo HOBJ HOC k1 k2 hbs
          gi_wp2
          go_wp2_with fail
          go_roundw
          case rel => exact ⟨i + 1, pre ++ [cur], hp.slots[s].obj.proto, by have := HLT.out; omega, rfl, HIN, Lib.hid (by rw [show 100001 - (i + 1) = q by have := HQ.out; omega, List.append_assoc]; exact HPX.out), Lib.hid (HJJ.out _ _ _ HJR.out (Chg.setCell Wr ⟨bo, 0, none⟩ _)), Lib.hid (HCR.out.setCellR _ _ (fun _ => rfl)), HBS⟩
          case measure => have := HLT.out; simp [intOf, w64]; omega
        · gi_wp2
          go_wp2_with fail
          refine bodyPost_ret (results_none rfl _ _ _) rfl ?_
          exact ⟨⟨_, rfl⟩, .inr ⟨_, hxr⟩⟩
    · have hie : i = 100001 := by omega
      subst hie
      rw [show 100001 - 100001 = 0 from rfl, show chainM hp 0 cur = [] from rfl, List.append_nil] at HPX
      clear hlt hi
      go_wp2_with fail
      go_end0
      have hj := HJP.out
      rw [HPX.out] at hj
      exact ⟨⟨_, rfl⟩, .inl hj⟩
end Go.Proofs.YtjianickjahdnaaDoor
namespace Go.Proofs.YtjianickjahdnaaDoor
open Go.RowKit
set_option linter.unusedVariables false
set_option linter.unusedSimpArgs false

theorem results_cell1 {fn : Func} {p : Tmp} {ty : TypeId} {P : Program} (h : fn.results = #[.cell p ty]) (tmps : Array Value) (w : World) (g : Nat) (v : Value) (hp : tmps.getD p undef = .pointer (some ⟨g, 0, none⟩)) (hl : (loadVar ty ⟨g, 0, none⟩).run P w = .ok v w) :
    (results fn tmps).run P w = .ok v w := by
  have hp' : tmps[p]?.getD undef = .pointer (some ⟨g, 0, none⟩) := by simpa using hp
  simp [results, h, hp', asAddr, hl]
theorem run_loadVar1 (w : World) (g : Nat) (v : Value) (T : Nat) (hc : w.cell? ⟨g, 0, none⟩ = some v) : (loadVar 4 ⟨g, 0, none⟩).run Tryd.prog w = .ok v w := by
  have hu := Tryd.underlying4
  simp [loadVar, isAgg, go_sem, hu, hc]
theorem bodyM_eq {fn : Func} {R : Ending → World → Prop} {a : Act} {w : World} {n : Nat} {P : Program} : bodyPostM Fence.wide n P fn R .ret a w = LeavesInM Fence.wide n P fn a.tmps R a.defers .returning w := rfl
def withinM (hp : Hp) (o proto : Int) : Bool := match slotOf hp o with
  | none => false
  | some i => (chainM hp 100001 (hp.slots.getD i noSlt).obj.proto).contains proto

set_option maxHeartbeats 6400000 in
set_option maxRecDepth 100000 in
theorem within_nil (w : World) (bh : Nat) (hp : Hp) (F : List Nat) (o proto : Int) (H : Here hpR w bh 0 hp F) (ho : InJ o) (hs : slotOf hp o = none) :
    Calls Tryd.prog 17 #[.pointer (some ⟨bh, 0, none⟩), .int .i64 o, .int .i64 proto] w fun e w' => e = .returned (.bool false) ∧ Chg (fun _ => False) w w' := by
  obtain ⟨-, -, ⟨as_, cs_, c2⟩, -⟩ := hpCells H
  have HAT := Lib.hid (fun W (hc : Chg (fun _ => False) w W) => hat_any W bh 0 hp F o _ (H.still hc) (hc.cell c2) ho)
  rw [hs, objPtr_none] at HAT
  have hcA := (Chg.alloc (fun _ => False) w (.cells #[.int .i64 proto] 3)).allocR (.cells #[.bool false] 4)
  have HCA := Lib.hid hcA
  have hb6 := alloc_block (w.alloc (.cells #[.int .i64 proto] 3)) (.cells #[.bool false] 4)
  have hs1 : (w.alloc (.cells #[.int .i64 proto] 3)).heap.size = w.heap.size + 1 := Array.size_push ..
  rw [hs1] at hb6
  have HB6 := Lib.hid hb6
  clear hcA hb6 hs1 c2 H ho hs
  go_enter Tryd.func17, Tryd.ntmps17
  go_upto_region 1 with fail
  generalize (w.alloc (.cells #[.int .i64 proto] 3)).alloc (.cells #[.bool false] 4) = w1 at *
  generalize hbe : w.heap.size + 1 = b6 at *
  have HBE := Lib.hid hbe
  clear hbe
  go_upto_region 2 with (go_at_call 35; refine (HAT.out _ HCA.out).mono ?_; rintro e wa ⟨rfl, hca⟩)
  have hba := hca.keep HB6.out (fun x => x)
  have k6 := cell_of_block (i := 0) hba rfl
  have f6 := frozen_of_block (i := 0) hba
  have hst := setCell_block (i := 0) (.bool false) hba
  have k7 := cell_of_block (i := 0) hst rfl
  simp only [List.getElem_toArray, List.getElem_cons_zero] at k6 k7
  go_wp2_with fail
  refine bodyPost_ret (results_cell1 rfl _ _ b6 (.bool false) (by rfl) ?_) rfl ?_
  · exact run_loadVar1 _ _ _ 0 k7
  exact ⟨rfl, (HCA.out.trans' hca).setCellR _ _ (fun h => by have := HBE.out; simp at h; omega)⟩

set_option maxHeartbeats 6400000 in
set_option maxRecDepth 100000 in
theorem within_some (w : World) (bh : Nat) (hp : Hp) (F : List Nat) (o proto : Int) (i : Nat) (H : Here hpR w bh 0 hp F) (ho : InJ o) (hs : slotOf hp o = some i) (hpr : ∀ s (hs : s < hp.slots.length), InJ hp.slots[s].obj.proto) (hsl : i < hp.slots.length) :
    Calls Tryd.prog 17 #[.pointer (some ⟨bh, 0, none⟩), .int .i64 o, .int .i64 proto] w fun e w' => e = .returned (.bool ((chainM hp 100001 hp.slots[i].obj.proto).contains proto)) ∧ Chg (fun _ => False) w w' := by
  refine (callsIn_wide (n := 9)).1 (callsIn_of_wp_marks Tryd.func17 rfl trivial ?_)
  refine (wpIn_wide (n := 9) (P := Tryd.prog)).2 ?_
  obtain ⟨gh, oh, kh, ch, G, HOBJ0, -, -⟩ := hpPut H hsl
  have HAT := Lib.hid (fun W (hc : Chg (fun _ => False) w W) => hat_any W bh 0 hp F o _ (H.still hc) (hc.cell (by rw [Nat.zero_add]; exact ch)) ho)
  rw [hs, show objPtr (.slice (some ⟨gh, oh, none⟩) hp.slots.length kh) (some i) = some ⟨gh, oh + i * 11 + 1, none⟩ from rfl] at HAT
  obtain ⟨vp, ve, vd, vs, HOC⟩ := objOpen HOBJ0
  have HP1 := Lib.hid HOC.c1
  have HIN := Lib.hid (hpr i hsl)
  have HPR := Lib.hid hpr
  generalize hp.slots[i].obj.proto = pr at *
  have HH := Lib.hid H
  have hcA := (Chg.alloc (fun _ => False) w (.cells #[.int .i64 proto] 3)).allocR (.cells #[.bool false] 4)
  have HCA := Lib.hid hcA
  have hb5 := (Chg.alloc (fun _ => False) (w.alloc (.cells #[.int .i64 proto] 3)) (.cells #[.bool false] 4)).keep (alloc_block w (.cells #[.int .i64 proto] 3)) (fun x => x)
  have hb6 := alloc_block (w.alloc (.cells #[.int .i64 proto] 3)) (.cells #[.bool false] 4)
  have hs1 : (w.alloc (.cells #[.int .i64 proto] 3)).heap.size = w.heap.size + 1 := Array.size_push ..
  rw [hs1] at hb6
  have HB6 := Lib.hid hb6
  have HB5 := Lib.hid hb5
  clear hcA hb6 hb5 hs1 ch H ho hs hpr HOBJ0 HOC hsl
  simp only [Tryd.ntmps17, List.size_toArray, List.length_cons, List.length_nil, Nat.reduceAdd, Nat.reduceSub, Array.replicate_succ, Array.replicate_zero, List.push_toArray, List.append_toArray, List.nil_append, List.cons_append]
  go_upto_region 1 with fail
  generalize (w.alloc (.cells #[.int .i64 proto] 3)).alloc (.cells #[.bool false] 4) = w1 at *
  generalize hbe : w.heap.size + 1 = b6 at *
  generalize hbe5 : w.heap.size = b5 at *
  have HBE := Lib.hid hbe
  have HBE5 := Lib.hid hbe5
  clear hbe hbe5
  go_upto_region 2 with (go_at_call 35; refine (HAT.out _ HCA.out).mono ?_; rintro e wa ⟨rfl, hca⟩)
  have HCW := Lib.hid (HCA.out.trans' hca)
  have HBA := Lib.hid (hca.keep HB6.out (fun x => x))
  have HB5A := Lib.hid (hca.keep HB5.out (fun x => x))
  have p1 := HCW.out.cell HP1.out
  have hce := chain_any wa (some ⟨bh, 0, none⟩) pr
  have HCE := Lib.hid hce
  clear hca hce HAT HCA HB6 HB5
  go_wp2_with (go_at_call 36; refine HCE.out.mono ?_; rintro e wc ⟨rfl, rfl⟩)
  have hk1 := (Chg.alloc (fun _ => False) (wa.alloc (.cells #[.pointer (some ⟨bh, 0, none⟩)] 73)) (.cells #[.int .i64 pr] 3)).keep (alloc_block wa (.cells #[.pointer (some ⟨bh, 0, none⟩)] 73)) (fun x => x)
  have hk2 := alloc_block (wa.alloc (.cells #[.pointer (some ⟨bh, 0, none⟩)] 73)) (.cells #[.int .i64 pr] 3)
  have hs2 : (wa.alloc (.cells #[.pointer (some ⟨bh, 0, none⟩)] 73)).heap.size = wa.heap.size + 1 := Array.size_push ..
  rw [hs2] at hk2
  have hcc := (Chg.alloc (fun _ => False) wa (.cells #[.pointer (some ⟨bh, 0, none⟩)] 73)).allocR (.cells #[.int .i64 pr] 3)
  have HCC := Lib.hid (HCW.out.trans' hcc)
  have hk6 := hcc.keep HBA.out (fun x => x)
  have hk5 := hcc.keep HB5A.out (fun x => x)
  have hsz := HCW.out.size
  have hl6 := lt_of_block HBA.out
  generalize (wa.alloc (.cells #[.pointer (some ⟨bh, 0, none⟩)] 73)).alloc (.cells #[.int .i64 pr] 3) = wc at *
  generalize hb1e : wa.heap.size = b1 at *
  have hlt2 := lt_of_block hk2
  have HF := Lib.hid (HH.out.still HCC.out)
  have HK1 := Lib.hid hk1
  have HK2 := Lib.hid hk2
  have HK5 := Lib.hid hk5
  have HK6 := Lib.hid hk6
  have hbne := HBE.out
  have hb5e := HBE5.out
  have hbl := HH.out.lt
  have HN : Hid (b5 ≠ b1 + 1 ∧ b6 ≠ b1 + 1 ∧ b1 + 1 < wc.heap.size ∧ b6 < wc.heap.size ∧ w.heap.size ≤ b6 ∧ w.heap.size ≤ b1 + 1 ∧ bh ≠ b1 + 1 ∧ b1 + 1 ∉ F) := Lib.hid ⟨by omega, by omega, by omega, by omega, by omega, by omega, by have := hbl.1; omega, fun hx => by have := hbl.2 _ hx; omega⟩
  clear hk1 hk2 hs2 hcc hk6 hk5 hsz hl6 hb1e hlt2 hbne hb5e hbl HBA HB5A HCE HCW p1 HP1 HBE HBE5
  refine (wpIn_wide (n := 9) (P := Tryd.prog)).1 (wpIn_rangeFunc_find (F := Fence.wide) (n := 9) rfl (by omega) (gf := 52) (lb := #[.pointer (some ⟨b1, 0, none⟩), .pointer (some ⟨b1 + 1, 0, none⟩)]) rfl trivial (enters_of Tryd.func52 (by kernel_rfl) rfl) (encs := fun h : Int => #[.int .i64 h]) (xs := chainM hp 100001 pr) (bo := b1 + 1) HN.out.2.2.1 ?seq (fun _ => rfl)
    (fun pre => proto ∉ pre) (fun pre W => proto ∈ chainM hp 100001 pr ∧ W.heap[b6]? = some (.cells #[.bool true] 4 (0, 0))) (fun k => k = b6) ?hT ?hR (by simp) (fun y => { tmps := #[.pointer (some ⟨bh, 0, none⟩), .int .i64 o, .int .i64 proto, undef, undef, .pointer (some ⟨b5, 0, none⟩), .pointer (some ⟨b6, 0, none⟩), .pointer (some ⟨gh, oh + i * 11 + 1, none⟩), .int .i64 y, .pointer (some ⟨bh, 0, none⟩), .int .i64 o, .pointer (some ⟨gh, oh + i * 11 + 1, none⟩), .pointer (some ⟨gh, oh + i * 11 + 1, none⟩), .bool false, .pointer (some ⟨bh, 0, none⟩), .pointer (some ⟨gh, oh + i * 11 + 1, none⟩), .pointer (some ⟨gh, oh + i * 11 + 1, none⟩), .pointer (some ⟨gh, oh + i * 11 + 1 + 1, none⟩), .int .i64 pr, .func (.func 52) #[] #[.pointer (some ⟨b1, 0, none⟩), .pointer (some ⟨b1 + 1, 0, none⟩)], .int .i64 y, undef, undef, undef], defers := [] }) ?assign ?body ?done ?stop)
  case seq => exact chain1_find _ wc bh hp F b1 (b1 + 1) _ pr HF.out HK1.out HK2.out (by omega) HN.out.2.2.2.2.2.2.2 HN.out.2.2.2.2.2.2.1 HIN.out HPR.out
  case hT => rintro k rfl; exact HN.out.2.2.2.1
  case hR => rintro pre A B ⟨h1, h2⟩ hc; exact ⟨h1, hc.keep h2 (by have := HN.out.2.2.2.1; omega)⟩
  case assign =>
    intro l y W K hK
    have hsem := @Oper.semAt_some
    gi_wp2
    exact hK
  case body =>
    rintro l pre y W hpre hpx hcw
    have hb5 := hcw.keep HK5.out HN.out.1
    have hb6 := hcw.keep HK6.out HN.out.2.1
    have k5 := cell_of_block (i := 0) hb5 rfl
    have k6 := cell_of_block (i := 0) hb6 rfl
    have f6 := frozen_of_block (i := 0) hb6
    simp only [List.getElem_toArray, List.getElem_cons_zero] at k5 k6
    have HS6 := Lib.hid (setCell_block (i := 0) (.bool true) hb6)
    have HPR2 := Lib.hid hpre
    have HPX := Lib.hid hpx
    have hsem := @Oper.semAt_some
    clear hb5 hb6 hcw hpre hpx
    by_cases hyp : y = proto
    · subst hyp
      gi_wp2
      exact ⟨⟨HPX.out.subset (by simp), HS6.out⟩, Chg.setCell W ⟨b6, 0, none⟩ _⟩
    · have z1 : (y == proto) = false := beq_false_of_ne hyp
      gi_wp2
      exact ⟨⟨HPR2.out, Ne.symm hyp⟩, Chg.refl _ _⟩
  case done =>
    intro D W hD hi hcw hk
    have hb6 := hcw.keep HK6.out HN.out.2.1
    have k6 := cell_of_block (i := 0) hb6 rfl
    have f6 := frozen_of_block (i := 0) hb6
    simp only [List.getElem_toArray, List.getElem_cons_zero] at k6
    have HS6 := Lib.hid (setCell_block (i := 0) (.bool false) hb6)
    have HCWW := Lib.hid hcw
    have HKD := Lib.hid (show (W.setCell ⟨b6, 0, none⟩ (.bool false)).heap[D]? = some (.deferred (some [])) from (Chg.setCell W ⟨b6, 0, none⟩ _).keep hk (show ¬ D = b6 by have := HN.out.2.2.2.1; omega))
    have HDL := Lib.hid hD
    have hcf : (chainM hp 100001 pr).contains proto = false := by simpa using hi
    clear hb6 hcw hk hi hD
    dsimp only
    go_wp2_with fail
    rw [bodyM_eq]
    refine ⟨by simp, .inl ⟨_, _, rfl, run_takeDeferred HKD.out, ?_⟩⟩
    have hn := HN.out
    have hdl := HDL.out
    have hb6' := ((Chg.refl (fun k => k = D) (W.setCell ⟨b6, 0, none⟩ (.bool false))).putL D (.deferred none) (fun _ => rfl)).keep HS6.out (by omega)
    have k7 := cell_of_block (i := 0) hb6' rfl
    refine ⟨_, results_cell1 rfl _ _ b6 (.bool false) (by rfl) (run_loadVar1 _ _ _ 0 k7), ?_⟩
    rw [hcf]
    refine ⟨rfl, ?_⟩
    exact (((HCC.out.trans HCWW.out (fun _ _ x => x) (fun i hi x => by omega)).setCellR _ _ (fun h => by simp at h; omega)).putL _ _ (fun h => by omega))
  case stop =>
    rintro D pre W hD ⟨hin, hb6⟩ hcw hk
    have hn := HN.out
    have hcf : (chainM hp 100001 pr).contains proto = true := by simpa using hin
    gi_wp2
    rw [bodyM_eq]
    refine ⟨by simp, .inl ⟨_, _, rfl, run_takeDeferred hk, ?_⟩⟩
    have hb6' := ((Chg.refl (fun k => k = D) W).putL D (.deferred none) (fun _ => rfl)).keep hb6 (by omega)
    have k7 := cell_of_block (i := 0) hb6' rfl
    refine ⟨_, results_cell1 rfl _ _ b6 (.bool true) (by rfl) (run_loadVar1 _ _ _ 0 k7), ?_⟩
    rw [hcf]
    refine ⟨rfl, ?_⟩
    exact ((HCC.out.trans hcw (fun _ _ x => x) (fun i hi x => by omega)).putL _ _ (fun h => by omega))
theorem within_any (w : World) (bh : Nat) (hp : Hp) (F : List Nat) (o proto : Int) (H : Here hpR w bh 0 hp F) (ho : InJ o) (hpr : ∀ s (hs : s < hp.slots.length), InJ hp.slots[s].obj.proto) :
    Calls Tryd.prog 17 #[.pointer (some ⟨bh, 0, none⟩), .int .i64 o, .int .i64 proto] w fun e w' => e = .returned (.bool (withinM hp o proto)) ∧ Chg (fun _ => False) w w' := by
  unfold withinM
  cases hs : slotOf hp o with
  | none => exact within_nil w bh hp F o proto H ho hs
  | some i =>
    obtain ⟨hsl, -, -⟩ := slotOf_lt hs
    have e : hp.slots.getD i noSlt = hp.slots[i] := by rw [List.getD_eq_getElem?_getD, List.getElem?_eq_getElem hsl]; rfl
    have := within_some w bh hp F o proto i H ho hs hpr hsl
    rw [← e] at this
    exact this
end Go.Proofs.YtjianickjahdnaaDoor
