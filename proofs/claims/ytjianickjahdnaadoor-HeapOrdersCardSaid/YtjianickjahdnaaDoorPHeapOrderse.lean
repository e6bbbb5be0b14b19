/-
  arena.Get, heap.Get.
  heap.Own of an object that is no array.
  heap.Put of a property (an object that is no array).
  Rows of flat data in fields, changed in place or made anew; zeros appended to a row.
-/
import Derived.Test.YtjianickjahdnaaDoorPHeapOrdersd
import Derived.Laws.ResultCell
import Derived.IntWalk
namespace Go.Proofs.YtjianickjahdnaaDoor
open Go.RowKit
set_option linter.unusedVariables false
set_option linter.unusedSimpArgs false

theorem chg_put {W W' : World} {b k : Nat} {v : Value} (h : Chg (fun j => j = b) W W') : Chg (fun j => j = b) W (W'.setCell ⟨b, k, none⟩ v) := h.trans' (show Chg (fun j => j = b) W' (W'.setCell ⟨b, k, none⟩ v) from Chg.setCell W' ⟨b, k, none⟩ v)
theorem results_cell_row_tmp {fn : Func} {p u : Tmp} {ty : TypeId} {P : Program} (h : fn.results = #[.cell p ty, .tmp u]) (tmps : Array Value) (w : World) (g : Nat) (cs : Array Value)
    (hp : tmps.getD p undef = .pointer (some ⟨g, 0, none⟩)) (hl : (loadVar ty ⟨g, 0, none⟩).run P w = .ok (.agg cs) w) :
    (results fn tmps).run P w = .ok (.tuple #[.agg cs, tmps.getD u undef]) w := by
  have hp' : tmps[p]?.getD undef = .pointer (some ⟨g, 0, none⟩) := by simpa using hp
  rw [results_cell_tmp h]
  simp [hp', asAddr, hl, Result.andThen]
/-- Ten cells of a block stored one after the other. -/
theorem store10 {w : World} {g T : Nat} {u0 u1 u2 u3 u4 u5 u6 u7 u8 u9 : Value} (b0 : w.heap[g]? = some (.cells #[u0, u1, u2, u3, u4, u5, u6, u7, u8, u9] T (0, 0))) (v0 v1 v2 v3 v4 v5 v6 v7 v8 v9 : Value) :
    w.cell? ⟨g, 0, none⟩ = some u0 ∧ w.frozen? ⟨g, 0, none⟩ = false ∧
    (w.setCell ⟨g, 0, none⟩ v0).cell? ⟨g, 1, none⟩ = some u1 ∧ (w.setCell ⟨g, 0, none⟩ v0).frozen? ⟨g, 1, none⟩ = false ∧
    ((w.setCell ⟨g, 0, none⟩ v0).setCell ⟨g, 1, none⟩ v1).cell? ⟨g, 2, none⟩ = some u2 ∧ ((w.setCell ⟨g, 0, none⟩ v0).setCell ⟨g, 1, none⟩ v1).frozen? ⟨g, 2, none⟩ = false ∧
    (((w.setCell ⟨g, 0, none⟩ v0).setCell ⟨g, 1, none⟩ v1).setCell ⟨g, 2, none⟩ v2).cell? ⟨g, 3, none⟩ = some u3 ∧ (((w.setCell ⟨g, 0, none⟩ v0).setCell ⟨g, 1, none⟩ v1).setCell ⟨g, 2, none⟩ v2).frozen? ⟨g, 3, none⟩ = false ∧
    ((((w.setCell ⟨g, 0, none⟩ v0).setCell ⟨g, 1, none⟩ v1).setCell ⟨g, 2, none⟩ v2).setCell ⟨g, 3, none⟩ v3).cell? ⟨g, 4, none⟩ = some u4 ∧ ((((w.setCell ⟨g, 0, none⟩ v0).setCell ⟨g, 1, none⟩ v1).setCell ⟨g, 2, none⟩ v2).setCell ⟨g, 3, none⟩ v3).frozen? ⟨g, 4, none⟩ = false ∧
    (((((w.setCell ⟨g, 0, none⟩ v0).setCell ⟨g, 1, none⟩ v1).setCell ⟨g, 2, none⟩ v2).setCell ⟨g, 3, none⟩ v3).setCell ⟨g, 4, none⟩ v4).cell? ⟨g, 5, none⟩ = some u5 ∧ (((((w.setCell ⟨g, 0, none⟩ v0).setCell ⟨g, 1, none⟩ v1).setCell ⟨g, 2, none⟩ v2).setCell ⟨g, 3, none⟩ v3).setCell ⟨g, 4, none⟩ v4).frozen? ⟨g, 5, none⟩ = false ∧
    ((((((w.setCell ⟨g, 0, none⟩ v0).setCell ⟨g, 1, none⟩ v1).setCell ⟨g, 2, none⟩ v2).setCell ⟨g, 3, none⟩ v3).setCell ⟨g, 4, none⟩ v4).setCell ⟨g, 5, none⟩ v5).cell? ⟨g, 6, none⟩ = some u6 ∧ ((((((w.setCell ⟨g, 0, none⟩ v0).setCell ⟨g, 1, none⟩ v1).setCell ⟨g, 2, none⟩ v2).setCell ⟨g, 3, none⟩ v3).setCell ⟨g, 4, none⟩ v4).setCell ⟨g, 5, none⟩ v5).frozen? ⟨g, 6, none⟩ = false ∧
    (((((((w.setCell ⟨g, 0, none⟩ v0).setCell ⟨g, 1, none⟩ v1).setCell ⟨g, 2, none⟩ v2).setCell ⟨g, 3, none⟩ v3).setCell ⟨g, 4, none⟩ v4).setCell ⟨g, 5, none⟩ v5).setCell ⟨g, 6, none⟩ v6).cell? ⟨g, 7, none⟩ = some u7 ∧ (((((((w.setCell ⟨g, 0, none⟩ v0).setCell ⟨g, 1, none⟩ v1).setCell ⟨g, 2, none⟩ v2).setCell ⟨g, 3, none⟩ v3).setCell ⟨g, 4, none⟩ v4).setCell ⟨g, 5, none⟩ v5).setCell ⟨g, 6, none⟩ v6).frozen? ⟨g, 7, none⟩ = false ∧
    ((((((((w.setCell ⟨g, 0, none⟩ v0).setCell ⟨g, 1, none⟩ v1).setCell ⟨g, 2, none⟩ v2).setCell ⟨g, 3, none⟩ v3).setCell ⟨g, 4, none⟩ v4).setCell ⟨g, 5, none⟩ v5).setCell ⟨g, 6, none⟩ v6).setCell ⟨g, 7, none⟩ v7).cell? ⟨g, 8, none⟩ = some u8 ∧ ((((((((w.setCell ⟨g, 0, none⟩ v0).setCell ⟨g, 1, none⟩ v1).setCell ⟨g, 2, none⟩ v2).setCell ⟨g, 3, none⟩ v3).setCell ⟨g, 4, none⟩ v4).setCell ⟨g, 5, none⟩ v5).setCell ⟨g, 6, none⟩ v6).setCell ⟨g, 7, none⟩ v7).frozen? ⟨g, 8, none⟩ = false ∧
    (((((((((w.setCell ⟨g, 0, none⟩ v0).setCell ⟨g, 1, none⟩ v1).setCell ⟨g, 2, none⟩ v2).setCell ⟨g, 3, none⟩ v3).setCell ⟨g, 4, none⟩ v4).setCell ⟨g, 5, none⟩ v5).setCell ⟨g, 6, none⟩ v6).setCell ⟨g, 7, none⟩ v7).setCell ⟨g, 8, none⟩ v8).cell? ⟨g, 9, none⟩ = some u9 ∧ (((((((((w.setCell ⟨g, 0, none⟩ v0).setCell ⟨g, 1, none⟩ v1).setCell ⟨g, 2, none⟩ v2).setCell ⟨g, 3, none⟩ v3).setCell ⟨g, 4, none⟩ v4).setCell ⟨g, 5, none⟩ v5).setCell ⟨g, 6, none⟩ v6).setCell ⟨g, 7, none⟩ v7).setCell ⟨g, 8, none⟩ v8).frozen? ⟨g, 9, none⟩ = false ∧
    ((((((((((w.setCell ⟨g, 0, none⟩ v0).setCell ⟨g, 1, none⟩ v1).setCell ⟨g, 2, none⟩ v2).setCell ⟨g, 3, none⟩ v3).setCell ⟨g, 4, none⟩ v4).setCell ⟨g, 5, none⟩ v5).setCell ⟨g, 6, none⟩ v6).setCell ⟨g, 7, none⟩ v7).setCell ⟨g, 8, none⟩ v8).setCell ⟨g, 9, none⟩ v9).heap[g]? = some (.cells #[v0, v1, v2, v3, v4, v5, v6, v7, v8, v9] T (0, 0)) ∧ Chg (fun k => k = g) w ((((((((((w.setCell ⟨g, 0, none⟩ v0).setCell ⟨g, 1, none⟩ v1).setCell ⟨g, 2, none⟩ v2).setCell ⟨g, 3, none⟩ v3).setCell ⟨g, 4, none⟩ v4).setCell ⟨g, 5, none⟩ v5).setCell ⟨g, 6, none⟩ v6).setCell ⟨g, 7, none⟩ v7).setCell ⟨g, 8, none⟩ v8).setCell ⟨g, 9, none⟩ v9) := by
  have c0 : w.cell? ⟨g, 0, none⟩ = some u0 := cell_of_block b0 rfl
  have f0 : w.frozen? ⟨g, 0, none⟩ = false := frozen_of_block b0
  have b1 : (w.setCell ⟨g, 0, none⟩ v0).heap[g]? = some (.cells #[v0, u1, u2, u3, u4, u5, u6, u7, u8, u9] T (0, 0)) := setCell_block (i := 0) v0 b0
  have c1 : (w.setCell ⟨g, 0, none⟩ v0).cell? ⟨g, 1, none⟩ = some u1 := cell_of_block b1 rfl
  have f1 : (w.setCell ⟨g, 0, none⟩ v0).frozen? ⟨g, 1, none⟩ = false := frozen_of_block b1
  have b2 : ((w.setCell ⟨g, 0, none⟩ v0).setCell ⟨g, 1, none⟩ v1).heap[g]? = some (.cells #[v0, v1, u2, u3, u4, u5, u6, u7, u8, u9] T (0, 0)) := setCell_block (i := 1) v1 b1
  have c2 : ((w.setCell ⟨g, 0, none⟩ v0).setCell ⟨g, 1, none⟩ v1).cell? ⟨g, 2, none⟩ = some u2 := cell_of_block b2 rfl
  have f2 : ((w.setCell ⟨g, 0, none⟩ v0).setCell ⟨g, 1, none⟩ v1).frozen? ⟨g, 2, none⟩ = false := frozen_of_block b2
  have b3 : (((w.setCell ⟨g, 0, none⟩ v0).setCell ⟨g, 1, none⟩ v1).setCell ⟨g, 2, none⟩ v2).heap[g]? = some (.cells #[v0, v1, v2, u3, u4, u5, u6, u7, u8, u9] T (0, 0)) := setCell_block (i := 2) v2 b2
  have c3 : (((w.setCell ⟨g, 0, none⟩ v0).setCell ⟨g, 1, none⟩ v1).setCell ⟨g, 2, none⟩ v2).cell? ⟨g, 3, none⟩ = some u3 := cell_of_block b3 rfl
  have f3 : (((w.setCell ⟨g, 0, none⟩ v0).setCell ⟨g, 1, none⟩ v1).setCell ⟨g, 2, none⟩ v2).frozen? ⟨g, 3, none⟩ = false := frozen_of_block b3
  have b4 : ((((w.setCell ⟨g, 0, none⟩ v0).setCell ⟨g, 1, none⟩ v1).setCell ⟨g, 2, none⟩ v2).setCell ⟨g, 3, none⟩ v3).heap[g]? = some (.cells #[v0, v1, v2, v3, u4, u5, u6, u7, u8, u9] T (0, 0)) := setCell_block (i := 3) v3 b3
  have c4 : ((((w.setCell ⟨g, 0, none⟩ v0).setCell ⟨g, 1, none⟩ v1).setCell ⟨g, 2, none⟩ v2).setCell ⟨g, 3, none⟩ v3).cell? ⟨g, 4, none⟩ = some u4 := cell_of_block b4 rfl
  have f4 : ((((w.setCell ⟨g, 0, none⟩ v0).setCell ⟨g, 1, none⟩ v1).setCell ⟨g, 2, none⟩ v2).setCell ⟨g, 3, none⟩ v3).frozen? ⟨g, 4, none⟩ = false := frozen_of_block b4
  have b5 : (((((w.setCell ⟨g, 0, none⟩ v0).setCell ⟨g, 1, none⟩ v1).setCell ⟨g, 2, none⟩ v2).setCell ⟨g, 3, none⟩ v3).setCell ⟨g, 4, none⟩ v4).heap[g]? = some (.cells #[v0, v1, v2, v3, v4, u5, u6, u7, u8, u9] T (0, 0)) := setCell_block (i := 4) v4 b4
  have c5 : (((((w.setCell ⟨g, 0, none⟩ v0).setCell ⟨g, 1, none⟩ v1).setCell ⟨g, 2, none⟩ v2).setCell ⟨g, 3, none⟩ v3).setCell ⟨g, 4, none⟩ v4).cell? ⟨g, 5, none⟩ = some u5 := cell_of_block b5 rfl
  have f5 : (((((w.setCell ⟨g, 0, none⟩ v0).setCell ⟨g, 1, none⟩ v1).setCell ⟨g, 2, none⟩ v2).setCell ⟨g, 3, none⟩ v3).setCell ⟨g, 4, none⟩ v4).frozen? ⟨g, 5, none⟩ = false := frozen_of_block b5
  have b6 : ((((((w.setCell ⟨g, 0, none⟩ v0).setCell ⟨g, 1, none⟩ v1).setCell ⟨g, 2, none⟩ v2).setCell ⟨g, 3, none⟩ v3).setCell ⟨g, 4, none⟩ v4).setCell ⟨g, 5, none⟩ v5).heap[g]? = some (.cells #[v0, v1, v2, v3, v4, v5, u6, u7, u8, u9] T (0, 0)) := setCell_block (i := 5) v5 b5
  have c6 : ((((((w.setCell ⟨g, 0, none⟩ v0).setCell ⟨g, 1, none⟩ v1).setCell ⟨g, 2, none⟩ v2).setCell ⟨g, 3, none⟩ v3).setCell ⟨g, 4, none⟩ v4).setCell ⟨g, 5, none⟩ v5).cell? ⟨g, 6, none⟩ = some u6 := cell_of_block b6 rfl
  have f6 : ((((((w.setCell ⟨g, 0, none⟩ v0).setCell ⟨g, 1, none⟩ v1).setCell ⟨g, 2, none⟩ v2).setCell ⟨g, 3, none⟩ v3).setCell ⟨g, 4, none⟩ v4).setCell ⟨g, 5, none⟩ v5).frozen? ⟨g, 6, none⟩ = false := frozen_of_block b6
  have b7 : (((((((w.setCell ⟨g, 0, none⟩ v0).setCell ⟨g, 1, none⟩ v1).setCell ⟨g, 2, none⟩ v2).setCell ⟨g, 3, none⟩ v3).setCell ⟨g, 4, none⟩ v4).setCell ⟨g, 5, none⟩ v5).setCell ⟨g, 6, none⟩ v6).heap[g]? = some (.cells #[v0, v1, v2, v3, v4, v5, v6, u7, u8, u9] T (0, 0)) := setCell_block (i := 6) v6 b6
  have c7 : (((((((w.setCell ⟨g, 0, none⟩ v0).setCell ⟨g, 1, none⟩ v1).setCell ⟨g, 2, none⟩ v2).setCell ⟨g, 3, none⟩ v3).setCell ⟨g, 4, none⟩ v4).setCell ⟨g, 5, none⟩ v5).setCell ⟨g, 6, none⟩ v6).cell? ⟨g, 7, none⟩ = some u7 := cell_of_block b7 rfl
  have f7 : (((((((w.setCell ⟨g, 0, none⟩ v0).setCell ⟨g, 1, none⟩ v1).setCell ⟨g, 2, none⟩ v2).setCell ⟨g, 3, none⟩ v3).setCell ⟨g, 4, none⟩ v4).setCell ⟨g, 5, none⟩ v5).setCell ⟨g, 6, none⟩ v6).frozen? ⟨g, 7, none⟩ = false := frozen_of_block b7
  have b8 : ((((((((w.setCell ⟨g, 0, none⟩ v0).setCell ⟨g, 1, none⟩ v1).setCell ⟨g, 2, none⟩ v2).setCell ⟨g, 3, none⟩ v3).setCell ⟨g, 4, none⟩ v4).setCell ⟨g, 5, none⟩ v5).setCell ⟨g, 6, none⟩ v6).setCell ⟨g, 7, none⟩ v7).heap[g]? = some (.cells #[v0, v1, v2, v3, v4, v5, v6, v7, u8, u9] T (0, 0)) := setCell_block (i := 7) v7 b7
  have c8 : ((((((((w.setCell ⟨g, 0, none⟩ v0).setCell ⟨g, 1, none⟩ v1).setCell ⟨g, 2, none⟩ v2).setCell ⟨g, 3, none⟩ v3).setCell ⟨g, 4, none⟩ v4).setCell ⟨g, 5, none⟩ v5).setCell ⟨g, 6, none⟩ v6).setCell ⟨g, 7, none⟩ v7).cell? ⟨g, 8, none⟩ = some u8 := cell_of_block b8 rfl
  have f8 : ((((((((w.setCell ⟨g, 0, none⟩ v0).setCell ⟨g, 1, none⟩ v1).setCell ⟨g, 2, none⟩ v2).setCell ⟨g, 3, none⟩ v3).setCell ⟨g, 4, none⟩ v4).setCell ⟨g, 5, none⟩ v5).setCell ⟨g, 6, none⟩ v6).setCell ⟨g, 7, none⟩ v7).frozen? ⟨g, 8, none⟩ = false := frozen_of_block b8
  have b9 : (((((((((w.setCell ⟨g, 0, none⟩ v0).setCell ⟨g, 1, none⟩ v1).setCell ⟨g, 2, none⟩ v2).setCell ⟨g, 3, none⟩ v3).setCell ⟨g, 4, none⟩ v4).setCell ⟨g, 5, none⟩ v5).setCell ⟨g, 6, none⟩ v6).setCell ⟨g, 7, none⟩ v7).setCell ⟨g, 8, none⟩ v8).heap[g]? = some (.cells #[v0, v1, v2, v3, v4, v5, v6, v7, v8, u9] T (0, 0)) := setCell_block (i := 8) v8 b8
  have c9 : (((((((((w.setCell ⟨g, 0, none⟩ v0).setCell ⟨g, 1, none⟩ v1).setCell ⟨g, 2, none⟩ v2).setCell ⟨g, 3, none⟩ v3).setCell ⟨g, 4, none⟩ v4).setCell ⟨g, 5, none⟩ v5).setCell ⟨g, 6, none⟩ v6).setCell ⟨g, 7, none⟩ v7).setCell ⟨g, 8, none⟩ v8).cell? ⟨g, 9, none⟩ = some u9 := cell_of_block b9 rfl
  have f9 : (((((((((w.setCell ⟨g, 0, none⟩ v0).setCell ⟨g, 1, none⟩ v1).setCell ⟨g, 2, none⟩ v2).setCell ⟨g, 3, none⟩ v3).setCell ⟨g, 4, none⟩ v4).setCell ⟨g, 5, none⟩ v5).setCell ⟨g, 6, none⟩ v6).setCell ⟨g, 7, none⟩ v7).setCell ⟨g, 8, none⟩ v8).frozen? ⟨g, 9, none⟩ = false := frozen_of_block b9
  have b10 : ((((((((((w.setCell ⟨g, 0, none⟩ v0).setCell ⟨g, 1, none⟩ v1).setCell ⟨g, 2, none⟩ v2).setCell ⟨g, 3, none⟩ v3).setCell ⟨g, 4, none⟩ v4).setCell ⟨g, 5, none⟩ v5).setCell ⟨g, 6, none⟩ v6).setCell ⟨g, 7, none⟩ v7).setCell ⟨g, 8, none⟩ v8).setCell ⟨g, 9, none⟩ v9).heap[g]? = some (.cells #[v0, v1, v2, v3, v4, v5, v6, v7, v8, v9] T (0, 0)) := setCell_block (i := 9) v9 b9
  exact ⟨c0, f0, c1, f1, c2, f2, c3, f3, c4, f4, c5, f5, c6, f6, c7, f7, c8, f8, c9, f9, b10, chg_put (chg_put (chg_put (chg_put (chg_put (chg_put (chg_put (chg_put (chg_put (chg_put (Chg.refl _ _))))))))))⟩

def getO (hp : Hp) (h : Int) : Obj := match slotOf hp h with | some i => (hp.slots.getD i noSlt).obj | none => noSlt.obj
theorem objCells {w : World} {g o : Nat} {x : Obj} {G : List Nat} (H : Here objR w g o x G) : ∃ a1 n1 c1 a2 n2 c2 a3 n3 c3 a4 n4 c4, RowAt w 36 4 (.slice a3 n3 c3) x.data.length (x.data.flatMap Val.cells) ∧ (∀ k, (Value.slice a3 n3 c3).ownBlock = some k → k ∈ G) ∧ w.cell? ⟨g, o, none⟩ = some (.int .i64 x.kind) ∧ w.cell? ⟨g, o + 1, none⟩ = some (.int .i64 x.proto) ∧ w.cell? ⟨g, o + 2, none⟩ = some (.slice a1 n1 c1) ∧ w.cell? ⟨g, o + 3, none⟩ = some (.slice a2 n2 c2) ∧ w.cell? ⟨g, o + 4, none⟩ = some (.slice a3 n3 c3) ∧ w.cell? ⟨g, o + 5, none⟩ = some (.int .i64 x.code) ∧ w.cell? ⟨g, o + 6, none⟩ = some (.int .i64 x.env) ∧ w.cell? ⟨g, o + 7, none⟩ = some (.int .i64 x.cls) ∧ w.cell? ⟨g, o + 8, none⟩ = some (.int .i64 x.ref) ∧ w.cell? ⟨g, o + 9, none⟩ = some (.slice a4 n4 c4) := by
  obtain ⟨cs, ⟨vp, ve, vd, vs, F1, F2, F3, F4, rfl, h1, h2, h3, h4, hG⟩, hc⟩ := H.cell
  obtain ⟨v3, e3, r3, eF3⟩ := row_flat.1 h3
  obtain rfl : vd = v3 := by simpa using e3
  obtain ⟨_, _, p1⟩ := Rep.opened h1
  obtain ⟨a1, c1, rfl, -, -⟩ := p1.val
  obtain ⟨_, _, p2⟩ := Rep.opened h2
  obtain ⟨a2, c2, rfl, -, -⟩ := p2.val
  obtain ⟨a3, c3, rfl, -⟩ := r3.slice
  obtain ⟨_, _, p4⟩ := Rep.opened h4
  obtain ⟨a4, c4, rfl, -, -⟩ := p4.val
  exact ⟨a1, _, c1, a2, _, c2, a3, _, c3, a4, _, c4, r3, (fun k hk => by rw [hG, eF3]; simp [mem_ownL, hk]), hc 0 _ rfl, hc 1 _ rfl, hc 2 _ rfl, hc 3 _ rfl, hc 4 _ rfl, hc 5 _ rfl, hc 6 _ rfl, hc 7 _ rfl, hc 8 _ rfl, hc 9 _ rfl⟩
end Go.Proofs.YtjianickjahdnaaDoor
namespace Go.Proofs.YtjianickjahdnaaDoor
open Go.RowKit
set_option linter.unusedVariables false
set_option linter.unusedSimpArgs false

set_option maxHeartbeats 6400000 in
set_option maxRecDepth 100000 in
theorem own_not (w : World) (b : Nat) (hp : Hp) (F : List Nat) (h : Int) (i : Nat) (key : ByteArray) (H : Here hpR w b 0 hp F) (hi : -9223372036854775808 ≤ h ∧ h ≤ 9223372036854775807) (hs : slotOf hp h = some i) (hl : i < hp.slots.length) (hk : hp.slots[i].obj.kind ≠ 1)
    (hf : findP key hp.slots[i].obj.props 0 = none) :
    Calls Tryd.prog 23 #[.pointer (some ⟨b, 0, none⟩), .int .i64 h, .string key] w fun e w' => e = .returned (.tuple #[.agg #[.int .i64 0, .int .i64 0, .string ⟨#[]⟩, .int .i64 0], .bool false]) ∧ Chg (fun _ => False) w w' := by
  have hca := Chg.alloc (fun _ => False) w (.cells #[.int .i64 0, .int .i64 0, .string ⟨#[]⟩, .int .i64 0] 36)
  have kb := alloc_block w (.cells #[.int .i64 0, .int .i64 0, .string ⟨#[]⟩, .int .i64 0] 36)
  have HKB := Lib.hid kb
  obtain ⟨gh, oh, kh, c2, G, HOBJ0, hGF, hput⟩ := hpPut H hl
  obtain ⟨vp, ve, vd, vs, HOC⟩ := objOpen HOBJ0
  have z1 : (hp.slots[i].obj.kind == 1) = false := beq_false_of_ne hk
  have hat := hat_any _ b 0 hp F h _ (H.still hca) (by rw [Nat.zero_add]; exact hca.cell c2) hi
  rw [hs, show objPtr (.slice (some ⟨gh, oh, none⟩) hp.slots.length kh) (some i) = some ⟨gh, oh + i * 11 + 1, none⟩ from rfl] at hat
  have HAT := Lib.hid hat
  have HC0 := Lib.hid HOC.c0
  have HC2 := Lib.hid HOC.c2
  have HRP := Lib.hid HOC.rp
  generalize hp.slots[i].obj = x at *
  have HCA := Lib.hid hca
  have HF := Lib.hid hf
  clear kb hca HOBJ0 hGF hput HOC c2 hi hs H hk hat hf
  go_enter Tryd.func23, Tryd.ntmps23
  go_upto_region 1 with fail
  generalize w.alloc (.cells #[.int .i64 0, .int .i64 0, .string ⟨#[]⟩, .int .i64 0] 36) = w1 at *
  generalize hb6 : w.heap.size = b6 at *
  have HB6 := Lib.hid hb6
  clear hb6
  go_upto_region 4 with (go_at_call 35; refine HAT.out.mono ?_; rintro e wa ⟨rfl, hca⟩)
  have HC1 := Lib.hid (HCA.out.trans' hca)
  have HKB2 := Lib.hid (hca.keep HKB.out (fun x => x))
  have c0 := HC1.out.cell HC0.out
  have HPL := Lib.hid (place_any wa gh (oh + i * 11 + 1) _ x.props key (HC1.out.cell HC2.out) (HRP.out.chg HC1.out (fun _ _ x => x)))
  rw [HF.out] at HPL
  clear hca HAT HKB HCA
  go_upto_region 13 with (go_at_call 43; refine HPL.out.mono ?_; rintro e w5 ⟨rfl, hc5⟩)
  have HC5 := Lib.hid (HC1.out.trans' hc5)
  have HK5 := Lib.hid (hc5.keep HKB2.out (fun x => x))
  clear hc5 HPL c0 z1
  rw [show idxP none = -1 from rfl]
  obtain ⟨z0, q0, z1, q1, z2, q2, z3, q3, hbf, hcs⟩ := store4 HK5.out (.int .i64 0) (.int .i64 0) (.string ⟨#[]⟩) (.int .i64 0)
  go_wp2_with fail
  generalize ((((w5.setCell ⟨b6, 0, none⟩ (.int .i64 0)).setCell ⟨b6, 1, none⟩ (.int .i64 0)).setCell ⟨b6, 2, none⟩ (.string ⟨#[]⟩)).setCell ⟨b6, 3, none⟩ (.int .i64 0)) = wz at *
  refine bodyPost_ret (results_cell_row_tmp rfl _ _ b6 #[.int .i64 0, .int .i64 0, .string ⟨#[]⟩, .int .i64 0] (by rfl) (run_loadVar_row _ b6 36 36 _ _ _ hbf Tryd.underlying36 rfl (by kernel_rfl))) rfl ?_
  exact ⟨rfl, HC5.out.trans hcs (fun _ _ x => x) (fun k hk e => by have := HB6.out; omega)⟩
set_option maxHeartbeats 6400000 in
set_option maxRecDepth 100000 in
theorem own_has (w : World) (b : Nat) (hp : Hp) (F : List Nat) (h : Int) (i : Nat) (key : ByteArray) (j : Nat) (H : Here hpR w b 0 hp F) (hi : -9223372036854775808 ≤ h ∧ h ≤ 9223372036854775807) (hs : slotOf hp h = some i) (hl : i < hp.slots.length) (hk : hp.slots[i].obj.kind ≠ 1)
    (hf : findP key hp.slots[i].obj.props 0 = some j) (hj : j < hp.slots[i].obj.props.length) (hlp : hp.slots[i].obj.props.length ≤ 1000000) :
    Calls Tryd.prog 23 #[.pointer (some ⟨b, 0, none⟩), .int .i64 h, .string key] w fun e w' => e = .returned (.tuple #[.agg #[.int .i64 hp.slots[i].obj.props[j].vkind, .int .i64 hp.slots[i].obj.props[j].vint, .string hp.slots[i].obj.props[j].vstr, .int .i64 hp.slots[i].obj.props[j].vref], .bool true]) ∧ Chg (fun _ => False) w w' := by
  have hca := Chg.alloc (fun _ => False) w (.cells #[.int .i64 0, .int .i64 0, .string ⟨#[]⟩, .int .i64 0] 36)
  have kb := alloc_block w (.cells #[.int .i64 0, .int .i64 0, .string ⟨#[]⟩, .int .i64 0] 36)
  have HKB := Lib.hid kb
  obtain ⟨gh, oh, kh, c2, G, HOBJ0, hGF, hput⟩ := hpPut H hl
  obtain ⟨vp, ve, vd, vs, HOC⟩ := objOpen HOBJ0
  have z1 : (hp.slots[i].obj.kind == 1) = false := beq_false_of_ne hk
  have hat := hat_any _ b 0 hp F h _ (H.still hca) (by rw [Nat.zero_add]; exact hca.cell c2) hi
  rw [hs, show objPtr (.slice (some ⟨gh, oh, none⟩) hp.slots.length kh) (some i) = some ⟨gh, oh + i * 11 + 1, none⟩ from rfl] at hat
  have HAT := Lib.hid hat
  have HC0 := Lib.hid HOC.c0
  have HC2 := Lib.hid HOC.c2
  have HRP := Lib.hid HOC.rp
  generalize hp.slots[i].obj = x at *
  have HCA := Lib.hid hca
  have HF := Lib.hid hf
  clear kb hca HOBJ0 hGF hput HOC c2 hi hs H hk hat hf
  go_enter Tryd.func23, Tryd.ntmps23
  go_upto_region 1 with fail
  generalize w.alloc (.cells #[.int .i64 0, .int .i64 0, .string ⟨#[]⟩, .int .i64 0] 36) = w1 at *
  generalize hb6 : w.heap.size = b6 at *
  have HB6 := Lib.hid hb6
  clear hb6
  go_upto_region 4 with (go_at_call 35; refine HAT.out.mono ?_; rintro e wa ⟨rfl, hca⟩)
  have HC1 := Lib.hid (HCA.out.trans' hca)
  have HKB2 := Lib.hid (hca.keep HKB.out (fun x => x))
  have c0 := HC1.out.cell HC0.out
  have HPL := Lib.hid (place_any wa gh (oh + i * 11 + 1) _ x.props key (HC1.out.cell HC2.out) (HRP.out.chg HC1.out (fun _ _ x => x)))
  rw [HF.out] at HPL
  clear hca HAT HKB HCA
  go_upto_region 13 with (go_at_call 43; refine HPL.out.mono ?_; rintro e w5 ⟨rfl, hc5⟩)
  have HC5 := Lib.hid (HC1.out.trans' hc5)
  have HK5 := Lib.hid (hc5.keep HKB2.out (fun x => x))
  have c2 := HC5.out.cell HC2.out
  clear hc5 HPL c0 z1
  rw [show idxP (some j) = (j : Int) from rfl]
  have hr2 := HRP.out.chg HC5.out (fun _ _ x => x)
  obtain ⟨gp, opp, cp, rfl, -, -⟩ := hr2.addr (by omega)
  have hcells : ∀ t u, x.props[j].cells[t]? = some u → t < 5 → w5.cell? ⟨gp, opp + j * 5 + t, none⟩ = some u := fun t u hu ht => by
    rw [Nat.add_assoc]
    exact hr2.cellAt (j * 5 + t) u (by rw [flat_get _ 5 Prp.len x.props j t hj ht]; exact hu)
  have p1 := hcells 1 _ rfl (by omega)
  have p2 := hcells 2 _ rfl (by omega)
  have p3 := hcells 3 _ rfl (by omega)
  have p4 := hcells 4 _ rfl (by omega)
  have j0 : (0 : Int) ≤ (j : Int) := by omega
  have j1 : (j : Int) < (x.props.length : Int) := by omega
  obtain ⟨z0, q0, z1, q1, z2, q2, z3, q3, hbf, hcs⟩ := store4 HK5.out (.int .i64 x.props[j].vkind) (.int .i64 x.props[j].vint) (.string x.props[j].vstr) (.int .i64 x.props[j].vref)
  clear hcells hr2
  go_wp2_with fail
  generalize ((((w5.setCell ⟨b6, 0, none⟩ (.int .i64 x.props[j].vkind)).setCell ⟨b6, 1, none⟩ (.int .i64 x.props[j].vint)).setCell ⟨b6, 2, none⟩ (.string x.props[j].vstr)).setCell ⟨b6, 3, none⟩ (.int .i64 x.props[j].vref)) = wz at *
  refine bodyPost_ret (results_cell_row_tmp rfl _ _ b6 #[.int .i64 x.props[j].vkind, .int .i64 x.props[j].vint, .string x.props[j].vstr, .int .i64 x.props[j].vref] (by rfl) (run_loadVar_row _ b6 36 36 _ _ _ hbf Tryd.underlying36 rfl (by kernel_rfl))) rfl ?_
  exact ⟨rfl, HC5.out.trans hcs (fun _ _ x => x) (fun k hk e => by have := HB6.out; omega)⟩
set_option maxHeartbeats 6400000 in
set_option maxRecDepth 100000 in
theorem own_nil (w : World) (b : Nat) (hp : Hp) (F : List Nat) (h : Int) (key : ByteArray) (H : Here hpR w b 0 hp F) (hi : -9223372036854775808 ≤ h ∧ h ≤ 9223372036854775807) (hs : slotOf hp h = none) :
    Calls Tryd.prog 23 #[.pointer (some ⟨b, 0, none⟩), .int .i64 h, .string key] w fun e w' => e = .returned (.tuple #[.agg #[.int .i64 0, .int .i64 0, .string ⟨#[]⟩, .int .i64 0], .bool false]) ∧ Chg (fun _ => False) w w' := by
  have hca := Chg.alloc (fun _ => False) w (.cells #[.int .i64 0, .int .i64 0, .string ⟨#[]⟩, .int .i64 0] 36)
  have kb := alloc_block w (.cells #[.int .i64 0, .int .i64 0, .string ⟨#[]⟩, .int .i64 0] 36)
  have HKB := Lib.hid kb
  obtain ⟨-, -, ⟨a, cap, c2⟩, -⟩ := hpCells H
  have hat := hat_any _ b 0 hp F h _ (H.still hca) (hca.cell c2) hi
  rw [hs, show objPtr (.slice a hp.slots.length cap) none = none by unfold objPtr; split <;> simp_all] at hat
  have HAT := Lib.hid hat
  have HCA := Lib.hid hca
  clear kb hca c2 hi hs H hat
  go_enter Tryd.func23, Tryd.ntmps23
  go_upto_region 1 with fail
  generalize w.alloc (.cells #[.int .i64 0, .int .i64 0, .string ⟨#[]⟩, .int .i64 0] 36) = w1 at *
  generalize hb6 : w.heap.size = b6 at *
  have HB6 := Lib.hid hb6
  clear hb6
  go_upto_region 2 with (go_at_call 35; refine HAT.out.mono ?_; rintro e wa ⟨rfl, hca⟩)
  have HC1 := Lib.hid (HCA.out.trans' hca)
  have HK5 := Lib.hid (hca.keep HKB.out (fun x => x))
  clear hca HAT HKB HCA
  obtain ⟨z0, q0, z1, q1, z2, q2, z3, q3, hbf, hcs⟩ := store4 HK5.out (.int .i64 0) (.int .i64 0) (.string ⟨#[]⟩) (.int .i64 0)
  go_wp2_with fail
  generalize ((((wa.setCell ⟨b6, 0, none⟩ (.int .i64 0)).setCell ⟨b6, 1, none⟩ (.int .i64 0)).setCell ⟨b6, 2, none⟩ (.string ⟨#[]⟩)).setCell ⟨b6, 3, none⟩ (.int .i64 0)) = wz at *
  refine bodyPost_ret (results_cell_row_tmp rfl _ _ b6 #[.int .i64 0, .int .i64 0, .string ⟨#[]⟩, .int .i64 0] (by rfl) (run_loadVar_row _ b6 36 36 _ _ _ hbf Tryd.underlying36 rfl (by kernel_rfl))) rfl ?_
  exact ⟨rfl, HC1.out.trans hcs (fun _ _ x => x) (fun k hk e => by have := HB6.out; omega)⟩
end Go.Proofs.YtjianickjahdnaaDoor
namespace Go.Proofs.YtjianickjahdnaaDoor
open Go.RowKit
set_option linter.unusedVariables false
set_option linter.unusedSimpArgs false

/-- Four cells of a block stored one after the other. -/
theorem store4At {w : World} {g T o : Nat} {c : Array Value} (b0 : w.heap[g]? = some (.cells c T (0, 0))) (hc : o + 4 ≤ c.size) (v0 v1 v2 v3 : Value) : ∃ u0 u1 u2 u3,
    (w.cell? ⟨g, o, none⟩ = some u0 ∧ w.frozen? ⟨g, o, none⟩ = false) ∧
    ((w.setCell ⟨g, o, none⟩ v0).cell? ⟨g, o + 1, none⟩ = some u1 ∧ (w.setCell ⟨g, o, none⟩ v0).frozen? ⟨g, o + 1, none⟩ = false) ∧
    (((w.setCell ⟨g, o, none⟩ v0).setCell ⟨g, o + 1, none⟩ v1).cell? ⟨g, o + 2, none⟩ = some u2 ∧ ((w.setCell ⟨g, o, none⟩ v0).setCell ⟨g, o + 1, none⟩ v1).frozen? ⟨g, o + 2, none⟩ = false) ∧
    ((((w.setCell ⟨g, o, none⟩ v0).setCell ⟨g, o + 1, none⟩ v1).setCell ⟨g, o + 2, none⟩ v2).cell? ⟨g, o + 3, none⟩ = some u3 ∧ (((w.setCell ⟨g, o, none⟩ v0).setCell ⟨g, o + 1, none⟩ v1).setCell ⟨g, o + 2, none⟩ v2).frozen? ⟨g, o + 3, none⟩ = false) := by
  have b1 := setCell_block (i := o) v0 b0
  have b2 := setCell_block (i := o + 1) v1 b1
  have b3 := setCell_block (i := o + 2) v2 b2
  have get : ∀ (d : Array Value) (k : Nat), k < d.size → d[k]? = some d[k]! := fun d k hk => by
    rw [Array.getElem?_eq_getElem hk]; simp [hk]
  exact ⟨_, _, _, _, ⟨cell_of_block b0 (get _ _ (by omega)), frozen_of_block b0⟩, ⟨cell_of_block b1 (get _ _ (by simp; omega)), frozen_of_block b1⟩, ⟨cell_of_block b2 (get _ _ (by simp; omega)), frozen_of_block b2⟩, ⟨cell_of_block b3 (get _ _ (by simp; omega)), frozen_of_block b3⟩⟩
set_option maxHeartbeats 6400000 in
set_option maxRecDepth 100000 in
theorem put_new (w : World) (b : Nat) (hp : Hp) (F : List Nat) (h : Int) (i : Nat) (key : ByteArray) (x y : Val) (H : Here hpR w b 0 hp F) (hi : -9223372036854775808 ≤ h ∧ h ≤ 9223372036854775807) (hs : slotOf hp h = some i) (hl : i < hp.slots.length) (hk : hp.slots[i].obj.kind ≠ 1)
    (HN : ∀ W, Chg (fun _ => False) w W → Calls Tryd.prog 37 #[.agg #[.int .i64 x.kind, .int .i64 x.int, .string x.str, .int .i64 x.ref]] W fun e w' => e = .returned (.agg #[.int .i64 y.kind, .int .i64 y.int, .string y.str, .int .i64 y.ref]) ∧ Chg (fun _ => False) W w') (hf : findP key hp.slots[i].obj.props 0 = none) (hlp : hp.slots[i].obj.props.length < 10000) :
    Calls Tryd.prog 24 #[.pointer (some ⟨b, 0, none⟩), .int .i64 h, .string key, .agg #[.int .i64 x.kind, .int .i64 x.int, .string x.str, .int .i64 x.ref]] w fun e w' => e = .returned (.int .i64 0) ∧ Post hpR w b 0 (putO hp i { hp.slots[i].obj with props := hp.slots[i].obj.props ++ [⟨key, y.kind, y.int, y.str, y.ref⟩] }) F w' := by
  have hca := Chg.alloc (fun _ => False) w (.cells #[.int .i64 x.kind, .int .i64 x.int, .string x.str, .int .i64 x.ref] 36)
  have kb := alloc_block w (.cells #[.int .i64 x.kind, .int .i64 x.int, .string x.str, .int .i64 x.ref] 36)
  have HKB := Lib.hid kb
  have H2 := H.still hca
  obtain ⟨gh, oh, kh, c2, G, HOBJ0, hGF, hput⟩ := hpPut H hl
  obtain ⟨vp, ve, vd, vs, HOC⟩ := objOpen HOBJ0
  obtain ⟨p, cap, rfl, -⟩ := HOC.rp.slice
  have hrlt := HOC.rp.lt
  have c0 := HOC.c0
  have z1 : (hp.slots[i].obj.kind == 1) = false := beq_false_of_ne hk
  have hat := hat_any _ b 0 hp F h _ H2 (by rw [Nat.zero_add]; exact hca.cell c2) hi
  rw [hs, show objPtr (.slice (some ⟨gh, oh, none⟩) hp.slots.length kh) (some i) = some ⟨gh, oh + i * 11 + 1, none⟩ from rfl] at hat
  have HAT := Lib.hid hat
  have HNN := Lib.hid HN
  have HC2 := Lib.hid HOC.c2
  have HRP := Lib.hid HOC.rp
  generalize hx : hp.slots[i].obj = o_ at *
  have HX := Lib.hid hx
  have HC0 := Lib.hid c0
  have HCA := Lib.hid hca
  have HOB := Lib.hid HOBJ0
  have HPT := Lib.hid hput
  have HRLT := Lib.hid hrlt
  have HBS : Hid (∀ k ∈ G, k < w.heap.size) := Lib.hid (fun k hk => H.lt.2 k (hGF k hk))
  clear kb hca H2 c2 HOBJ0 hrlt hGF hput HOC c0 hi hs H hx hk hat HN
  go_enter Tryd.func24, Tryd.ntmps24
  go_upto_region 1 with fail
  generalize hw2 : w.alloc (.cells #[.int .i64 x.kind, .int .i64 x.int, .string x.str, .int .i64 x.ref] 36) = w1 at *
  generalize hb7 : w.heap.size = b7 at *
  have HB7E := Lib.hid hb7
  clear hw2 hb7
  go_upto_region 4 with (go_at_call 35; refine HAT.out.mono ?_; rintro e wa ⟨rfl, hca⟩)
  have HC1 := Lib.hid (HCA.out.trans' hca)
  have HKB2 := Lib.hid (hca.keep HKB.out (fun x => x))
  have k0 := cell_of_block (i := 0) HKB2.out rfl
  have k1 := cell_of_block (i := 1) HKB2.out rfl
  have k2 := cell_of_block (i := 2) HKB2.out rfl
  have k3 := cell_of_block (i := 3) HKB2.out rfl
  simp only [List.getElem_toArray, List.getElem_cons_zero, List.getElem_cons_succ] at k0 k1 k2 k3
  clear hca HAT HKB
  go_upto_region 5 with (go_at_call 37; refine (HNN.out _ HC1.out).mono ?_; rintro e wn ⟨rfl, hcn⟩; have hbn := hcn.keep HKB2.out (fun x => x); obtain ⟨z10, q0, z11, q1, z12, q2, z13, q3, hbf, hcs⟩ := store4 hbn (.int .i64 y.kind) (.int .i64 y.int) (.string y.str) (.int .i64 y.ref))
  have HB7 := Lib.hid hbf
  have hc4 : Chg (fun _ => False) w (((((wn.setCell ⟨b7, 0, none⟩ (.int .i64 y.kind)).setCell ⟨b7, 1, none⟩ (.int .i64 y.int)).setCell ⟨b7, 2, none⟩ (.string y.str)).setCell ⟨b7, 3, none⟩ (.int .i64 y.ref))) := (HC1.out.trans' hcn).trans hcs (fun _ _ x => x) (fun k hk e => by have := HB7E.out; omega)
  clear hbf hcs hcn hbn z10 q0 z11 q1 z12 q2 z13 q3 k0 k1 k2 k3
  generalize ((((wn.setCell ⟨b7, 0, none⟩ (.int .i64 y.kind)).setCell ⟨b7, 1, none⟩ (.int .i64 y.int)).setCell ⟨b7, 2, none⟩ (.string y.str)).setCell ⟨b7, 3, none⟩ (.int .i64 y.ref)) = w4 at *
  have c0 := hc4.cell HC0.out
  have HPL := Lib.hid (place_any w4 gh (oh + i * 11 + 1) _ o_.props key (hc4.cell HC2.out) (HRP.out.chg hc4 (fun _ _ x => x)))
  have HF := Lib.hid hf
  have HC4 := Lib.hid hc4
  clear hc4 hf HNN HKB2 HC1 HCA
  rw [HF.out] at HPL
  go_upto_region 18 with (go_at_call 43; refine HPL.out.mono ?_; rintro e w5 ⟨rfl, hc5⟩)
  have HC5 := Lib.hid (HC4.out.trans' hc5)
  have HY7 := Lib.hid (hc5.keep HB7.out (fun x => x))
  have c2 := HC5.out.cell HC2.out
  clear hc5 HPL c0 z1
  have HOB5 := Lib.hid (HOB.out.still HC5.out)
  have n0 := cell_of_block (i := 0) HY7.out rfl
  have n1 := cell_of_block (i := 1) HY7.out rfl
  have n2 := cell_of_block (i := 2) HY7.out rfl
  have n3 := cell_of_block (i := 3) HY7.out rfl
  simp only [List.getElem_toArray, List.getElem_cons_zero, List.getElem_cons_succ] at n0 n1 n2 n3
  have HS0 : Hid (w5.cell? ⟨gh, oh + i * 11 + 1 + 2, none⟩ = some (.slice p o_.props.length cap) ∧ w5.cell? ⟨b7, 0, none⟩ = some (.int .i64 y.kind) ∧ w5.cell? ⟨b7, 1, none⟩ = some (.int .i64 y.int) ∧ w5.cell? ⟨b7, 2, none⟩ = some (.string y.str) ∧ w5.cell? ⟨b7, 3, none⟩ = some (.int .i64 y.ref)) := Lib.hid ⟨c2, n0, n1, n2, n3⟩
  clear n0 n1 n2 n3
  have pl : (o_.props.length : Int) < 10000 := by omega
  have HLE := Lib.hid hlp
  clear hlp
  rw [show idxP none = -1 from rfl]
  obtain ⟨p', cap', xs', Fs, Fr, c2', hopen, ff0, hstay, hback⟩ := HOB5.out.fieldAppending objR_props (by show 0 < 10; decide)
  have hpe : p' = p ∧ cap' = cap := by
    rw [c2] at c2'
    cases c2'
    exact ⟨rfl, rfl⟩
  obtain ⟨rfl, rfl⟩ := hpe
  clear c2'
  have HE := Lib.hid elem_prop
  have HST := Lib.hid hstay
  have HBA := Lib.hid hback
  have HOPN := Lib.hid hopen
  have HN1 : Hid (¬ (Value.slice p' o_.props.length cap').ownBlock = some b7) := Lib.hid (fun hj => by
    have h2 := HRLT.out b7 hj
    have := HB7E.out
    omega)
  clear hstay hback hopen ff0
  go_upto_region 23 with fail
  clear c2 pl
  refine wp_region_held_split 12 (fun w' => w'.cell? ⟨gh, oh + i * 11 + 1 + 2, none⟩ = some (.slice p' o_.props.length cap') ∧ w'.cell? ⟨b7, 0, none⟩ = some (.int .i64 y.kind) ∧ w'.cell? ⟨b7, 1, none⟩ = some (.int .i64 y.int) ∧ w'.cell? ⟨b7, 2, none⟩ = some (.string y.str) ∧ w'.cell? ⟨b7, 3, none⟩ = some (.int .i64 y.ref)) (by kernel_rfl) (by kernel_rfl) ?_ (fun hHeld => ?_)
  · (first | exact HS0.out | exact HKS.out _ (Chg.refl _ _) | exact HKS.out _ (Chg.alloc _ _ _) | exact ⟨cc2, hchg2.cellS (HKS.out _ (Chg.alloc _ wD (.cells #[.string key, .int .i64 y.kind, .int .i64 y.int, .string y.str, .int .i64 y.ref] 86))).2.1 HN1.out, hchg2.cellS (HKS.out _ (Chg.alloc _ wD (.cells #[.string key, .int .i64 y.kind, .int .i64 y.int, .string y.str, .int .i64 y.ref] 86))).2.2.1 HN1.out, hchg2.cellS (HKS.out _ (Chg.alloc _ wD (.cells #[.string key, .int .i64 y.kind, .int .i64 y.int, .string y.str, .int .i64 y.ref] 86))).2.2.2.1 HN1.out, hchg2.cellS (HKS.out _ (Chg.alloc _ wD (.cells #[.string key, .int .i64 y.kind, .int .i64 y.int, .string y.str, .int .i64 y.ref] 86))).2.2.2.2 HN1.out⟩)
  simp only [List.take_succ_cons, List.take_zero]
  have HKS : Hid (∀ W, Chg (fun _ => False) w5.drew W → W.cell? ⟨gh, oh + i * 11 + 1 + 2, none⟩ = some (.slice p' o_.props.length cap') ∧ W.cell? ⟨b7, 0, none⟩ = some (.int .i64 y.kind) ∧ W.cell? ⟨b7, 1, none⟩ = some (.int .i64 y.int) ∧ W.cell? ⟨b7, 2, none⟩ = some (.string y.str) ∧ W.cell? ⟨b7, 3, none⟩ = some (.int .i64 y.ref)) := Lib.hid (fun W hc => ⟨hc.cell HS0.out.1, hc.cell HS0.out.2.1, hc.cell HS0.out.2.2.1, hc.cell HS0.out.2.2.2.1, hc.cell HS0.out.2.2.2.2⟩)
  have HWD : Hid (Chg (fun _ => False) w5 w5.drew) := Lib.hid (Chg.refl _ w5).drewR
  have HRA : Hid (RowAt w5.drew 86 5 (.slice p' o_.props.length cap') o_.props.length xs'.flatten) := Lib.hid HOPN.out.row.drew
  generalize w5.drew = wD at *
  refine wpAnyH_take (i := 0) (v := ?_) rfl (by kernel_rfl) (by kernel_rfl) (by kernel_rfl) (fun _ _ _ h => h) (Or.inl ⟨by rfl, ?_⟩) (by assumption) ?_
  rotate_left
  · (intro wq hSw; (try dsimp only at hSw); go_simp; (try with_reducible rfl))
  simp only [Act.put, List.getElem_toArray, List.getElem_cons_zero, List.getElem_cons_succ, List.setIfInBounds_toArray, List.set_cons_zero, List.set_cons_succ]
  refine wpAnyH_take (i := 1) (v := ?_) rfl (by kernel_rfl) (by kernel_rfl) (by kernel_rfl) (fun _ _ _ h => h) (Or.inl ⟨by rfl, ?_⟩) (by assumption) ?_
  rotate_left
  · (intro wq hSw; (try dsimp only at hSw); go_simp; (try with_reducible rfl))
  simp only [Act.put, List.getElem_toArray, List.getElem_cons_zero, List.getElem_cons_succ, List.setIfInBounds_toArray, List.set_cons_zero, List.set_cons_succ]
  refine wpAnyH_take (i := 2) (v := ?_) rfl (by kernel_rfl) (by kernel_rfl) (by kernel_rfl) (fun _ _ _ h => h) (Or.inl ⟨by rfl, ?_⟩) (by assumption) ?_
  rotate_left
  · (intro wq hSw; (try dsimp only at hSw); go_simp; (try with_reducible rfl))
  simp only [Act.put, List.getElem_toArray, List.getElem_cons_zero, List.getElem_cons_succ, List.setIfInBounds_toArray, List.set_cons_zero, List.set_cons_succ]
  refine wpAnyH_take (i := 3) (v := ?_) rfl (by kernel_rfl) (by kernel_rfl) (by kernel_rfl) (fun _ _ _ h => h) (Or.inl ⟨by rfl, ?_⟩) (by assumption) ?_
  rotate_left
  · (intro wq hSw; (try dsimp only at hSw); go_simp; (try with_reducible rfl))
  simp only [Act.put, List.getElem_toArray, List.getElem_cons_zero, List.getElem_cons_succ, List.setIfInBounds_toArray, List.set_cons_zero, List.set_cons_succ]
  refine wpAnyH_take (i := 4) (v := ?_) rfl (by kernel_rfl) (by kernel_rfl) (by kernel_rfl) (fun _ _ _ h => h) (Or.inl ⟨by rfl, ?_⟩) (by assumption) ?_
  rotate_left
  · (intro wq hSw; (try dsimp only at hSw); go_simp; (try with_reducible rfl))
  simp only [Act.put, List.getElem_toArray, List.getElem_cons_zero, List.getElem_cons_succ, List.setIfInBounds_toArray, List.set_cons_zero, List.set_cons_succ]
  refine wpAnyH_take (i := 5) (v := ?_) rfl (by kernel_rfl) (by kernel_rfl) (by kernel_rfl) (fun _ _ _ h => h) (Or.inl ⟨by rfl, ?_⟩) (by assumption) ?_
  rotate_left
  · (intro wq hSw; (try dsimp only at hSw); go_simp; (try with_reducible rfl))
  simp only [Act.put, List.getElem_toArray, List.getElem_cons_zero, List.getElem_cons_succ, List.setIfInBounds_toArray, List.set_cons_zero, List.set_cons_succ]
  refine wpAnyH_take (i := 6) (v := ?_) rfl (by kernel_rfl) (by kernel_rfl) (by kernel_rfl) (fun _ _ _ h => h) (Or.inl ⟨by rfl, ?_⟩) (by assumption) ?_
  rotate_left
  · (intro wq hSw; (try dsimp only at hSw); go_simp; (try with_reducible rfl))
  simp only [Act.put, List.getElem_toArray, List.getElem_cons_zero, List.getElem_cons_succ, List.setIfInBounds_toArray, List.set_cons_zero, List.set_cons_succ]
  refine wpAnyH_take (i := 7) (v := ?_) rfl (by kernel_rfl) (by kernel_rfl) (by kernel_rfl) (fun _ _ _ h => h) (Or.inl ⟨by rfl, ?_⟩) (by assumption) ?_
  rotate_left
  · (intro wq hSw; (try dsimp only at hSw); go_simp; (try with_reducible rfl))
  simp only [Act.put, List.getElem_toArray, List.getElem_cons_zero, List.getElem_cons_succ, List.setIfInBounds_toArray, List.set_cons_zero, List.set_cons_succ]
  refine wpAnyH_ready (rs := [8]) (by kernel_rfl) (by simp) ?_
  refine AllReadyH.cons (by simp only [List.getElem?_toArray, List.getElem?_cons_succ, List.getElem?_cons_zero]; rfl) (fun K hK => ?_) AllReadyH.nil
  go_simp
  refine hK.out _ _ ?_ (fun hHeld => ?_)
  · (first | exact HS0.out | exact HKS.out _ (Chg.refl _ _) | exact HKS.out _ (Chg.alloc _ _ _) | exact ⟨cc2, hchg2.cellS (HKS.out _ (Chg.alloc _ wD (.cells #[.string key, .int .i64 y.kind, .int .i64 y.int, .string y.str, .int .i64 y.ref] 86))).2.1 HN1.out, hchg2.cellS (HKS.out _ (Chg.alloc _ wD (.cells #[.string key, .int .i64 y.kind, .int .i64 y.int, .string y.str, .int .i64 y.ref] 86))).2.2.1 HN1.out, hchg2.cellS (HKS.out _ (Chg.alloc _ wD (.cells #[.string key, .int .i64 y.kind, .int .i64 y.int, .string y.str, .int .i64 y.ref] 86))).2.2.2.1 HN1.out, hchg2.cellS (HKS.out _ (Chg.alloc _ wD (.cells #[.string key, .int .i64 y.kind, .int .i64 y.int, .string y.str, .int .i64 y.ref] 86))).2.2.2.2 HN1.out⟩)
  clear hK K
  (try simp only [Act.put, List.getElem_toArray, List.getElem_cons_zero, List.getElem_cons_succ, List.setIfInBounds_toArray, List.set_cons_zero, List.set_cons_succ])
  refine wpAnyH_ready (rs := [9]) (by kernel_rfl) (by simp) ?_
  refine AllReadyH.cons (by simp only [List.getElem?_toArray, List.getElem?_cons_succ, List.getElem?_cons_zero]; rfl) (fun K hK => ?_) AllReadyH.nil
  (refine step_append_elem (by rfl) _ _ _ (by rfl) 86 5 56 Tryd.underlying43 HE.out (by decide) _ o_.props.length xs'.flatten (by rfl) (HRA.out.alloc (.cells #[.string key, .int .i64 y.kind, .int .i64 y.int, .string y.str, .int .i64 y.ref] 86)) [.string key, .int .i64 y.kind, .int .i64 y.int, .string y.str, .int .i64 y.ref] rfl wD.heap.size 86 (0, 0) (by rfl) (alloc_block wD _) (by simp [Value.oneCell']) (by have := HLE.out; unfold maxLen; omega) (by have := HLE.out; omega) ?_; intro a2 n2 cp2 w2_ hrow2 hchg2 hold2; have cc2 := (HST.out _ _ (HWD.out.allocR (.cells #[.string key, .int .i64 y.kind, .int .i64 y.int, .string y.str, .int .i64 y.ref] 86)) hchg2).1; have f2 := (HST.out _ _ (HWD.out.allocR (.cells #[.string key, .int .i64 y.kind, .int .i64 y.int, .string y.str, .int .i64 y.ref] 86)) hchg2).2)
  refine hK.out _ _ ?_ (fun hHeld => ?_)
  · (first | exact HS0.out | exact HKS.out _ (Chg.refl _ _) | exact HKS.out _ (Chg.alloc _ _ _) | exact ⟨cc2, hchg2.cellS (HKS.out _ (Chg.alloc _ wD (.cells #[.string key, .int .i64 y.kind, .int .i64 y.int, .string y.str, .int .i64 y.ref] 86))).2.1 HN1.out, hchg2.cellS (HKS.out _ (Chg.alloc _ wD (.cells #[.string key, .int .i64 y.kind, .int .i64 y.int, .string y.str, .int .i64 y.ref] 86))).2.2.1 HN1.out, hchg2.cellS (HKS.out _ (Chg.alloc _ wD (.cells #[.string key, .int .i64 y.kind, .int .i64 y.int, .string y.str, .int .i64 y.ref] 86))).2.2.2.1 HN1.out, hchg2.cellS (HKS.out _ (Chg.alloc _ wD (.cells #[.string key, .int .i64 y.kind, .int .i64 y.int, .string y.str, .int .i64 y.ref] 86))).2.2.2.2 HN1.out⟩)
  clear hK K
  (try simp only [Act.put, List.getElem_toArray, List.getElem_cons_zero, List.getElem_cons_succ, List.setIfInBounds_toArray, List.set_cons_zero, List.set_cons_succ])
  refine wpAnyH_take (i := 10) (v := ?_) rfl (by kernel_rfl) (by kernel_rfl) (by kernel_rfl) (fun _ _ _ h => h) (Or.inl ⟨by rfl, ?_⟩) (by assumption) ?_
  rotate_left
  · (intro wq hSw; (try dsimp only at hSw); go_simp; (try with_reducible rfl))
  simp only [Act.put, List.getElem_toArray, List.getElem_cons_zero, List.getElem_cons_succ, List.setIfInBounds_toArray, List.set_cons_zero, List.set_cons_succ]
  refine wpAnyH_take (i := 11) (v := ?_) rfl (by kernel_rfl) (by kernel_rfl) (by kernel_rfl) (fun _ _ _ h => h) (Or.inl ⟨by rfl, ?_⟩) (by assumption) ?_
  rotate_left
  · (intro wq hSw; (try dsimp only at hSw); go_simp; (try with_reducible rfl))
  simp only [Act.put, List.getElem_toArray, List.getElem_cons_zero, List.getElem_cons_succ, List.setIfInBounds_toArray, List.set_cons_zero, List.set_cons_succ]
  refine wpAnyH_done (by kernel_rfl) ?_ _
  change wpList _ _ _ _ _ _
  simp only [List.drop_succ_cons, List.drop_zero]
  have P9 := HBA.out _ _ [.string key, .int .i64 y.kind, .int .i64 y.int, .string y.str, .int .i64 y.ref] ⟨key, y.kind, y.int, y.str, y.ref⟩ [] _ (HWD.out.allocR (.cells #[.string key, .int .i64 y.kind, .int .i64 y.int, .string y.str, .int .i64 y.ref] 86)) ⟨rfl, rfl⟩ (by simp) (by simp) hrow2 hchg2 hold2
  clear hHeld
  go_wp2_with fail
  go_ret
  exact ⟨rfl, HPT.out _ _ (Post.pre HC5.out P9)⟩
set_option maxHeartbeats 6400000 in
set_option maxRecDepth 100000 in
theorem put_old (w : World) (b : Nat) (hp : Hp) (F : List Nat) (h : Int) (i : Nat) (key : ByteArray) (x y : Val) (H : Here hpR w b 0 hp F) (hi : -9223372036854775808 ≤ h ∧ h ≤ 9223372036854775807) (hs : slotOf hp h = some i) (hl : i < hp.slots.length) (hk : hp.slots[i].obj.kind ≠ 1)
    (HN : ∀ W, Chg (fun _ => False) w W → Calls Tryd.prog 37 #[.agg #[.int .i64 x.kind, .int .i64 x.int, .string x.str, .int .i64 x.ref]] W fun e w' => e = .returned (.agg #[.int .i64 y.kind, .int .i64 y.int, .string y.str, .int .i64 y.ref]) ∧ Chg (fun _ => False) W w') (j : Nat) (hf : findP key hp.slots[i].obj.props 0 = some j) (hj : j < hp.slots[i].obj.props.length) (hlp : hp.slots[i].obj.props.length ≤ 10000) :
    Calls Tryd.prog 24 #[.pointer (some ⟨b, 0, none⟩), .int .i64 h, .string key, .agg #[.int .i64 x.kind, .int .i64 x.int, .string x.str, .int .i64 x.ref]] w fun e w' => e = .returned (.int .i64 0) ∧ Post hpR w b 0 (putO hp i { hp.slots[i].obj with props := hp.slots[i].obj.props.set j ⟨hp.slots[i].obj.props[j].key, y.kind, y.int, y.str, y.ref⟩ }) F w' := by
  have hca := Chg.alloc (fun _ => False) w (.cells #[.int .i64 x.kind, .int .i64 x.int, .string x.str, .int .i64 x.ref] 36)
  have kb := alloc_block w (.cells #[.int .i64 x.kind, .int .i64 x.int, .string x.str, .int .i64 x.ref] 36)
  have HKB := Lib.hid kb
  have H2 := H.still hca
  obtain ⟨gh, oh, kh, c2, G, HOBJ0, hGF, hput⟩ := hpPut H hl
  obtain ⟨vp, ve, vd, vs, HOC⟩ := objOpen HOBJ0
  obtain ⟨p, cap, rfl, -⟩ := HOC.rp.slice
  have hrlt := HOC.rp.lt
  have c0 := HOC.c0
  have z1 : (hp.slots[i].obj.kind == 1) = false := beq_false_of_ne hk
  have hat := hat_any _ b 0 hp F h _ H2 (by rw [Nat.zero_add]; exact hca.cell c2) hi
  rw [hs, show objPtr (.slice (some ⟨gh, oh, none⟩) hp.slots.length kh) (some i) = some ⟨gh, oh + i * 11 + 1, none⟩ from rfl] at hat
  have HAT := Lib.hid hat
  have HNN := Lib.hid HN
  have HC2 := Lib.hid HOC.c2
  have HRP := Lib.hid HOC.rp
  generalize hx : hp.slots[i].obj = o_ at *
  have HX := Lib.hid hx
  have HC0 := Lib.hid c0
  have HCA := Lib.hid hca
  have HOB := Lib.hid HOBJ0
  have HPT := Lib.hid hput
  have HRLT := Lib.hid hrlt
  have HBS : Hid (∀ k ∈ G, k < w.heap.size) := Lib.hid (fun k hk => H.lt.2 k (hGF k hk))
  clear kb hca H2 c2 HOBJ0 hrlt hGF hput HOC c0 hi hs H hx hk hat HN
  go_enter Tryd.func24, Tryd.ntmps24
  go_upto_region 1 with fail
  generalize hw2 : w.alloc (.cells #[.int .i64 x.kind, .int .i64 x.int, .string x.str, .int .i64 x.ref] 36) = w1 at *
  generalize hb7 : w.heap.size = b7 at *
  have HB7E := Lib.hid hb7
  clear hw2 hb7
  go_upto_region 4 with (go_at_call 35; refine HAT.out.mono ?_; rintro e wa ⟨rfl, hca⟩)
  have HC1 := Lib.hid (HCA.out.trans' hca)
  have HKB2 := Lib.hid (hca.keep HKB.out (fun x => x))
  have k0 := cell_of_block (i := 0) HKB2.out rfl
  have k1 := cell_of_block (i := 1) HKB2.out rfl
  have k2 := cell_of_block (i := 2) HKB2.out rfl
  have k3 := cell_of_block (i := 3) HKB2.out rfl
  simp only [List.getElem_toArray, List.getElem_cons_zero, List.getElem_cons_succ] at k0 k1 k2 k3
  clear hca HAT HKB
  go_upto_region 5 with (go_at_call 37; refine (HNN.out _ HC1.out).mono ?_; rintro e wn ⟨rfl, hcn⟩; have hbn := hcn.keep HKB2.out (fun x => x); obtain ⟨z10, q0, z11, q1, z12, q2, z13, q3, hbf, hcs⟩ := store4 hbn (.int .i64 y.kind) (.int .i64 y.int) (.string y.str) (.int .i64 y.ref))
  have HB7 := Lib.hid hbf
  have hc4 : Chg (fun _ => False) w (((((wn.setCell ⟨b7, 0, none⟩ (.int .i64 y.kind)).setCell ⟨b7, 1, none⟩ (.int .i64 y.int)).setCell ⟨b7, 2, none⟩ (.string y.str)).setCell ⟨b7, 3, none⟩ (.int .i64 y.ref))) := (HC1.out.trans' hcn).trans hcs (fun _ _ x => x) (fun k hk e => by have := HB7E.out; omega)
  clear hbf hcs hcn hbn z10 q0 z11 q1 z12 q2 z13 q3 k0 k1 k2 k3
  generalize ((((wn.setCell ⟨b7, 0, none⟩ (.int .i64 y.kind)).setCell ⟨b7, 1, none⟩ (.int .i64 y.int)).setCell ⟨b7, 2, none⟩ (.string y.str)).setCell ⟨b7, 3, none⟩ (.int .i64 y.ref)) = w4 at *
  have c0 := hc4.cell HC0.out
  have HPL := Lib.hid (place_any w4 gh (oh + i * 11 + 1) _ o_.props key (hc4.cell HC2.out) (HRP.out.chg hc4 (fun _ _ x => x)))
  have HF := Lib.hid hf
  have HC4 := Lib.hid hc4
  clear hc4 hf HNN HKB2 HC1 HCA
  rw [HF.out] at HPL
  go_upto_region 18 with (go_at_call 43; refine HPL.out.mono ?_; rintro e w5 ⟨rfl, hc5⟩)
  have HC5 := Lib.hid (HC4.out.trans' hc5)
  have HY7 := Lib.hid (hc5.keep HB7.out (fun x => x))
  have c2 := HC5.out.cell HC2.out
  clear hc5 HPL c0 z1
  have HOB5 := Lib.hid (HOB.out.still HC5.out)
  have n0 := cell_of_block (i := 0) HY7.out rfl
  have n1 := cell_of_block (i := 1) HY7.out rfl
  have n2 := cell_of_block (i := 2) HY7.out rfl
  have n3 := cell_of_block (i := 3) HY7.out rfl
  simp only [List.getElem_toArray, List.getElem_cons_zero, List.getElem_cons_succ] at n0 n1 n2 n3
  have HS0 : Hid (w5.cell? ⟨gh, oh + i * 11 + 1 + 2, none⟩ = some (.slice p o_.props.length cap) ∧ w5.cell? ⟨b7, 0, none⟩ = some (.int .i64 y.kind) ∧ w5.cell? ⟨b7, 1, none⟩ = some (.int .i64 y.int) ∧ w5.cell? ⟨b7, 2, none⟩ = some (.string y.str) ∧ w5.cell? ⟨b7, 3, none⟩ = some (.int .i64 y.ref)) := Lib.hid ⟨c2, n0, n1, n2, n3⟩
  clear n0 n1 n2 n3
  have j0 : (0 : Int) ≤ (j : Int) := by omega
  have j1 : (j : Int) < (o_.props.length : Int) := by omega
  have HJ := Lib.hid hj
  clear hlp
  rw [show idxP (some j) = (j : Int) from rfl]
  obtain ⟨gp, opp, cp, hcv⟩ := HOB5.out.rowAt objR_props (by show 0 < 10; decide) (by have := HJ.out; omega)
  have hpe : p = some ⟨gp, opp, none⟩ ∧ cp = cap := by
    rw [c2] at hcv
    cases hcv
    exact ⟨rfl, rfl⟩
  obtain ⟨rfl, rfl⟩ := hpe
  obtain ⟨G2, HEL, -, -, -, hwb⟩ := (HOB5.out.drew).rowElem objR_props (by show 0 < 10; decide) (show w5.drew.cell? _ = _ from c2) HJ.out
  have HWB := Lib.hid hwb
  have HELH := Lib.hid HEL
  clear hcv hwb HEL
  go_upto_region 19 with fail
  clear c2
  refine wp_region_held_split 8 (fun w' => w'.cell? ⟨gh, oh + i * 11 + 1 + 2, none⟩ = some (.slice (some ⟨gp, opp, none⟩) o_.props.length cp) ∧ w'.cell? ⟨b7, 0, none⟩ = some (.int .i64 y.kind) ∧ w'.cell? ⟨b7, 1, none⟩ = some (.int .i64 y.int) ∧ w'.cell? ⟨b7, 2, none⟩ = some (.string y.str) ∧ w'.cell? ⟨b7, 3, none⟩ = some (.int .i64 y.ref)) (by kernel_rfl) (by kernel_rfl) ?_ (fun hHeld => ?_)
  · (first | exact HS0.out | exact HKS.out _ (Chg.refl _ _))
  simp only [List.take_succ_cons, List.take_zero]
  have HKS : Hid (∀ W, Chg (fun _ => False) w5.drew W → W.cell? ⟨gh, oh + i * 11 + 1 + 2, none⟩ = some (.slice (some ⟨gp, opp, none⟩) o_.props.length cp) ∧ W.cell? ⟨b7, 0, none⟩ = some (.int .i64 y.kind) ∧ W.cell? ⟨b7, 1, none⟩ = some (.int .i64 y.int) ∧ W.cell? ⟨b7, 2, none⟩ = some (.string y.str) ∧ W.cell? ⟨b7, 3, none⟩ = some (.int .i64 y.ref)) := Lib.hid (fun W hc => ⟨hc.cell HS0.out.1, hc.cell HS0.out.2.1, hc.cell HS0.out.2.2.1, hc.cell HS0.out.2.2.2.1, hc.cell HS0.out.2.2.2.2⟩)
  have HWD : Hid (Chg (fun _ => False) w5 w5.drew) := Lib.hid (Chg.refl _ w5).drewR
  generalize w5.drew = wD at *
  refine wpAnyH_take (i := 0) (v := ?_) rfl (by kernel_rfl) (by kernel_rfl) (by kernel_rfl) (fun _ _ _ h => h) (Or.inl ⟨by rfl, ?_⟩) (by assumption) ?_
  rotate_left
  · (intro wq hSw; (try dsimp only at hSw); go_simp; (try with_reducible rfl))
  simp only [Act.put, List.getElem_toArray, List.getElem_cons_zero, List.getElem_cons_succ, List.setIfInBounds_toArray, List.set_cons_zero, List.set_cons_succ]
  refine wpAnyH_take (i := 1) (v := ?_) rfl (by kernel_rfl) (by kernel_rfl) (by kernel_rfl) (fun _ _ _ h => h) (Or.inl ⟨by rfl, ?_⟩) (by assumption) ?_
  rotate_left
  · (intro wq hSw; (try dsimp only at hSw); go_simp; (try with_reducible rfl))
  simp only [Act.put, List.getElem_toArray, List.getElem_cons_zero, List.getElem_cons_succ, List.setIfInBounds_toArray, List.set_cons_zero, List.set_cons_succ]
  refine wpAnyH_take (i := 2) (v := ?_) rfl (by kernel_rfl) (by kernel_rfl) (by kernel_rfl) (fun _ _ _ h => h) (Or.inl ⟨by rfl, ?_⟩) (by assumption) ?_
  rotate_left
  · (intro wq hSw; (try dsimp only at hSw); go_simp; (try with_reducible rfl))
  simp only [Act.put, List.getElem_toArray, List.getElem_cons_zero, List.getElem_cons_succ, List.setIfInBounds_toArray, List.set_cons_zero, List.set_cons_succ]
  refine wpAnyH_take (i := 3) (v := ?_) rfl (by kernel_rfl) (by kernel_rfl) (by kernel_rfl) (fun _ _ _ h => h) (Or.inl ⟨by rfl, ?_⟩) (by assumption) ?_
  rotate_left
  · (intro wq hSw; (try dsimp only at hSw); go_simp; (try with_reducible rfl))
  simp only [Act.put, List.getElem_toArray, List.getElem_cons_zero, List.getElem_cons_succ, List.setIfInBounds_toArray, List.set_cons_zero, List.set_cons_succ]
  refine wpAnyH_take (i := 4) (v := ?_) rfl (by kernel_rfl) (by kernel_rfl) (by kernel_rfl) (fun _ _ _ h => h) (Or.inl ⟨by rfl, ?_⟩) (by assumption) ?_
  rotate_left
  · (intro wq hSw; (try dsimp only at hSw); go_simp; (try with_reducible rfl))
  simp only [Act.put, List.getElem_toArray, List.getElem_cons_zero, List.getElem_cons_succ, List.setIfInBounds_toArray, List.set_cons_zero, List.set_cons_succ]
  refine wpAnyH_take (i := 5) (v := ?_) rfl (by kernel_rfl) (by kernel_rfl) (by kernel_rfl) (fun _ _ _ h => h) (Or.inl ⟨by rfl, ?_⟩) (by assumption) ?_
  rotate_left
  · (intro wq hSw; (try dsimp only at hSw); go_simp; (try with_reducible rfl))
  simp only [Act.put, List.getElem_toArray, List.getElem_cons_zero, List.getElem_cons_succ, List.setIfInBounds_toArray, List.set_cons_zero, List.set_cons_succ]
  refine wpAnyH_take (i := 6) (v := ?_) rfl (by kernel_rfl) (by kernel_rfl) (by kernel_rfl) (fun _ _ _ h => h) (Or.inl ⟨by rfl, ?_⟩) (by assumption) ?_
  rotate_left
  · (intro wq hSw; (try dsimp only at hSw); go_simp; (try with_reducible rfl))
  simp only [Act.put, List.getElem_toArray, List.getElem_cons_zero, List.getElem_cons_succ, List.setIfInBounds_toArray, List.set_cons_zero, List.set_cons_succ]
  refine wpAnyH_take (i := 7) (v := ?_) rfl (by kernel_rfl) (by kernel_rfl) (by kernel_rfl) (fun _ _ _ h => h) (Or.inl ⟨by rfl, ?_⟩) (by assumption) ?_
  rotate_left
  · (intro wq hSw; (try dsimp only at hSw); go_simp; (try with_reducible rfl))
  simp only [Act.put, List.getElem_toArray, List.getElem_cons_zero, List.getElem_cons_succ, List.setIfInBounds_toArray, List.set_cons_zero, List.set_cons_succ]
  refine wpAnyH_done (by kernel_rfl) ?_ _
  change wpList _ _ _ _ _ _
  simp only [List.drop_succ_cons, List.drop_zero]
  have P1 := HELH.out.setPost propR_vkind (y := y.kind) (v := .int .i64 y.kind) rfl
  have P2 := P1.then (fun F' H' => H'.setPost propR_vint (y := y.int) (v := .int .i64 y.int) rfl)
  have P3 := P2.then (fun F' H' => H'.setPost propR_vstr (y := y.str) (v := .string y.str) rfl)
  have P4 := P3.then (fun F' H' => H'.setPost propR_vref (y := y.ref) (v := .int .i64 y.ref) rfl)
  obtain ⟨cB, TB, hbB, hszB⟩ : ∃ c T, wD.heap[gp]? = some (.cells c T (0, 0)) ∧ opp + j * 5 + 1 + 4 ≤ c.size := by
    obtain ⟨c, T, hh⟩ := HELH.out.size
    rcases hh with hh | hh
    · exact ⟨c, T, hh.1, by have := hh.2.2; show opp + j * 5 + 5 ≤ _; exact this⟩
    · exact absurd hh (by decide)
  obtain ⟨u0, u1, u2, u3, ⟨e0, f0⟩, ⟨e1, f1⟩, ⟨e2, f2⟩, e3, f3⟩ := store4At (o := opp + j * 5 + 1) hbB hszB (.int .i64 y.kind) (.int .i64 y.int) (.string y.str) (.int .i64 y.ref)
  have HP4 := Lib.hid P4
  clear P1 P2 P3 P4
  go_wp2_with fail
  go_ret
  obtain ⟨F4, h1, h2⟩ := HP4.out
  exact ⟨rfl, HPT.out _ _ (Post.pre (HC5.out.trans' HWD.out) (HWB.out _ _ F4 h1 h2).1)⟩
end Go.Proofs.YtjianickjahdnaaDoor
namespace Go.Proofs.YtjianickjahdnaaDoor
open Go.RowKit
set_option linter.unusedVariables false
set_option linter.unusedSimpArgs false

theorem ownL_nodup (v : Value) : (ownL v).Nodup := by
  unfold ownL
  cases v.ownBlock <;> simp
section
variable {α β : Type} {A : Rep α} {w : World} {b o k : Nat} {a : α} {F : List Nat} {e : TypeId}
/-- A row of flat data in a field: its value, and what lies there when another row has been stored. -/
theorem Here.fieldFlat {n : Nat} {f : β → List Value} {hf : ∀ a, (f a).length = n} {get : α → List β} {set : α → List β → α} (fl : FieldOf A ((Rep.flat n f hf).row e) k get set) (hA : 0 < A.n) (H : Here A w b o a F) :
    ∃ v, w.cell? ⟨b, o + k, none⟩ = some v ∧ RowAt w e n v (get a).length ((get a).flatMap f) ∧ (∀ j, v.ownBlock = some j → j ∈ F) ∧ ¬ v.ownBlock = some b ∧
      ∀ w2 v2 l, Chg (fun j => v.ownBlock = some j) w w2 → RowAt w2 e n v2 l.length (l.flatMap f) → (∀ j, v2.ownBlock = some j → v.ownBlock = some j ∨ w.heap.size ≤ j) →
        Post A w b o (set a l) F (w2.setCell ⟨b, o + k, none⟩ v2) := by
  obtain ⟨G1, h1, h2, h3⟩ := H.field fl hA
  obtain ⟨cs, hown, hcell⟩ := h1.cell
  obtain ⟨v, rfl, hr, rfl⟩ := row_flat.1 hown
  refine ⟨v, hcell 0 v rfl, hr, fun j hj => h2 j (mem_ownL.2 hj), fun hj => h1.nb (mem_ownL.2 hj), fun w2 v2 l hc hr2 hn => ?_⟩
  obtain ⟨p, q⟩ := h1.put (w2 := w2) (v := v2) (y := l) (G' := ownL v2) rfl (hc.mono fun j _ hj => mem_ownL.2 hj) (row_flat.2 ⟨v2, rfl, hr2, rfl⟩) (ownL_nodup v2) (fun j hj => (hn j (mem_ownL.1 hj)).imp mem_ownL.2 id)
  exact h3 _ _ _ p q
end
/-- append(x, make([]T, m)...): zeros onto an owned row. -/
theorem run_append_zeros {P : Program} (w : World) (t tx ty e : TypeId) (i : TypeInfo) (z : Value) (size bytes : Nat) (kx : IntKind) (ht : P.underlying t = some (.slice e)) (hk : P.underlying tx = some (.int kx)) (hi : P.info? e = some i) (hz : i.zero = some z)
    (hsize : i.size = size) (hby : i.bytes = bytes) (hzs : z.cells.size = size) (hsz : 0 < size) (h1 : ∀ u ∈ z.cells.toList, u.oneCell' = true)
    (v : Value) (n : Nat) (xs : List Value) (hown : RowAt w e size v n xs) (m : Nat) (h63 : n + m ≤ 4611686018427387904) (hbytes : (n + m) * bytes ≤ 140737488355328) :
    ∃ v' w', (Builtin.append_ #[t, tx] ty #[v, .int kx (m : Int)]).run P w = .ok v' w' ∧ RowAt w' e size v' (n + m) (xs ++ (Builtin.zeroCells z.cells m).toList) ∧ Chg (fun k => v.ownBlock = some k) w w' ∧
      (∀ k, v'.ownBlock = some k → v.ownBlock = some k ∨ w.heap.size ≤ k) := by
  subst hsize
  subst hby
  have wm : IntKind.i64.wrap (m : Int) = (m : Int) := IntWalk.i64_in _ (by omega)
  have m0 : ¬ (m : Int) < 0 := by omega
  have hai : ∀ (n : Int) (w' : World), (asIntOf (Value.int kx n)).run P w' = .ok (kx, n) w' := fun _ _ => rfl
  have mb : ¬ (281474976710656 < (m : Int) * (i.bytes : Int)) := by
    have : m * i.bytes ≤ (n + m) * i.bytes := Nat.mul_le_mul_right _ (by omega)
    have h2 : ((m * i.bytes : Nat) : Int) = (m : Int) * (i.bytes : Int) := by simp
    omega
  have hzl : (Builtin.zeroCells z.cells m).toList.length = m * i.size := by
    rw [Array.length_toList, size_zeroCells, hzs]
  have hap : (if m * i.size = 0 then (#[] : Array Value) else Builtin.zeroCells z.cells m) = Builtin.zeroCells z.cells m := by
    split
    · rename_i h
      have : (Builtin.zeroCells z.cells m).size = 0 := by rw [← Array.length_toList, hzl, h]
      exact (Array.eq_empty_of_size_eq_zero this).symm
    · rfl
  have hone : ∀ u ∈ (Builtin.zeroCells z.cells m).toList, u.oneCell' = true := by
    intro u hu
    unfold Builtin.zeroCells at hu
    rw [Array.toList_map, List.mem_map] at hu
    obtain ⟨j, -, rfl⟩ := hu
    have hj : j % z.cells.size < z.cells.size := Nat.mod_lt _ (by omega)
    rw [getElem!_pos z.cells (j % z.cells.size) hj]
    exact h1 _ (Array.getElem_mem_toList hj)
  have hlen : (xs ++ (Builtin.zeroCells z.cells m).toList).length = (n + m) * i.size := by rw [List.length_append, hown.1, hzl, Nat.add_mul]
  have hmaxl : n + m ≤ maxLen := by unfold maxLen; omega
  have grow : ∀ (base : Option Addr) (cap : Nat), v = .slice base n cap → cap < n + m → (Builtin.firstCells i.size n (.slice base n cap)).run P w.drew = .ok xs.toArray w.drew →
      ∃ v' w', (Builtin.append_ #[t, tx] ty #[v, .int kx (m : Int)]).run P w = .ok v' w' ∧ RowAt w' e i.size v' (n + m) (xs ++ (Builtin.zeroCells z.cells m).toList) ∧ Chg (fun k => v.ownBlock = some k) w w' ∧
      (∀ k, v'.ownBlock = some k → v.ownBlock = some k ∨ w.heap.size ≤ k) := by
    intro base cap hv hcap hold
    have hfit := growslice_fits hcap hbytes
    have hn : ¬ (n + m ≤ cap) := by omega
    have h63' : ¬ (9223372036854775807 < ((n : Int) + (m : Int))) := by omega
    have h48' : ¬ (281474976710656 < Builtin.nextslicecap (n + m) cap * i.bytes) := by omega
    have hge := grownCap_ge w (n + m) cap e
    have hcm : grownCap w (n + m) cap e ≤ maxLen := grownCap_le_maxLen w (n + m) cap e hmaxl
    have hr : (Builtin.append_ #[t, tx] ty #[v, .int kx (m : Int)]).run P w =
      .ok (.slice (some ⟨w.heap.size, 0, none⟩) (n + m) (grownCap w (n + m) cap e))
        (w.drew.alloc (.cells ((xs ++ (Builtin.zeroCells z.cells m).toList).toArray ++ Builtin.zeroCells z.cells (grownCap w (n + m) cap e - (n + m))) e)) := by
      rw [hv]
      by_cases hm0 : m * i.size = 0
      · have hzz : Builtin.zeroCells z.cells m = #[] := by rw [← hap, if_pos hm0]
        simp [Builtin.append_, run_underlying ht, run_underlying hk, sizeOf, typeInfo, zeroValue, hi, hz, wm, m0, mb, hn, h63', h48', Question.forced, hold, newRow, grownCap, asInt, hai, hm0, hzz]
      · simp [Builtin.append_, run_underlying ht, run_underlying hk, sizeOf, typeInfo, zeroValue, hi, hz, wm, m0, mb, hn, h63', h48', Question.forced, hold, newRow, grownCap, asInt, hai, hm0]
        congr 2
        apply Array.ext'
        simp [List.append_assoc]
    refine ⟨_, _, hr, ⟨hlen, .inr ⟨w.heap.size, 0, _, _, rfl, heap_alloc_new w.drew _, hge, hcm, ?_, ?_⟩⟩, ?_, ?_⟩
    · simp only [Array.size_append, List.size_toArray, size_zeroCells, hzs, hlen, ← Nat.add_mul]
      rw [show n + m + (grownCap w (n + m) cap e - (n + m)) = grownCap w (n + m) cap e from by omega]
      omega
    · simp only [Array.toList_append, List.drop_zero]
      rw [← hlen]
      exact List.take_left
    · exact ((Chg.refl _ w).drewR).allocR _
    · intro k hk
      simp only [Value.ownBlock, Option.some.injEq] at hk
      exact .inr (by omega)
  rcases hown.2 with ⟨rfl, rfl⟩ | ⟨g, off, cap, cur, rfl, hg, hnc, hcm, hcs, htake⟩
  · have hx : xs = [] := List.eq_nil_of_length_eq_zero (by simpa using hown.1)
    subst hx
    by_cases hm : m = 0
    · subst hm
      have hzz : Builtin.zeroCells z.cells 0 = #[] := by simp [Builtin.zeroCells]
      have w00 : IntKind.i64.wrap 0 = 0 := IntWalk.i64_in _ (by omega)
      refine ⟨.slice none 0 0, w, ?_, by rw [hzz]; exact RowAt.nil w e i.size, .refl _ _, fun k hk => .inl hk⟩
      simp [Builtin.append_, run_underlying ht, run_underlying hk, sizeOf, typeInfo, hi, asInt, hai, w00]
    · exact grow none 0 rfl (by omega) (run_firstCells_none w.drew i.size 0 0 0)
  · by_cases hroom : n + m ≤ cap
    · have hmul : n * i.size + m * i.size ≤ cap * i.size := by rw [← Nat.add_mul]; exact Nat.mul_le_mul_right _ hroom
      have hfit : off + n * i.size + (Builtin.zeroCells z.cells m).toList.length ≤ cur.size := by rw [hzl]; omega
      have hst := run_storeCells_cells (P := P) g (off + n * i.size) (Builtin.zeroCells z.cells m).toList 0 w (fun j hj => by rw [Nat.add_zero, cell_of_block hg (Array.getElem?_eq_getElem (by omega))]; rfl) (fun j _ => frozen_of_block hg) hone
      simp only [Nat.add_zero] at hst
      have hr : (Builtin.append_ #[t, tx] ty #[.slice (some ⟨g, off, none⟩) n cap, .int kx (m : Int)]).run P w = .ok (.slice (some ⟨g, off, none⟩) (n + m) cap) (w.setCells g (off + n * i.size) (Builtin.zeroCells z.cells m).toList) := by
        by_cases hm0 : m * i.size = 0
        · have hzz : Builtin.zeroCells z.cells m = #[] := by rw [← hap, if_pos hm0]
          rw [hzz] at hst
          simp [Builtin.append_, run_underlying ht, run_underlying hk, sizeOf, typeInfo, zeroValue, hi, hz, wm, m0, mb, hroom, asInt, hai, hm0, hzz, Addr.add_lit, hst]
        · simp [Builtin.append_, run_underlying ht, run_underlying hk, sizeOf, typeInfo, zeroValue, hi, hz, wm, m0, mb, hroom, asInt, hai, hm0, Addr.add_lit, hst]
      refine ⟨_, _, hr, ⟨hlen, .inr ⟨g, off, cap, _, rfl, setCells_block _ _ hg, hroom, hcm, ?_, ?_⟩⟩, ?_, fun k hk => .inl hk⟩
      · rw [putAt_size]; exact hcs
      · rw [putAt_toList _ _ _ hfit, List.append_assoc, List.drop_append_of_le_length (by simp; omega)]
        rw [← List.append_assoc, List.drop_take, show off + n * i.size - off = n * i.size from by omega, htake, ← hlen]
        exact List.take_left
      · exact (Chg.setCells _ w _).mono (fun k _ hk => by simp only [Value.ownBlock, hk])
    · refine grow (some ⟨g, off, none⟩) cap rfl (by omega) ?_
      refine run_firstCells_some w.drew i.size n ⟨g, off, none⟩ n cap xs hown.1 ?_
      intro j u hu
      have := hown.cells rfl j u hu
      simpa using this
/-- Inside a region that draws its order. -/
theorem step_append_zeros {P : Program} {w : World} {ops : Array Oper} {o : Oper} {a : Act} {K : Act → World → Prop} {Q : Exit → Act → World → Prop} {E : Prop} (hgd : o.guard = none) (s x : Operand) (t tx : TypeId)
    (ho : o.op = .call { callee := .builtin .append, args := #[s, x], argTypes := #[t, tx] })
    (e : TypeId) (i : TypeInfo) (z : Value) (size bytes : Nat) (kx : IntKind) (ht : P.underlying t = some (.slice e)) (hk : P.underlying tx = some (.int kx)) (hi : P.info? e = some i) (hz : i.zero = some z)
    (hsize : i.size = size) (hby : i.bytes = bytes) (hzs : z.cells.size = size) (hsz : 0 < size) (h1 : ∀ u ∈ z.cells.toList, u.oneCell' = true)
    (v : Value) (n : Nat) (xs : List Value) (hsv : a.eval s = v) (hown : RowAt w e size v n xs) (m : Nat) (hx : a.eval x = .int kx (m : Int)) (h63 : n + m ≤ 4611686018427387904) (hbytes : (n + m) * bytes ≤ 140737488355328)
    (h : ∀ a1 n1 c1 w', RowAt w' e size (.slice a1 n1 c1) (n + m) (xs ++ (Builtin.zeroCells z.cells m).toList) → Chg (fun k => v.ownBlock = some k) w w' → (∀ k, (Value.slice a1 n1 c1).ownBlock = some k → v.ownBlock = some k ∨ w.heap.size ≤ k) → K (a.put o.dst (.slice a1 n1 c1)) w') :
    if Region.wanted o (yielded ops a.tmps) = true then Oper.wp P o a w K Q else E := by
  have hw : Region.wanted o (yielded ops a.tmps) = true := by simp [Region.wanted, hgd]
  rw [if_pos hw]
  obtain ⟨v', w', hr, h2, h3, h4⟩ := run_append_zeros (P := P) w t tx o.type e i z size bytes kx ht hk hi hz hsize hby hzs hsz h1 v n xs hown m h63 hbytes
  obtain ⟨a1, c1, rfl, -⟩ := h2.slice
  unfold Oper.wp execOp
  simp only [ho, resolve, invoke, builtin, Sem.run_bind, Sem.run_pure, Result.andThen_ok, List.map_toArray, List.map_cons, List.map_nil, hsv, hx, hr]
  exact h _ _ _ w' h2 h3 h4
/-- The cells of m zeros. -/
theorem zeroCells_rep {z : Array Value} {cs : List Value} (h : z.toList = cs) (hp : 0 < cs.length) : ∀ m : Nat, (Builtin.zeroCells z m).toList = (List.replicate m cs).flatten := by
  have hz : z.size = cs.length := by rw [← h, Array.length_toList]
  have key : ∀ m, (Builtin.zeroCells z m).toList = (List.range (m * cs.length)).map fun i => cs.getD (i % cs.length) default := by
    intro m
    unfold Builtin.zeroCells
    rw [Array.toList_map, Array.toList_range, hz]
    refine List.map_congr_left fun i hi => ?_
    have hj : i % z.size < z.size := Nat.mod_lt _ (by omega)
    rw [← hz, getElem!_pos z (i % z.size) hj, List.getD_eq_getElem?_getD, ← h, List.getElem?_eq_getElem (by rw [Array.length_toList]; exact hj)]
    simp
  intro m
  rw [key]
  induction m with
  | zero => simp
  | succ m ih =>
    rw [List.replicate_succ', List.flatten_append, ← ih, Nat.add_mul, Nat.one_mul, List.range_add, List.map_append]
    congr 1
    rw [List.map_map]
    refine List.ext_getElem? fun i => ?_
    rw [List.getElem?_map]
    by_cases hi : i < cs.length
    · rw [List.getElem?_range hi]
      have e : (m * cs.length + i) % cs.length = i := by rw [Nat.mul_comm, Nat.mul_add_mod]; exact Nat.mod_eq_of_lt hi
      simp [e, hi]
    · rw [List.getElem?_eq_none (by simp; omega)]
      simp
      omega
end Go.Proofs.YtjianickjahdnaaDoor
