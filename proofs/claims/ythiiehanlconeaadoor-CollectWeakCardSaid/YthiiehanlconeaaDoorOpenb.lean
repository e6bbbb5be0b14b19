/-
  Arguments as the walk meets them: structs of scalars; slices of structs.
-/
import Derived.Test.YthiiehanlconeaaDoorOpen
namespace Go.Proofs.YthiiehanlconeaaDoor
open Go.ChangeShapes Go.WideShapes Go.ChangeAt Go.RowKit
set_option linter.unusedVariables false

section
variable {H : Type} {enc : TypeId × Value → H} {P : Program} {w : World} {base : Nat} {sp : Nat → Bool} {held : Bool} {x : List Value} {y : DataW H × List MemPlace} {fuel o : Nat} {t : TypeId}
theorem one_get {v : Value} (h : (x.drop o).take 1 = [v]) : x[o]? = some v := by
  have h2 := congrArg (fun l => l[0]?) h
  simpa [List.getElem?_take, List.getElem?_drop] using h2
theorem cell_int {k : IntKind} (ht : P.underlying t = some (.int k)) (hc : P.cellsOf t = 1) (h : DataW.trod enc P w 0 sp held fuel t ((x.drop o).take (P.cellsOf t)) = some y) : ∃ n, x[o]? = some (.int k n) ∧ (k.min ≤ n ∧ n ≤ k.max) := by
  obtain ⟨n, h1, _, h2⟩ := DataW.trod_int ht h
  rw [hc] at h1
  exact ⟨n, one_get h1, int_of_wf h2⟩
theorem cell_string (ht : P.underlying t = some .string) (hc : P.cellsOf t = 1) (h : DataW.trod enc P w 0 sp held fuel t ((x.drop o).take (P.cellsOf t)) = some y) : ∃ s : ByteArray, x[o]? = some (.string s) ∧ s.size ≤ maxLen := by
  obtain ⟨s, h1, _, h2⟩ := DataW.trod_string ht h
  rw [hc] at h1
  exact ⟨s, one_get h1, h2⟩
/-- A struct that came in, cell by cell. -/
theorem open_struct {fs : Array Field} {v : Value} {d : DataW H} {ps : List MemPlace} (ht : P.underlying t = some (.struct fs)) (hv : Value.okWide P w .any base t v) (h : DataW.Trod enc P w 0 sp held t v d ps) :
    ∃ cs : Array Value, v = .agg cs ∧ cs.toList.length = P.cellsOf t ∧ ∀ (i : Nat) (f : Field), fs[i]? = some f → ∃ fuel y, DataW.trod enc P w 0 sp held fuel f.type ((cs.toList.drop f.offset).take (P.cellsOf f.type)) = some y := by
  simp only [Value.okWide, ht] at hv
  obtain ⟨cs, rfl, hsz, _⟩ := hv
  obtain ⟨n, hf⟩ := h
  obtain ⟨xs, m, _, _, _, hxl, hx⟩ := DataW.trod_struct ht hf
  refine ⟨cs, rfl, by simpa using hsz, fun i f hif => ?_⟩
  have hi : i < xs.length := by rw [hxl]; exact (Array.getElem?_eq_some_iff.1 hif).1
  exact ⟨m, xs[i], by rw [← List.getElem?_eq_getElem hi]; exact hx i f hif⟩
end
theorem list8 {x : List Value} {a b c d e f g h : Value} (hl : x.length = 8) (h0 : x[0]? = some a) (h1 : x[1]? = some b) (h2 : x[2]? = some c) (h3 : x[3]? = some d) (h4 : x[4]? = some e) (h5 : x[5]? = some f) (h6 : x[6]? = some g) (h7 : x[7]? = some h) : x = [a, b, c, d, e, f, g, h] := by
  match x, hl with
  | [_, _, _, _, _, _, _, _], _ => simp_all
end Go.Proofs.YthiiehanlconeaaDoor
