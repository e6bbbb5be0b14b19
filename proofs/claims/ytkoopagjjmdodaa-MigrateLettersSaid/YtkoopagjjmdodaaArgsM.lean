/-
  Arguments of the laws of layer 54: slices of numbers.
-/
import Derived.Test.YtkoopagjjmdodaaOpen
namespace Go.Proofs.Ytkoopagjjmdodaa
open Go.ChangeShapes Go.WideShapes Go.ChangeAt Go.RowKit
set_option linter.unusedVariables false

set_option maxRecDepth 100000 in
theorem arg_bytes {H : Type} {enc : TypeId × Value → H} {w : World} {base : Nat} {v : Value} {d : DataW H} {ps : List MemPlace} (hv : Value.okWide Try.prog w .any base 70 v) (h : DataW.Trod enc Try.prog w 0 (fun _ => true) true 70 v d ps) :
    ∃ p : Value × List Int, v = p.1 ∧ ArgRow w p.1 (p.2.map (Value.int .u8)) ∧ ∀ z ∈ p.2, 0 ≤ z ∧ z ≤ 255 := by
  obtain ⟨ss, h1, h2, -⟩ := open_intRow (k := .u8) Try.underlying70 Try.underlying5 (by kernel_rfl) hv h
  exact ⟨(v, ss), rfl, h1, fun z hz => by
    have e1 : IntKind.u8.min = 0 := by decide
    have e2 : IntKind.u8.max = 255 := by decide
    have := h2 z hz
    rw [e1, e2] at this
    exact this⟩
set_option maxRecDepth 100000 in
theorem arg_u16s {H : Type} {enc : TypeId × Value → H} {w : World} {base : Nat} {v : Value} {d : DataW H} {ps : List MemPlace} (hv : Value.okWide Try.prog w .any base 69 v) (h : DataW.Trod enc Try.prog w 0 (fun _ => true) true 69 v d ps) :
    ∃ p : Value × List Int, v = p.1 ∧ ArgRow w p.1 (p.2.map (Value.int .u16)) ∧ ∀ z ∈ p.2, 0 ≤ z ∧ z ≤ 65535 := by
  obtain ⟨ss, h1, h2, -⟩ := open_intRow (k := .u16) Try.underlying69 Try.underlying51 (by kernel_rfl) hv h
  exact ⟨(v, ss), rfl, h1, fun z hz => by
    have e1 : IntKind.u16.min = 0 := by decide
    have e2 : IntKind.u16.max = 65535 := by decide
    have := h2 z hz
    rw [e1, e2] at this
    exact this⟩
end Go.Proofs.Ytkoopagjjmdodaa
