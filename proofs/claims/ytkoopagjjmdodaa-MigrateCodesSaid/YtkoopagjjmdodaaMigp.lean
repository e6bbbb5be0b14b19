/-
  A message that came in.
-/
import Derived.Test.YtkoopagjjmdodaaOpenb
import Derived.Test.YtkoopagjjmdodaaMigk
namespace Go.Proofs.Ytkoopagjjmdodaa
open Go.ChangeShapes Go.WideShapes Go.ChangeAt Go.RowKit
set_option linter.unusedVariables false

set_option maxRecDepth 100000 in
theorem open_msg {H : Type} {enc : TypeId × Value → H} {w : World} {base : Nat} {sp : Nat → Bool} {held : Bool} {v : Value} {d : DataW H} {ps : List MemPlace} (hv : Value.okWide Try.prog w .any base 39 v) (h : DataW.Trod enc Try.prog w 0 sp held 39 v d ps) :
    ∃ m : Msg, v = .agg m.cells.toArray ∧ MsgOk m := by
  obtain ⟨cs, rfl, hl, hf⟩ := open_struct Try.underlying39 hv h
  have hl8 : cs.toList.length = 8 := by rw [hl]; kernel_rfl
  have c3 : Try.prog.cellsOf 3 = 1 := by kernel_rfl
  have c9 : Try.prog.cellsOf 9 = 1 := by kernel_rfl
  obtain ⟨n0, y0, k0⟩ := hf 0 _ rfl
  obtain ⟨n1, y1, k1⟩ := hf 1 _ rfl
  obtain ⟨n2, y2, k2⟩ := hf 2 _ rfl
  obtain ⟨n3, y3, k3⟩ := hf 3 _ rfl
  obtain ⟨n4, y4, k4⟩ := hf 4 _ rfl
  obtain ⟨n5, y5, k5⟩ := hf 5 _ rfl
  obtain ⟨n6, y6, k6⟩ := hf 6 _ rfl
  obtain ⟨n7, y7, k7⟩ := hf 7 _ rfl
  obtain ⟨a0, b0, r0⟩ := cell_int Try.underlying3 c3 k0
  obtain ⟨a1, b1, r1⟩ := cell_int Try.underlying3 c3 k1
  obtain ⟨a2, b2, r2⟩ := cell_int Try.underlying3 c3 k2
  obtain ⟨a3, b3, r3⟩ := cell_string Try.underlying9 c9 k3
  obtain ⟨a4, b4, r4⟩ := cell_int Try.underlying3 c3 k4
  obtain ⟨a5, b5, r5⟩ := cell_int Try.underlying3 c3 k5
  obtain ⟨a6, b6, r6⟩ := cell_int Try.underlying3 c3 k6
  obtain ⟨a7, b7, r7⟩ := cell_string Try.underlying9 c9 k7
  have he := list8 hl8 b0 b1 b2 b3 b4 b5 b6 b7
  have hi : ∀ n : Int, (IntKind.i64.min ≤ n ∧ n ≤ IntKind.i64.max) → I64 n := by
    intro n hn
    have e1 : IntKind.i64.min = -9223372036854775808 := by decide
    have e2 : IntKind.i64.max = 9223372036854775807 := by decide
    unfold I64; rw [e1, e2] at hn; omega
  unfold maxLen at r3 r7
  refine ⟨⟨a0, a1, a2, a3, a4, a5, a6, a7⟩, ?_, hi _ r0, hi _ r1, hi _ r2, hi _ r4, hi _ r5, hi _ r6, by show a3.size ≤ _; omega, by show a7.size ≤ _; omega⟩
  have : cs = (cs.toList).toArray := by simp
  rw [this, he]; rfl
end Go.Proofs.Ytkoopagjjmdodaa
