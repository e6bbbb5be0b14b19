/-
  Two messages of layer 54 compared.
-/
import Derived.Test.YtkoopagjjmdodaaMigb
namespace Go.Proofs.Ytkoopagjjmdodaa
open Go.RowKit
set_option linter.unusedVariables false

def msgEq (a b : Msg) : Bool := a.kind == b.kind && (a.frm == b.frm && (a.dst == b.dst && (a.page.toList == b.page.toList && (a.epoch == b.epoch && (a.index == b.index && (a.count == b.count && a.data.toList == b.data.toList))))))
theorem msgEq_self (a : Msg) : msgEq a a = true := by simp [msgEq]
set_option maxRecDepth 100000 in
@[go_sem] theorem run_eql_msg (k1 f1 d1 e1 i1 c1 k2 f2 d2 e2 i2 c2 : Int) (p1 t1 p2 t2 : ByteArray) (w : World) :
    (Op.equalIn 10000 39 (.agg #[.int .i64 k1, .int .i64 f1, .int .i64 d1, .string p1, .int .i64 e1, .int .i64 i1, .int .i64 c1, .string t1]) (.agg #[.int .i64 k2, .int .i64 f2, .int .i64 d2, .string p2, .int .i64 e2, .int .i64 i2, .int .i64 c2, .string t2])).run Try.prog w = .ok (msgEq ⟨k1, f1, d1, p1, e1, i1, c1, t1⟩ ⟨k2, f2, d2, p2, e2, i2, c2, t2⟩) w := by
  have u3 := Try.underlying3
  have a3 := Try.isAgg3
  have z3 := Try.sizeOf3
  have u9 := Try.underlying9
  have a9 := Try.isAgg9
  have z9 := Try.sizeOf9
  have hS : Try.prog.underlying 39 = some (.struct (Try.prog.fieldsOf 39)) := by kernel_rfl
  have hP : Try.prog.stoodInHeld 39 = false := by kernel_rfl
  rw [show (10000 : Nat) = 9999 + 1 from rfl, run_equalIn_agg w 9999 39 _ _ hS hP]
  simp only [Program.fieldsOf, Try.underlying39]
  go_simp
  unfold msgEq
  simp only
  by_cases h1 : k1 = k2
  case neg => simp [h1]
  by_cases h2 : f1 = f2
  case neg => simp [h1, h2]
  by_cases h3 : d1 = d2
  case neg => simp [h1, h2, h3]
  by_cases h4 : p1.toList = p2.toList
  case neg => simp [h1, h2, h3, h4]
  by_cases h5 : e1 = e2
  case neg => simp [h1, h2, h3, h4, h5]
  by_cases h6 : i1 = i2
  case neg => simp [h1, h2, h3, h4, h5, h6]
  by_cases h7 : c1 = c2
  case neg => simp [h1, h2, h3, h4, h5, h6, h7]
  by_cases h8 : t1.toList = t2.toList
  case neg => simp [h1, h2, h3, h4, h5, h6, h7, h8]
  simp [h1, h2, h3, h4, h5, h6, h7, h8]
end Go.Proofs.Ytkoopagjjmdodaa
