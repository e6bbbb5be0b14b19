/-
  make([]T, n) where an element is one cell.
-/
import Derived.Test.YthiiehanlconeaaDoorHoldc
import Derived.Laws.MakeOwn
namespace Go.Proofs.YthiiehanlconeaaDoor
open Go.RowKit
set_option linter.unusedVariables false

theorem madeOne (z : Value) (n : Nat) : madeCells #[z] n = Array.replicate n z := by
  refine Array.ext (by simp [madeCells]) fun i h1 h2 => ?_
  simp [madeCells, Nat.mod_one]
theorem run_makeOne {P : Program} {t e : TypeId} {z : Value} {bytes : Nat} (ht : P.underlying t = some (.slice e)) (hE : (P.info? e).map (fun i => (i.zero, i.size, i.bytes)) = some (some z, 1, bytes)) (hz : z.cells = #[z]) (n : Int) (h0 : 0 ≤ n) (hb : (bytes : Int) * n ≤ 281474976710656) (h63 : n ≤ 9223372036854775807) :
    ∀ W : World, (Instr.makeSlice t (.int .i64 n) (.int .i64 n)).run P W = .ok (.slice (some ⟨W.heap.size, 0, none⟩) n.toNat n.toNat) (W.alloc (.cells (Array.replicate n.toNat z) e)) := by
  intro W
  match hm : P.info? e, hE with
  | some i, hE =>
    simp only [Option.map_some, Option.some.injEq, Prod.mk.injEq] at hE
    obtain ⟨e1, e2, e3⟩ := hE
    have := run_make (P := P) W t e i z ht hm e1 .i64 .i64 n n h0 (Int.le_refl _) (by rw [e3]; exact hb) h63
    rw [this, e2, Nat.mul_one, hz, madeOne]
theorem RowAt.made (W : World) (e : TypeId) (z : Value) (n : Nat) (hn : n ≤ maxLen) : RowAt (W.alloc (.cells (Array.replicate n z) e)) e 1 (.slice (some ⟨W.heap.size, 0, none⟩) n n) n (List.replicate n z) :=
  ⟨by simp, .inr ⟨W.heap.size, 0, n, _, rfl, alloc_block W _, Nat.le_refl _, hn, by simp, by simp⟩⟩
end Go.Proofs.YthiiehanlconeaaDoor
