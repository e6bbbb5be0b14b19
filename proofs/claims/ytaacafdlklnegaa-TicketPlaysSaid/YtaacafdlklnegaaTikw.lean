/-
  What a call leaves beside the state; the state as a value.
-/
import Derived.Test.YtaacafdlklnegaaTikv
import Derived.Test.YtaacafdlklnegaaTiko
namespace Go.Proofs.Ytaacafdlklnegaa
open Go.RowKit
set_option linter.unusedVariables false

def boxed (x : COp) : Obj := .cells #[.int .u8 x.kind, .int .u8 x.page, .int .i8 x.epoch, .int .i8 x.number, .int .i8 x.at_, .string x.text] 48
theorem after_do {w wr w5 : World} {b : Nat} {s s' : State} {F F' : List Nat} (h : Own stateR w wr b 0 s F) (x : COp) (hh : Here stateR w5 b 0 s' F') (hs : Step (wr.alloc (boxed x)) w5 b 0 3 F F') :
    Own stateR w w5 b 0 s' F' ∧ w5.heap[wr.heap.size]? = some (boxed x) := by
  refine ⟨(h.still (Chg.alloc (fun _ => False) wr (boxed x))).step hh hs, hs.chg.keep (alloc_block wr _) ?_⟩
  have := h.here.lt
  rintro (y | y)
  · omega
  · have := this.2 _ y; omega
theorem stateAgg {w : World} {b : Nat} {s : State} {F : List Nat} (H : Here stateR w b 0 s F) : ∃ v0 v1 v2, w.cell? ⟨b, 0, none⟩ = some v0 ∧ w.cell? ⟨b, 1, none⟩ = some v1 ∧ w.cell? ⟨b, 2, none⟩ = some v2 ∧ stateR.own w [v0, v1, v2] s F := by
  obtain ⟨cs, h0, hc⟩ := H.cell
  have h1 := h0
  obtain ⟨v0, v1, v2, F0, F1, F2, rfl, -⟩ := h1
  refine ⟨v0, v1, v2, ?_, ?_, ?_, h0⟩
  · have := hc 0 _ rfl; simpa using this
  · have := hc 1 _ rfl; simpa using this
  · have := hc 2 _ rfl; simpa using this
/-- Facts of a call's kind, page and number as the walk meets them. -/
theorem op_nums (x : COp) (hx : COpOk x) : ∃ k q u : Nat, k < 8 ∧ q < 4 ∧ u < 256 ∧ (x.kind % 8).toNat = k ∧ (x.page % 4).toNat = q ∧ (x.number % 256).toNat = u ∧ x.kind.tmod 8 = (k : Int) ∧ x.page.tmod 4 = (q : Int) ∧ IntKind.u8.wrap x.number = (u : Int) ∧
    IntKind.i64.wrap x.epoch = x.epoch ∧ x.name = pageN q := by
  refine ⟨(x.kind % 8).toNat, (x.page % 4).toNat, (x.number % 256).toNat, by omega, by omega, by omega, rfl, rfl, rfl, ?_, ?_, ?_, wrap_i8 _ hx.epoch, rfl⟩
  · rw [Int.tmod_eq_emod_of_nonneg hx.kind.1]; omega
  · rw [Int.tmod_eq_emod_of_nonneg hx.page.1]; omega
  · show x.number % 256 = _; omega
end Go.Proofs.Ytaacafdlklnegaa
