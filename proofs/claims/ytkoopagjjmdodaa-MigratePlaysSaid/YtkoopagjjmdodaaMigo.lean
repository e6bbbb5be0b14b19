/-
  Receive of layer 54: what is not for the machine, or not well formed, is ignored.
-/
import Derived.Test.YtkoopagjjmdodaaMigi
import Derived.Test.YtkoopagjjmdodaaLater
namespace Go.Proofs.Ytkoopagjjmdodaa
open Go.RowKit
set_option linter.unusedVariables false

set_option maxHeartbeats 1600000 in
set_option maxRecDepth 100000 in
theorem receive_ill (w : World) (b o : Nat) (h : Host) (F : List Nat) (m : Msg) (H : Here hostR w b o h F) (h1 : m.page.size ≤ 9223372036854775807) (h2 : m.data.size ≤ 9223372036854775807) (hf : formedB m = false) :
    Calls Try.prog 32 #[.pointer (some ⟨b, o, none⟩), .agg m.cells.toArray] w fun e w' => e = .returned (.tuple #[]) ∧ Chg (fun _ => False) w w' := by
  have HFF := Lib.hid (fun W => formed_any m W h1 h2)
  rw [hf] at HFF
  clear h1 h2
  unfold Msg.cells at HFF ⊢
  have g1 := alloc_block w (.cells #[.int .i64 m.kind, .int .i64 m.frm, .int .i64 m.dst, .string m.page, .int .i64 m.epoch, .int .i64 m.index, .int .i64 m.count, .string m.data] 39)
  have hch1 := Chg.alloc (fun _ => False) w (.cells #[.int .i64 m.kind, .int .i64 m.frm, .int .i64 m.dst, .string m.page, .int .i64 m.epoch, .int .i64 m.index, .int .i64 m.count, .string m.data] 39)
  go_enter Try.func32, Try.ntmps32
  go_upto_region 1 with fail
  generalize w.alloc (.cells #[.int .i64 m.kind, .int .i64 m.frm, .int .i64 m.dst, .string m.page, .int .i64 m.epoch, .int .i64 m.index, .int .i64 m.count, .string m.data] 39) = w1 at *
  have m0 : ∀ x : Later w1, x.at_.cell? ⟨w.heap.size, 0, none⟩ = some (.int .i64 m.kind) := Later.cell (cell_of_block (i := 0) g1 rfl)
  have m1 : ∀ x : Later w1, x.at_.cell? ⟨w.heap.size, 1, none⟩ = some (.int .i64 m.frm) := Later.cell (cell_of_block (i := 1) g1 rfl)
  have m2 : ∀ x : Later w1, x.at_.cell? ⟨w.heap.size, 2, none⟩ = some (.int .i64 m.dst) := Later.cell (cell_of_block (i := 2) g1 rfl)
  have m3 : ∀ x : Later w1, x.at_.cell? ⟨w.heap.size, 3, none⟩ = some (.string m.page) := Later.cell (cell_of_block (i := 3) g1 rfl)
  have m4 : ∀ x : Later w1, x.at_.cell? ⟨w.heap.size, 4, none⟩ = some (.int .i64 m.epoch) := Later.cell (cell_of_block (i := 4) g1 rfl)
  have m5 : ∀ x : Later w1, x.at_.cell? ⟨w.heap.size, 5, none⟩ = some (.int .i64 m.index) := Later.cell (cell_of_block (i := 5) g1 rfl)
  have m6 : ∀ x : Later w1, x.at_.cell? ⟨w.heap.size, 6, none⟩ = some (.int .i64 m.count) := Later.cell (cell_of_block (i := 6) g1 rfl)
  have m7 : ∀ x : Later w1, x.at_.cell? ⟨w.heap.size, 7, none⟩ = some (.string m.data) := Later.cell (cell_of_block (i := 7) g1 rfl)
  refine wp_region_later (by kernel_rfl) (by kernel_rfl) ?_
  repeat (go_big_quiet_step ((go_at_call 46; exact Later.call (HFF.out _))))
  refine wpQuiet_nil ?_
  rintro _ ⟨x, rfl⟩
  go_wp2_with fail
  refine bodyPost_ret (results_none rfl _ _ _) rfl ?_
  exact ⟨rfl, hch1.trans' x.chg⟩
end Go.Proofs.Ytkoopagjjmdodaa
