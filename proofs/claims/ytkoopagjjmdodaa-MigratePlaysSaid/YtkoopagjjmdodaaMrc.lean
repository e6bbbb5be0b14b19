/-
  The machine of layer 54, receiving: from, settle.
-/
import Derived.Test.YtkoopagjjmdodaaMrb
namespace Go.Proofs.Ytkoopagjjmdodaa
open Go.RowKit
set_option linter.unusedVariables false
set_option linter.unusedSimpArgs false

set_option maxHeartbeats 3200000 in
set_option maxRecDepth 100000 in
theorem from_any (w : World) (g so : Nat) (s : Seat) (K : List Nat) (m : Msg) (HS : Here seatR w g so s K) :
    Calls Try.prog 71 #[.pointer (some ⟨g, so, none⟩), .agg m.cells.toArray] w fun e w' => e = .returned (.bool (fromB s m)) ∧ Chg (fun _ => False) w w' := by
  have hch1 := Chg.alloc (fun _ => False) w (.cells #[.int .i64 m.kind, .int .i64 m.frm, .int .i64 m.dst, .string m.page, .int .i64 m.epoch, .int .i64 m.index, .int .i64 m.count, .string m.data] 39)
  have g1 := alloc_block w (.cells #[.int .i64 m.kind, .int .i64 m.frm, .int .i64 m.dst, .string m.page, .int .i64 m.epoch, .int .i64 m.index, .int .i64 m.count, .string m.data] 39)
  have HG := Lib.hid g1
  have HS1 := Lib.hid (HS.still hch1)
  have HC := Lib.hid hch1
  have h1 : (s.state == 4) = true ∨ (s.state == 4) = false := by
    cases (s.state == 4) <;> simp
  have h2 : (s.epoch == m.epoch) = true ∨ (s.epoch == m.epoch) = false := by
    cases (s.epoch == m.epoch) <;> simp
  have h3 : (s.peer == m.frm) = true ∨ (s.peer == m.frm) = false := by
    cases (s.peer == m.frm) <;> simp
  clear HS hch1 g1
  unfold Msg.cells fromB
  rcases h1 with h1 | h1
  · rcases h2 with h2 | h2
    · rcases h3 with h3 | h3
      · rw [h1, h2, h3]
        show Calls _ _ _ _ fun e w' => e = .returned (.bool true) ∧ Chg (fun _ => False) w w'
        go_enter Try.func71, Try.ntmps71
        go_upto_region 1 with fail
        generalize w.alloc (.cells #[.int .i64 m.kind, .int .i64 m.frm, .int .i64 m.dst, .string m.page, .int .i64 m.epoch, .int .i64 m.index, .int .i64 m.count, .string m.data] 39) = w1 at *
        obtain ⟨v5, v6, v7, s0, s1, s2, s3, -⟩ := seatCells HS1.out
        have m1 : w1.cell? ⟨w.heap.size, 1, none⟩ = some (.int .i64 m.frm) := cell_of_block (i := 1) HG.out rfl
        have m4 : w1.cell? ⟨w.heap.size, 4, none⟩ = some (.int .i64 m.epoch) := cell_of_block (i := 4) HG.out rfl
        go_quiet (fail)
        go_wp2_with fail
        go_ret
        exact ⟨rfl, HC.out.drewNR _⟩
      · rw [h1, h2, h3]
        show Calls _ _ _ _ fun e w' => e = .returned (.bool false) ∧ Chg (fun _ => False) w w'
        go_enter Try.func71, Try.ntmps71
        go_upto_region 1 with fail
        generalize w.alloc (.cells #[.int .i64 m.kind, .int .i64 m.frm, .int .i64 m.dst, .string m.page, .int .i64 m.epoch, .int .i64 m.index, .int .i64 m.count, .string m.data] 39) = w1 at *
        obtain ⟨v5, v6, v7, s0, s1, s2, s3, -⟩ := seatCells HS1.out
        have m1 : w1.cell? ⟨w.heap.size, 1, none⟩ = some (.int .i64 m.frm) := cell_of_block (i := 1) HG.out rfl
        have m4 : w1.cell? ⟨w.heap.size, 4, none⟩ = some (.int .i64 m.epoch) := cell_of_block (i := 4) HG.out rfl
        go_quiet (fail)
        go_wp2_with fail
        go_ret
        exact ⟨rfl, HC.out.drewNR _⟩
    · rw [h1, h2]
      show Calls _ _ _ _ fun e w' => e = .returned (.bool false) ∧ Chg (fun _ => False) w w'
      go_enter Try.func71, Try.ntmps71
      go_upto_region 1 with fail
      generalize w.alloc (.cells #[.int .i64 m.kind, .int .i64 m.frm, .int .i64 m.dst, .string m.page, .int .i64 m.epoch, .int .i64 m.index, .int .i64 m.count, .string m.data] 39) = w1 at *
      obtain ⟨v5, v6, v7, s0, s1, s2, s3, -⟩ := seatCells HS1.out
      have m4 : w1.cell? ⟨w.heap.size, 4, none⟩ = some (.int .i64 m.epoch) := cell_of_block (i := 4) HG.out rfl
      go_quiet (fail)
      go_wp2_with fail
      go_ret
      exact ⟨rfl, HC.out.drewNR _⟩
  · rw [h1]
    show Calls _ _ _ _ fun e w' => e = .returned (.bool false) ∧ Chg (fun _ => False) w w'
    go_enter Try.func71, Try.ntmps71
    go_upto_region 1 with fail
    generalize w.alloc (.cells #[.int .i64 m.kind, .int .i64 m.frm, .int .i64 m.dst, .string m.page, .int .i64 m.epoch, .int .i64 m.index, .int .i64 m.count, .string m.data] 39) = w1 at *
    obtain ⟨v5, v6, v7, s0, s1, s2, s3, -⟩ := seatCells HS1.out
    go_quiet (fail)
    go_wp2_with fail
    go_ret
    exact ⟨rfl, HC.out.drewNR _⟩

/-- What the answer to an offer does to a seat. -/
def settleM (s : Seat) (m : Msg) : Seat :=
  if ((s.state == 2 || s.state == 3) && s.epoch == m.epoch && s.peer == m.frm) = true then (if m.kind = 4 then { resetS s 5 s.epoch with letter := ⟨#[]⟩ } else resetS s 1 (s.epoch + 1)) else s
theorem settle_none (w : World) (m : Msg) :
    Calls Try.prog 60 #[.pointer none, .agg m.cells.toArray] w fun e w' => e = .returned (.tuple #[]) ∧ Chg (fun _ => False) w w' := by
  have hch1 := Chg.alloc (fun _ => False) w (.cells #[.int .i64 m.kind, .int .i64 m.frm, .int .i64 m.dst, .string m.page, .int .i64 m.epoch, .int .i64 m.index, .int .i64 m.count, .string m.data] 39)
  have HC := Lib.hid hch1
  clear hch1
  unfold Msg.cells
  go_enter Try.func60, Try.ntmps60
  go_upto_region 1 with fail
  generalize w.alloc (.cells #[.int .i64 m.kind, .int .i64 m.frm, .int .i64 m.dst, .string m.page, .int .i64 m.epoch, .int .i64 m.index, .int .i64 m.count, .string m.data] 39) = w1 at *
  go_quiet (fail)
  go_wp2_with fail
  refine bodyPost_ret (results_none rfl _ _ _) rfl ?_
  exact ⟨rfl, HC.out.drewNR _⟩
end Go.Proofs.Ytkoopagjjmdodaa
