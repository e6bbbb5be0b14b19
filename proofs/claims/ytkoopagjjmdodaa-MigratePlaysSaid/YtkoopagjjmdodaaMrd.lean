/-
  The machine of layer 54, receiving: settle.
-/
import Derived.Test.YtkoopagjjmdodaaMrc
namespace Go.Proofs.Ytkoopagjjmdodaa
open Go.RowKit
set_option linter.unusedVariables false
set_option linter.unusedSimpArgs false

/-- What an operation on a seat leaves. -/
def SeatPost (w : World) (g so : Nat) (y : Seat) (K : List Nat) (w' : World) : Prop := ∃ K', Here seatR w' g so y K' ∧ Step w w' g so 8 K K'
theorem SeatPost.same {w w' : World} {g so : Nat} {s : Seat} {K : List Nat} (h : Here seatR w g so s K) (hc : Chg (fun _ => False) w w') : SeatPost w g so s K w' := ⟨K, h.still hc, .ofChg hc⟩
theorem SeatPost.pre {w w1 w' : World} {g so : Nat} {y : Seat} {K : List Nat} (hc : Chg (fun _ => False) w w1) (h : SeatPost w1 g so y K w') : SeatPost w g so y K w' := by
  obtain ⟨K', a, b⟩ := h
  exact ⟨K', a, (Step.ofChg hc).trans b⟩
set_option maxHeartbeats 3200000 in
set_option maxRecDepth 100000 in
theorem settle_some (w : World) (g so : Nat) (s : Seat) (K : List Nat) (m : Msg) (hb : -9223372036854775808 ≤ s.epoch ∧ s.epoch < 9223372036854775807) (HS : Here seatR w g so s K) :
    Calls Try.prog 60 #[.pointer (some ⟨g, so, none⟩), .agg m.cells.toArray] w fun e w' => e = .returned (.tuple #[]) ∧ SeatPost w g so (settleM s m) K w' := by
  have hch1 := Chg.alloc (fun _ => False) w (.cells #[.int .i64 m.kind, .int .i64 m.frm, .int .i64 m.dst, .string m.page, .int .i64 m.epoch, .int .i64 m.index, .int .i64 m.count, .string m.data] 39)
  have g1 := alloc_block w (.cells #[.int .i64 m.kind, .int .i64 m.frm, .int .i64 m.dst, .string m.page, .int .i64 m.epoch, .int .i64 m.index, .int .i64 m.count, .string m.data] 39)
  have wq : IntKind.i64.wrap (s.epoch + 1) = s.epoch + 1 := IntWalk.i64_in _ (by omega)
  have WQ := Lib.hid wq
  have HG := Lib.hid g1
  have HS0 := Lib.hid HS
  have HS1 := Lib.hid (HS.still hch1)
  have HC := Lib.hid hch1
  have HB1 := Lib.hid HS.lt.1
  clear HS hch1 g1 hb wq
  unfold Msg.cells

  by_cases hz : s.state = 2 ∨ s.state = 3
  · have hz1 : (s.state == 2 || s.state == 3) = true := by rcases hz with h | h <;> rw [h] <;> rfl
    by_cases q2 : s.epoch = m.epoch
    · have f2 : (s.epoch != m.epoch) = false := by simpa using q2
      by_cases q3 : s.peer = m.frm
      · have f3 : (s.peer != m.frm) = false := by simpa using q3
        by_cases hk : m.kind = 4
        · have hM : settleM s m = { resetS s 5 s.epoch with letter := ⟨#[]⟩ } := by unfold settleM; rw [if_pos (by simp [hz1, q2, q3]), if_pos hk]
          rw [hM]
          clear hM q2 q3 hz1
          have fk : (m.kind == 4) = true := by simpa using hk
          clear hk
          rcases hz with hz | hz
          all_goals

            go_enter Try.func60, Try.ntmps60
            go_upto_region 1 with fail
            generalize w.alloc (.cells #[.int .i64 m.kind, .int .i64 m.frm, .int .i64 m.dst, .string m.page, .int .i64 m.epoch, .int .i64 m.index, .int .i64 m.count, .string m.data] 39) = w1 at *
            obtain ⟨v5, v6, v7, s0, s1, s2, s3, -⟩ := seatCells HS1.out
            have m0 : w1.cell? ⟨w.heap.size, 0, none⟩ = some (.int .i64 m.kind) := cell_of_block (i := 0) HG.out rfl
            have m1 : w1.cell? ⟨w.heap.size, 1, none⟩ = some (.int .i64 m.frm) := cell_of_block (i := 1) HG.out rfl
            have m4 : w1.cell? ⟨w.heap.size, 4, none⟩ = some (.int .i64 m.epoch) := cell_of_block (i := 4) HG.out rfl
            rw [hz] at s1
            have HZ := Lib.hid hz
            clear hz
            go_quiet (fail)
            clear s0 s1 s2 s3
            have HSW := HS1.out.still ((Chg.refl _ w1).drewNR nq)
            obtain ⟨v5, v6, v7, s0, s1, s2, s3, -⟩ := seatCells HSW
            have n0 : (w1.drewN nq).cell? ⟨w.heap.size, 0, none⟩ = some (.int .i64 m.kind) := m0
            have HCW := Lib.hid (HC.out.drewNR nq)
            clear m0 m1 m4
            generalize w1.drewN nq = w2 at *
            go_wp2_with fail
            refine (reset_any w2 g so s K 5 s.epoch HSW).mono ?_
            rintro e w3 ⟨rfl, K3, H3, S3⟩
            obtain ⟨K4, H4, S4⟩ := H3.setField seatR_letter (y := ⟨#[]⟩) (v := .string ⟨#[]⟩) rfl
            obtain ⟨v5', v6', v7', -, -, -, -, x4, -⟩ := seatCells H3
            have fz := H3.frozen (so + 4)
            have HF := Lib.hid H4
            have HT := Lib.hid (S3.trans S4)
            clear H4 S3 S4 H3 HSW s0 s1 s2 s3 n0
            go_wp2_with fail
            refine bodyPost_ret (results_none rfl _ _ _) rfl ?_
            exact ⟨rfl, SeatPost.pre HCW.out ⟨K4, HF.out, HT.out⟩⟩
        · have hM : settleM s m = resetS s 1 (s.epoch + 1) := by unfold settleM; rw [if_pos (by simp [hz1, q2, q3]), if_neg hk]
          rw [hM]
          clear hM q2 q3 hz1
          have fk : (m.kind == 4) = false := by simpa using hk
          clear hk
          rcases hz with hz | hz
          all_goals

            go_enter Try.func60, Try.ntmps60
            go_upto_region 1 with fail
            generalize w.alloc (.cells #[.int .i64 m.kind, .int .i64 m.frm, .int .i64 m.dst, .string m.page, .int .i64 m.epoch, .int .i64 m.index, .int .i64 m.count, .string m.data] 39) = w1 at *
            obtain ⟨v5, v6, v7, s0, s1, s2, s3, -⟩ := seatCells HS1.out
            have m0 : w1.cell? ⟨w.heap.size, 0, none⟩ = some (.int .i64 m.kind) := cell_of_block (i := 0) HG.out rfl
            have m1 : w1.cell? ⟨w.heap.size, 1, none⟩ = some (.int .i64 m.frm) := cell_of_block (i := 1) HG.out rfl
            have m4 : w1.cell? ⟨w.heap.size, 4, none⟩ = some (.int .i64 m.epoch) := cell_of_block (i := 4) HG.out rfl
            rw [hz] at s1
            have HZ := Lib.hid hz
            clear hz
            go_quiet (fail)
            clear s0 s1 s2 s3
            have HSW := HS1.out.still ((Chg.refl _ w1).drewNR nq)
            obtain ⟨v5, v6, v7, s0, s1, s2, s3, -⟩ := seatCells HSW
            have n0 : (w1.drewN nq).cell? ⟨w.heap.size, 0, none⟩ = some (.int .i64 m.kind) := m0
            have HCW := Lib.hid (HC.out.drewNR nq)
            have wq := WQ.out
            clear m0 m1 m4
            generalize w1.drewN nq = w2 at *
            go_wp2_with fail
            refine (reset_any w2 g so s K 1 (s.epoch + 1) HSW).mono ?_
            rintro e w3 ⟨rfl, K3, H3, S3⟩
            go_wp2_with fail
            go_end0
            exact ⟨rfl, SeatPost.pre HCW.out ⟨K3, H3, S3⟩⟩
      · have f3 : (s.peer != m.frm) = true := by simpa using q3
        have hM : settleM s m = s := by unfold settleM; rw [if_neg (by simp [q3])]
        rw [hM]
        clear hM q2 q3 hz1
        rcases hz with hz | hz
        all_goals

          go_enter Try.func60, Try.ntmps60
          go_upto_region 1 with fail
          generalize w.alloc (.cells #[.int .i64 m.kind, .int .i64 m.frm, .int .i64 m.dst, .string m.page, .int .i64 m.epoch, .int .i64 m.index, .int .i64 m.count, .string m.data] 39) = w1 at *
          obtain ⟨v5, v6, v7, s0, s1, s2, s3, -⟩ := seatCells HS1.out
          have m0 : w1.cell? ⟨w.heap.size, 0, none⟩ = some (.int .i64 m.kind) := cell_of_block (i := 0) HG.out rfl
          have m1 : w1.cell? ⟨w.heap.size, 1, none⟩ = some (.int .i64 m.frm) := cell_of_block (i := 1) HG.out rfl
          have m4 : w1.cell? ⟨w.heap.size, 4, none⟩ = some (.int .i64 m.epoch) := cell_of_block (i := 4) HG.out rfl
          rw [hz] at s1
          clear hz
          go_quiet (fail)
          go_wp2_with fail
          refine bodyPost_ret (results_none rfl _ _ _) rfl ?_
          exact ⟨rfl, SeatPost.same HS0.out (HC.out.drewNR _)⟩
    · have f2 : (s.epoch != m.epoch) = true := by simpa using q2
      have hM : settleM s m = s := by unfold settleM; rw [if_neg (by simp [q2])]
      rw [hM]
      clear hM q2 hz1
      rcases hz with hz | hz
      all_goals

        go_enter Try.func60, Try.ntmps60
        go_upto_region 1 with fail
        generalize w.alloc (.cells #[.int .i64 m.kind, .int .i64 m.frm, .int .i64 m.dst, .string m.page, .int .i64 m.epoch, .int .i64 m.index, .int .i64 m.count, .string m.data] 39) = w1 at *
        obtain ⟨v5, v6, v7, s0, s1, s2, s3, -⟩ := seatCells HS1.out
        have m0 : w1.cell? ⟨w.heap.size, 0, none⟩ = some (.int .i64 m.kind) := cell_of_block (i := 0) HG.out rfl
        have m1 : w1.cell? ⟨w.heap.size, 1, none⟩ = some (.int .i64 m.frm) := cell_of_block (i := 1) HG.out rfl
        have m4 : w1.cell? ⟨w.heap.size, 4, none⟩ = some (.int .i64 m.epoch) := cell_of_block (i := 4) HG.out rfl
        rw [hz] at s1
        clear hz
        go_quiet (fail)
        go_wp2_with fail
        refine bodyPost_ret (results_none rfl _ _ _) rfl ?_
        exact ⟨rfl, SeatPost.same HS0.out (HC.out.drewNR _)⟩
  · have f1 : (s.state != 2) = true := by simp; omega
    have f2 : (s.state != 3) = true := by simp; omega
    have hM : settleM s m = s := by
      unfold settleM
      have h1 : (s.state == 2 || s.state == 3) = false := by simp only [Bool.or_eq_false_iff, beq_eq_false_iff_ne]; omega
      rw [h1]; simp
    rw [hM]
    clear hM hz

    go_enter Try.func60, Try.ntmps60
    go_upto_region 1 with fail
    generalize w.alloc (.cells #[.int .i64 m.kind, .int .i64 m.frm, .int .i64 m.dst, .string m.page, .int .i64 m.epoch, .int .i64 m.index, .int .i64 m.count, .string m.data] 39) = w1 at *
    obtain ⟨v5, v6, v7, s0, s1, s2, s3, -⟩ := seatCells HS1.out
    have m0 : w1.cell? ⟨w.heap.size, 0, none⟩ = some (.int .i64 m.kind) := cell_of_block (i := 0) HG.out rfl
    have m1 : w1.cell? ⟨w.heap.size, 1, none⟩ = some (.int .i64 m.frm) := cell_of_block (i := 1) HG.out rfl
    have m4 : w1.cell? ⟨w.heap.size, 4, none⟩ = some (.int .i64 m.epoch) := cell_of_block (i := 4) HG.out rfl
    go_quiet (fail)
    go_wp2_with fail
    refine bodyPost_ret (results_none rfl _ _ _) rfl ?_
    exact ⟨rfl, SeatPost.same HS0.out (HC.out.drewNR _)⟩
end Go.Proofs.Ytkoopagjjmdodaa