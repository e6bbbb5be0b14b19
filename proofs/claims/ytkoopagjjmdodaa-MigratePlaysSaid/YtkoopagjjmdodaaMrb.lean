/-
  The machine of layer 54, receiving: known, free, from, reset.
-/
import Derived.Test.YtkoopagjjmdodaaMra
import Derived.Test.YtkoopagjjmdodaaLater
import Derived.Test.YtkoopagjjmdodaaHoldd
namespace Go.Proofs.Ytkoopagjjmdodaa
open Go.RowKit
set_option linter.unusedVariables false
set_option linter.unusedSimpArgs false

theorem seen_flat {α : Type} {w : World} {v : Value} {f : α → Value} {hf : ∀ a : α, [f a].length = 1} {e : TypeId} {l : List α} {F : List Nat} (h : ((Rep.flat 1 (fun a => [f a]) hf).row e).own w [v] l F) : Seen w v (l.map f) := by
  obtain ⟨v', h1, h2, -⟩ := row_flat.1 h
  cases h1
  rw [flatMap_one] at h2
  exact .ofRow h2
theorem known_none (w : World) (ep : Int) :
    Calls Try.prog 56 #[.pointer none, .int .i64 ep] w fun e w' => e = .returned (.int .i64 0) ∧ w = w' := by
  go_enter Try.func56, Try.ntmps56
  go_wp2_with fail
  go_ret
  exact ⟨rfl, rfl⟩
set_option maxHeartbeats 3200000 in
set_option maxRecDepth 100000 in
theorem known_some (w : World) (g so : Nat) (s : Seat) (K : List Nat) (ep : Int) (HS : Here seatR w g so s K) :
    Calls Try.prog 56 #[.pointer (some ⟨g, so, none⟩), .int .i64 ep] w fun e w' => e = .returned (.int .i64 (knownM s ep)) ∧ w = w' := by
  obtain ⟨v5, v6, v7, s0, s1, s2, s3, s4, s5, s6, s7, F5, F6, F7, h5, h6, h7, -⟩ := seatCells HS
  have hseen := seen_flat h7
  have HC := Lib.hid (fun W => contains_int W v7 s.refuses ep)
  have HSN := Lib.hid hseen
  cases hc : s.refuses.contains ep with
  | true =>
    have hM : knownM s ep = 6 := by unfold knownM; rw [if_pos hc]
    rw [hM]
    show Calls _ _ _ _ fun e w' => e = .returned (.int .i64 6) ∧ w = w'
    have HQ := Lib.hid hc
    clear hM hc HS h5 h6 h7 hseen
    go_enter Try.func56, Try.ntmps56
    go_wp2_with fail
    refine (HC.out _ HSN.out).mono ?_
    rintro e w1 ⟨rfl, rfl⟩
    rw [HQ.out]
    go_wp2_with fail
    go_ret
    exact ⟨rfl, rfl⟩
  | false =>
    have hM : knownM s ep = if (s.state == 1 || s.state == 2 || s.state == 3 || s.state == 5) = true ∧ ep ≤ s.epoch then 4 else 0 := by unfold knownM; rw [if_neg (by rw [hc]; simp)]
    rw [hM]
    have HQ := Lib.hid hc
    clear hM hc HS h5 h6 h7 hseen
    generalize s.state = z at *
    generalize s.epoch = y at *
    by_cases hz : z = 1 ∨ z = 2 ∨ z = 3 ∨ z = 5
    · have hact : (z == 1 || z == 2 || z == 3 || z == 5) = true := by rcases hz with rfl | rfl | rfl | rfl <;> rfl
      rw [hact]
      by_cases hy : ep ≤ y
      · rw [if_pos ⟨rfl, hy⟩]
        show Calls _ _ _ _ fun e w' => e = .returned (.int .i64 4) ∧ w = w'
        have hd : decide (ep ≤ y) = true := decide_eq_true hy
        clear hact hy
        rcases hz with rfl | rfl | rfl | rfl
        all_goals
          go_enter Try.func56, Try.ntmps56
          go_wp2_with fail
          refine (HC.out _ HSN.out).mono ?_
          rintro e w1 ⟨rfl, rfl⟩
          rw [HQ.out]
          go_wp2_with fail
          go_ret
          exact ⟨rfl, rfl⟩
      · rw [if_neg (by simpa using hy)]
        show Calls _ _ _ _ fun e w' => e = .returned (.int .i64 0) ∧ w = w'
        have hd : decide (ep ≤ y) = false := decide_eq_false hy
        clear hact hy
        rcases hz with rfl | rfl | rfl | rfl
        all_goals
          go_enter Try.func56, Try.ntmps56
          go_wp2_with fail
          refine (HC.out _ HSN.out).mono ?_
          rintro e w1 ⟨rfl, rfl⟩
          rw [HQ.out]
          go_wp2_with fail
          go_ret
          exact ⟨rfl, rfl⟩
    · have hact : (z == 1 || z == 2 || z == 3 || z == 5) = false := by
        simp only [Bool.or_eq_false_iff, beq_eq_false_iff_ne]
        omega
      rw [hact, if_neg (by simp)]
      show Calls _ _ _ _ fun e w' => e = .returned (.int .i64 0) ∧ w = w'
      have e1 : (z == 1) = false := by simp; omega
      have e2 : (z == 2) = false := by simp; omega
      have e3 : (z == 3) = false := by simp; omega
      have e5 : (z == 5) = false := by simp; omega
      clear hact hz
      go_enter Try.func56, Try.ntmps56
      go_wp2_with fail
      refine (HC.out _ HSN.out).mono ?_
      rintro e w1 ⟨rfl, rfl⟩
      rw [HQ.out]
      go_wp2_with fail
      go_ret
      exact ⟨rfl, rfl⟩
theorem free_none (w : World) : Calls Try.prog 70 #[.pointer none] w fun e w' => e = .returned (.bool true) ∧ w = w' := by
  go_enter Try.func70, Try.ntmps70
  go_wp2_with fail
  go_ret
  exact ⟨rfl, rfl⟩
set_option maxHeartbeats 800000 in
theorem free_some (w : World) (g so : Nat) (s : Seat) (K : List Nat) (HS : Here seatR w g so s K) :
    Calls Try.prog 70 #[.pointer (some ⟨g, so, none⟩)] w fun e w' => e = .returned (.bool (freeM s)) ∧ w = w' := by
  obtain ⟨v5, v6, v7, s0, s1, s2, s3, s4, s5, s6, s7, -⟩ := seatCells HS
  unfold freeM
  generalize s.state = z at *
  clear HS
  by_cases h0 : z = 0
  · subst h0
    go_enter Try.func70, Try.ntmps70
    go_wp2_with fail
    go_ret
    exact ⟨rfl, rfl⟩
  · have e0 : (z == 0) = false := by simpa using h0
    rw [e0, Bool.false_or]
    clear h0
    go_enter Try.func70, Try.ntmps70
    go_wp2_with fail
    go_ret
    exact ⟨rfl, rfl⟩
set_option maxHeartbeats 800000 in
set_option maxRecDepth 100000 in
theorem reset_any (w : World) (g so : Nat) (s : Seat) (K : List Nat) (st ep : Int) (HS : Here seatR w g so s K) :
    Calls Try.prog 72 #[.pointer (some ⟨g, so, none⟩), .int .i64 st, .int .i64 ep] w fun e w' => e = .returned (.tuple #[]) ∧ ∃ K', Here seatR w' g so (resetS s st ep) K' ∧ Step w w' g so 8 K K' := by
  obtain ⟨v5, v6, v7, s0, s1, s2, s3, s4, s5, s6, s7, -⟩ := seatCells HS
  have fz := fun i => HS.frozen i
  obtain ⟨K1, H1, S1⟩ := HS.setField seatR_state (y := st) (v := .int .i64 st) rfl
  obtain ⟨K2, H2, S2⟩ := H1.setField seatR_epoch (y := ep) (v := .int .i64 ep) rfl
  obtain ⟨K3, H3, S3⟩ := H2.setField seatR_peer (y := 0) (v := .int .i64 0) rfl
  obtain ⟨K4, H4, S4⟩ := H3.setNil seatR_parts (by show 0 < 8; decide)
  obtain ⟨K5, H5, S5⟩ := H4.setNil seatR_have_ (by show 0 < 8; decide)
  have HF := Lib.hid H5
  have HT := Lib.hid ((((S1.trans S2).trans S3).trans S4).trans S5)
  clear H1 H2 H3 H4 H5 S1 S2 S3 S4 S5 HS
  go_enter Try.func72, Try.ntmps72
  go_wp2_with fail
  go_end0
  exact ⟨rfl, K5, HF.out, HT.out⟩
end Go.Proofs.Ytkoopagjjmdodaa
