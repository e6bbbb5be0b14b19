/-
  The parts and marks of a seat of layer 54, stored at once.
-/
import Derived.Test.YtkoopagjjmdodaaMrg
import Derived.Test.YtkoopagjjmdodaaPair
namespace Go.Proofs.Ytkoopagjjmdodaa
open Go.RowKit
set_option linter.unusedVariables false

/-- The parts and what is there of them. -/
def partsR : Rep (List ByteArray × List Bool) where
  n := 2
  own := fun w cs p F => ∃ v5 v6 F5 F6, cs = [v5, v6] ∧ (Rep.str.row 9).own w [v5] p.1 F5 ∧ (Rep.bool.row 4).own w [v6] p.2 F6 ∧ F = F5 ++ F6
  len := by rintro w cs s F ⟨v5, v6, F5, F6, rfl, h5, h6, rfl⟩; rfl
  lt := by
    rintro w cs s F ⟨v5, v6, F5, F6, rfl, h5, h6, rfl⟩ k hk
    simp only [List.mem_append] at hk
    rcases hk with hk | hk
    · exact (Rep.str.row 9).lt h5 k hk
    · exact (Rep.bool.row 4).lt h6 k hk
  keep := by
    rintro w w2 cs s F ⟨v5, v6, F5, F6, rfl, h5, h6, rfl⟩ hk
    exact ⟨_, _, _, _, rfl, (Rep.str.row 9).keep h5 (fun k hm => hk k (by simp [hm])), (Rep.bool.row 4).keep h6 (fun k hm => hk k (by simp [hm])), rfl⟩
theorem seatR_two : FieldOf seatR partsR 5 (fun s => (s.parts, s.have_)) (fun s y => { s with parts := y.1, have_ := y.2 }) := by
  refine ⟨by show 5 + 2 ≤ 8; omega, ?_⟩
  rintro w cs s F ⟨v5, v6, v7, F5, F6, F7, rfl, h5, h6, h7, rfl⟩
  refine ⟨[], F5 ++ F6, F7, by simp, ⟨v5, v6, F5, F6, rfl, h5, h6, rfl⟩, fun w2 ys y G hk hy => ?_⟩
  obtain ⟨u5, u6, G5, G6, rfl, k5, k6, rfl⟩ := hy
  exact ⟨u5, u6, v7, G5, G6, F7, rfl, k5, k6, ((Rep.int .i64).row 3).keep h7 (fun k hm => hk k (by simp [hm])), by simp⟩
/-- Both stored; the rows were made behind w. -/
theorem seat_two {w w1 : World} {g so : Nat} {s : Seat} {K : List Nat} (H : Here seatR w g so s K) (hc : Chg (fun _ => False) w w1) {v5 v6 : Value} {ps : List ByteArray} {hs : List Bool} (h5 : RowAt w1 9 1 v5 ps.length (ps.map Value.string)) (h6 : RowAt w1 4 1 v6 hs.length (hs.map Value.bool))
    (n5 : ∀ k, v5.ownBlock = some k → w.heap.size ≤ k) (n6 : ∀ k, v6.ownBlock = some k → w.heap.size ≤ k) (hne : ∀ k, v5.ownBlock = some k → ¬ v6.ownBlock = some k) :
    SeatPost w g so { s with parts := ps, have_ := hs } K ((w1.setCell ⟨g, so + 5, none⟩ v5).setCell ⟨g, so + 6, none⟩ v6) := by
  obtain ⟨G, h1, h2, h3⟩ := H.field seatR_two (by show 0 < 8; decide)
  have e5 : (Rep.str.row 9).own w1 [v5] ps (ownL v5) := row_flat.2 ⟨v5, rfl, by rw [flatMap_one]; exact h5, rfl⟩
  have e6 : (Rep.bool.row 4).own w1 [v6] hs (ownL v6) := row_flat.2 ⟨v6, rfl, by rw [flatMap_one]; exact h6, rfl⟩
  have nd1 : ∀ v : Value, (ownL v).Nodup := fun v => by unfold ownL; cases v.ownBlock <;> simp
  obtain ⟨p, q⟩ := h1.put2 (w2 := w1) (v1 := v5) (v2 := v6) (y := (ps, hs)) (G' := ownL v5 ++ ownL v6) rfl (hc.mono (fun _ _ x => x.elim)) ⟨v5, v6, _, _, rfl, e5, e6, rfl⟩
    (List.nodup_append.2 ⟨nd1 _, nd1 _, fun x hx y hy e => by subst e; exact hne x (mem_ownL.1 hx) (mem_ownL.1 hy)⟩) (fun k hk => by
      rcases List.mem_append.1 hk with hk | hk
      · exact .inr (n5 k (mem_ownL.1 hk))
      · exact .inr (n6 k (mem_ownL.1 hk)))
  exact h3 _ _ _ p q
end Go.Proofs.Ytkoopagjjmdodaa
