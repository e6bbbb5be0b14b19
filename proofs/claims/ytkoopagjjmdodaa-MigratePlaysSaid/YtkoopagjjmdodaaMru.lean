/-
  A part that is stored into a seat of layer 54.
-/
import Derived.Test.YtkoopagjjmdodaaMrt
namespace Go.Proofs.Ytkoopagjjmdodaa
open Go.RowKit
set_option linter.unusedVariables false

theorem got_step {w : World} {g so : Nat} {s : Seat} {K : List Nat} (HS : Here seatR w g so s K) (i : Nat) (h5 : i < s.parts.length) (h6 : i < s.have_.length) (data : ByteArray) :
    ∃ g5 o5 c5 g6 o6 c6, w.cell? ⟨g, so + 5, none⟩ = some (.slice (some ⟨g5, o5, none⟩) s.parts.length c5) ∧ w.cell? ⟨g, so + 6, none⟩ = some (.slice (some ⟨g6, o6, none⟩) s.have_.length c6) ∧
      w.cell? ⟨g5, o5 + i, none⟩ = some (.string s.parts[i]) ∧ w.frozen? ⟨g5, o5 + i, none⟩ = false ∧
      SeatPost w g so { s with parts := s.parts.set i data } K (w.setCell ⟨g5, o5 + i, none⟩ (.string data)) ∧
      (w.setCell ⟨g5, o5 + i, none⟩ (.string data)).cell? ⟨g, so + 5, none⟩ = some (.slice (some ⟨g5, o5, none⟩) s.parts.length c5) ∧
      (w.setCell ⟨g5, o5 + i, none⟩ (.string data)).cell? ⟨g, so + 6, none⟩ = some (.slice (some ⟨g6, o6, none⟩) s.have_.length c6) ∧
      (w.setCell ⟨g5, o5 + i, none⟩ (.string data)).cell? ⟨g6, o6 + i, none⟩ = some (.bool s.have_[i]) ∧ (w.setCell ⟨g5, o5 + i, none⟩ (.string data)).frozen? ⟨g6, o6 + i, none⟩ = false ∧
      SeatPost w g so { s with parts := s.parts.set i data, have_ := s.have_.set i true } K ((w.setCell ⟨g5, o5 + i, none⟩ (.string data)).setCell ⟨g6, o6 + i, none⟩ (.bool true)) := by
  obtain ⟨g5, o5, c5, v5⟩ := HS.rowAt seatR_parts (by show 0 < 8; decide) (by show 0 < s.parts.length; omega)
  obtain ⟨g6, o6, c6, v6⟩ := HS.rowAt seatR_have_ (by show 0 < 8; decide) (by show 0 < s.have_.length; omega)
  obtain ⟨E5, HE5, -, -, -, hb5⟩ := HS.rowElem seatR_parts (by show 0 < 8; decide) v5 h5
  change Here Rep.str w g5 (o5 + i * 1) s.parts[i] E5 at HE5
  rw [Nat.mul_one] at HE5
  have e5 : w.cell? ⟨g5, o5 + i, none⟩ = some (.string s.parts[i]) := by
    obtain ⟨cs, ⟨rfl, -⟩, hc⟩ := HE5.cell
    simpa using hc 0 _ rfl
  obtain ⟨p1, q1⟩ := HE5.set (y := data) (v := .string data) rfl
  have hp1 := hb5 _ data E5 (by rw [show i * Rep.str.n = i from Nat.mul_one i]; exact p1) (by rw [show i * Rep.str.n = i from Nat.mul_one i]; exact q1)
  obtain ⟨⟨K1, H1, S1⟩, hk1⟩ := hp1
  have w5 := hk1 _ _ v5
  have w6 := hk1 _ _ v6
  obtain ⟨E6, HE6, -, -, -, hb6⟩ := H1.rowElem seatR_have_ (by show 0 < 8; decide) w6 h6
  change Here Rep.bool _ g6 (o6 + i * 1) s.have_[i] E6 at HE6
  rw [Nat.mul_one] at HE6
  have e6 : (w.setCell ⟨g5, o5 + i, none⟩ (.string data)).cell? ⟨g6, o6 + i, none⟩ = some (.bool s.have_[i]) := by
    obtain ⟨cs, ⟨rfl, -⟩, hc⟩ := HE6.cell
    simpa using hc 0 _ rfl
  obtain ⟨p2, q2⟩ := HE6.set (y := true) (v := .bool true) rfl
  have hp2 := hb6 _ true E6 (by rw [show i * Rep.bool.n = i from Nat.mul_one i]; exact p2) (by rw [show i * Rep.bool.n = i from Nat.mul_one i]; exact q2)
  obtain ⟨⟨K2, H2, S2⟩, -⟩ := hp2
  exact ⟨g5, o5, c5, g6, o6, c6, v5, v6, e5, HE5.frozen _, ⟨K1, H1, S1⟩, w5, w6, e6, HE6.frozen _, ⟨K2, H2, S1.trans S2⟩⟩
end Go.Proofs.Ytkoopagjjmdodaa
