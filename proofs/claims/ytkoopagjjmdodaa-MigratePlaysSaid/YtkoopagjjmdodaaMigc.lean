/-
  The operations of a machine of layer 54: offer, part, parts.
-/
import Derived.Test.YtkoopagjjmdodaaMigb
import Derived.StillTailTactics
namespace Go.Proofs.Ytkoopagjjmdodaa
open Go.RowKit
set_option linter.unusedVariables false

/-- The cells of a seat. -/
theorem seatCells {w : World} {g so : Nat} {s : Seat} {K : List Nat} (H : Here seatR w g so s K) : ∃ v5 v6 v7, w.cell? ⟨g, so, none⟩ = some (.string s.page) ∧ w.cell? ⟨g, so + 1, none⟩ = some (.int .i64 s.state) ∧ w.cell? ⟨g, so + 2, none⟩ = some (.int .i64 s.epoch) ∧ w.cell? ⟨g, so + 3, none⟩ = some (.int .i64 s.peer) ∧
    w.cell? ⟨g, so + 4, none⟩ = some (.string s.letter) ∧ w.cell? ⟨g, so + 5, none⟩ = some v5 ∧ w.cell? ⟨g, so + 6, none⟩ = some v6 ∧ w.cell? ⟨g, so + 7, none⟩ = some v7 ∧ ∃ F5 F6 F7, (Rep.str.row 9).own w [v5] s.parts F5 ∧ (Rep.bool.row 4).own w [v6] s.have_ F6 ∧ ((Rep.int .i64).row 3).own w [v7] s.refuses F7 ∧ K = F5 ++ F6 ++ F7 := by
  obtain ⟨cs, ⟨v5, v6, v7, F5, F6, F7, rfl, h5, h6, h7, h8⟩, hc⟩ := H.cell
  exact ⟨v5, v6, v7, hc 0 _ rfl, hc 1 _ rfl, hc 2 _ rfl, hc 3 _ rfl, hc 4 _ rfl, hc 5 _ rfl, hc 6 _ rfl, hc 7 _ rfl, F5, F6, F7, h5, h6, h7, h8⟩

set_option maxHeartbeats 1600000 in
set_option maxRecDepth 100000 in
theorem offer_any (w : World) (b o : Nat) (id : Int) (out : List Msg) (G : List Nat) (g so : Nat) (s : Seat) (K : List Nat) (cnt : Int) (hid : w.cell? ⟨b, o, none⟩ = some (.int .i64 id)) (H : Here outR w b (o + 2) out G) (hl : Few out.length) (HS : Here seatR w g so s K) :
    Calls Try.prog 39 #[.pointer (some ⟨b, o, none⟩), .pointer (some ⟨g, so, none⟩), .int .i64 cnt] w fun e w' => e = .returned (.tuple #[]) ∧ PutPost w b o (out ++ [⟨1, id, s.peer, s.page, s.epoch, 0, cnt, ⟨#[]⟩⟩]) G w' := by
  obtain ⟨_, _, _, s0, -, s2, s3, -⟩ := seatCells HS
  go_enter Try.func39, Try.ntmps39
  go_wp2_with fail
  go_still_tail 15, (by kernel_rfl)
  change wpList _ _ _ _ _ w.drew
  go_wp2_with fail
  refine (put_any w.drew b o id out G ⟨1, 0, s.peer, s.page, s.epoch, 0, cnt, ⟨#[]⟩⟩ hid H.drew hl).mono ?_
  rintro e w2 ⟨rfl, G2, h2, hs2⟩
  go_wp2_with fail
  go_end0
  exact ⟨rfl, G2, h2, hs2.drew⟩

set_option maxHeartbeats 1600000 in
set_option maxRecDepth 100000 in
theorem part_any (w : World) (b o : Nat) (id : Int) (out : List Msg) (G : List Nat) (g so : Nat) (s : Seat) (K : List Nat) (lg lo n cap k : Nat) (u : ByteArray) (hid : w.cell? ⟨b, o, none⟩ = some (.int .i64 id)) (H : Here outR w b (o + 2) out G) (hl : Few out.length) (HS : Here seatR w g so s K)
    (hk : k < n) (hn : n ≤ 9223372036854775807) (hc : w.cell? ⟨lg, lo + k, none⟩ = some (.string u)) :
    Calls Try.prog 40 #[.pointer (some ⟨b, o, none⟩), .pointer (some ⟨g, so, none⟩), .slice (some ⟨lg, lo, none⟩) n cap, .int .i64 k] w fun e w' => e = .returned (.tuple #[]) ∧ PutPost w b o (out ++ [⟨2, id, s.peer, s.page, s.epoch, k, n, u⟩]) G w' := by
  obtain ⟨_, _, _, s0, -, s2, s3, -⟩ := seatCells HS
  have h0 : (0 : Int) ≤ (k : Int) := Int.natCast_nonneg _
  have h3 : (k : Int) < (n : Int) := by omega
  go_enter Try.func40, Try.ntmps40
  go_wp2_with fail
  go_still_tail 21, (by kernel_rfl)
  change wpList _ _ _ _ _ w.drew
  go_wp2_with fail
  refine (put_any w.drew b o id out G ⟨2, 0, s.peer, s.page, s.epoch, k, n, u⟩ hid H.drew hl).mono ?_
  rintro e w2 ⟨rfl, G2, h2, hs2⟩
  go_wp2_with fail
  go_end0
  exact ⟨rfl, G2, h2, hs2.drew⟩

end Go.Proofs.Ytkoopagjjmdodaa
