/-
  alike: two equal answers.
-/
import Derived.Test.YtaacafdlklnegaaTikw
namespace Go.Proofs.Ytaacafdlklnegaa
open Go.RowKit
set_option linter.unusedVariables false

theorem seen_row {w : World} {e : TypeId} {v : Value} {n : Nat} {xs : List Value} (h : RowAt w e 1 v n xs) : Seen w v xs := .ofRow h

set_option maxHeartbeats 1600000 in
set_option maxRecDepth 100000 in
theorem alike_eq (w : World) (t : Told) (vl1 vn1 vl2 vn2 : Value) (h1 : Seen w vl1 (t.l.map Value.string)) (h2 : Seen w vl2 (t.l.map Value.string)) (h3 : Seen w vn1 (t.n.map (Value.int .i64))) (h4 : Seen w vn2 (t.n.map (Value.int .i64))) :
    Calls Try.prog 23 #[.agg #[.int .i64 t.e, vl1, .bool t.done, vn1], .agg #[.int .i64 t.e, vl2, .bool t.done, vn2]] w fun e w' => e = .returned (.bool true) ∧ Chg (fun _ => False) w w' := by
  obtain ⟨te, tl, td, tn⟩ := t
  dsimp only at *
  have HA := Lib.hid h1
  have HB := Lib.hid h2
  have HC := Lib.hid h3
  have HD := Lib.hid h4
  obtain ⟨pa, ca, rfl, a1, a2, -⟩ := h1
  obtain ⟨pb, cb, rfl, b1, b2, -⟩ := h2
  obtain ⟨pc, cc, rfl, c1, c2, -⟩ := h3
  obtain ⟨pd, cd, rfl, d1, d2, -⟩ := h4
  rw [List.length_map] at *
  have hln : (tl.length : Int) ≤ 9223372036854775807 := by unfold maxLen at a2; omega
  have hnn : (tn.length : Int) ≤ 9223372036854775807 := by unfold maxLen at c2; omega
  clear a1 a2 b1 b2 c1 c2 d1 d2
  have hcA := (Chg.alloc (fun _ => False) w (.cells #[.int .i64 te, .slice pa tl.length ca, .bool td, .slice pc tn.length cc] 50)).allocR (.cells #[.int .i64 te, .slice pb tl.length cb, .bool td, .slice pd tn.length cd] 50)
  go_enter Try.func23, Try.ntmps23
  go_wp2_with fail
  refine (same_eq _ _ _ tl (HA.out.still hcA) (HB.out.still hcA)).mono ?_
  rintro e w2 ⟨rfl, hc2⟩
  have hbx := hc2.keep (alloc_block (w.alloc (.cells #[.int .i64 te, .slice pa tl.length ca, .bool td, .slice pc tn.length cc] 50)) (.cells #[.int .i64 te, .slice pb tl.length cb, .bool td, .slice pd tn.length cd] 50)) (fun x => x)
  have hbw := hc2.keep (alloc_old (.cells #[.int .i64 te, .slice pb tl.length cb, .bool td, .slice pd tn.length cd] 50) (alloc_block w (.cells #[.int .i64 te, .slice pa tl.length ca, .bool td, .slice pc tn.length cc] 50))) (fun x => x)
  rw [show (w.alloc (.cells #[.int .i64 te, .slice pa tl.length ca, .bool td, .slice pc tn.length cc] 50)).heap.size = w.heap.size + 1 from by simp] at hbx
  have e3 : w2.cell? ⟨w.heap.size, 3, none⟩ = _ := cell_of_block (i := 3) hbw rfl
  have f3 : w2.cell? ⟨w.heap.size + 1, 3, none⟩ = _ := cell_of_block (i := 3) hbx rfl
  have hcw := hcA.trans' hc2
  clear hc2 hbx hbw hcA
  generalize w.heap.size = n at *
  go_wp2_with fail
  go_loopw [5] (fun i wr => ∃ k : Nat, k ≤ tn.length ∧ i = .int .i64 k ∧ Chg (fun _ => False) w2 wr) (fun i _ => tn.length - (intOf i).toNat)
  case atStart => exact ⟨0, Nat.zero_le _, rfl, .refl _ _⟩
  case round =>
    obtain ⟨k, hk, rfl, hch⟩ := hrel
    have g3 := hch.cell e3
    have g4 := hch.cell f3
    by_cases hlt : k < tn.length
    · obtain ⟨g, off, rfl, x1⟩ := HC.out.ptr (hcw.trans' hch) (k := k) (u := .int .i64 tn[k]) (by simp [hlt])
      obtain ⟨g', off', rfl, x2⟩ := HD.out.ptr (hcw.trans' hch) (k := k) (u := .int .i64 tn[k]) (by simp [hlt])
      have h0 : (0 : Int) ≤ (k : Int) := Int.natCast_nonneg _
      have h1 : (k : Int) < (tn.length : Int) := by omega
      generalize tn[k] = z at *
      go_wp2_with fail
      go_quiet (fail)
      go_wp2_with fail
      go_roundw
      case rel => exact ⟨k + 1, by omega, by go_num, hch.drewNR _⟩
      case measure => simp [intOf]; omega
    · obtain rfl : k = tn.length := by omega
      go_wp2_with fail
      go_ret
      exact ⟨rfl, hcw.trans' hch⟩
end Go.Proofs.Ytaacafdlklnegaa
