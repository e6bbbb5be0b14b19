/-
  The statements' comparison of two lists of strings.
-/
import Derived.Test.YtaacafdlklnegaaOpen
import Derived.Test.YtaacafdlklnegaaTikg
namespace Go.Proofs.Ytaacafdlklnegaa
open Go.RowKit
set_option linter.unusedVariables false

theorem ArgRow.seen {w : World} {v : Value} {xs : List Value} (h : ArgRow w v xs) : Seen w v xs := by
  obtain ⟨a, cap, rfl, h1, h2, h3⟩ := h
  exact ⟨a, cap, rfl, h1, h2, fun hne => by obtain ⟨g, off, rfl, _, h4⟩ := h3 hne; exact ⟨g, off, rfl, h4⟩⟩
theorem Seen.ptr {w w' : World} {a : Option Addr} {n cap : Nat} {xs : List Value} (h : Seen w (.slice a n cap) xs) (hc : Chg (fun _ => False) w w') {k : Nat} {u : Value} (hu : xs[k]? = some u) :
    ∃ g off, a = some ⟨g, off, none⟩ ∧ w'.cell? ⟨g, off + k, none⟩ = some u := by
  obtain ⟨a', cap', hv, h1, h2, h3⟩ := h
  cases hv
  have hne : xs ≠ [] := by rintro rfl; simp at hu
  obtain ⟨g, off, rfl, hcell⟩ := h3 hne
  exact ⟨g, off, rfl, hc.cell (hcell k u hu)⟩

set_option maxHeartbeats 800000 in
set_option maxRecDepth 100000 in
theorem same_eq (w : World) (va vb : Value) (xs : List ByteArray) (ha : Seen w va (xs.map Value.string)) (hb : Seen w vb (xs.map Value.string)) :
    Calls Try.prog 20 #[va, vb] w fun e w' => e = .returned (.bool true) ∧ Chg (fun _ => False) w w' := by
  have HA := Lib.hid ha
  have HB := Lib.hid hb
  obtain ⟨pa, ca, rfl, a1, a2, -⟩ := ha
  obtain ⟨pb, cb, rfl, b1, b2, -⟩ := hb
  rw [List.length_map] at *
  have hln : (xs.length : Int) ≤ 9223372036854775807 := by unfold maxLen at a2; omega
  clear a1 a2 b1 b2
  go_enter Try.func20, Try.ntmps20
  go_wp2_with fail
  go_loopw [5] (fun i wr => ∃ k : Nat, k ≤ xs.length ∧ i = .int .i64 k ∧ Chg (fun _ => False) w wr) (fun i _ => xs.length - (intOf i).toNat)
  case atStart => exact ⟨0, Nat.zero_le _, rfl, .refl _ _⟩
  case round =>
    obtain ⟨k, hk, rfl, hch⟩ := hrel
    by_cases hlt : k < xs.length
    · obtain ⟨g, off, rfl, c1⟩ := HA.out.ptr hch (k := k) (u := .string xs[k]) (by simp [hlt])
      obtain ⟨g2, off2, rfl, c2⟩ := HB.out.ptr hch (k := k) (u := .string xs[k]) (by simp [hlt])
      have h0 : (0 : Int) ≤ (k : Int) := Int.natCast_nonneg _
      have h1 : (k : Int) < (xs.length : Int) := by omega
      generalize xs[k] = x at *
      go_wp2_with fail
      go_quiet (fail)
      go_wp2_with fail
      go_roundw
      case rel => exact ⟨k + 1, by omega, by go_num, hch.drewNR _⟩
      case measure => simp [intOf]; omega
    · obtain rfl : k = xs.length := by omega
      go_wp2_with fail
      go_ret
      exact ⟨rfl, hch⟩
end Go.Proofs.Ytaacafdlklnegaa
