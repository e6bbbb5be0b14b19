/-
  The decimal text of a small number has at least one byte.
-/
import Derived.Test.YthiiehanlconeaaHnd
import Derived.Lib.Strings
import Derived.IntWalk
namespace Go.Proofs.Ythiiehanlconeaa
open Go.RowKit
set_option linter.unusedVariables false
set_option linter.unusedSimpArgs false

theorem digit_size (n : Nat) : ((⟨#[48, 49, 50, 51, 52, 53, 54, 55, 56, 57]⟩ : ByteArray).extract (n % 10) (n % 10 + 1)).size = 1 := by
  rw [ByteArray.size_extract]
  show min (n % 10 + 1) 10 - n % 10 = 1
  omega
set_option maxHeartbeats 1600000 in
set_option maxRecDepth 100000 in
theorem digits_pos (n : Nat) (w : World) (hn : n ≤ 1000000) :
    Calls Try.prog 43 #[.int .i64 n] w fun e w' => ∃ s : ByteArray, e = .returned (.string s) ∧ 0 < s.size ∧ s.size ≤ 2000000 ∧ w = w' := by
  have n0 : (0 : Int) ≤ (n : Int) := Int.natCast_nonneg _
  have n1 : (n : Int) ≤ 1000000 := by omega
  have n2 : ((n : Int) == -9223372036854775808) = false := by simp
  have n3 : ¬ (n : Int) < 0 := by omega
  go_enter Try.func43, Try.ntmps43
  go_upto_region 6 with fail
  have hz := digit_size n
  generalize (⟨#[48, 49, 50, 51, 52, 53, 54, 55, 56, 57]⟩ : ByteArray).extract (n % 10) (n % 10 + 1) = s at *
  have HZ := Lib.hid hz
  clear hz
  go_wp2_with fail
  go_loopw [0, 3] (fun s0 s3 wr => ∃ (k : Nat) (u : ByteArray), s0 = .int .i64 k ∧ s3 = .string u ∧ (k : Int) ≤ 100000 ∧ Hid (0 < u.size ∧ u.size + k ≤ 1000000) ∧ wr = w) (fun s0 _ _ => (intOf s0).toNat)
  case atStart => exact ⟨n / 10, s, by go_num, rfl, by omega, Lib.hid (by have := HZ.out; omega), rfl⟩
  case round =>
    obtain ⟨k, u, rfl, rfl, hk, HU, rfl⟩ := hrel
    have k0 : (0 : Int) ≤ (k : Int) := Int.natCast_nonneg _
    by_cases h : 0 < k
    · have h1 : (0 : Int) < (k : Int) := by omega
      have hx := digit_size k
      have HX := Lib.hid hx
      clear hx
      have hu : u.size ≤ 1000000 := by have := HU.out; omega
      go_wp2_with fail
      go_roundw
      case rel => exact ⟨k / 10, _, by go_num, rfl, by omega, Lib.hid (by have := HX.out; have := HU.out; rw [ByteArray.size_append]; omega), trivial⟩
      case measure => simp [intOf]; omega
    · have h1 : ¬ (0 : Int) < (k : Int) := by omega
      go_wp2_with fail
      go_ret
      exact ⟨u, rfl, HU.out.1, by have := HU.out; omega, rfl⟩
end Go.Proofs.Ythiiehanlconeaa
