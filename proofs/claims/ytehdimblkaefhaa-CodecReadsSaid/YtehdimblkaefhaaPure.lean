/-
  Walks of the functions of layer 1 that only compute: the two checksums, zigzag.
-/
import Derived.Test.YtehdimblkaefhaaProg
import Derived.Test.YtehdimblkaefhaaPlain
import Derived.WalkKit
import Derived.WalkSpells
import Derived.WalkLawsBesides
import Derived.Lib.Hide
import Derived.Deep.QuietTactic
import Derived.BigQuiet
namespace Go.Proofs.Ytehdimblkaefhaa
set_option linter.unusedVariables false
open Go.RowKit

theorem ret_int {k : IntKind} {a b : Int} (h : a = b) : Ending.returned (.int k a) = .returned (.int k b) := by rw [h]
theorem take_snoc (s : ByteArray) (k : Nat) (h : k < s.size) : s.data.toList.take (k + 1) = s.data.toList.take k ++ [s[k]] := by
  rw [List.take_succ_eq_append_getElem (by simpa using h)]; rfl

theorem crc_xor_in (x : Nat) (b : UInt8) (hx : x < 4294967296) : bits BinOp.xor IntKind.u32 (x : Int) ((b.toNat : Int) % 4294967296) = ((x ^^^ b.toNat : Nat) : Int) := by
  have hb := b.toNat_lt
  rw [show ((b.toNat : Int) % 4294967296) = ((b.toNat : Nat) : Int) from by omega, u32_xor_nat x b.toNat hx (by omega)]

theorem crc_and (z : Nat) (hz : z < 4294967296) : bits BinOp.and IntKind.u32 (z : Int) 1 = ((z % 2 : Nat) : Int) := by
  have := u32_and_nat z 1 hz (by omega)
  rw [nat_mask1] at this
  exact this
theorem crc_odd (z : Nat) (hz : z < 4294967296) (h : (bits BinOp.and IntKind.u32 (z : Int) 1 == 1) = true) :
    bits BinOp.xor IntKind.u32 ((z : Int) / 2) 3988292384 = ((Kn.crcStep z : Nat) : Int) := by
  rw [crc_and z hz] at h
  have hz2 : z % 2 = 1 := by have := beq_iff_eq.1 h; omega
  rw [Kn.crcStep, if_pos hz2, ← u32_xor_nat (z / 2) 3988292384 (by omega) (by omega)]
  rfl
theorem crc_even (z : Nat) (hz : z < 4294967296) (h : (bits BinOp.and IntKind.u32 (z : Int) 1 == 1) = false) :
    (z : Int) / 2 = ((Kn.crcStep z : Nat) : Int) := by
  rw [crc_and z hz] at h
  have hz2 : ¬ z % 2 = 1 := by have := beq_eq_false_iff_ne.1 h; omega
  rw [Kn.crcStep, if_neg hz2]; rfl
theorem crc_odd_rem (z : Nat) (h : ((z : Int) % 2 == 1) = true) (hz : z < 4294967296) :
    bits BinOp.xor IntKind.u32 ((z : Int) / 2) 3988292384 = ((Kn.crcStep z : Nat) : Int) := by
  have hz2 : z % 2 = 1 := by have := beq_iff_eq.1 h; omega
  rw [Kn.crcStep, if_pos hz2, ← u32_xor_nat (z / 2) 3988292384 (by omega) (by omega)]
  rfl
theorem crc_even_rem (z : Nat) (h : ((z : Int) % 2 == 1) = false) : (z : Int) / 2 = ((Kn.crcStep z : Nat) : Int) := by
  have hz2 : ¬ z % 2 = 1 := by have := beq_eq_false_iff_ne.1 h; omega
  rw [Kn.crcStep, if_neg hz2]; rfl
theorem crc_end (z : Nat) (hz : z < 4294967296) : bits BinOp.xor IntKind.u32 IntKind.u32.max (z : Int) = ((4294967295 - z : Nat) : Int) := by
  rw [← Kn.xor_max z hz, ← u32_xor_nat 4294967295 z (by omega) hz]; rfl

set_option maxHeartbeats 400000 in
theorem sum_any (s : ByteArray) (w : World) (hs : s.size ≤ maxLen) :
    Calls Try.prog 18 #[.string s] w fun e w' => e = .returned (.int .u32 (Kn.crc s.data.toList : Nat)) ∧ w = w' := by
  unfold maxLen at hs
  go_enter Try.func18, Try.ntmps18
  go_wp2
  go_loop [3, 4, 5] (fun c i _ => ∃ (k : Nat), k ≤ s.size ∧ i = .int .i64 k ∧ c = .int .u32 (Kn.crcReg (s.data.toList.take k) : Nat)) (fun _ i _ => s.size - (intOf i).toNat)
  case atStart => exact ⟨0, Nat.zero_le _, rfl, rfl⟩
  case round =>
    obtain ⟨k, hk, rfl, rfl⟩ := hrel
    have hx := Kn.crcReg_lt (s.data.toList.take k)
    by_cases hlt : k < s.size
    · have HS := Lib.hid (congrArg Kn.crcReg (take_snoc s k hlt))
      rw [Kn.crcReg_snoc] at HS
      generalize Kn.crcReg (s.data.toList.take k) = x at *
      go_wp2
      rw [crc_xor_in x _ hx]
      have hy : x ^^^ s[k].toNat < 4294967296 := Nat.xor_lt_two_pow (n := 32) hx (by have := s[k].toNat_lt; omega)
      go_loop [3, 5, 18] (fun c _ j => ∃ (m : Nat), m ≤ 8 ∧ j = .int .i64 m ∧ c = .int .u32 (Kn.crcSteps m (x ^^^ s[k].toNat) : Nat)) (fun _ _ j => 8 - (intOf j).toNat)
      case atStart => exact ⟨0, by omega, rfl, rfl⟩
      case round =>
        obtain ⟨m, hm, rfl, rfl⟩ := hrel
        have hz := Kn.crcSteps_lt hy m
        by_cases hm8 : m < 8
        · go_wp2
          · go_round
            case rel => exact ⟨m + 1, by omega, by go_num, by rw [crc_odd _ hz (by assumption)]; rfl⟩
            case measure => simp [intOf]; omega
          · go_round
            case rel => exact ⟨m + 1, by omega, by go_num, by rw [crc_even _ hz (by assumption)]; rfl⟩
            case measure => simp [intOf]; omega
        · obtain rfl : m = 8 := by omega
          go_wp2
          go_round
          case rel => exact ⟨k + 1, by omega, by go_num, by rw [HS.out]; rfl⟩
          case measure => simp [intOf]; omega
    · go_wp2
      go_ret
      refine ⟨ret_int ?_, rfl⟩
      rw [crc_end _ hx, List.take_of_length_le (by simp; omega)]; rfl

set_option maxHeartbeats 400000 in
theorem refSum_any (s : ByteArray) (w : World) (hs : s.size ≤ maxLen) :
    Calls Try.prog 19 #[.string s] w fun e w' => e = .returned (.int .u32 (Kn.crc s.data.toList : Nat)) ∧ w = w' := by
  unfold maxLen at hs
  go_enter Try.func19, Try.ntmps19
  go_wp2
  go_loop [3, 4, 5, 6] (fun c i _ _ => ∃ (k : Nat), k ≤ s.size ∧ i = .int .i64 k ∧ c = .int .u32 (Kn.crcReg (s.data.toList.take k) : Nat)) (fun _ i _ _ => s.size - (intOf i).toNat)
  case atStart => exact ⟨0, Nat.zero_le _, rfl, rfl⟩
  case round =>
    obtain ⟨k, hk, rfl, rfl⟩ := hrel
    have hx := Kn.crcReg_lt (s.data.toList.take k)
    by_cases hlt : k < s.size
    · have HS := Lib.hid (congrArg Kn.crcReg (take_snoc s k hlt))
      rw [Kn.crcReg_snoc] at HS
      generalize Kn.crcReg (s.data.toList.take k) = x at *
      go_wp2
      rw [crc_xor_in x _ hx]
      have hy : x ^^^ s[k].toNat < 4294967296 := Nat.xor_lt_two_pow (n := 32) hx (by have := s[k].toNat_lt; omega)
      go_loop [3, 5, 6] (fun c j _ => ∃ (m : Nat), m ≤ 8 ∧ j = .int .i64 m ∧ c = .int .u32 (Kn.crcSteps m (x ^^^ s[k].toNat) : Nat)) (fun _ j _ => 8 - (intOf j).toNat)
      case atStart => exact ⟨0, by omega, rfl, rfl⟩
      case round =>
        obtain ⟨m, hm, rfl, rfl⟩ := hrel
        have hz := Kn.crcSteps_lt hy m
        by_cases hm8 : m < 8
        · go_wp2
          · go_round
            case rel => exact ⟨m + 1, by omega, by go_num, by rw [crc_odd_rem _ (by assumption) hz]; rfl⟩
            case measure => simp [intOf]; omega
          · go_round
            case rel => exact ⟨m + 1, by omega, by go_num, by rw [crc_even_rem _ (by assumption)]; rfl⟩
            case measure => simp [intOf]; omega
        · obtain rfl : m = 8 := by omega
          go_wp2
          go_round
          case rel => exact ⟨k + 1, by omega, by go_num, by rw [HS.out]; rfl⟩
          case measure => simp [intOf]; omega
    · go_wp2
      go_ret
      refine ⟨ret_int ?_, rfl⟩
      rw [List.take_of_length_le (by simp; omega)]
      rw [List.take_of_length_le (by simp; omega)] at hx
      unfold Kn.crc
      omega
end Go.Proofs.Ytehdimblkaefhaa
