/-
  Walks of the functions of layer 1 that only compute: the two checksums, zigzag.
-/
import Derived.Test.YtaacafdlklnegaaProg
import Derived.Test.YtaacafdlklnegaaPlain
import Derived.WalkKit
import Derived.WalkSpells
import Derived.WalkLawsBesides
import Derived.Lib.Hide
import Derived.Deep.QuietTactic
import Derived.BigQuiet
namespace Go.Proofs.Ytaacafdlklnegaa
set_option linter.unusedVariables false
open Go.RowKit

theorem ret_int {k : IntKind} {a b : Int} (h : a = b) : Ending.returned (.int k a) = .returned (.int k b) := by rw [h]
theorem take_snoc (s : ByteArray) (k : Nat) (h : k < s.size) : s.data.toList.take (k + 1) = s.data.toList.take k ++ [s[k]] := by
  rw [List.take_succ_eq_append_getElem (by simpa using h)]; rfl

theorem crc_xor_in (x : Nat) (b : UInt8) (hx : x < 4294967296) : bits BinOp.xor IntKind.u32 (x : Int) ((b.toNat : Int) % 4294967296) = ((x ^^^ b.toNat : Nat) : Int) := by
  have hb := b.toNat_lt
  rw [show ((b.toNat : Int) % 4294967296) = ((b.toNat : Nat) : Int) from by omega, u32_xor_nat x b.toNat hx (by omega)]

theorem crc_and (z : Nat) (hz : z < 4294967296) : bits BinOp.and IntKind.u32 (z : Int) 1 = ((z % 2 : Nat) : Int) := by
  have := u32_and_nat z 1 hz (by omega)
  rw [nat_mask1] at this
  exact this
theorem crc_odd (z : Nat) (hz : z < 4294967296) (h : (bits BinOp.and IntKind.u32 (z : Int) 1 == 1) = true) :
    bits BinOp.xor IntKind.u32 ((z : Int) / 2) 3988292384 = ((Kn.crcStep z : Nat) : Int) := by
  rw [crc_and z hz] at h
  have hz2 : z % 2 = 1 := by have := beq_iff_eq.1 h; omega
  rw [Kn.crcStep, if_pos hz2, ← u32_xor_nat (z / 2) 3988292384 (by omega) (by omega)]
  rfl
theorem crc_even (z : Nat) (hz : z < 4294967296) (h : (bits BinOp.and IntKind.u32 (z : Int) 1 == 1) = false) :
    (z : Int) / 2 = ((Kn.crcStep z : Nat) : Int) := by
  rw [crc_and z hz] at h
  have hz2 : ¬ z % 2 = 1 := by have := beq_eq_false_iff_ne.1 h; omega
  rw [Kn.crcStep, if_neg hz2]; rfl
theorem crc_odd_rem (z : Nat) (h : ((z : Int) % 2 == 1) = true) (hz : z < 4294967296) :
    bits BinOp.xor IntKind.u32 ((z : Int) / 2) 3988292384 = ((Kn.crcStep z : Nat) : Int) := by
  have hz2 : z % 2 = 1 := by have := beq_iff_eq.1 h; omega
  rw [Kn.crcStep, if_pos hz2, ← u32_xor_nat (z / 2) 3988292384 (by omega) (by omega)]
  rfl
theorem crc_even_rem (z : Nat) (h : ((z : Int) % 2 == 1) = false) : (z : Int) / 2 = ((Kn.crcStep z : Nat) : Int) := by
  have hz2 : ¬ z % 2 = 1 := by have := beq_eq_false_iff_ne.1 h; omega
  rw [Kn.crcStep, if_neg hz2]; rfl
theorem crc_end (z : Nat) (hz : z < 4294967296) : bits BinOp.xor IntKind.u32 IntKind.u32.max (z : Int) = ((4294967295 - z : Nat) : Int) := by
  rw [← Kn.xor_max z hz, ← u32_xor_nat 4294967295 z (by omega) hz]; rfl

end Go.Proofs.Ytaacafdlklnegaa
