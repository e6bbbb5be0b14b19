/-
  Plain arithmetic of layer 1 (codec): numbers in base 128, zigzag, the checksum. No program in sight.
-/
import Derived.KernelRfl
namespace Go.Proofs.Ytaacafdlklnegaa.Kn
set_option linter.unusedVariables false

/-- One bit of the checksum's register. -/
def crcStep (r : Nat) : Nat := if r % 2 = 1 then (r / 2) ^^^ 3988292384 else r / 2
def crcSteps : Nat → Nat → Nat
  | 0, r => r
  | k + 1, r => crcStep (crcSteps k r)
def crcByte (r : Nat) (b : UInt8) : Nat := crcSteps 8 (r ^^^ b.toNat)
def crcReg (l : List UInt8) : Nat := l.foldl crcByte 4294967295
def crc (l : List UInt8) : Nat := 4294967295 - crcReg l

theorem crcStep_lt {r : Nat} (h : r < 4294967296) : crcStep r < 4294967296 := by
  unfold crcStep
  split
  · exact Nat.xor_lt_two_pow (n := 32) (by omega) (by omega)
  · omega
theorem crcSteps_lt {r : Nat} (h : r < 4294967296) : ∀ k, crcSteps k r < 4294967296
  | 0 => h
  | k + 1 => crcStep_lt (crcSteps_lt h k)
theorem crcByte_lt {r : Nat} (b : UInt8) (h : r < 4294967296) : crcByte r b < 4294967296 :=
  crcSteps_lt (Nat.xor_lt_two_pow (n := 32) h (by have := b.toNat_lt; omega)) 8
theorem foldl_crc_lt (l : List UInt8) : ∀ r, r < 4294967296 → l.foldl crcByte r < 4294967296 := by
  induction l with
  | nil => intro r h; exact h
  | cons b l ih => intro r h; exact ih _ (crcByte_lt b h)
theorem crcReg_lt (l : List UInt8) : crcReg l < 4294967296 := foldl_crc_lt l _ (by omega)
theorem crc_lt (l : List UInt8) : crc l < 4294967296 := by unfold crc; omega
theorem crcReg_snoc (l : List UInt8) (b : UInt8) : crcReg (l ++ [b]) = crcByte (crcReg l) b := by
  simp [crcReg, List.foldl_append]

theorem xor_ones (k r : Nat) (h : r < 2 ^ k) : (2 ^ k - 1) ^^^ r = 2 ^ k - 1 - r := by
  apply Nat.eq_of_testBit_eq
  intro i
  rw [Nat.testBit_xor, Nat.testBit_two_pow_sub_one]
  rw [show 2 ^ k - 1 - r = 2 ^ k - (r + 1) from by omega, Nat.testBit_two_pow_sub_succ h]
  by_cases hi : i < k
  · simp [hi]
  · have : r.testBit i = false := Nat.testBit_lt_two_pow (Nat.lt_of_lt_of_le h (Nat.pow_le_pow_right (by omega) (by omega)))
    simp [hi, this]
theorem xor_max (r : Nat) (h : r < 4294967296) : 4294967295 ^^^ r = 4294967295 - r := xor_ones 32 r h
theorem xor_max64 (r : Nat) (h : r < 18446744073709551616) : 18446744073709551615 ^^^ r = 18446744073709551615 - r := xor_ones 64 r h

/-- A number in base 128, the lowest digit first. -/
def enc (n : Nat) : List UInt8 := if n < 128 then [UInt8.ofNat n] else UInt8.ofNat (128 + n % 128) :: enc (n / 128)
termination_by n
decreasing_by omega

def zig (n : Int) : Nat := if 0 ≤ n then (2 * n).toNat else (-2 * n - 1).toNat
def unzig (m : Nat) : Int := if m % 2 = 0 then ((m / 2 : Nat) : Int) else -((m / 2 : Nat) : Int) - 1

theorem zig_lt {n : Int} (h1 : -9223372036854775808 ≤ n) (h2 : n < 9223372036854775808) : zig n < 18446744073709551616 := by unfold zig; split <;> omega
theorem enc_small {n : Nat} (h : n < 128) : enc n = [UInt8.ofNat n] := by rw [enc, if_pos h]
theorem enc_big {n : Nat} (h : 128 ≤ n) : enc n = UInt8.ofNat (128 + n % 128) :: enc (n / 128) := by rw [enc, if_neg (by omega)]
theorem enc_pos (n : Nat) : 0 < (enc n).length := by rw [enc]; split <;> simp
theorem enc_len : ∀ (k n : Nat), n < 128 ^ k → (enc n).length ≤ max k 1 := by
  intro k
  induction k with
  | zero => intro n h; rw [enc_small (by omega)]; simp
  | succ k ih =>
    intro n h
    by_cases hn : n < 128
    · rw [enc_small hn]; simp
    · rw [enc_big (by omega), List.length_cons]
      cases k with
      | zero => simp at h; omega
      | succ k =>
        have := ih (n / 128) (by rw [Nat.div_lt_iff_lt_mul (by omega)]; rw [Nat.pow_succ] at h; exact h)
        omega
theorem enc_len10 {n : Nat} (h : n < 18446744073709551616) : (enc n).length ≤ 10 := by
  have := enc_len 10 n (Nat.lt_of_lt_of_le h (by decide))
  omega

/-- The number at the head of a list, from its digit i on. -/
def numAt : List UInt8 → Nat → Nat → Option (Nat × Nat)
  | [], _, _ => none
  | c :: r, i, acc =>
    if 10 ≤ i then none
    else if i = 9 ∧ 1 < c.toNat then none
    else if c.toNat < 128 then (if c.toNat = 0 ∧ 0 < i then none else some (acc + c.toNat % 128 * 2 ^ (7 * i), i + 1))
    else numAt r (i + 1) (acc + c.toNat % 128 * 2 ^ (7 * i))
def num (l : List UInt8) : Option (Nat × Nat) := numAt l 0 0
theorem numAt_bounds (l : List UInt8) : ∀ (i acc n k : Nat), numAt l i acc = some (n, k) → acc < 2 ^ (7 * i) → i < k ∧ k ≤ i + l.length ∧ k ≤ 10 ∧ n < 18446744073709551616 := by
  induction l with
  | nil => intro i acc n k h; simp [numAt] at h
  | cons c r ih =>
    intro i acc n k h hacc
    have h3 : c.toNat % 128 * 2 ^ (7 * i) ≤ 127 * 2 ^ (7 * i) := Nat.mul_le_mul_right _ (by omega)
    have hlt : acc + c.toNat % 128 * 2 ^ (7 * i) < 2 ^ (7 * (i + 1)) := by
      rw [Nat.mul_succ, Nat.pow_add]; omega
    rw [numAt] at h
    split at h
    · cases h
    · split at h
      · cases h
      · rename_i h10 h9
        split at h
        · split at h
          · cases h
          · simp only [Option.some.injEq, Prod.mk.injEq] at h
            obtain ⟨rfl, rfl⟩ := h
            refine ⟨by omega, by simp only [List.length_cons]; omega, by omega, ?_⟩
            by_cases hi : i = 9
            · subst hi
              have : c.toNat % 128 ≤ 1 := by omega
              have h4 : c.toNat % 128 * 2 ^ (7 * 9) ≤ 1 * 2 ^ (7 * 9) := Nat.mul_le_mul_right _ this
              exact Nat.lt_of_lt_of_le (Nat.add_lt_add_of_lt_of_le hacc h4) (by decide)
            · exact Nat.lt_of_lt_of_le hlt (Nat.le_trans (Nat.pow_le_pow_right (by omega) (show 7 * (i + 1) ≤ 63 by omega)) (by decide))
        · have := ih _ _ _ _ h hlt
          simp only [List.length_cons]
          omega
theorem num_bounds {l : List UInt8} {n k : Nat} (h : num l = some (n, k)) : 0 < k ∧ k ≤ l.length ∧ k ≤ 10 ∧ n < 18446744073709551616 := by
  have := numAt_bounds l 0 0 n k h (by decide)
  omega
/-- What number returns. -/
def numOf (l : List UInt8) : Nat × Nat := (num l).getD (0, 0)
theorem numOf_bounds (l : List UInt8) : (numOf l).2 ≤ l.length ∧ (numOf l).2 ≤ 10 ∧ (numOf l).1 < 18446744073709551616 := by
  unfold numOf
  cases h : num l with
  | none => simp
  | some p => have := num_bounds (n := p.1) (k := p.2) h; simp; omega

end Go.Proofs.Ytaacafdlklnegaa.Kn
