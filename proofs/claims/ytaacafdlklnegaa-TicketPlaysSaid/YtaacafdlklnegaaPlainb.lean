/-
  Plain laws of layer 1: what is encoded is read again, a beginning is not enough, what is read is the encoding; the checksum is affine and sees one changed byte. No program in sight.
-/
import Derived.Test.YtaacafdlklnegaaPlain
namespace Go.Proofs.Ytaacafdlklnegaa.Kn
set_option linter.unusedVariables false

theorem two7 (i : Nat) : 2 ^ (7 * (i + 1)) = 128 * 2 ^ (7 * i) := by rw [Nat.mul_succ, Nat.pow_add]; omega
theorem digits_lt10 {n i : Nat} (hn : 0 < n) (h : n * 2 ^ (7 * i) < 18446744073709551616) : i < 10 := by
  apply Classical.byContradiction
  intro hi
  have h2 : 2 ^ 70 ≤ 2 ^ (7 * i) := Nat.pow_le_pow_right (by omega) (by omega)
  have h3 : 1 * 2 ^ (7 * i) ≤ n * 2 ^ (7 * i) := Nat.mul_le_mul_right _ hn
  have h4 : (2 : Nat) ^ 70 = 1180591620717411303424 := by decide
  omega
theorem digits_lt9 {n i : Nat} (hn : 2 ≤ n) (h : n * 2 ^ (7 * i) < 18446744073709551616) : i < 9 := by
  apply Classical.byContradiction
  intro hi
  have h2 : 2 ^ 63 ≤ 2 ^ (7 * i) := Nat.pow_le_pow_right (by omega) (by omega)
  have h3 : 2 * 2 ^ (7 * i) ≤ n * 2 ^ (7 * i) := Nat.mul_le_mul_right _ hn
  have h4 : (2 : Nat) ^ 63 = 9223372036854775808 := by decide
  omega

theorem numAt_enc : ∀ (n : Nat) (r : List UInt8) (i acc : Nat), n * 2 ^ (7 * i) < 18446744073709551616 → (0 < i → 0 < n) → numAt (enc n ++ r) i acc = some (acc + n * 2 ^ (7 * i), i + (enc n).length) := by
  intro n
  induction n using Nat.strongRecOn with
  | _ n ih =>
    intro r i acc hb hp
    by_cases hn : n < 128
    · have hc : (UInt8.ofNat n).toNat = n := by simp; omega
      rw [enc_small hn]
      simp only [List.cons_append, List.nil_append, numAt, hc]
      have h10 : i < 10 := by
        by_cases h0 : 0 < n
        · exact digits_lt10 h0 hb
        · have : ¬ 0 < i := fun h => h0 (hp h)
          omega
      have h9 : ¬ (i = 9 ∧ 1 < n) := by
        rintro ⟨rfl, h⟩
        have := digits_lt9 (by omega) hb
        omega
      rw [if_neg (by omega), if_neg h9, if_pos hn, if_neg (by intro h; have := hp h.2; omega), Nat.mod_eq_of_lt hn]
      rfl
    · have hc : (UInt8.ofNat (128 + n % 128)).toNat = 128 + n % 128 := by simp; omega
      rw [enc_big (by omega)]
      simp only [List.cons_append, numAt, hc]
      have h9 := digits_lt9 (by omega) hb
      rw [if_neg (by omega), if_neg (by omega), if_neg (by omega)]
      have hm : n / 128 * 128 + n % 128 = n := by omega
      have hmul : n / 128 * 2 ^ (7 * (i + 1)) + n % 128 * 2 ^ (7 * i) = n * 2 ^ (7 * i) := by
        rw [two7, ← Nat.mul_assoc, ← Nat.add_mul, hm]
      rw [ih (n / 128) (by omega) r (i + 1) _ (by omega) (by omega)]
      rw [show (128 + n % 128) % 128 = n % 128 from by omega]
      simp only [List.length_cons, Option.some.injEq, Prod.mk.injEq]
      omega
theorem num_enc {n : Nat} (h : n < 18446744073709551616) (r : List UInt8) : num (enc n ++ r) = some (n, (enc n).length) := by
  have := numAt_enc n r 0 0 (by simpa using h) (by omega)
  simpa [num] using this
theorem numOf_enc {n : Nat} (h : n < 18446744073709551616) (r : List UInt8) : numOf (enc n ++ r) = (n, (enc n).length) := by
  rw [numOf, num_enc h]; rfl

theorem numAt_none (l : List UInt8) : ∀ (i acc : Nat), (∀ c ∈ l, 128 ≤ c.toNat) → numAt l i acc = none := by
  induction l with
  | nil => intro i acc _; rfl
  | cons c r ih =>
    intro i acc h
    have hc := h c (by simp)
    simp only [numAt]
    split
    · rfl
    · split
      · rfl
      · rw [if_neg (by omega)]
        exact ih _ _ (fun x hx => h x (by simp [hx]))
theorem enc_take_high : ∀ (n k : Nat), k < (enc n).length → ∀ c ∈ (enc n).take k, 128 ≤ c.toNat := by
  intro n
  induction n using Nat.strongRecOn with
  | _ n ih =>
    intro k hk c hc
    by_cases hn : n < 128
    · rw [enc_small hn] at hk hc
      obtain rfl : k = 0 := by simpa using hk
      simp at hc
    · rw [enc_big (by omega)] at hk hc
      cases k with
      | zero => simp at hc
      | succ k =>
        simp only [List.take_succ_cons, List.mem_cons] at hc
        simp only [List.length_cons] at hk
        rcases hc with rfl | hc
        · simp; omega
        · exact ih (n / 128) (by omega) k (by omega) c hc
theorem numOf_short (n k : Nat) (h : k < (enc n).length) : numOf ((enc n).take k) = (0, 0) := by
  rw [numOf, num, numAt_none _ _ _ (enc_take_high n k h)]; rfl

theorem numAt_back (l : List UInt8) : ∀ (i acc m k : Nat), numAt l i acc = some (m, k) → ∃ n, m = acc + n * 2 ^ (7 * i) ∧ k = i + (enc n).length ∧ l.take (enc n).length = enc n ∧ (0 < i → 0 < n) := by
  induction l with
  | nil => intro i acc m k h; simp [numAt] at h
  | cons c r ih =>
    intro i acc m k h
    have hc := c.toNat_lt
    simp only [numAt] at h
    split at h
    · cases h
    · split at h
      · cases h
      · split at h
        · rename_i h128
          split at h
          · cases h
          · rename_i h0
            simp only [Option.some.injEq, Prod.mk.injEq] at h
            refine ⟨c.toNat, ?_, ?_, ?_, by omega⟩
            · rw [← h.1, Nat.mod_eq_of_lt h128]
            · rw [enc_small h128, ← h.2]; rfl
            · rw [enc_small h128]; simp
        · rename_i h128
          obtain ⟨n, h1, h2, h3, h4⟩ := ih _ _ _ _ h
          have hb : enc (c.toNat % 128 + 128 * n) = c :: enc n := by
            rw [enc_big (by have := h4 (by omega); omega), show (c.toNat % 128 + 128 * n) / 128 = n from by omega, show 128 + (c.toNat % 128 + 128 * n) % 128 = c.toNat from by omega]
            simp
          refine ⟨c.toNat % 128 + 128 * n, ?_, ?_, ?_, fun _ => by have := h4 (by omega); omega⟩
          · rw [h1, two7, Nat.add_mul, ← Nat.mul_assoc, Nat.mul_comm n 128, Nat.add_assoc]
          · rw [hb, h2]; simp only [List.length_cons]; omega
          · rw [hb]; simp [h3]
theorem num_back {l : List UInt8} {n k : Nat} (h : num l = some (n, k)) : k = (enc n).length ∧ l.take k = enc n := by
  obtain ⟨m, h1, h2, h3, _⟩ := numAt_back l 0 0 n k h
  have : m = n := by simpa using h1.symm
  subst this
  refine ⟨by omega, ?_⟩
  rw [show k = (enc m).length from by omega]; exact h3
theorem numOf_back {l : List UInt8} (h : (numOf l).2 ≠ 0) : (numOf l).2 = (enc (numOf l).1).length ∧ l.take (numOf l).2 = enc (numOf l).1 := by
  unfold numOf at h ⊢
  cases hn : num l with
  | none => rw [hn] at h; exact absurd rfl h
  | some p => exact num_back (n := p.1) (k := p.2) hn

theorem unzig_zig {n : Int} (h1 : -9223372036854775808 ≤ n) (h2 : n < 9223372036854775808) : unzig (zig n) = n := by
  unfold unzig zig; split <;> split <;> omega
theorem zig_unzig (m : Nat) : zig (unzig m) = m := by
  unfold unzig zig; split <;> split <;> omega
theorem unzig_lo {m : Nat} (h : m < 18446744073709551616) : -9223372036854775808 ≤ unzig m ∧ unzig m < 9223372036854775808 := by
  unfold unzig; split <;> omega
end Go.Proofs.Ytaacafdlklnegaa.Kn
