/-
  The reference of layer 1: Read, Integer.
-/
import Derived.Test.YtehdimblkaefhaaPlaine
namespace Go.Proofs.Ytehdimblkaefhaa
open Go.RowKit
set_option linter.unusedVariables false

/-- What the reference's Read returns. -/
def refR (s : ByteArray) (p : Int) : Nat × Int × Bool :=
  match Kn.num (restOf s p).data.toList with
  | none => (0, 0, false)
  | some (n, k) => (n, p + k, true)

theorem ret_three {r : Nat × Int × Bool} {n q : Int} {b : Bool} (h1 : (r.1 : Int) = n) (h2 : r.2.1 = q) (h3 : r.2.2 = b) : Ending.returned (.tuple #[.int .u64 n, .int .i64 q, .bool b]) = .returned (.tuple #[.int .u64 r.1, .int .i64 r.2.1, .bool r.2.2]) := by rw [h1, h2, h3]

theorem digit_add (acc k c : Nat) (hk : k < 10) (hacc : acc < 2 ^ (7 * k)) (h9 : k = 9 → c % 128 ≤ 1) :
    IntKind.u64.wrap ((acc : Int) + IntKind.u64.wrap ((c : Int) % 128 * 2 ^ (7 * k))) = ((acc + c % 128 * 2 ^ (7 * k) : Nat) : Int) := by
  have hsmall : c % 128 * 2 ^ (7 * k) + 2 ^ (7 * k) ≤ 18446744073709551616 := by
    by_cases h : k = 9
    · subst h
      have := h9 rfl
      have : c % 128 * 2 ^ (7 * 9) ≤ 1 * 2 ^ (7 * 9) := Nat.mul_le_mul_right _ this
      exact Nat.le_trans (Nat.add_le_add_right this _) (by decide)
    · have h2 : 2 ^ (7 * k) ≤ 2 ^ 56 := Nat.pow_le_pow_right (by omega) (by omega)
      have h3 : c % 128 * 2 ^ (7 * k) ≤ 127 * 2 ^ (7 * k) := Nat.mul_le_mul_right _ (by omega)
      have h5 : c % 128 * 2 ^ (7 * k) + 2 ^ (7 * k) ≤ 128 * 2 ^ (7 * k) := by omega
      exact Nat.le_trans h5 (Nat.le_trans (Nat.mul_le_mul_left 128 h2) (by decide))
  have h4 : (c : Int) % 128 * 2 ^ (7 * k) = ((c % 128 * 2 ^ (7 * k) : Nat) : Int) := by push_cast; rfl
  rw [h4, IntWalk.u64_in ((c % 128 * 2 ^ (7 * k) : Nat) : Int) (by omega), IntWalk.u64_in _ (by omega)]
  push_cast; rfl
theorem add63 (acc c : Nat) : ((acc + c % 128 * 9223372036854775808 : Nat) : Int) = (acc : Int) + (c : Int) % 128 * 9223372036854775808 := by omega
theorem add63' (acc c : Nat) : ((acc + c % 128 * 2 ^ (7 * 9) : Nat) : Int) = (acc : Int) + (c : Int) % 128 * 9223372036854775808 := by
  rw [show (2 : Nat) ^ (7 * 9) = 9223372036854775808 from by decide]; exact add63 acc c
theorem refR_none {s : ByteArray} {a : Nat} (hL : (restOf s a).data.toList = s.data.toList.drop a) (h : Kn.num (s.data.toList.drop a) = none) : refR s a = (0, 0, false) := by
  rw [refR, hL, h]
theorem refR_some {s : ByteArray} {a n k : Nat} (hL : (restOf s a).data.toList = s.data.toList.drop a) (h : Kn.num (s.data.toList.drop a) = some (n, k)) : refR s a = (n, (a : Int) + k, true) := by
  rw [refR, hL, h]

set_option maxHeartbeats 1600000 in
set_option maxRecDepth 100000 in
theorem refRead_any (s : ByteArray) (p : Int) (w : World) (hs : s.size ≤ 140737488355328) (hp : -9223372036854775808 ≤ p ∧ p < 9223372036854775808) :
    Calls Try.prog 35 #[.string s, .int .i64 p] w fun e w' => e = .returned (.tuple #[.int .u64 (refR s p).1, .int .i64 (refR s p).2.1, .bool (refR s p).2.2]) ∧ w = w' := by
  by_cases h0 : p < 0
  · have hR : refR s p = (0, 0, false) := by
      have : restOf s p = ByteArray.empty := by rw [restOf, if_pos (.inl h0)]
      rw [refR, this]; rfl
    have HR := Lib.hid hR
    clear hR
    go_enter Try.func35, Try.ntmps35
    go_wp2_with fail
    go_ret3
    exact ⟨ret_three (by rw [HR.out]; rfl) (by rw [HR.out]) (by rw [HR.out]), rfl⟩
  obtain ⟨a, rfl⟩ := Int.eq_ofNat_of_zero_le (show 0 ≤ p by omega)
  by_cases ha : s.size < a
  · have hR : refR s a = (0, 0, false) := by
      have : restOf s a = ByteArray.empty := by rw [restOf, if_pos (.inr (by omega))]
      rw [refR, this]; rfl
    have HR := Lib.hid hR
    clear hR
    go_enter Try.func35, Try.ntmps35
    go_wp2_with fail
    go_loop [7, 8, 9, 10, 11] (fun _ _ i _ _ => i = .int .i64 a) (fun _ _ _ _ _ => 0)
    case atStart => rfl
    case round =>
      subst hrel
      go_wp2_with fail
      all_goals first | omega | skip
      go_ret3
      exact ⟨ret_three (by rw [HR.out]; rfl) (by rw [HR.out]) (by rw [HR.out]), rfl⟩
  have hL := restOf_at s a (by omega)
  go_enter Try.func35, Try.ntmps35
  go_wp2_with fail
  go_loop [7, 8, 9, 10, 11] (fun n sh i _ _ => ∃ (k acc : Nat), a + k ≤ s.size ∧ i = .int .i64 ((a + k : Nat) : Int) ∧ sh = .int .u64 ((7 * k : Nat) : Int) ∧ n = .int .u64 (acc : Int) ∧
      ((k ≤ 9 ∧ acc < 2 ^ (7 * k) ∧ Hid (Kn.num (s.data.toList.drop a) = Kn.numAt (s.data.toList.drop (a + k)) k acc)) ∨ (k = 10 ∧ Hid (Kn.num (s.data.toList.drop a) = none)))) (fun _ _ i _ _ => s.size - (intOf i).toNat)
  case atStart => exact ⟨0, 0, by omega, rfl, rfl, rfl, .inl ⟨by omega, by decide, rfl⟩⟩
  case round =>
    obtain ⟨k, acc, hk, rfl, rfl, rfl, hst⟩ := hrel
    by_cases hlt : a + k < s.size
    · have hb := s[a + k].toNat_lt
      rcases hst with ⟨hk9, hacc, HN⟩ | ⟨rfl, HN⟩
      · have HU := HN.out
        rw [drop_cons s (a + k) hlt, Kn.numAt, if_neg (by omega)] at HU
        have HV := Lib.hid HU
        clear HU HN
        have HL := Lib.hid hL
        clear hL
        by_cases h9 : k < 9
        · by_cases hc : s[a + k].toNat < 128
          · by_cases hz : s[a + k].toNat ≤ 0 ∧ 0 < k
            · have hu := HV.out
              rw [if_neg (by omega), if_pos hc, if_pos (by omega)] at hu
              have HR := Lib.hid (refR_none HL.out hu)
              clear hu HV
              have hx : ((s[a + k].toNat : Int) % 128 == 0) = true := by rw [beq_iff_eq]; omega
              go_wp2_with fail
              all_goals first | omega | skip
              all_goals (
                go_ret3
                exact ⟨ret_three (by rw [HR.out]; rfl) (by rw [HR.out]) (by rw [HR.out]), rfl⟩)
            · have hu := HV.out
              rw [if_neg (by omega), if_pos hc, if_neg (by omega)] at hu
              have HR := Lib.hid (refR_some HL.out hu)
              have HD := Lib.hid (digit_add acc k s[a + k].toNat (by omega) hacc (by omega))
              clear hu HV
              by_cases hz0 : s[a + k].toNat ≤ 0
              · have hx : ((s[a + k].toNat : Int) % 128 == 0) = true := by rw [beq_iff_eq]; omega
                go_wp2_with fail
                all_goals first | omega | skip
                all_goals (
                  go_ret3
                  refine ⟨ret_three ?_ ?_ ?_, rfl⟩
                  · rw [HR.out]
                    have hd := HD.out
                    have hc0 : s[a + k].toNat = 0 := by omega
                    rw [hc0] at hd ⊢
                    simpa using hd.symm
                  · rw [HR.out]; show (a : Int) + ((k + 1 : Nat) : Int) = _; push_cast; omega
                  · rw [HR.out])
              · have hx : ((s[a + k].toNat : Int) % 128 == 0) = false := by rw [beq_eq_false_iff_ne]; omega
                go_wp2_with fail
                all_goals first | omega | skip
                all_goals (
                  go_ret3
                  refine ⟨ret_three ?_ ?_ ?_, rfl⟩
                  · rw [HR.out]; exact HD.out.symm
                  · rw [HR.out]; show (a : Int) + ((k + 1 : Nat) : Int) = _; push_cast; omega
                  · rw [HR.out])
          · have hu := HV.out
            rw [if_neg (by omega), if_neg hc] at hu
            have HR := Lib.hid hu
            have HD := Lib.hid (digit_add acc k s[a + k].toNat (by omega) hacc (by omega))
            clear hu HV
            have hdl := digit_lt acc k s[a + k].toNat hacc
            go_wp2_with fail
            all_goals first | omega | skip
            all_goals (
              go_round
              case rel => exact ⟨k + 1, _, by omega, by go_num, by go_num, by rw [HD.out], .inl ⟨by omega, hdl, by rw [show a + (k + 1) = a + k + 1 from by omega]; exact HR⟩⟩
              case measure => simp [intOf]; omega)
        · obtain rfl : k = 9 := by omega
          by_cases hc1 : 1 < s[a + 9].toNat % 128
          · have hu := HV.out
            rw [if_pos ⟨rfl, by omega⟩] at hu
            have HR := Lib.hid (refR_none HL.out hu)
            clear hu HV
            go_wp2_with fail
            all_goals first | omega | skip
            all_goals (
              go_ret3
              exact ⟨ret_three (by rw [HR.out]; rfl) (by rw [HR.out]) (by rw [HR.out]), rfl⟩)
          · by_cases hc : s[a + 9].toNat < 128
            · by_cases hz0 : s[a + 9].toNat ≤ 0
              · have hu := HV.out
                rw [if_neg (by omega), if_pos hc, if_pos (by omega)] at hu
                have HR := Lib.hid (refR_none HL.out hu)
                clear hu HV
                have hx : ((s[a + 9].toNat : Int) % 128 == 0) = true := by rw [beq_iff_eq]; omega
                go_wp2_with fail
                all_goals first | omega | skip
                all_goals (
                  go_ret3
                  exact ⟨ret_three (by rw [HR.out]; rfl) (by rw [HR.out]) (by rw [HR.out]), rfl⟩)
              · have hu := HV.out
                rw [if_neg (by omega), if_pos hc, if_neg (by omega)] at hu
                have HR := Lib.hid (refR_some HL.out hu)
                have HD := Lib.hid (digit_add acc 9 s[a + 9].toNat (by omega) hacc (by omega))
                clear hu HV
                have hx : ((s[a + 9].toNat : Int) % 128 == 0) = false := by rw [beq_eq_false_iff_ne]; omega
                go_wp2_with fail
                all_goals first | omega | skip
                all_goals (
                  go_ret3
                  refine ⟨ret_three ?_ ?_ ?_, rfl⟩
                  · rw [HR.out]; show ((acc + s[a + 9].toNat % 128 * 2 ^ (7 * 9) : Nat) : Int) = _; exact add63' acc _
                  · rw [HR.out]; show (a : Int) + ((9 + 1 : Nat) : Int) = _; push_cast; omega
                  · rw [HR.out])
            · have hu := HV.out
              rw [if_pos ⟨rfl, by omega⟩] at hu
              have HR := Lib.hid hu
              have HD := Lib.hid (digit_add acc 9 s[a + 9].toNat (by omega) hacc (by omega))
              clear hu HV
              go_wp2_with fail
              all_goals first | omega | skip
              all_goals (
                go_round
                case rel => exact ⟨10, acc + s[a + 9].toNat % 128 * 9223372036854775808, by omega, by go_num, by go_num, by rw [add63], .inr ⟨rfl, HR⟩⟩
                case measure => simp [intOf]; omega)
      · have HR := Lib.hid (refR_none hL HN.out)
        clear HN hL
        go_wp2_with fail
        all_goals first | omega | skip
        all_goals (
          go_ret3
          exact ⟨ret_three (by rw [HR.out]; rfl) (by rw [HR.out]) (by rw [HR.out]), rfl⟩)
    · have hnone : Kn.num (s.data.toList.drop a) = none := by
        rcases hst with ⟨hk9, hacc, HN⟩ | ⟨rfl, HN⟩
        · rw [HN.out, List.drop_of_length_le (by simp; omega)]; rfl
        · exact HN.out
      have HR := Lib.hid (refR_none hL hnone)
      clear hnone hst hL
      go_wp2_with fail
      all_goals first | omega | skip
      all_goals (
        go_ret3
        exact ⟨ret_three (by rw [HR.out]; rfl) (by rw [HR.out]) (by rw [HR.out]), rfl⟩)

set_option maxHeartbeats 400000 in
theorem integer_any (n : Nat) (hn : n < 18446744073709551616) (w : World) :
    Calls Try.prog 36 #[.int .u64 n] w fun e w' => e = .returned (.int .i64 (Kn.unzig n)) ∧ w = w' := by
  by_cases h : n % 2 = 0
  · have hz : Kn.unzig n = ((n : Int) / 2) := by unfold Kn.unzig; rw [if_pos h]; omega
    have HZ := Lib.hid hz
    have hx : ((n : Int) % 2 == 0) = true := by rw [beq_iff_eq]; omega
    clear hz h
    go_enter Try.func36, Try.ntmps36
    go_wp2_with fail
    go_ret
    exact ⟨ret_int HZ.out.symm, rfl⟩
  · have hz : Kn.unzig n = -((n : Int) / 2) - 1 := by unfold Kn.unzig; rw [if_neg h]; omega
    have HZ := Lib.hid hz
    have hx : ((n : Int) % 2 == 0) = false := by rw [beq_eq_false_iff_ne]; omega
    clear hz h
    go_enter Try.func36, Try.ntmps36
    go_wp2_with fail
    go_ret
    exact ⟨ret_int HZ.out.symm, rfl⟩
end Go.Proofs.Ytehdimblkaefhaa
