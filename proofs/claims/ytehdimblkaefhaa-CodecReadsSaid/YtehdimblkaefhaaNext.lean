/-
  The reference's Next returns what the program's reader reads.
-/
import Derived.Test.YtehdimblkaefhaaRefb
namespace Go.Proofs.Ytehdimblkaefhaa
open Go.RowKit
set_option linter.unusedVariables false

theorem numOf_none {l : List UInt8} (h : Kn.num l = none) : Kn.numOf l = (0, 0) := by rw [Kn.numOf, h]; rfl
theorem numOf_some {l : List UInt8} {n k : Nat} (h : Kn.num l = some (n, k)) : Kn.numOf l = (n, k) := by rw [Kn.numOf, h]; rfl

set_option maxHeartbeats 1600000 in
set_option maxRecDepth 100000 in
theorem next_err (s : ByteArray) (p e : Int) (kind : Nat) (most : Int) (w : World) (hk : kind < 5) (he : e ≠ 0) :
    Calls Try.prog 22 #[.string s, .int .i64 p, .int .i64 e, .int .i64 kind, .int .i64 most] w fun x w' => x = .returned (.agg (readR s p e kind most).cells) ∧ Chg (fun _ => False) w w' := by
  have hR : readR s p e kind most = ⟨0, 0, false, ByteArray.empty, p, e⟩ := by
    match kind, hk with
    | 0, _ => simp [readR, rU, he]
    | 1, _ => simp [readR, rU, he, Kn.unzig]
    | 2, _ => simp [readR, rB, he]
    | 3, _ => simp [readR, rS, he]
    | 4, _ => simp [readR, rC, he]
  have HR := Lib.hid hR
  clear hR
  have hx : (e != 0) = true := by rw [bne_iff_ne]; exact he
  go_enter Try.func22, Try.ntmps22
  go_wp2_with fail
  exact bodyPost_ret (v := .agg #[.int .u64 0, .int .i64 0, .bool false, .string ⟨#[]⟩, .int .i64 p, .int .i64 e]) (by simp [results, Try.results22, go_sem]) rfl ⟨by rw [HR.out]; rfl, Chg.alloc _ _ _⟩

set_option maxHeartbeats 1600000 in
set_option maxRecDepth 100000 in
theorem next_none (s : ByteArray) (p : Int) (kind : Nat) (most : Int) (w : World) (hk : kind < 5) (hk2 : kind ≠ 2) (hs : s.size ≤ 140737488355328) (hp : -9223372036854775808 ≤ p ∧ p < 9223372036854775808) (hn : Kn.num (restOf s p).data.toList = none) :
    Calls Try.prog 22 #[.string s, .int .i64 p, .int .i64 0, .int .i64 kind, .int .i64 most] w fun x w' => x = .returned (.agg (readR s p 0 kind most).cells) ∧ Chg (fun _ => False) w w' := by
  have hR : readR s p 0 kind most = ⟨0, 0, false, ByteArray.empty, p, 3⟩ := by
    match kind, hk with
    | 0, _ => simp [readR, rU, numOf_none hn]
    | 1, _ => simp [readR, rU, numOf_none hn, Kn.unzig]
    | 2, _ => exact absurd rfl hk2
    | 3, _ => simp [readR, rS, numOf_none hn]
    | 4, _ => simp [readR, rC, numOf_none hn]
  have hT : refR s p = (0, 0, false) := by rw [refR, hn]
  have HR := Lib.hid hR
  clear hR
  have hx : ((kind : Int) == 2) = false := by rw [beq_eq_false_iff_ne]; omega
  go_enter Try.func22, Try.ntmps22
  go_wp2_with fail
  refine (refRead_any s p _ hs hp).mono ?_
  rintro x w1 ⟨rfl, rfl⟩
  rw [hT]
  clear hT
  go_wp2_with fail
  exact bodyPost_ret (v := .agg #[.int .u64 0, .int .i64 0, .bool false, .string ⟨#[]⟩, .int .i64 p, .int .i64 3]) (by simp [results, Try.results22, go_sem]) rfl ⟨by rw [HR.out]; rfl, (Chg.alloc _ _ _).allocR _⟩

set_option maxHeartbeats 1600000 in
set_option maxRecDepth 100000 in
theorem next_bool (s : ByteArray) (p : Int) (most : Int) (w : World) (hs : s.size ≤ 140737488355328) (hp : -9223372036854775808 ≤ p ∧ p < 9223372036854775808) :
    Calls Try.prog 22 #[.string s, .int .i64 p, .int .i64 0, .int .i64 2, .int .i64 most] w fun x w' => x = .returned (.agg (readR s p 0 2 most).cells) ∧ Chg (fun _ => False) w w' := by
  by_cases hbad : p < 0 ∨ (s.size : Int) ≤ p
  · have hr : (restOf s p).data.toList = [] := by
      unfold restOf
      split
      · rfl
      · rename_i h
        rw [Lib.extract_to_end, List.drop_of_length_le]
        simp; omega
    have hR : readR s p 0 2 most = ⟨0, 0, false, ByteArray.empty, p, 3⟩ := by simp [readR, rB, hr]
    have HR := Lib.hid hR
    clear hR hr
    by_cases h0 : p < 0
    · have hd : decide (p < 0) = true := by simpa using h0
      go_enter Try.func22, Try.ntmps22
      go_wp2_with fail
      exact bodyPost_ret (v := .agg #[.int .u64 0, .int .i64 0, .bool false, .string ⟨#[]⟩, .int .i64 p, .int .i64 3]) (by simp [results, Try.results22, go_sem]) rfl ⟨by rw [HR.out]; rfl, (Chg.alloc _ _ _).allocR _⟩
    · have hd : decide (p < 0) = false := by simpa using h0
      have hd2 : decide ((s.size : Int) ≤ p) = true := by simp; omega
      go_enter Try.func22, Try.ntmps22
      go_wp2_with fail
      exact bodyPost_ret (v := .agg #[.int .u64 0, .int .i64 0, .bool false, .string ⟨#[]⟩, .int .i64 p, .int .i64 3]) (by simp [results, Try.results22, go_sem]) rfl ⟨by rw [HR.out]; rfl, (Chg.alloc _ _ _).allocR _⟩
  · obtain ⟨a, rfl⟩ := Int.eq_ofNat_of_zero_le (show 0 ≤ p by omega)
    have ha : a < s.size := by omega
    have hr : (restOf s a).data.toList = s[a] :: s.data.toList.drop (a + 1) := by rw [restOf_at s a (by omega), drop_cons s a ha]
    have hd : decide ((a : Int) < 0) = false := by simp
    have hd2 : decide ((s.size : Int) ≤ (a : Int)) = false := by simp; omega
    have hb := s[a].toNat_lt
    by_cases hc : 1 < s[a].toNat
    · have hR : readR s a 0 2 most = ⟨0, 0, false, ByteArray.empty, (a : Int), 3⟩ := by simp [readR, rB, hr, hc]
      have HR := Lib.hid hR
      clear hR hr
      have hd3 : decide ((1 : Int) < (s[a].toNat : Int)) = true := by simp; omega
      go_enter Try.func22, Try.ntmps22
      go_wp2_with fail
      all_goals first | omega | skip
      exact bodyPost_ret (v := .agg #[.int .u64 0, .int .i64 0, .bool false, .string ⟨#[]⟩, .int .i64 (a : Int), .int .i64 3]) (by simp [results, Try.results22, go_sem]) rfl ⟨by rw [HR.out]; rfl, (Chg.alloc _ _ _).allocR _⟩
    · have hR : readR s a 0 2 most = ⟨0, 0, ((s[a].toNat : Int) == 1), ByteArray.empty, (a : Int) + 1, 0⟩ := by simp [readR, rB, hr, hc, int_beq1]
      have HR := Lib.hid hR
      clear hR hr
      have hd3 : decide ((1 : Int) < (s[a].toNat : Int)) = false := by simp; omega
      go_enter Try.func22, Try.ntmps22
      go_wp2_with fail
      all_goals first | omega | skip
      exact bodyPost_ret (v := .agg #[.int .u64 0, .int .i64 0, .bool ((s[a].toNat : Int) == 1), .string ⟨#[]⟩, .int .i64 ((a : Int) + 1), .int .i64 0]) (by simp [results, Try.results22, go_sem]) rfl ⟨by rw [HR.out]; rfl, (Chg.alloc _ _ _).allocR _⟩

set_option maxHeartbeats 1600000 in
set_option maxRecDepth 100000 in
theorem next_uint (s : ByteArray) (p : Int) (most : Int) (w : World) (hs : s.size ≤ 140737488355328) (hp : -9223372036854775808 ≤ p ∧ p < 9223372036854775808) (n k : Nat) (hn : Kn.num (restOf s p).data.toList = some (n, k)) :
    Calls Try.prog 22 #[.string s, .int .i64 p, .int .i64 0, .int .i64 0, .int .i64 most] w fun x w' => x = .returned (.agg (readR s p 0 0 most).cells) ∧ Chg (fun _ => False) w w' := by
  have hb := Kn.num_bounds hn
  have hpos := restOf_pos s p (by have : (restOf s p).data.toList.length = (restOf s p).size := by simp
                                  omega)
  have hrl : (restOf s p).data.toList.length = (restOf s p).size := by simp
  have hT : refR s p = (n, p + k, true) := by rw [refR, hn]
  have hR : readR s p 0 0 most = ⟨n, 0, false, ByteArray.empty, p + k, 0⟩ := by
    have : ¬ k = 0 := by omega
    simp [readR, rU, numOf_some hn, this]
  have HR := Lib.hid hR
  clear hR
  go_enter Try.func22, Try.ntmps22
  go_wp2_with fail
  refine (refRead_any s p _ hs hp).mono ?_
  rintro x w1 ⟨rfl, rfl⟩
  rw [hT]
  clear hT
  go_wp2_with fail
  exact bodyPost_ret (v := .agg #[.int .u64 n, .int .i64 0, .bool false, .string ⟨#[]⟩, .int .i64 (p + k), .int .i64 0]) (by simp [results, Try.results22, go_sem]) rfl ⟨by rw [HR.out]; rfl, (Chg.alloc _ _ _).allocR _⟩

set_option maxHeartbeats 1600000 in
set_option maxRecDepth 100000 in
theorem next_int (s : ByteArray) (p : Int) (most : Int) (w : World) (hs : s.size ≤ 140737488355328) (hp : -9223372036854775808 ≤ p ∧ p < 9223372036854775808) (n k : Nat) (hn : Kn.num (restOf s p).data.toList = some (n, k)) :
    Calls Try.prog 22 #[.string s, .int .i64 p, .int .i64 0, .int .i64 1, .int .i64 most] w fun x w' => x = .returned (.agg (readR s p 0 1 most).cells) ∧ Chg (fun _ => False) w w' := by
  have hb := Kn.num_bounds hn
  have hpos := restOf_pos s p (by have : (restOf s p).data.toList.length = (restOf s p).size := by simp
                                  omega)
  have hrl : (restOf s p).data.toList.length = (restOf s p).size := by simp
  have hT : refR s p = (n, p + k, true) := by rw [refR, hn]
  have hR : readR s p 0 1 most = ⟨0, Kn.unzig n, false, ByteArray.empty, p + k, 0⟩ := by
    have : ¬ k = 0 := by omega
    simp [readR, rU, numOf_some hn, this]
  have HR := Lib.hid hR
  clear hR
  go_enter Try.func22, Try.ntmps22
  go_wp2_with fail
  refine (refRead_any s p _ hs hp).mono ?_
  rintro x w1 ⟨rfl, rfl⟩
  rw [hT]
  clear hT
  go_wp2_with fail
  refine (integer_any n hb.2.2.2 _).mono ?_
  rintro x w1 ⟨rfl, rfl⟩
  go_wp2_with fail
  exact bodyPost_ret (v := .agg #[.int .u64 0, .int .i64 (Kn.unzig n), .bool false, .string ⟨#[]⟩, .int .i64 (p + k), .int .i64 0]) (by simp [results, Try.results22, go_sem]) rfl ⟨by rw [HR.out]; rfl, (Chg.alloc _ _ _).allocR _⟩

set_option maxHeartbeats 1600000 in
set_option maxRecDepth 100000 in
theorem next_count (s : ByteArray) (p : Int) (most : Int) (w : World) (hs : s.size ≤ 140737488355328) (hp : -9223372036854775808 ≤ p ∧ p < 9223372036854775808) (n k : Nat) (hn : Kn.num (restOf s p).data.toList = some (n, k)) (hm : -9223372036854775808 ≤ most ∧ most < 9223372036854775808) :
    Calls Try.prog 22 #[.string s, .int .i64 p, .int .i64 0, .int .i64 4, .int .i64 most] w fun x w' => x = .returned (.agg (readR s p 0 4 most).cells) ∧ Chg (fun _ => False) w w' := by
  have hb := Kn.num_bounds hn
  have hpos := restOf_pos s p (by have : (restOf s p).data.toList.length = (restOf s p).size := by simp
                                  omega)
  have hrl : (restOf s p).data.toList.length = (restOf s p).size := by simp
  have hT : refR s p = (n, p + k, true) := by rw [refR, hn]
  by_cases hl : most.toNat < n
  · have hR : readR s p 0 4 most = ⟨0, 0, false, ByteArray.empty, p, 5⟩ := by
      have : ¬ k = 0 := by omega
      simp [readR, rC, numOf_some hn, this, hl]
    have HR := Lib.hid hR
    clear hR
    go_enter Try.func22, Try.ntmps22
    go_wp2_with fail
    refine (refRead_any s p _ hs hp).mono ?_
    rintro x w1 ⟨rfl, rfl⟩
    rw [hT]
    clear hT
    by_cases hm0 : most < 0
    · go_wp2_with fail
      all_goals first | omega | skip
      exact bodyPost_ret (v := .agg #[.int .u64 0, .int .i64 0, .bool false, .string ⟨#[]⟩, .int .i64 p, .int .i64 5]) (by simp [results, Try.results22, go_sem]) rfl ⟨by rw [HR.out]; rfl, (Chg.alloc _ _ _).allocR _⟩
    · obtain ⟨m, rfl⟩ := Int.eq_ofNat_of_zero_le (show 0 ≤ most by omega)
      rw [Int.toNat_natCast] at hl
      go_wp2_with fail
      all_goals first | omega | skip
      exact bodyPost_ret (v := .agg #[.int .u64 0, .int .i64 0, .bool false, .string ⟨#[]⟩, .int .i64 p, .int .i64 5]) (by simp [results, Try.results22, go_sem]) rfl ⟨by rw [HR.out]; rfl, (Chg.alloc _ _ _).allocR _⟩
  · have hR : readR s p 0 4 most = ⟨n, 0, false, ByteArray.empty, p + k, 0⟩ := by
      have : ¬ k = 0 := by omega
      simp [readR, rC, numOf_some hn, this, hl]
    have HR := Lib.hid hR
    clear hR
    go_enter Try.func22, Try.ntmps22
    go_wp2_with fail
    refine (refRead_any s p _ hs hp).mono ?_
    rintro x w1 ⟨rfl, rfl⟩
    rw [hT]
    clear hT
    by_cases hm0 : most < 0
    · obtain rfl : n = 0 := by omega
      go_wp2_with fail
      all_goals first | omega | skip
      exact bodyPost_ret (v := .agg #[.int .u64 0, .int .i64 0, .bool false, .string ⟨#[]⟩, .int .i64 (p + k), .int .i64 0]) (by simp [results, Try.results22, go_sem]) rfl ⟨by rw [HR.out]; rfl, (Chg.alloc _ _ _).allocR _⟩
    · obtain ⟨m, rfl⟩ := Int.eq_ofNat_of_zero_le (show 0 ≤ most by omega)
      rw [Int.toNat_natCast] at hl
      go_wp2_with fail
      all_goals first | omega | skip
      exact bodyPost_ret (v := .agg #[.int .u64 n, .int .i64 0, .bool false, .string ⟨#[]⟩, .int .i64 (p + k), .int .i64 0]) (by simp [results, Try.results22, go_sem]) rfl ⟨by rw [HR.out]; rfl, (Chg.alloc _ _ _).allocR _⟩

set_option maxHeartbeats 1600000 in
set_option maxRecDepth 100000 in
theorem next_string (s : ByteArray) (p : Int) (most : Int) (w : World) (hs : s.size ≤ 140737488355328) (hp : -9223372036854775808 ≤ p ∧ p < 9223372036854775808) (n k : Nat) (hn : Kn.num (restOf s p).data.toList = some (n, k)) :
    Calls Try.prog 22 #[.string s, .int .i64 p, .int .i64 0, .int .i64 3, .int .i64 most] w fun x w' => x = .returned (.agg (readR s p 0 3 most).cells) ∧ Chg (fun _ => False) w w' := by
  have hb := Kn.num_bounds hn
  have hrl : (restOf s p).data.toList.length = (restOf s p).size := by simp
  have hpos := restOf_pos s p (by omega)
  obtain ⟨a, rfl⟩ := Int.eq_ofNat_of_zero_le hpos.1
  have hT : refR s a = (n, ((a + k : Nat) : Int), true) := by rw [refR, hn]; simp
  have hk0 : ¬ k = 0 := by omega
  by_cases hl : (restOf s a).size < k + n
  · have hR : readR s a 0 3 most = ⟨0, 0, false, ByteArray.empty, (a : Int), 3⟩ := by simp [readR, rS, numOf_some hn, hk0, hl]
    have HR := Lib.hid hR
    have hkr : a + k ≤ s.size := by omega
    have hbad : s.size < a + k + n := by omega
    have hn64 : n < 18446744073709551616 := hb.2.2.2
    clear hR hrl hb hl hpos hn
    go_enter Try.func22, Try.ntmps22
    go_wp2_with fail
    refine (refRead_any s a _ hs hp).mono ?_
    rintro x w1 ⟨rfl, rfl⟩
    rw [hT]
    clear hT
    go_wp2_with fail
    all_goals first | omega | skip
    exact bodyPost_ret (v := .agg #[.int .u64 0, .int .i64 0, .bool false, .string ⟨#[]⟩, .int .i64 (a : Int), .int .i64 3]) (by simp [results, Try.results22, go_sem]) rfl ⟨by rw [HR.out]; rfl, (Chg.alloc _ _ _).allocR _⟩
  · have hx : (restOf s a).extract k (k + n) = s.extract (a + k) (a + k + n) := by
      apply bytes_ext
      rw [Lib.extract_data, Lib.extract_data, restOf_at s a (by omega), List.drop_drop]
      congr 1; omega
    have hR : readR s a 0 3 most = ⟨0, 0, false, s.extract (a + k) (a + k + n), ((a + k + n : Nat) : Int), 0⟩ := by
      simp only [readR, rS, numOf_some hn, hk0, hl, hx, false_or, if_false, if_true, RVal.mk.injEq, true_and, and_true]
      push_cast; omega
    have HR := Lib.hid hR
    have hkr : a + k ≤ s.size := by omega
    have hgood : a + k + n ≤ s.size := by omega
    clear hR hx hrl hb hl hpos hn
    go_enter Try.func22, Try.ntmps22
    go_wp2_with fail
    refine (refRead_any s a _ hs hp).mono ?_
    rintro x w1 ⟨rfl, rfl⟩
    rw [hT]
    clear hT
    go_wp2_with fail
    all_goals first | omega | skip
    exact bodyPost_ret (v := .agg #[.int .u64 0, .int .i64 0, .bool false, .string (s.extract (a + k) (a + k + n)), .int .i64 ((a : Int) + k + n), .int .i64 0]) (by simp [results, Try.results22, go_sem]) rfl ⟨by rw [HR.out]; simp [RVal.cells], (Chg.alloc _ _ _).allocR _⟩

theorem next_any (s : ByteArray) (p e : Int) (kind : Nat) (most : Int) (w : World) (hk : kind < 5) (hs : s.size ≤ 140737488355328) (hp : -9223372036854775808 ≤ p ∧ p < 9223372036854775808) (hm : -9223372036854775808 ≤ most ∧ most < 9223372036854775808) :
    Calls Try.prog 22 #[.string s, .int .i64 p, .int .i64 e, .int .i64 kind, .int .i64 most] w fun x w' => x = .returned (.agg (readR s p e kind most).cells) ∧ Chg (fun _ => False) w w' := by
  by_cases he : e = 0
  · subst he
    by_cases h2 : kind = 2
    · subst h2; exact next_bool s p most w hs hp
    · cases hn : Kn.num (restOf s p).data.toList with
      | none => exact next_none s p kind most w hk h2 hs hp hn
      | some r =>
        obtain ⟨n, k⟩ := r
        match kind, hk with
        | 0, _ => exact next_uint s p most w hs hp n k hn
        | 1, _ => exact next_int s p most w hs hp n k hn
        | 2, _ => exact absurd rfl h2
        | 3, _ => exact next_string s p most w hs hp n k hn
        | 4, _ => exact next_count s p most w hs hp n k hn hm
  · exact next_err s p e kind most w hk he
theorem read_range (s : ByteArray) (p e : Int) (kind : Nat) (most : Int) (hk : kind < 5) (hs : s.size ≤ 140737488355328) (hp : -9223372036854775808 ≤ p ∧ p < 9223372036854775808) :
    -9223372036854775808 ≤ (readR s p e kind most).p ∧ (readR s p e kind most).p < 9223372036854775808 := by
  have hb := Kn.numOf_bounds (restOf s p).data.toList
  have hr := numOf_rest s p
  have hrl : (restOf s p).data.toList.length = (restOf s p).size := by simp
  match kind, hk with
  | 0, _ => simp only [readR, rU]; split <;> (try split) <;> (try (have := hr (by omega))) <;> simp only <;> omega
  | 1, _ => simp only [readR, rU]; split <;> (try split) <;> (try (have := hr (by omega))) <;> simp only <;> omega
  | 2, _ =>
    simp only [readR, rB]
    split
    · split
      · exact hp
      · rename_i c r hl
        have h1 := congrArg List.length hl
        rw [hrl, List.length_cons] at h1
        have h2 := restOf_pos s p (by omega)
        split
        · exact hp
        · simp only; omega
    · exact hp
  | 3, _ =>
    simp only [readR, rS]
    split
    · split
      · exact hp
      · have := hr (by omega)
        have h2 := restOf_pos s p (by omega)
        simp only; omega
    · exact hp
  | 4, _ => simp only [readR, rC]; split <;> (try split) <;> (try split) <;> (try (have := hr (by omega))) <;> simp only <;> omega
end Go.Proofs.Ytehdimblkaefhaa
