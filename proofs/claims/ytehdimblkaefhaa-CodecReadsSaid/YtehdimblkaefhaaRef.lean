/-
  The reference of layer 1: Uint, Zigzag.
-/
import Derived.Test.YtehdimblkaefhaaSeal
import Derived.Test.YtehdimblkaefhaaPlainb
namespace Go.Proofs.Ytehdimblkaefhaa
open Go.RowKit
set_option linter.unusedVariables false

theorem bytes_ext {a b : ByteArray} (h : a.data.toList = b.data.toList) : a = b := ByteArray.ext (Array.toList_inj.1 h)
theorem run_convert_one (W : World) (c : Int) : (convert 23 9 (.slice (some ⟨W.heap.size, 0, none⟩) 1 1)).run Try.prog (W.alloc (.cells #[.int .u8 c] 5)) = .ok (.string ⟨#[UInt8.ofNat c.toNat]⟩) (W.alloc (.cells #[.int .u8 c] 5)) :=
  run_convert_bytes_arg (P := Try.prog) _ 23 5 Try.underlying23 Try.underlying5 W.heap.size 0 1 1 [c] rfl (by
    intro i hi
    match i, hi with
    | 0, _ => exact cell_of_block (alloc_block W _) rfl) 9 Try.underlying9

set_option maxHeartbeats 400000 in
set_option maxRecDepth 100000 in
theorem refUint_any (n : Nat) (hn : n < 18446744073709551616) (w : World) :
    Calls Try.prog 13 #[.int .u64 n] w fun e w' => e = .returned (.string ⟨(Kn.enc n).toArray⟩) ∧ Chg (fun _ => False) w w' := by
  have hone := run_convert_one
  have hlen := Kn.enc_len10 hn
  go_enter Try.func13, Try.ntmps13
  go_wp2_with fail
  go_loopw [0, 3] (fun n' s' wr => ∃ (m : Nat) (t : ByteArray), n' = .int .u64 m ∧ m < 18446744073709551616 ∧ s' = .string t ∧ t.size ≤ 10 ∧ Hid (t.data.toList ++ Kn.enc m = Kn.enc n) ∧ Chg (fun _ => False) w wr) (fun n' _ _ => (intOf n').toNat)
  case atStart => exact ⟨n, ByteArray.empty, rfl, hn, rfl, by decide, rfl, Chg.refl _ _⟩
  case round =>
    obtain ⟨m, t, rfl, hm, rfl, ht, HE, hch⟩ := hrel
    have hp := Kn.enc_pos m
    have hl : t.size + (Kn.enc m).length ≤ 10 := by
      have := congrArg List.length HE.out
      rw [List.length_append] at this
      have h2 : t.data.toList.length = t.size := by simp
      omega
    by_cases h128 : 128 ≤ m
    · have HB := Lib.hid (Kn.enc_big h128)
      go_wp2_with fail
      refine ⟨⟨m / 128, _, by simp, by omega, rfl, ?_, ?_, hch.allocR _⟩, by simp [intOf]; omega⟩
      · rw [ByteArray.size_append]
        have : (⟨#[128 + UInt8.ofNat (m % 128)]⟩ : ByteArray).size = 1 := rfl
        omega
      · show _ = _
        rw [← HE.out, HB.out, ByteArray.data_append]
        simp
    · have HB := Lib.hid (Kn.enc_small (n := m) (by omega))
      go_wp2_with fail
      go_ret
      refine ⟨?_, hch.allocR _⟩
      show Ending.returned (.string _) = _
      refine congrArg (fun x => Ending.returned (.string x)) (bytes_ext ?_)
      rw [ByteArray.data_append, ← HE.out, HB.out]
      simp

set_option maxHeartbeats 400000 in
theorem zigzag_any (n : Int) (h1 : -9223372036854775808 ≤ n) (h2 : n < 9223372036854775808) (w : World) :
    Calls Try.prog 27 #[.int .i64 n] w fun e w' => e = .returned (.int .u64 (Kn.zig n)) ∧ w = w' := by
  by_cases h : 0 ≤ n
  · have hz : (Kn.zig n : Int) = n * 2 := by unfold Kn.zig; rw [if_pos h]; omega
    have HZ := Lib.hid hz
    clear hz
    go_enter Try.func27, Try.ntmps27
    go_wp2_with fail
    go_ret
    exact ⟨ret_int HZ.out.symm, rfl⟩
  · have hz : (Kn.zig n : Int) = -(n + 1) * 2 + 1 := by unfold Kn.zig; rw [if_neg h]; omega
    have HZ := Lib.hid hz
    clear hz
    go_enter Try.func27, Try.ntmps27
    go_wp2_with fail
    go_ret
    refine ⟨ret_int ?_, rfl⟩
    rw [HZ.out]
end Go.Proofs.Ytehdimblkaefhaa
