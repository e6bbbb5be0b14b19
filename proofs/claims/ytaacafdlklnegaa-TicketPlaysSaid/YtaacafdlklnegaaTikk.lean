/-
  The reference's names of pages: Digits of 0 to 3, Name.
-/
import Derived.Test.YtaacafdlklnegaaTikh
namespace Go.Proofs.Ytaacafdlklnegaa
open Go.RowKit
set_option linter.unusedVariables false

def pageN (k : Nat) : ByteArray := ⟨#[112, 97, 103, 101, 48 + k.toUInt8]⟩

set_option maxHeartbeats 800000 in
set_option maxRecDepth 100000 in
theorem digits_0 (w : World) : Calls Try.prog 49 #[.int .i64 0] w fun e w' => e = .returned (.string ⟨#[48]⟩) ∧ w = w' := by
  go_enter Try.func49, Try.ntmps49
  go_wp2_with fail
  go_loopw [0, 3] (fun i s wr => i = .int .i64 0 ∧ s = .string ⟨#[48]⟩ ∧ w = wr) (fun _ _ _ => 0)
  case atStart => exact ⟨rfl, rfl, rfl⟩
  case round =>
    obtain ⟨rfl, rfl, rfl⟩ := hrel
    go_wp2_with fail
    go_ret
    exact ⟨rfl, rfl⟩
set_option maxHeartbeats 800000 in
set_option maxRecDepth 100000 in
theorem digits_1 (w : World) : Calls Try.prog 49 #[.int .i64 1] w fun e w' => e = .returned (.string ⟨#[49]⟩) ∧ w = w' := by
  go_enter Try.func49, Try.ntmps49
  go_wp2_with fail
  go_loopw [0, 3] (fun i s wr => i = .int .i64 0 ∧ s = .string ⟨#[49]⟩ ∧ w = wr) (fun _ _ _ => 0)
  case atStart => exact ⟨rfl, rfl, rfl⟩
  case round =>
    obtain ⟨rfl, rfl, rfl⟩ := hrel
    go_wp2_with fail
    go_ret
    exact ⟨rfl, rfl⟩
set_option maxHeartbeats 800000 in
set_option maxRecDepth 100000 in
theorem digits_2 (w : World) : Calls Try.prog 49 #[.int .i64 2] w fun e w' => e = .returned (.string ⟨#[50]⟩) ∧ w = w' := by
  go_enter Try.func49, Try.ntmps49
  go_wp2_with fail
  go_loopw [0, 3] (fun i s wr => i = .int .i64 0 ∧ s = .string ⟨#[50]⟩ ∧ w = wr) (fun _ _ _ => 0)
  case atStart => exact ⟨rfl, rfl, rfl⟩
  case round =>
    obtain ⟨rfl, rfl, rfl⟩ := hrel
    go_wp2_with fail
    go_ret
    exact ⟨rfl, rfl⟩
set_option maxHeartbeats 800000 in
set_option maxRecDepth 100000 in
theorem digits_3 (w : World) : Calls Try.prog 49 #[.int .i64 3] w fun e w' => e = .returned (.string ⟨#[51]⟩) ∧ w = w' := by
  go_enter Try.func49, Try.ntmps49
  go_wp2_with fail
  go_loopw [0, 3] (fun i s wr => i = .int .i64 0 ∧ s = .string ⟨#[51]⟩ ∧ w = wr) (fun _ _ _ => 0)
  case atStart => exact ⟨rfl, rfl, rfl⟩
  case round =>
    obtain ⟨rfl, rfl, rfl⟩ := hrel
    go_wp2_with fail
    go_ret
    exact ⟨rfl, rfl⟩
theorem digits_any (w : World) (k : Nat) (h : k < 4) : Calls Try.prog 49 #[.int .i64 (k : Int)] w fun e w' => e = .returned (.string ⟨#[48 + k.toUInt8]⟩) ∧ w = w' := by
  match k, h with
  | 0, _ => exact digits_0 w
  | 1, _ => exact digits_1 w
  | 2, _ => exact digits_2 w
  | 3, _ => exact digits_3 w

set_option maxHeartbeats 800000 in
set_option maxRecDepth 100000 in
theorem name_any (w : World) (z : Int) (k : Nat) (h : k < 4) (hz : 0 ≤ z ∧ z ≤ 255) (hk : z % 4 = (k : Int)) : Calls Try.prog 27 #[.int .u8 z] w fun e w' => e = .returned (.string (pageN k)) ∧ w = w' := by
  have hw : IntKind.i64.wrap (k : Int) = (k : Int) := IntWalk.i64_in _ (by omega)
  have hm : z.tmod 4 = (k : Int) := by rw [Int.tmod_eq_emod_of_nonneg hz.1]; exact hk
  have HD := Lib.hid (digits_any w k h)
  have HP : Hid ((⟨#[112, 97, 103, 101]⟩ : ByteArray) ++ ⟨#[48 + k.toUInt8]⟩ = pageN k) := Lib.hid (by
    match k, h with
    | 0, _ => rfl
    | 1, _ => rfl
    | 2, _ => rfl
    | 3, _ => rfl)
  clear h
  go_enter Try.func27, Try.ntmps27
  go_wp2_with fail
  refine HD.out.mono ?_
  rintro e w1 ⟨rfl, rfl⟩
  go_wp2_with fail
  go_ret
  rw [HP.out]
  exact ⟨rfl, rfl⟩
end Go.Proofs.Ytaacafdlklnegaa
