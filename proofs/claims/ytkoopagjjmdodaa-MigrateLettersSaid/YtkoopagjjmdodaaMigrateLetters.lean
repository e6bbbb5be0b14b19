/-
  MigrateLetters: a page that travels through machines has, wherever it runs, the letter with which it was handed over last; for all sizes, losses and orders.
-/
import Derived.Test.YtkoopagjjmdodaaLett
namespace Go.Proofs.Ytkoopagjjmdodaa
set_option linter.unusedVariables false
set_option linter.unusedSimpArgs false
open Go.ChangeShapes Go.WideShapes Go.ChangeAt Go.RowKit
open Go.ChangeMaps (open_string shut_string)

set_option maxHeartbeats 1600000 in
set_option maxRecDepth 100000 in
theorem migrateLetters_long (v v2 : Value) (xs zs : List Int) (w : World) (hrow : ArgRow w v (xs.map (Value.int .u16))) (hrow2 : ArgRow w v2 (zs.map (Value.int .u8))) (hL : 6 < xs.length ∨ 60 < zs.length) :
    Calls Try.prog 6 #[v, v2] w fun e w' => e = .returned (.bool true) ∧ Below w.heap.size w w' := by
  obtain ⟨a, cap, rfl, h1, h2, -⟩ := id hrow
  obtain ⟨a2, cap2, rfl, h3, h4, -⟩ := id hrow2
  rw [List.length_map] at *
  have hxl : (xs.length : Int) ≤ 9223372036854775807 := by unfold maxLen at h2; omega
  have hzl : (zs.length : Int) ≤ 9223372036854775807 := by unfold maxLen at h4; omega
  clear h1 h2 h3 h4 hrow hrow2
  by_cases hx : 6 < xs.length
  · have hd1 : decide ((6 : Int) < (xs.length : Int)) = true := by simp; omega
    clear hx hL
    go_enter Try.func6, Try.ntmps6
    go_wp2_with fail
    refine (awake_any w).mono ?_
    rintro e w1 ⟨rfl, hc1⟩
    go_wp2_with fail
    refine (awake_any w1).mono ?_
    rintro e w2 ⟨rfl, hc2⟩
    go_wp2_with fail
    go_ret
    exact ⟨rfl, (hc1.trans' hc2).below (Nat.le_refl _) (fun _ h => h.elim)⟩
  · have hd1 : decide ((6 : Int) < (xs.length : Int)) = false := by simp; omega
    have hd2 : decide ((60 : Int) < (zs.length : Int)) = true := by simp; omega
    clear hx hL
    go_enter Try.func6, Try.ntmps6
    go_wp2_with fail
    refine (awake_any w).mono ?_
    rintro e w1 ⟨rfl, hc1⟩
    go_wp2_with fail
    refine (awake_any w1).mono ?_
    rintro e w2 ⟨rfl, hc2⟩
    go_wp2_with fail
    go_ret
    exact ⟨rfl, (hc1.trans' hc2).below (Nat.le_refl _) (fun _ h => h.elim)⟩
theorem migrateLetters_walk (v v2 : Value) (xs zs : List Int) (w : World) (hrow : ArgRow w v (xs.map (Value.int .u16))) (hx : ∀ z ∈ xs, 0 ≤ z ∧ z ≤ 65535) (hrow2 : ArgRow w v2 (zs.map (Value.int .u8))) (hz : ∀ z ∈ zs, 0 ≤ z ∧ z ≤ 255) :
    Calls Try.prog 6 #[v, v2] w fun e w' => e = .returned (.bool true) ∧ Below w.heap.size w w' := by
  by_cases h : 6 < xs.length ∨ 60 < zs.length
  · exact migrateLetters_long v v2 xs zs w hrow hrow2 h
  · exact migrateLetters_ok v v2 xs zs w hrow hx hrow2 hz (fun x => h (.inl x)) (fun x => h (.inr x))
set_option maxRecDepth 100000 in
theorem migrateLetters_lifted (os : Os) (started : os.Started) (H : Type) (enc : TypeId × Value → H) :
    ReturnsInHanded {} Try.checked os 6 .any (Rows.migrateLettersSpec.pre6 enc Try.prog Try.f6 [] false) (Rows.migrateLettersSpec.post enc Try.prog Try.f6 false true false false) := by
  refine law_lift (C := Try.checked) (tb := 4) started Try.own Try.laidOut (by kernel_rfl) Try.func6 (by kernel_rfl) rfl Try.underlying4 rfl ?_
    (ChangeSpec.witness6 (enc := enc) (C := Try.checked) false ⟨#[], #[.slice none 0 0, .slice none 0 0], []⟩ 8 (by kernel_rfl) (by kernel_rfl) (by kernel_rfl) (by kernel_rfl)) ?_
  · intro ds h
    match ds, h with
    | [_, _], _ => rfl
  · intro W base vs ds ps hval hA hsz
    have hp : Try.f6.params.toList = [69, 70] := by rw [Try.params6]
    rw [hp] at hval hA hsz
    obtain ⟨v0, vs0, d0, ds0, p0, q0, rfl, rfl, rfl, h0, r0⟩ := trodAll_cons hA
    obtain ⟨v1, vs1, d1, ds1, p1, q1, rfl, rfl, rfl, h1, r1⟩ := trodAll_cons r0
    obtain ⟨rfl, rfl, rfl⟩ := trodAll_nil r1
    obtain ⟨a0, rfl, w0⟩ := arg_u16s (hval 0 69 v0 rfl rfl) h0
    obtain ⟨a1, rfl, w1⟩ := arg_bytes (hval 1 70 v1 rfl rfl) h1
    exact migrateLetters_walk a0.1 a1.1 a0.2 a1.2 W w0.1 w0.2 w1.1 w1.2

theorem migrateLetters_holds : Rows.MigrateLettersSaid :=
  OpenClaim.holds_of_wide 6 Try.f6 rfl rfl rfl rfl rfl rfl rfl ⟨rfl, rfl, rfl, rfl, rfl⟩ rfl rfl rfl rfl rfl (by kernel_rfl) Try.func6 (by kernel_rfl)
    (of_decide_eq_true (by kernel_rfl)) (by unfold Func.isWrapper; first | (rw [if_pos (by decide +kernel)]; kernel_rfl) | (rw [if_neg (by decide +kernel)]; exact ⟨rfl, rfl⟩))
    (fun os started H enc _ => migrateLetters_lifted os started H enc)
#print axioms migrateLetters_holds
end Go.Proofs.Ytkoopagjjmdodaa
