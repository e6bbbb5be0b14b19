/-
  MigrateDecodes: any bytes are refused, or are those of the well-formed message that they make; for all strings.
-/
import Derived.Test.YtkoopagjjmdodaaLaw
import Derived.Test.YtkoopagjjmdodaaMigh
import Derived.Test.YtkoopagjjmdodaaMigl
import Derived.Test.YtkoopagjjmdodaaMigm
import Derived.Test.YtkoopagjjmdodaaMign
namespace Go.Proofs.Ytkoopagjjmdodaa
set_option linter.unusedVariables false
open Go.ChangeShapes Go.WideShapes Go.ChangeAt Go.RowKit
open Go.ChangeMaps (open_string shut_string)

set_option maxHeartbeats 1600000 in
set_option maxRecDepth 100000 in
theorem migrateDecodes_walk (s : ByteArray) (w : World) (hs : s.size ≤ maxLen) :
    Calls Try.prog 4 #[.string s] w fun e w' => e = .returned (.bool true) ∧ Below w.heap.size w w' := by
  have h1 : (s.size : Int) ≤ 9223372036854775807 := by unfold maxLen at hs; omega
  have HS := Lib.hid hs
  clear hs
  by_cases h4 : 400 < s.size
  · have hd : decide ((400 : Int) < (s.size : Int)) = true := by simp; omega
    clear h4
    go_enter Try.func4, Try.ntmps4
    go_wp2_with fail
    refine (awake_any w).mono ?_
    rintro e w1 ⟨rfl, hc1⟩
    go_wp2_with fail
    refine (awake_any w1).mono ?_
    rintro e w2 ⟨rfl, hc2⟩
    go_wp2_with fail
    go_ret
    exact ⟨rfl, (hc1.trans' hc2).below (Nat.le_refl _) (fun _ h => h.elim)⟩
  · have hd : decide ((400 : Int) < (s.size : Int)) = false := by simp; omega
    have HB := Lib.hid (decode_back s (by omega))
    have HD := Lib.hid (fun W => decode_any s W (by omega))
    have hz : Hid ((decodeM s).2 = 0 ∨ ((decodeM s).2 = 3 ∧ (decodeM s).1 = zeroMsg)) := Lib.hid (by
      unfold decodeM
      split
      · exact .inr ⟨rfl, rfl⟩
      · exact .inl rfl)
    generalize decodeM s = D at *
    obtain ⟨⟨k1, k2, k3, k4, k5, k6, k7, k8⟩, n⟩ := D
    clear h4
    go_enter Try.func4, Try.ntmps4
    go_wp2_with fail
    refine (awake_any w).mono ?_
    rintro e w1 ⟨rfl, hc1⟩
    go_wp2_with fail
    refine (HD.out w1).mono ?_
    rintro e w2 ⟨rfl, hc2⟩
    simp only [Msg.cells]
    have hch := (hc1.trans' hc2).allocR (.cells #[.int .i64 k1, .int .i64 k2, .int .i64 k3, .string k4, .int .i64 k5, .int .i64 k6, .int .i64 k7, .string k8] 39)
    rcases hz.out with h0 | ⟨h3, hm⟩
    · subst h0
      obtain ⟨q1, q2, q3⟩ := HB.out rfl
      have E1 := fun W => encode_yes _ W q2 q1
      have E2 := fun W => refFormed_any _ W q2.page q2.data
      rw [q1] at E2
      rw [q3] at E1
      have HE1 := Lib.hid E1
      have HE2 := Lib.hid E2
      clear E1 E2 q1 q2 q3 HB HD hz
      simp only [Msg.cells] at HE1 HE2
      go_wp2_with fail
      refine (HE1.out _).mono ?_
      rintro e w3 ⟨rfl, hc3⟩
      have hx := hc3.keep (alloc_block w2 _) (fun x => x)
      have x0 := cell_of_block (i := 0) hx rfl
      have x1 := cell_of_block (i := 1) hx rfl
      have x2 := cell_of_block (i := 2) hx rfl
      have x3 := cell_of_block (i := 3) hx rfl
      have x4 := cell_of_block (i := 4) hx rfl
      have x5 := cell_of_block (i := 5) hx rfl
      have x6 := cell_of_block (i := 6) hx rfl
      have x7 := cell_of_block (i := 7) hx rfl
      go_wp2_with fail
      refine (HE2.out _).mono ?_
      rintro e w4 ⟨rfl, hc4⟩
      go_wp2_with fail
      go_ret
      exact ⟨by simp, ((hch.trans' hc3).trans' hc4).below (Nat.le_refl _) (fun _ h => h.elim)⟩
    · subst h3
      cases hm
      clear HB HD hz
      go_wp2_with fail
      go_ret
      exact ⟨by simp, hch.below (Nat.le_refl _) (fun _ h => h.elim)⟩
set_option maxRecDepth 100000 in
theorem migrateDecodes_lifted (os : Os) (started : os.Started) (H : Type) (enc : TypeId × Value → H) :
    ReturnsInHanded {} Try.checked os 4 .any (Rows.migrateDecodesSpec.pre6 enc Try.prog Try.f4 [] false) (Rows.migrateDecodesSpec.post enc Try.prog Try.f4 false true false false) := by
  refine law_lift (C := Try.checked) (tb := 4) started Try.own Try.laidOut (by kernel_rfl) Try.func4 (by kernel_rfl) rfl Try.underlying4 rfl ?_
    (ChangeSpec.witness6 (enc := enc) (C := Try.checked) false ⟨#[], #[.string ByteArray.empty], []⟩ 8 (by kernel_rfl) (by kernel_rfl) (by kernel_rfl) (by kernel_rfl)) ?_
  · intro ds h
    match ds, h with
    | [_], _ => rfl
  · intro W base vs ds ps hval hA hsz
    have hp : Try.f4.params.toList = [9] := by rw [Try.params4]
    rw [hp] at hval hA hsz
    obtain ⟨v0, vs0, d0, ds0, p0, q0, rfl, rfl, rfl, h0, r0⟩ := trodAll_cons hA
    obtain ⟨rfl, rfl, rfl⟩ := trodAll_nil r0
    obtain ⟨a0, rfl, rfl, rfl, w0⟩ := open_string Try.underlying9 (hval 0 9 v0 rfl rfl) h0
    have l0 : a0.size ≤ 140737488351232 := by have := sized_string hsz (j := 0) (t := 9) rfl rfl; simpa [reachBytes] using this
    exact migrateDecodes_walk a0 W w0

theorem migrateDecodes_holds : Rows.MigrateDecodesSaid :=
  OpenClaim.holds_of_wide 4 Try.f4 rfl rfl rfl rfl rfl rfl rfl ⟨rfl, rfl, rfl, rfl, rfl⟩ rfl rfl rfl rfl rfl (by kernel_rfl) Try.func4 (by kernel_rfl)
    (of_decide_eq_true (by kernel_rfl)) (by unfold Func.isWrapper; first | (rw [if_pos (by decide +kernel)]; kernel_rfl) | (rw [if_neg (by decide +kernel)]; exact ⟨rfl, rfl⟩))
    (fun os started H enc _ => migrateDecodes_lifted os started H enc)
#print axioms migrateDecodes_holds
end Go.Proofs.Ytkoopagjjmdodaa
