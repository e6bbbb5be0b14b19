/-
  MigratePlays: the machines have the seats, the errors and the messages of the reference, after each of at most 60 events; for all events.
-/
import Derived.Test.YtkoopagjjmdodaaPls
namespace Go.Proofs.Ytkoopagjjmdodaa
set_option linter.unusedVariables false
set_option linter.unusedSimpArgs false
open Go.ChangeShapes Go.WideShapes Go.ChangeAt Go.RowKit
open Go.ChangeMaps (open_string shut_string)

set_option maxHeartbeats 1600000 in
set_option maxRecDepth 100000 in
theorem migratePlays_long (v : Value) (xs : List EvM) (w : World) (hrow : ArgRows w v 5 (xs.map EvM.cells)) (hL : 60 < xs.length) :
    Calls Try.prog 5 #[v] w fun e w' => e = .returned (.bool true) ∧ Below w.heap.size w w' := by
  obtain ⟨a, cap, rfl, h1, h2, -⟩ := id hrow
  rw [List.length_map] at *
  have hxl : (xs.length : Int) ≤ 9223372036854775807 := by unfold maxLen at h2; omega
  have hd1 : decide ((60 : Int) < (xs.length : Int)) = true := by simp; omega
  clear h1 h2 hrow hL
  go_enter Try.func5, Try.ntmps5
  go_wp2_with fail
  refine (awake_any w).mono ?_
  rintro e w1 ⟨rfl, hc1⟩
  go_wp2_with fail
  refine (awake_any w1).mono ?_
  rintro e w2 ⟨rfl, hc2⟩
  go_wp2_with fail
  go_ret
  exact ⟨rfl, (hc1.trans' hc2).below (Nat.le_refl _) (fun _ h => h.elim)⟩
theorem migratePlays_walk (v : Value) (xs : List EvM) (w : World) (hrow : ArgRows w v 5 (xs.map EvM.cells)) (hx : ∀ z ∈ xs, z.Ok) :
    Calls Try.prog 5 #[v] w fun e w' => e = .returned (.bool true) ∧ Below w.heap.size w w' := by
  by_cases h : 60 < xs.length
  · exact migratePlays_long v xs w hrow h
  · exact migratePlays_ok v xs w hrow hx h
set_option maxRecDepth 100000 in
theorem migratePlays_lifted (os : Os) (started : os.Started) (H : Type) (enc : TypeId × Value → H) :
    ReturnsInHanded {} Try.checked os 5 .any (Rows.migratePlaysSpec.pre6 enc Try.prog Try.f5 [] false) (Rows.migratePlaysSpec.post enc Try.prog Try.f5 false true false false) := by
  refine law_lift (C := Try.checked) (tb := 4) started Try.own Try.laidOut (by kernel_rfl) Try.func5 (by kernel_rfl) rfl Try.underlying4 rfl ?_
    (ChangeSpec.witness6 (enc := enc) (C := Try.checked) false ⟨#[], #[.slice none 0 0], []⟩ 8 (by kernel_rfl) (by kernel_rfl) (by kernel_rfl) (by kernel_rfl)) ?_
  · intro ds h
    match ds, h with
    | [_], _ => rfl
  · intro W base vs ds ps hval hA hsz
    have hp : Try.f5.params.toList = [46] := by rw [Try.params5]
    rw [hp] at hval hA hsz
    obtain ⟨v0, vs0, d0, ds0, p0, q0, rfl, rfl, rfl, h0, r0⟩ := trodAll_cons hA
    obtain ⟨rfl, rfl, rfl⟩ := trodAll_nil r0
    obtain ⟨a0, rfl, w0⟩ := open_evs (hval 0 46 v0 rfl rfl) h0
    exact migratePlays_walk a0.1 a0.2 W w0.1 w0.2

theorem migratePlays_holds : Rows.MigratePlaysSaid :=
  OpenClaim.holds_of_wide 5 Try.f5 rfl rfl rfl rfl rfl rfl rfl ⟨rfl, rfl, rfl, rfl, rfl⟩ rfl rfl rfl rfl rfl (by kernel_rfl) Try.func5 (by kernel_rfl)
    (of_decide_eq_true (by kernel_rfl)) (by unfold Func.isWrapper; first | (rw [if_pos (by decide +kernel)]; kernel_rfl) | (rw [if_neg (by decide +kernel)]; exact ⟨rfl, rfl⟩))
    (fun os started H enc _ => migratePlays_lifted os started H enc)
#print axioms migratePlays_holds
end Go.Proofs.Ytkoopagjjmdodaa
