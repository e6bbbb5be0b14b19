/-
  Arenas: Norm, Index, Handle.
-/
import Derived.Test.YthiiehanlconeaaDoorHea
import Derived.Test.YthiiehanlconeaaDoorProg
import Derived.WalkKit
import Derived.WalkSpells
import Derived.WalkLawsBesides
import Derived.Lib.Hide
import Derived.Deep.QuietTactic
import Derived.BigQuiet
import Derived.Deep.DeepCutAuto
import Derived.Deep.CutBlock
import Derived.Deep.RegionLaw
import Derived.Deep.RegionHeld3
import Derived.Laws.StructEq
import Derived.StillTailTactics
import Derived.IntWalk
import Derived.Laws.Rows
namespace Go.Proofs.YthiiehanlconeaaDoor
open Go.RowKit
set_option linter.unusedVariables false
set_option linter.unusedSimpArgs false

def normB (x : Int) : Int := min (max x 1) 1000
theorem normB_in (x : Int) : 1 ≤ normB x ∧ normB x ≤ 1000 := by unfold normB; omega

theorem ret_salt {a a' s s' : Int} (h1 : a = a') (h2 : s = s') : Ending.returned (.agg #[.int .i64 a, .int .i64 s]) = .returned (.agg #[.int .i64 a', .int .i64 s']) := by rw [h1, h2]

set_option maxHeartbeats 800000 in
set_option maxRecDepth 100000 in
theorem norm_any (a s : Int) (w : World) :
    Calls Tryd.prog 47 #[.agg #[.int .i64 a, .int .i64 s]] w fun e w' => e = .returned (.agg #[.int .i64 (normB a), .int .i64 (normB s)]) ∧ Chg (fun _ => False) w w' := by
  have h1 := Chg.alloc (fun _ => False) w (.cells #[.int .i64 a, .int .i64 s] 25)
  have b1 := alloc_block w (.cells #[.int .i64 a, .int .i64 s] 25)
  unfold normB
  go_enter Tryd.func47, Tryd.ntmps47
  go_wp2_with fail
  all_goals (
    refine bodyPost_ret (results_cell_row rfl _ _ (w.heap.size + 1) _ _ _ _ (by rfl) (heap_alloc2_new _ _ _) Tryd.underlying25 rfl (by kernel_rfl)) rfl ?_
    exact ⟨ret_salt (by omega) (by omega), h1.allocR _⟩)
def handleM (a s i : Int) : Int := if i < 0 ∨ 2147483647 < i then 0 else normB a + normB s * i
def indexM (a s h : Int) : Int := if h < normB a ∨ (h - normB a) % normB s ≠ 0 ∨ 2147483647 < (h - normB a) / normB s then -1 else (h - normB a) / normB s

set_option maxHeartbeats 800000 in
set_option maxRecDepth 100000 in
theorem handle_any (a s i : Int) (w : World) (hi : -9223372036854775808 ≤ i ∧ i ≤ 9223372036854775807) :
    Calls Tryd.prog 30 #[.agg #[.int .i64 a, .int .i64 s], .int .i64 i] w fun e w' => e = .returned (.int .i64 (handleM a s i)) ∧ Chg (fun _ => False) w w' := by
  have h1 := Chg.alloc (fun _ => False) w (.cells #[.int .i64 a, .int .i64 s] 25)
  have b1 := alloc_block w (.cells #[.int .i64 a, .int .i64 s] 25)
  have hN := norm_any a s (w.alloc (.cells #[.int .i64 a, .int .i64 s] 25))
  obtain ⟨n1, n2⟩ := normB_in a
  obtain ⟨n3, n4⟩ := normB_in s
  unfold handleM
  generalize normB a = na at *
  generalize normB s = ns at *
  have HNN := Lib.hid hN
  have H1 := Lib.hid h1
  clear hN h1
  by_cases h : i < 0 ∨ 2147483647 < i
  · rw [if_pos h]
    by_cases h2 : i < 0
    · go_enter Tryd.func30, Tryd.ntmps30
      go_wp2_with fail
      go_ret
      exact ⟨rfl, H1.out⟩
    · have h3 : 2147483647 < i := by omega
      clear h
      go_enter Tryd.func30, Tryd.ntmps30
      go_wp2_with fail
      go_ret
      exact ⟨rfl, H1.out⟩
  · rw [if_neg h]
    have h2 : ¬ i < 0 := by omega
    have h3 : ¬ 2147483647 < i := by omega
    have p0 : 0 ≤ ns * i := Int.mul_nonneg (by omega) (by omega)
    have p1 : ns * i ≤ 1000 * 2147483647 := Int.mul_le_mul n4 (by omega) (by omega) (by omega)
    have w1 : IntKind.i64.wrap (ns * i) = ns * i := IntWalk.i64_in _ (by omega)
    have w2 : IntKind.i64.wrap (na + ns * i) = na + ns * i := IntWalk.i64_in _ (by omega)
    clear h p0 p1 hi n1 n2 n3 n4
    go_enter Tryd.func30, Tryd.ntmps30
    go_wp2_with fail
    refine HNN.out.mono ?_
    rintro e w2 ⟨rfl, hc2⟩
    have HC2 := Lib.hid (H1.out.trans' hc2)
    clear hc2 b1
    go_wp2_with fail
    go_ret
    exact ⟨rfl, HC2.out.allocR _⟩

set_option maxHeartbeats 1600000 in
set_option maxRecDepth 100000 in
theorem index_any (a s h : Int) (w : World) (hi : -9223372036854775808 ≤ h ∧ h ≤ 9223372036854775807) :
    Calls Tryd.prog 46 #[.agg #[.int .i64 a, .int .i64 s], .int .i64 h] w fun e w' => e = .returned (.int .i64 (indexM a s h)) ∧ Chg (fun _ => False) w w' := by
  have h1 := Chg.alloc (fun _ => False) w (.cells #[.int .i64 a, .int .i64 s] 25)
  have hN := norm_any a s (w.alloc (.cells #[.int .i64 a, .int .i64 s] 25))
  obtain ⟨n1, n2⟩ := normB_in a
  obtain ⟨n3, n4⟩ := normB_in s
  unfold indexM
  generalize normB a = na at *
  generalize normB s = ns at *
  have HNN := Lib.hid hN
  have H1 := Lib.hid h1
  clear hN h1
  by_cases c1 : h < na
  · rw [if_pos (.inl c1)]
    clear n1 n2 n3 n4 hi
    go_enter Tryd.func46, Tryd.ntmps46
    go_wp2_with fail
    refine HNN.out.mono ?_
    rintro e w2 ⟨rfl, hc2⟩
    have HC2 := Lib.hid (H1.out.trans' hc2)
    clear hc2
    go_wp2_with fail
    go_ret
    exact ⟨rfl, HC2.out.allocR _⟩
  have hs : IntKind.i64.wrap (h - na) = h - na := IntWalk.i64_in _ (by omega)
  have d0 : 0 ≤ h - na := by omega
  have z0 : (ns == 0) = false := by simp; omega
  have e1 : (h - na).tmod ns = (h - na) % ns := Int.tmod_eq_emod_of_nonneg d0
  have e2 : (h - na).tdiv ns = (h - na) / ns := Int.tdiv_eq_ediv_of_nonneg d0
  have m1 := Int.emod_nonneg (h - na) (show ns ≠ 0 by omega)
  have m2 := Int.emod_lt_of_pos (h - na) (show 0 < ns by omega)
  have q1 : 0 ≤ (h - na) / ns := Int.ediv_nonneg d0 (by omega)
  have q2 : (h - na) / ns ≤ h - na := Int.ediv_le_self _ d0
  have ns0 : 0 < ns := by omega
  generalize hr : (h - na) % ns = r at *
  generalize hq : (h - na) / ns = q at *
  have wq : wrap64 q = q := IntWalk.wrap64_in q (by omega)
  clear n1 n2 n4 m2
  by_cases c2 : r = 0
  · by_cases c3 : 2147483647 < q
    · rw [if_pos (.inr (.inr c3))]
      have t1 : (r != 0) = false := by simpa using c2
      go_enter Tryd.func46, Tryd.ntmps46
      go_wp2_with fail
      refine HNN.out.mono ?_
      rintro e w2 ⟨rfl, hc2⟩
      have HC2 := Lib.hid (H1.out.trans' hc2)
      clear hc2
      go_wp2_with fail
      go_ret
      exact ⟨rfl, HC2.out.allocR _⟩
    · rw [if_neg (by omega)]
      have t1 : (r != 0) = false := by simpa using c2
      go_enter Tryd.func46, Tryd.ntmps46
      go_wp2_with fail
      refine HNN.out.mono ?_
      rintro e w2 ⟨rfl, hc2⟩
      have HC2 := Lib.hid (H1.out.trans' hc2)
      clear hc2
      go_wp2_with fail
      go_ret
      exact ⟨rfl, HC2.out.allocR _⟩
  · rw [if_pos (.inr (.inl c2))]
    have t1 : (r != 0) = true := by simpa using c2
    go_enter Tryd.func46, Tryd.ntmps46
    go_wp2_with fail
    refine HNN.out.mono ?_
    rintro e w2 ⟨rfl, hc2⟩
    have HC2 := Lib.hid (H1.out.trans' hc2)
    clear hc2
    go_wp2_with fail
    go_ret
    exact ⟨rfl, HC2.out.allocR _⟩
end Go.Proofs.YthiiehanlconeaaDoor
