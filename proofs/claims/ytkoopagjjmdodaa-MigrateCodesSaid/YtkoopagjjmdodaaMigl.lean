/-
  Formed of the reference of layer 54; what is decoded is encoded as it was, and the other way round (plain laws).
-/
import Derived.Test.YtkoopagjjmdodaaMigk
namespace Go.Proofs.Ytkoopagjjmdodaa
open Go.RowKit
set_option linter.unusedVariables false

theorem toList_nil {s : ByteArray} (h : s.size = 0) : s.toList = [] := by
  rw [ByteArray.toList_eq]
  have h2 : s.data.toList.length = s.size := by simp
  exact List.eq_nil_of_length_eq_zero (by omega)
theorem toList_cons {s : ByteArray} (h : 1 ≤ s.size) : ¬ s.toList = [] ∧ s.toList.isEmpty = false := by
  rw [ByteArray.toList_eq]
  have h2 : s.data.toList.length = s.size := by simp
  cases hl : s.data.toList with
  | nil => rw [hl, List.length_nil] at h2; omega
  | cons _ _ => simp
set_option maxHeartbeats 8000000 in
set_option maxRecDepth 100000 in
theorem refFormed_any (m : Msg) (w : World) (h1 : m.page.size ≤ 9223372036854775807) (h2 : m.data.size ≤ 9223372036854775807) :
    Calls Try.prog 20 #[.agg m.cells.toArray] w fun e w' => e = .returned (.bool (formedB m)) ∧ Chg (fun _ => False) w w' := by
  unfold Msg.cells
  have H1 : (m.page.size : Int) ≤ 9223372036854775807 := by omega
  have H2 : (m.data.size : Int) ≤ 9223372036854775807 := by omega
  clear h1 h2
  by_cases hn : 1 ≤ m.page.size ∧ m.page.size ≤ 200
  · obtain ⟨h0, h0b⟩ := toList_cons hn.1
    have hd2 : decide ((200 : Int) < (m.page.size : Int)) = false := by simp; omega
    have hn' : decide (1 ≤ m.page.size ∧ m.page.size ≤ 200) = true := by simpa using hn
    clear hn
    go_enter Try.func20, Try.ntmps20
    go_wp2_with fail
    all_goals (
      go_ret
      refine ⟨?_, Chg.alloc _ _ _⟩
      clear H1 H2
      show Ending.returned (.bool _) = _
      refine ret_b ?_
      unfold formedB Msg.headB Msg.tailB Msg.countedB
      rw [hn']
      clear hn'
      first | (simp_all; done) | (simp_all; omega) | (have h9 : m.index ≤ 19999 := (by omega); simp_all; done) | (have h9 : m.index ≤ 19999 := (by omega); simp_all; omega))
  · have hn' : decide (1 ≤ m.page.size ∧ m.page.size ≤ 200) = false := by simpa using hn
    by_cases hz : 1 ≤ m.page.size
    · obtain ⟨h0, h0b⟩ := toList_cons hz
      have hd2 : decide ((200 : Int) < (m.page.size : Int)) = true := by simp; omega
      clear hn hz
      go_enter Try.func20, Try.ntmps20
      go_wp2_with fail
      all_goals (
        go_ret
        refine ⟨?_, Chg.alloc _ _ _⟩
        clear H1 H2
        show Ending.returned (.bool _) = _
        refine ret_b ?_
        unfold formedB Msg.headB Msg.tailB Msg.countedB
        rw [hn']
        clear hn'
        first | (simp_all; done) | (simp_all; omega) | (have h9 : m.index ≤ 19999 := (by omega); simp_all; done) | (have h9 : m.index ≤ 19999 := (by omega); simp_all; omega))
    · have h0 : m.page.toList = [] := toList_nil (by omega)
      have h0b : m.page.toList.isEmpty = true := by rw [h0]; rfl
      clear hn hz
      go_enter Try.func20, Try.ntmps20
      go_wp2_with fail
      all_goals (
        go_ret
        refine ⟨?_, Chg.alloc _ _ _⟩
        clear H1 H2
        show Ending.returned (.bool _) = _
        refine ret_b ?_
        unfold formedB Msg.headB Msg.tailB Msg.countedB
        rw [hn']
        clear hn'
        first | (simp_all; done) | (simp_all; omega) | (have h9 : m.index ≤ 19999 := (by omega); simp_all; done) | (have h9 : m.index ≤ 19999 := (by omega); simp_all; omega))

end Go.Proofs.Ytkoopagjjmdodaa
