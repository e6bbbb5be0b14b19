/-
  Well-formed messages of layer 54.
-/
import Derived.Test.YtkoopagjjmdodaaMige
import Derived.Outline
namespace Go.Proofs.Ytkoopagjjmdodaa
open Go.RowKit
set_option linter.unusedVariables false

def Msg.headB (m : Msg) : Bool := !(decide (m.frm < 0) || decide (m.dst < 0) || m.frm == m.dst || !decide (1 ≤ m.page.size ∧ m.page.size ≤ 200) || decide (m.epoch < 2))
def Msg.countedB (m : Msg) : Bool := decide (1 ≤ m.count) && decide (m.count ≤ 20000)
def Msg.tailB (m : Msg) : Bool :=
  if m.kind = 1 then m.countedB && m.index == 0 && m.data.toList.isEmpty
  else if m.kind = 2 then m.countedB && decide (0 ≤ m.index) && decide (m.index < m.count) && decide ((m.data.size : Int) ≤ 1000)
  else if m.kind = 3 then decide (0 ≤ m.index) && decide (m.index ≤ 19999) && m.count == 0 && m.data.toList.isEmpty
  else if m.kind = 4 ∨ m.kind = 5 ∨ m.kind = 6 then m.index == 0 && m.count == 0 && m.data.toList.isEmpty
  else false
def formedB (m : Msg) : Bool := m.headB && m.tailB

theorem ret_b {a b : Bool} (h : a = b) : Ending.returned (.bool a) = .returned (.bool b) := by rw [h]
set_option maxHeartbeats 8000000 in
set_option maxRecDepth 100000 in
theorem formed_any (m : Msg) (w : World) (h1 : m.page.size ≤ 9223372036854775807) (h2 : m.data.size ≤ 9223372036854775807) :
    Calls Try.prog 46 #[.agg m.cells.toArray] w fun e w' => e = .returned (.bool (formedB m)) ∧ Chg (fun _ => False) w w' := by
  unfold Msg.cells
  have H1 := Lib.hid h1
  have H2 := Lib.hid h2
  clear h1 h2
  by_cases hn : 1 ≤ m.page.size ∧ m.page.size ≤ 200
  · have hn' : decide (1 ≤ m.page.size ∧ m.page.size ≤ 200) = true := by simpa using hn
    clear hn
    go_enter Try.func46, Try.ntmps46
    go_wp2_with (first | (go_at_call 42; refine (named_any m.page _ H1.out).mono ?_; rintro e w' ⟨rfl, rfl⟩; rw [hn']))
    all_goals (
      go_ret
      refine ⟨?_, Chg.alloc _ _ _⟩
      clear H1 H2
      show Ending.returned (.bool _) = _
      refine ret_b ?_
      unfold formedB Msg.headB Msg.tailB Msg.countedB
      first | (simp_all; done) | (simp_all; omega))
  · have hn' : decide (1 ≤ m.page.size ∧ m.page.size ≤ 200) = false := by simpa using hn
    clear hn
    go_enter Try.func46, Try.ntmps46
    go_wp2_with (first | (go_at_call 42; refine (named_any m.page _ H1.out).mono ?_; rintro e w' ⟨rfl, rfl⟩; rw [hn']))
    all_goals (
      go_ret
      refine ⟨?_, Chg.alloc _ _ _⟩
      clear H1 H2
      show Ending.returned (.bool _) = _
      refine ret_b ?_
      unfold formedB Msg.headB Msg.tailB Msg.countedB
      first | (simp_all; done) | (simp_all; omega))
end Go.Proofs.Ytkoopagjjmdodaa
