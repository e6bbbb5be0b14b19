/-
  value.Normal and the reference's Normal of any value.
  The reference's Digits: the decimal text of any number.
  The number of a decimal text, plainly.
  The reference's Number and Position.
  What every law's row shares: a call that returned true and changed nothing old meets the row; how a law's walk is lifted to its statement.
  Arguments as the walk meets them: slices that came in, arrays of two integers.
  Arguments as the walk meets them: structs of scalars; slices of structs.
-/
import Derived.Test.YtjianickjahdnaaDoorPHeapKeysi
import Derived.Test.YtjianickjahdnaaDoorPHeapKeysc
import Derived.Test.YtjianickjahdnaaDoorPHeapKeysf
import Derived.Lib.ItoaMem
import Derived.IntWalk
import Derived.Test.YtjianickjahdnaaDoorRows
import Derived.WalkKit
import Derived.ProofKit
import Derived.OpenShut
import Derived.ShutString
import Derived.ChangeOld
import Derived.Below
import Derived.Carry
import Derived.SizedLaws
import Derived.JoinedCond
import Derived.Deep.CondSized
import Derived.Test.YtjianickjahdnaaDoorPHeapKeysa
import Derived.SliceStrings
import Derived.ChangeSlices
namespace Go.Proofs.YtjianickjahdnaaDoor
open Go.RowKit
set_option linter.unusedVariables false
set_option linter.unusedSimpArgs false

/-- A value's normal form. -/
def normM (x : Val) : Val :=
  if x.kind = 2 then ⟨2, if x.int = 0 then 0 else 1, ⟨#[]⟩, 0⟩ else if x.kind = 3 then ⟨3, x.int, ⟨#[]⟩, 0⟩ else if x.kind = 4 then ⟨4, 0, repairM x.str, 0⟩
  else if x.kind = 5 then ⟨5, 0, ⟨#[]⟩, x.ref⟩ else if x.kind = 1 then ⟨1, 0, ⟨#[]⟩, 0⟩ else if x.kind = 6 then ⟨6, 0, ⟨#[]⟩, 0⟩ else ⟨0, 0, ⟨#[]⟩, 0⟩
theorem utf8_stay {w w' : World} (h : Lib.Utf8Tabs 0 1 w) (hc : Chg (fun _ => False) w w') : Lib.Utf8Tabs 0 1 w' := ⟨fun c hk => hc.cell (h.1 c hk), fun i hi => ⟨hc.cell (h.2 i hi).1, hc.cell (h.2 i hi).2⟩⟩
set_option maxHeartbeats 3200000 in
set_option maxRecDepth 100000 in
theorem truth_yes (w : World) : Calls Tryd.prog 53 #[.bool true] w fun e w' => e = .returned (.agg #[.int .i64 2, .int .i64 1, .string ⟨#[]⟩, .int .i64 0]) ∧ Chg (fun _ => False) w w' := by
  go_enter Tryd.func53, Tryd.ntmps53
  go_wp2_with fail
  refine bodyPost_ret (results_cell_row rfl _ _ w.heap.size _ _ _ _ (by rfl) (heap_alloc_new _ _) Tryd.underlying36 rfl (by kernel_rfl)) rfl ?_
  exact ⟨rfl, Chg.alloc _ _ _⟩
set_option maxHeartbeats 3200000 in
set_option maxRecDepth 100000 in
theorem truth_no (w : World) : Calls Tryd.prog 53 #[.bool false] w fun e w' => e = .returned (.agg #[.int .i64 2, .int .i64 0, .string ⟨#[]⟩, .int .i64 0]) ∧ Chg (fun _ => False) w w' := by
  go_enter Tryd.func53, Tryd.ntmps53
  go_wp2_with fail
  refine bodyPost_ret (results_cell_row rfl _ _ w.heap.size _ _ _ _ (by rfl) (heap_alloc_new _ _) Tryd.underlying36 rfl (by kernel_rfl)) rfl ?_
  exact ⟨rfl, Chg.alloc _ _ _⟩
set_option maxHeartbeats 3200000 in
set_option maxRecDepth 100000 in
theorem normal_k2y (i r : Int) (s : ByteArray) (w : World) (hi : ¬ i = 0) :
    Calls Tryd.prog 37 #[.agg #[.int .i64 2, .int .i64 i, .string s, .int .i64 r]] w fun e w' => e = .returned (.agg #[.int .i64 2, .int .i64 1, .string ⟨#[]⟩, .int .i64 0]) ∧ Chg (fun _ => False) w w' := by
  have HC := Lib.hid ((Chg.alloc (fun _ => False) w (.cells #[.int .i64 2, .int .i64 i, .string s, .int .i64 r] 36)).allocR (.cells #[.int .i64 0, .int .i64 0, .string ⟨#[]⟩, .int .i64 0] 36))
  have hb := alloc_block (w.alloc (.cells #[.int .i64 2, .int .i64 i, .string s, .int .i64 r] 36)) (.cells #[.int .i64 0, .int .i64 0, .string ⟨#[]⟩, .int .i64 0] 36)
  rw [show (w.alloc (.cells #[.int .i64 2, .int .i64 i, .string s, .int .i64 r] 36)).heap.size = w.heap.size + 1 from Array.size_push ..] at hb
  have HB := Lib.hid hb
  have HKB := Lib.hid ((Chg.alloc (fun _ => False) (w.alloc (.cells #[.int .i64 2, .int .i64 i, .string s, .int .i64 r] 36)) (.cells #[.int .i64 0, .int .i64 0, .string ⟨#[]⟩, .int .i64 0] 36)).keep (alloc_block w (.cells #[.int .i64 2, .int .i64 i, .string s, .int .i64 r] 36)) (fun x => x))
  have zi : (i != 0) = true := by simpa using hi
  clear hi
  clear hb
  go_enter Tryd.func37, Tryd.ntmps37
  go_upto_region 1 with fail
  generalize ((w.alloc (.cells #[.int .i64 2, .int .i64 i, .string s, .int .i64 r] 36)).alloc (.cells #[.int .i64 0, .int .i64 0, .string ⟨#[]⟩, .int .i64 0] 36)) = w3 at *
  generalize hb2e : w.heap.size + 1 = b2 at *
  have HB2 := Lib.hid hb2e
  clear hb2e
  have k0 := cell_of_block (i := 0) HKB.out rfl
  have k1 := cell_of_block (i := 1) HKB.out rfl
  have k2 := cell_of_block (i := 2) HKB.out rfl
  have k3 := cell_of_block (i := 3) HKB.out rfl
  simp only [List.getElem_toArray, List.getElem_cons_zero, List.getElem_cons_succ] at k0 k1 k2 k3
  go_wp2_with (go_at_call 53; refine (truth_yes _).mono ?_; rintro e wf ⟨rfl, hcf⟩; have hb4 := hcf.keep HB.out (fun x => x); obtain ⟨z0, q0, z1, q1, z2, q2, z3, q3, hbf, hcs⟩ := store4 hb4 (.int .i64 2) (.int .i64 1) (.string ⟨#[]⟩) (.int .i64 0))
  generalize ((((wf.setCell ⟨b2, 0, none⟩ (.int .i64 2)).setCell ⟨b2, 1, none⟩ (.int .i64 1)).setCell ⟨b2, 2, none⟩ (.string ⟨#[]⟩)).setCell ⟨b2, 3, none⟩ (.int .i64 0)) = wz at *
  refine bodyPost_ret (results_cell_row rfl _ _ b2 _ _ _ _ (by rfl) hbf Tryd.underlying36 rfl (by kernel_rfl)) rfl ?_
  exact ⟨rfl, (HC.out.trans' hcf).trans hcs (fun _ _ x => x) (fun k hk e => by have := HB2.out; omega)⟩
set_option maxHeartbeats 3200000 in
set_option maxRecDepth 100000 in
theorem normal_k2n (i r : Int) (s : ByteArray) (w : World) (hi : i = 0) :
    Calls Tryd.prog 37 #[.agg #[.int .i64 2, .int .i64 i, .string s, .int .i64 r]] w fun e w' => e = .returned (.agg #[.int .i64 2, .int .i64 0, .string ⟨#[]⟩, .int .i64 0]) ∧ Chg (fun _ => False) w w' := by
  have HC := Lib.hid ((Chg.alloc (fun _ => False) w (.cells #[.int .i64 2, .int .i64 i, .string s, .int .i64 r] 36)).allocR (.cells #[.int .i64 0, .int .i64 0, .string ⟨#[]⟩, .int .i64 0] 36))
  have hb := alloc_block (w.alloc (.cells #[.int .i64 2, .int .i64 i, .string s, .int .i64 r] 36)) (.cells #[.int .i64 0, .int .i64 0, .string ⟨#[]⟩, .int .i64 0] 36)
  rw [show (w.alloc (.cells #[.int .i64 2, .int .i64 i, .string s, .int .i64 r] 36)).heap.size = w.heap.size + 1 from Array.size_push ..] at hb
  have HB := Lib.hid hb
  have HKB := Lib.hid ((Chg.alloc (fun _ => False) (w.alloc (.cells #[.int .i64 2, .int .i64 i, .string s, .int .i64 r] 36)) (.cells #[.int .i64 0, .int .i64 0, .string ⟨#[]⟩, .int .i64 0] 36)).keep (alloc_block w (.cells #[.int .i64 2, .int .i64 i, .string s, .int .i64 r] 36)) (fun x => x))
  have zi : (i != 0) = false := by simpa using hi
  clear hi
  clear hb
  go_enter Tryd.func37, Tryd.ntmps37
  go_upto_region 1 with fail
  generalize ((w.alloc (.cells #[.int .i64 2, .int .i64 i, .string s, .int .i64 r] 36)).alloc (.cells #[.int .i64 0, .int .i64 0, .string ⟨#[]⟩, .int .i64 0] 36)) = w3 at *
  generalize hb2e : w.heap.size + 1 = b2 at *
  have HB2 := Lib.hid hb2e
  clear hb2e
  have k0 := cell_of_block (i := 0) HKB.out rfl
  have k1 := cell_of_block (i := 1) HKB.out rfl
  have k2 := cell_of_block (i := 2) HKB.out rfl
  have k3 := cell_of_block (i := 3) HKB.out rfl
  simp only [List.getElem_toArray, List.getElem_cons_zero, List.getElem_cons_succ] at k0 k1 k2 k3
  go_wp2_with (go_at_call 53; refine (truth_no _).mono ?_; rintro e wf ⟨rfl, hcf⟩; have hb4 := hcf.keep HB.out (fun x => x); obtain ⟨z0, q0, z1, q1, z2, q2, z3, q3, hbf, hcs⟩ := store4 hb4 (.int .i64 2) (.int .i64 0) (.string ⟨#[]⟩) (.int .i64 0))
  generalize ((((wf.setCell ⟨b2, 0, none⟩ (.int .i64 2)).setCell ⟨b2, 1, none⟩ (.int .i64 0)).setCell ⟨b2, 2, none⟩ (.string ⟨#[]⟩)).setCell ⟨b2, 3, none⟩ (.int .i64 0)) = wz at *
  refine bodyPost_ret (results_cell_row rfl _ _ b2 _ _ _ _ (by rfl) hbf Tryd.underlying36 rfl (by kernel_rfl)) rfl ?_
  exact ⟨rfl, (HC.out.trans' hcf).trans hcs (fun _ _ x => x) (fun k hk e => by have := HB2.out; omega)⟩
set_option maxHeartbeats 3200000 in
set_option maxRecDepth 100000 in
theorem normal_k3 (i r : Int) (s : ByteArray) (w : World)  :
    Calls Tryd.prog 37 #[.agg #[.int .i64 3, .int .i64 i, .string s, .int .i64 r]] w fun e w' => e = .returned (.agg #[.int .i64 3, .int .i64 i, .string ⟨#[]⟩, .int .i64 0]) ∧ Chg (fun _ => False) w w' := by
  have HC := Lib.hid ((Chg.alloc (fun _ => False) w (.cells #[.int .i64 3, .int .i64 i, .string s, .int .i64 r] 36)).allocR (.cells #[.int .i64 0, .int .i64 0, .string ⟨#[]⟩, .int .i64 0] 36))
  have hb := alloc_block (w.alloc (.cells #[.int .i64 3, .int .i64 i, .string s, .int .i64 r] 36)) (.cells #[.int .i64 0, .int .i64 0, .string ⟨#[]⟩, .int .i64 0] 36)
  rw [show (w.alloc (.cells #[.int .i64 3, .int .i64 i, .string s, .int .i64 r] 36)).heap.size = w.heap.size + 1 from Array.size_push ..] at hb
  have HB := Lib.hid hb
  have HKB := Lib.hid ((Chg.alloc (fun _ => False) (w.alloc (.cells #[.int .i64 3, .int .i64 i, .string s, .int .i64 r] 36)) (.cells #[.int .i64 0, .int .i64 0, .string ⟨#[]⟩, .int .i64 0] 36)).keep (alloc_block w (.cells #[.int .i64 3, .int .i64 i, .string s, .int .i64 r] 36)) (fun x => x))
  clear hb
  go_enter Tryd.func37, Tryd.ntmps37
  go_upto_region 1 with fail
  generalize ((w.alloc (.cells #[.int .i64 3, .int .i64 i, .string s, .int .i64 r] 36)).alloc (.cells #[.int .i64 0, .int .i64 0, .string ⟨#[]⟩, .int .i64 0] 36)) = w3 at *
  generalize hb2e : w.heap.size + 1 = b2 at *
  have HB2 := Lib.hid hb2e
  clear hb2e
  have k0 := cell_of_block (i := 0) HKB.out rfl
  have k1 := cell_of_block (i := 1) HKB.out rfl
  have k2 := cell_of_block (i := 2) HKB.out rfl
  have k3 := cell_of_block (i := 3) HKB.out rfl
  simp only [List.getElem_toArray, List.getElem_cons_zero, List.getElem_cons_succ] at k0 k1 k2 k3
  go_wp2_with (go_at_call 25; refine (vof_any i _).mono ?_; rintro e wf ⟨rfl, hcf⟩; have hb4 := hcf.keep HB.out (fun x => x); obtain ⟨z0, q0, z1, q1, z2, q2, z3, q3, hbf, hcs⟩ := store4 hb4 (.int .i64 3) (.int .i64 i) (.string ⟨#[]⟩) (.int .i64 0))
  generalize ((((wf.setCell ⟨b2, 0, none⟩ (.int .i64 3)).setCell ⟨b2, 1, none⟩ (.int .i64 i)).setCell ⟨b2, 2, none⟩ (.string ⟨#[]⟩)).setCell ⟨b2, 3, none⟩ (.int .i64 0)) = wz at *
  refine bodyPost_ret (results_cell_row rfl _ _ b2 _ _ _ _ (by rfl) hbf Tryd.underlying36 rfl (by kernel_rfl)) rfl ?_
  exact ⟨rfl, (HC.out.trans' hcf).trans hcs (fun _ _ x => x) (fun k hk e => by have := HB2.out; omega)⟩
set_option maxHeartbeats 3200000 in
set_option maxRecDepth 100000 in
theorem normal_k4 (i r : Int) (s : ByteArray) (w : World) (hs : s.size ≤ 35184372088832) (hU : Lib.Utf8Tabs 0 1 w) :
    Calls Tryd.prog 37 #[.agg #[.int .i64 4, .int .i64 i, .string s, .int .i64 r]] w fun e w' => e = .returned (.agg #[.int .i64 4, .int .i64 0, .string (repairM s), .int .i64 0]) ∧ Chg (fun _ => False) w w' := by
  have HC := Lib.hid ((Chg.alloc (fun _ => False) w (.cells #[.int .i64 4, .int .i64 i, .string s, .int .i64 r] 36)).allocR (.cells #[.int .i64 0, .int .i64 0, .string ⟨#[]⟩, .int .i64 0] 36))
  have hb := alloc_block (w.alloc (.cells #[.int .i64 4, .int .i64 i, .string s, .int .i64 r] 36)) (.cells #[.int .i64 0, .int .i64 0, .string ⟨#[]⟩, .int .i64 0] 36)
  rw [show (w.alloc (.cells #[.int .i64 4, .int .i64 i, .string s, .int .i64 r] 36)).heap.size = w.heap.size + 1 from Array.size_push ..] at hb
  have HB := Lib.hid hb
  have HKB := Lib.hid ((Chg.alloc (fun _ => False) (w.alloc (.cells #[.int .i64 4, .int .i64 i, .string s, .int .i64 r] 36)) (.cells #[.int .i64 0, .int .i64 0, .string ⟨#[]⟩, .int .i64 0] 36)).keep (alloc_block w (.cells #[.int .i64 4, .int .i64 i, .string s, .int .i64 r] 36)) (fun x => x))
  have HRP := Lib.hid (fun W hU => text_any s W hs hU)
  have HU := Lib.hid (utf8_stay hU HC.out)
  generalize repairM s = t at *
  clear hU hs
  clear hb
  go_enter Tryd.func37, Tryd.ntmps37
  go_upto_region 1 with fail
  generalize ((w.alloc (.cells #[.int .i64 4, .int .i64 i, .string s, .int .i64 r] 36)).alloc (.cells #[.int .i64 0, .int .i64 0, .string ⟨#[]⟩, .int .i64 0] 36)) = w3 at *
  generalize hb2e : w.heap.size + 1 = b2 at *
  have HB2 := Lib.hid hb2e
  clear hb2e
  have k0 := cell_of_block (i := 0) HKB.out rfl
  have k1 := cell_of_block (i := 1) HKB.out rfl
  have k2 := cell_of_block (i := 2) HKB.out rfl
  have k3 := cell_of_block (i := 3) HKB.out rfl
  simp only [List.getElem_toArray, List.getElem_cons_zero, List.getElem_cons_succ] at k0 k1 k2 k3
  go_wp2_with (go_at_call 13; refine (HRP.out _ HU.out).mono ?_; rintro e wf ⟨rfl, hcf⟩; have hb4 := hcf.keep HB.out (fun x => x); obtain ⟨z0, q0, z1, q1, z2, q2, z3, q3, hbf, hcs⟩ := store4 hb4 (.int .i64 4) (.int .i64 0) (.string t) (.int .i64 0))
  generalize ((((wf.setCell ⟨b2, 0, none⟩ (.int .i64 4)).setCell ⟨b2, 1, none⟩ (.int .i64 0)).setCell ⟨b2, 2, none⟩ (.string t)).setCell ⟨b2, 3, none⟩ (.int .i64 0)) = wz at *
  refine bodyPost_ret (results_cell_row rfl _ _ b2 _ _ _ _ (by rfl) hbf Tryd.underlying36 rfl (by kernel_rfl)) rfl ?_
  exact ⟨rfl, (HC.out.trans' hcf).trans hcs (fun _ _ x => x) (fun k hk e => by have := HB2.out; omega)⟩
set_option maxHeartbeats 3200000 in
set_option maxRecDepth 100000 in
theorem normal_k5 (i r : Int) (s : ByteArray) (w : World)  :
    Calls Tryd.prog 37 #[.agg #[.int .i64 5, .int .i64 i, .string s, .int .i64 r]] w fun e w' => e = .returned (.agg #[.int .i64 5, .int .i64 0, .string ⟨#[]⟩, .int .i64 r]) ∧ Chg (fun _ => False) w w' := by
  have HC := Lib.hid ((Chg.alloc (fun _ => False) w (.cells #[.int .i64 5, .int .i64 i, .string s, .int .i64 r] 36)).allocR (.cells #[.int .i64 0, .int .i64 0, .string ⟨#[]⟩, .int .i64 0] 36))
  have hb := alloc_block (w.alloc (.cells #[.int .i64 5, .int .i64 i, .string s, .int .i64 r] 36)) (.cells #[.int .i64 0, .int .i64 0, .string ⟨#[]⟩, .int .i64 0] 36)
  rw [show (w.alloc (.cells #[.int .i64 5, .int .i64 i, .string s, .int .i64 r] 36)).heap.size = w.heap.size + 1 from Array.size_push ..] at hb
  have HB := Lib.hid hb
  have HKB := Lib.hid ((Chg.alloc (fun _ => False) (w.alloc (.cells #[.int .i64 5, .int .i64 i, .string s, .int .i64 r] 36)) (.cells #[.int .i64 0, .int .i64 0, .string ⟨#[]⟩, .int .i64 0] 36)).keep (alloc_block w (.cells #[.int .i64 5, .int .i64 i, .string s, .int .i64 r] 36)) (fun x => x))
  clear hb
  go_enter Tryd.func37, Tryd.ntmps37
  go_upto_region 1 with fail
  generalize ((w.alloc (.cells #[.int .i64 5, .int .i64 i, .string s, .int .i64 r] 36)).alloc (.cells #[.int .i64 0, .int .i64 0, .string ⟨#[]⟩, .int .i64 0] 36)) = w3 at *
  generalize hb2e : w.heap.size + 1 = b2 at *
  have HB2 := Lib.hid hb2e
  clear hb2e
  have k0 := cell_of_block (i := 0) HKB.out rfl
  have k1 := cell_of_block (i := 1) HKB.out rfl
  have k2 := cell_of_block (i := 2) HKB.out rfl
  have k3 := cell_of_block (i := 3) HKB.out rfl
  simp only [List.getElem_toArray, List.getElem_cons_zero, List.getElem_cons_succ] at k0 k1 k2 k3
  go_wp2_with (go_at_call 32; refine (vref_any r _).mono ?_; rintro e wf ⟨rfl, hcf⟩; have hb4 := hcf.keep HB.out (fun x => x); obtain ⟨z0, q0, z1, q1, z2, q2, z3, q3, hbf, hcs⟩ := store4 hb4 (.int .i64 5) (.int .i64 0) (.string ⟨#[]⟩) (.int .i64 r))
  generalize ((((wf.setCell ⟨b2, 0, none⟩ (.int .i64 5)).setCell ⟨b2, 1, none⟩ (.int .i64 0)).setCell ⟨b2, 2, none⟩ (.string ⟨#[]⟩)).setCell ⟨b2, 3, none⟩ (.int .i64 r)) = wz at *
  refine bodyPost_ret (results_cell_row rfl _ _ b2 _ _ _ _ (by rfl) hbf Tryd.underlying36 rfl (by kernel_rfl)) rfl ?_
  exact ⟨rfl, (HC.out.trans' hcf).trans hcs (fun _ _ x => x) (fun k hk e => by have := HB2.out; omega)⟩
set_option maxHeartbeats 3200000 in
set_option maxRecDepth 100000 in
theorem normal_k1 (i r : Int) (s : ByteArray) (w : World)  :
    Calls Tryd.prog 37 #[.agg #[.int .i64 1, .int .i64 i, .string s, .int .i64 r]] w fun e w' => e = .returned (.agg #[.int .i64 1, .int .i64 0, .string ⟨#[]⟩, .int .i64 0]) ∧ Chg (fun _ => False) w w' := by
  have HC := Lib.hid ((Chg.alloc (fun _ => False) w (.cells #[.int .i64 1, .int .i64 i, .string s, .int .i64 r] 36)).allocR (.cells #[.int .i64 0, .int .i64 0, .string ⟨#[]⟩, .int .i64 0] 36))
  have hb := alloc_block (w.alloc (.cells #[.int .i64 1, .int .i64 i, .string s, .int .i64 r] 36)) (.cells #[.int .i64 0, .int .i64 0, .string ⟨#[]⟩, .int .i64 0] 36)
  rw [show (w.alloc (.cells #[.int .i64 1, .int .i64 i, .string s, .int .i64 r] 36)).heap.size = w.heap.size + 1 from Array.size_push ..] at hb
  have HB := Lib.hid hb
  have HKB := Lib.hid ((Chg.alloc (fun _ => False) (w.alloc (.cells #[.int .i64 1, .int .i64 i, .string s, .int .i64 r] 36)) (.cells #[.int .i64 0, .int .i64 0, .string ⟨#[]⟩, .int .i64 0] 36)).keep (alloc_block w (.cells #[.int .i64 1, .int .i64 i, .string s, .int .i64 r] 36)) (fun x => x))
  clear hb
  go_enter Tryd.func37, Tryd.ntmps37
  go_upto_region 1 with fail
  generalize ((w.alloc (.cells #[.int .i64 1, .int .i64 i, .string s, .int .i64 r] 36)).alloc (.cells #[.int .i64 0, .int .i64 0, .string ⟨#[]⟩, .int .i64 0] 36)) = w3 at *
  generalize hb2e : w.heap.size + 1 = b2 at *
  have HB2 := Lib.hid hb2e
  clear hb2e
  have k0 := cell_of_block (i := 0) HKB.out rfl
  have k1 := cell_of_block (i := 1) HKB.out rfl
  have k2 := cell_of_block (i := 2) HKB.out rfl
  have k3 := cell_of_block (i := 3) HKB.out rfl
  simp only [List.getElem_toArray, List.getElem_cons_zero, List.getElem_cons_succ] at k0 k1 k2 k3
  have hcf := Chg.refl (fun _ => False) w3
  have hb4 := HB.out
  obtain ⟨z0, q0, z1, q1, z2, q2, z3, q3, hbf, hcs⟩ := store4 hb4 (.int .i64 1) (.int .i64 0) (.string ⟨#[]⟩) (.int .i64 0)
  go_wp2_with fail
  generalize ((((w3.setCell ⟨b2, 0, none⟩ (.int .i64 1)).setCell ⟨b2, 1, none⟩ (.int .i64 0)).setCell ⟨b2, 2, none⟩ (.string ⟨#[]⟩)).setCell ⟨b2, 3, none⟩ (.int .i64 0)) = wz at *
  refine bodyPost_ret (results_cell_row rfl _ _ b2 _ _ _ _ (by rfl) hbf Tryd.underlying36 rfl (by kernel_rfl)) rfl ?_
  exact ⟨rfl, (HC.out.trans' hcf).trans hcs (fun _ _ x => x) (fun k hk e => by have := HB2.out; omega)⟩
set_option maxHeartbeats 3200000 in
set_option maxRecDepth 100000 in
theorem normal_k6 (i r : Int) (s : ByteArray) (w : World)  :
    Calls Tryd.prog 37 #[.agg #[.int .i64 6, .int .i64 i, .string s, .int .i64 r]] w fun e w' => e = .returned (.agg #[.int .i64 6, .int .i64 0, .string ⟨#[]⟩, .int .i64 0]) ∧ Chg (fun _ => False) w w' := by
  have HC := Lib.hid ((Chg.alloc (fun _ => False) w (.cells #[.int .i64 6, .int .i64 i, .string s, .int .i64 r] 36)).allocR (.cells #[.int .i64 0, .int .i64 0, .string ⟨#[]⟩, .int .i64 0] 36))
  have hb := alloc_block (w.alloc (.cells #[.int .i64 6, .int .i64 i, .string s, .int .i64 r] 36)) (.cells #[.int .i64 0, .int .i64 0, .string ⟨#[]⟩, .int .i64 0] 36)
  rw [show (w.alloc (.cells #[.int .i64 6, .int .i64 i, .string s, .int .i64 r] 36)).heap.size = w.heap.size + 1 from Array.size_push ..] at hb
  have HB := Lib.hid hb
  have HKB := Lib.hid ((Chg.alloc (fun _ => False) (w.alloc (.cells #[.int .i64 6, .int .i64 i, .string s, .int .i64 r] 36)) (.cells #[.int .i64 0, .int .i64 0, .string ⟨#[]⟩, .int .i64 0] 36)).keep (alloc_block w (.cells #[.int .i64 6, .int .i64 i, .string s, .int .i64 r] 36)) (fun x => x))
  clear hb
  go_enter Tryd.func37, Tryd.ntmps37
  go_upto_region 1 with fail
  generalize ((w.alloc (.cells #[.int .i64 6, .int .i64 i, .string s, .int .i64 r] 36)).alloc (.cells #[.int .i64 0, .int .i64 0, .string ⟨#[]⟩, .int .i64 0] 36)) = w3 at *
  generalize hb2e : w.heap.size + 1 = b2 at *
  have HB2 := Lib.hid hb2e
  clear hb2e
  have k0 := cell_of_block (i := 0) HKB.out rfl
  have k1 := cell_of_block (i := 1) HKB.out rfl
  have k2 := cell_of_block (i := 2) HKB.out rfl
  have k3 := cell_of_block (i := 3) HKB.out rfl
  simp only [List.getElem_toArray, List.getElem_cons_zero, List.getElem_cons_succ] at k0 k1 k2 k3
  have hcf := Chg.refl (fun _ => False) w3
  have hb4 := HB.out
  obtain ⟨z0, q0, z1, q1, z2, q2, z3, q3, hbf, hcs⟩ := store4 hb4 (.int .i64 6) (.int .i64 0) (.string ⟨#[]⟩) (.int .i64 0)
  go_wp2_with fail
  generalize ((((w3.setCell ⟨b2, 0, none⟩ (.int .i64 6)).setCell ⟨b2, 1, none⟩ (.int .i64 0)).setCell ⟨b2, 2, none⟩ (.string ⟨#[]⟩)).setCell ⟨b2, 3, none⟩ (.int .i64 0)) = wz at *
  refine bodyPost_ret (results_cell_row rfl _ _ b2 _ _ _ _ (by rfl) hbf Tryd.underlying36 rfl (by kernel_rfl)) rfl ?_
  exact ⟨rfl, (HC.out.trans' hcf).trans hcs (fun _ _ x => x) (fun k hk e => by have := HB2.out; omega)⟩
set_option maxHeartbeats 3200000 in
set_option maxRecDepth 100000 in
theorem normal_ko (i r : Int) (s : ByteArray) (w : World) (c : Int) (h : ¬ c = 1 ∧ ¬ c = 2 ∧ ¬ c = 3 ∧ ¬ c = 4 ∧ ¬ c = 5 ∧ ¬ c = 6) :
    Calls Tryd.prog 37 #[.agg #[.int .i64 c, .int .i64 i, .string s, .int .i64 r]] w fun e w' => e = .returned (.agg #[.int .i64 0, .int .i64 0, .string ⟨#[]⟩, .int .i64 0]) ∧ Chg (fun _ => False) w w' := by
  have HC := Lib.hid ((Chg.alloc (fun _ => False) w (.cells #[.int .i64 c, .int .i64 i, .string s, .int .i64 r] 36)).allocR (.cells #[.int .i64 0, .int .i64 0, .string ⟨#[]⟩, .int .i64 0] 36))
  have hb := alloc_block (w.alloc (.cells #[.int .i64 c, .int .i64 i, .string s, .int .i64 r] 36)) (.cells #[.int .i64 0, .int .i64 0, .string ⟨#[]⟩, .int .i64 0] 36)
  rw [show (w.alloc (.cells #[.int .i64 c, .int .i64 i, .string s, .int .i64 r] 36)).heap.size = w.heap.size + 1 from Array.size_push ..] at hb
  have HB := Lib.hid hb
  have HKB := Lib.hid ((Chg.alloc (fun _ => False) (w.alloc (.cells #[.int .i64 c, .int .i64 i, .string s, .int .i64 r] 36)) (.cells #[.int .i64 0, .int .i64 0, .string ⟨#[]⟩, .int .i64 0] 36)).keep (alloc_block w (.cells #[.int .i64 c, .int .i64 i, .string s, .int .i64 r] 36)) (fun x => x))
  have n1 : (c == 1) = false := beq_false_of_ne (by omega)
  have n2 : (c == 2) = false := beq_false_of_ne (by omega)
  have n3 : (c == 3) = false := beq_false_of_ne (by omega)
  have n4 : (c == 4) = false := beq_false_of_ne (by omega)
  have n5 : (c == 5) = false := beq_false_of_ne (by omega)
  have n6 : (c == 6) = false := beq_false_of_ne (by omega)
  clear h
  clear hb
  go_enter Tryd.func37, Tryd.ntmps37
  go_upto_region 1 with fail
  generalize ((w.alloc (.cells #[.int .i64 c, .int .i64 i, .string s, .int .i64 r] 36)).alloc (.cells #[.int .i64 0, .int .i64 0, .string ⟨#[]⟩, .int .i64 0] 36)) = w3 at *
  generalize hb2e : w.heap.size + 1 = b2 at *
  have HB2 := Lib.hid hb2e
  clear hb2e
  have k0 := cell_of_block (i := 0) HKB.out rfl
  have k1 := cell_of_block (i := 1) HKB.out rfl
  have k2 := cell_of_block (i := 2) HKB.out rfl
  have k3 := cell_of_block (i := 3) HKB.out rfl
  simp only [List.getElem_toArray, List.getElem_cons_zero, List.getElem_cons_succ] at k0 k1 k2 k3
  have hcf := Chg.refl (fun _ => False) w3
  have hb4 := HB.out
  obtain ⟨z0, q0, z1, q1, z2, q2, z3, q3, hbf, hcs⟩ := store4 hb4 (.int .i64 0) (.int .i64 0) (.string ⟨#[]⟩) (.int .i64 0)
  go_wp2_with fail
  generalize ((((w3.setCell ⟨b2, 0, none⟩ (.int .i64 0)).setCell ⟨b2, 1, none⟩ (.int .i64 0)).setCell ⟨b2, 2, none⟩ (.string ⟨#[]⟩)).setCell ⟨b2, 3, none⟩ (.int .i64 0)) = wz at *
  refine bodyPost_ret (results_cell_row rfl _ _ b2 _ _ _ _ (by rfl) hbf Tryd.underlying36 rfl (by kernel_rfl)) rfl ?_
  exact ⟨rfl, (HC.out.trans' hcf).trans hcs (fun _ _ x => x) (fun k hk e => by have := HB2.out; omega)⟩
theorem normal_any (x : Val) (w : World) (hs : x.str.size ≤ 35184372088832) (hU : Lib.Utf8Tabs 0 1 w) :
    Calls Tryd.prog 37 #[.agg #[.int .i64 x.kind, .int .i64 x.int, .string x.str, .int .i64 x.ref]] w fun e w' => e = .returned (.agg #[.int .i64 (normM x).kind, .int .i64 (normM x).int, .string (normM x).str, .int .i64 (normM x).ref]) ∧ Chg (fun _ => False) w w' := by
  obtain ⟨c, i, s, r⟩ := x
  by_cases h2 : c = 2
  · subst h2
    by_cases hi : i = 0
    · rw [show normM ⟨2, i, s, r⟩ = ⟨2, 0, ⟨#[]⟩, 0⟩ by simp [normM, hi]]; exact normal_k2n i r s w hi
    · rw [show normM ⟨2, i, s, r⟩ = ⟨2, 1, ⟨#[]⟩, 0⟩ by simp [normM, hi]]; exact normal_k2y i r s w hi
  · by_cases h3 : c = 3
    · subst h3; rw [show normM ⟨3, i, s, r⟩ = ⟨3, i, ⟨#[]⟩, 0⟩ by simp [normM]]; exact normal_k3 i r s w
    · by_cases h4 : c = 4
      · subst h4; rw [show normM ⟨4, i, s, r⟩ = ⟨4, 0, repairM s, 0⟩ by simp [normM]]; exact normal_k4 i r s w hs hU
      · by_cases h5 : c = 5
        · subst h5; rw [show normM ⟨5, i, s, r⟩ = ⟨5, 0, ⟨#[]⟩, r⟩ by simp [normM]]; exact normal_k5 i r s w
        · by_cases h1 : c = 1
          · subst h1; rw [show normM ⟨1, i, s, r⟩ = ⟨1, 0, ⟨#[]⟩, 0⟩ by simp [normM]]; exact normal_k1 i r s w
          · by_cases h6 : c = 6
            · subst h6; rw [show normM ⟨6, i, s, r⟩ = ⟨6, 0, ⟨#[]⟩, 0⟩ by simp [normM]]; exact normal_k6 i r s w
            · rw [show normM ⟨c, i, s, r⟩ = ⟨0, 0, ⟨#[]⟩, 0⟩ by simp [normM, h1, h2, h3, h4, h5, h6]]; exact normal_ko i r s w c ⟨h1, h2, h3, h4, h5, h6⟩
set_option maxHeartbeats 3200000 in
set_option maxRecDepth 100000 in
theorem rnormal_k2y (i r : Int) (s : ByteArray) (w : World) (hi : ¬ i = 0) :
    Calls Tryd.prog 19 #[.agg #[.int .i64 2, .int .i64 i, .string s, .int .i64 r]] w fun e w' => e = .returned (.agg #[.int .i64 2, .int .i64 1, .string ⟨#[]⟩, .int .i64 0]) ∧ Chg (fun _ => False) w w' := by
  have HC := Lib.hid ((Chg.alloc (fun _ => False) w (.cells #[.int .i64 2, .int .i64 i, .string s, .int .i64 r] 36)).allocR (.cells #[.int .i64 0, .int .i64 0, .string ⟨#[]⟩, .int .i64 0] 36))
  have hb := alloc_block (w.alloc (.cells #[.int .i64 2, .int .i64 i, .string s, .int .i64 r] 36)) (.cells #[.int .i64 0, .int .i64 0, .string ⟨#[]⟩, .int .i64 0] 36)
  rw [show (w.alloc (.cells #[.int .i64 2, .int .i64 i, .string s, .int .i64 r] 36)).heap.size = w.heap.size + 1 from Array.size_push ..] at hb
  have HB := Lib.hid hb
  have HKB := Lib.hid ((Chg.alloc (fun _ => False) (w.alloc (.cells #[.int .i64 2, .int .i64 i, .string s, .int .i64 r] 36)) (.cells #[.int .i64 0, .int .i64 0, .string ⟨#[]⟩, .int .i64 0] 36)).keep (alloc_block w (.cells #[.int .i64 2, .int .i64 i, .string s, .int .i64 r] 36)) (fun x => x))
  have zi : (i != 0) = true := by simpa using hi
  clear hi
  clear hb
  go_enter Tryd.func19, Tryd.ntmps19
  go_upto_region 1 with fail
  generalize ((w.alloc (.cells #[.int .i64 2, .int .i64 i, .string s, .int .i64 r] 36)).alloc (.cells #[.int .i64 0, .int .i64 0, .string ⟨#[]⟩, .int .i64 0] 36)) = w3 at *
  generalize hb2e : w.heap.size + 1 = b2 at *
  have HB2 := Lib.hid hb2e
  clear hb2e
  have k0 := cell_of_block (i := 0) HKB.out rfl
  have k1 := cell_of_block (i := 1) HKB.out rfl
  have k2 := cell_of_block (i := 2) HKB.out rfl
  have k3 := cell_of_block (i := 3) HKB.out rfl
  simp only [List.getElem_toArray, List.getElem_cons_zero, List.getElem_cons_succ] at k0 k1 k2 k3
  have hcf := Chg.refl (fun _ => False) w3
  have hb4 := HB.out
  obtain ⟨z0, q0, z1, q1, z2, q2, z3, q3, hbf, hcs⟩ := store4 hb4 (.int .i64 2) (.int .i64 1) (.string ⟨#[]⟩) (.int .i64 0)
  go_wp2_with fail
  generalize ((((w3.setCell ⟨b2, 0, none⟩ (.int .i64 2)).setCell ⟨b2, 1, none⟩ (.int .i64 1)).setCell ⟨b2, 2, none⟩ (.string ⟨#[]⟩)).setCell ⟨b2, 3, none⟩ (.int .i64 0)) = wz at *
  refine bodyPost_ret (results_cell_row rfl _ _ b2 _ _ _ _ (by rfl) hbf Tryd.underlying36 rfl (by kernel_rfl)) rfl ?_
  exact ⟨rfl, (HC.out.trans' hcf).trans hcs (fun _ _ x => x) (fun k hk e => by have := HB2.out; omega)⟩
set_option maxHeartbeats 3200000 in
set_option maxRecDepth 100000 in
theorem rnormal_k2n (i r : Int) (s : ByteArray) (w : World) (hi : i = 0) :
    Calls Tryd.prog 19 #[.agg #[.int .i64 2, .int .i64 i, .string s, .int .i64 r]] w fun e w' => e = .returned (.agg #[.int .i64 2, .int .i64 0, .string ⟨#[]⟩, .int .i64 0]) ∧ Chg (fun _ => False) w w' := by
  have HC := Lib.hid ((Chg.alloc (fun _ => False) w (.cells #[.int .i64 2, .int .i64 i, .string s, .int .i64 r] 36)).allocR (.cells #[.int .i64 0, .int .i64 0, .string ⟨#[]⟩, .int .i64 0] 36))
  have hb := alloc_block (w.alloc (.cells #[.int .i64 2, .int .i64 i, .string s, .int .i64 r] 36)) (.cells #[.int .i64 0, .int .i64 0, .string ⟨#[]⟩, .int .i64 0] 36)
  rw [show (w.alloc (.cells #[.int .i64 2, .int .i64 i, .string s, .int .i64 r] 36)).heap.size = w.heap.size + 1 from Array.size_push ..] at hb
  have HB := Lib.hid hb
  have HKB := Lib.hid ((Chg.alloc (fun _ => False) (w.alloc (.cells #[.int .i64 2, .int .i64 i, .string s, .int .i64 r] 36)) (.cells #[.int .i64 0, .int .i64 0, .string ⟨#[]⟩, .int .i64 0] 36)).keep (alloc_block w (.cells #[.int .i64 2, .int .i64 i, .string s, .int .i64 r] 36)) (fun x => x))
  have zi : (i != 0) = false := by simpa using hi
  clear hi
  clear hb
  go_enter Tryd.func19, Tryd.ntmps19
  go_upto_region 1 with fail
  generalize ((w.alloc (.cells #[.int .i64 2, .int .i64 i, .string s, .int .i64 r] 36)).alloc (.cells #[.int .i64 0, .int .i64 0, .string ⟨#[]⟩, .int .i64 0] 36)) = w3 at *
  generalize hb2e : w.heap.size + 1 = b2 at *
  have HB2 := Lib.hid hb2e
  clear hb2e
  have k0 := cell_of_block (i := 0) HKB.out rfl
  have k1 := cell_of_block (i := 1) HKB.out rfl
  have k2 := cell_of_block (i := 2) HKB.out rfl
  have k3 := cell_of_block (i := 3) HKB.out rfl
  simp only [List.getElem_toArray, List.getElem_cons_zero, List.getElem_cons_succ] at k0 k1 k2 k3
  have hcf := Chg.refl (fun _ => False) w3
  have hb4 := HB.out
  obtain ⟨z0, q0, z1, q1, z2, q2, z3, q3, hbf, hcs⟩ := store4 hb4 (.int .i64 2) (.int .i64 0) (.string ⟨#[]⟩) (.int .i64 0)
  go_wp2_with fail
  generalize ((((w3.setCell ⟨b2, 0, none⟩ (.int .i64 2)).setCell ⟨b2, 1, none⟩ (.int .i64 0)).setCell ⟨b2, 2, none⟩ (.string ⟨#[]⟩)).setCell ⟨b2, 3, none⟩ (.int .i64 0)) = wz at *
  refine bodyPost_ret (results_cell_row rfl _ _ b2 _ _ _ _ (by rfl) hbf Tryd.underlying36 rfl (by kernel_rfl)) rfl ?_
  exact ⟨rfl, (HC.out.trans' hcf).trans hcs (fun _ _ x => x) (fun k hk e => by have := HB2.out; omega)⟩
set_option maxHeartbeats 3200000 in
set_option maxRecDepth 100000 in
theorem rnormal_k3 (i r : Int) (s : ByteArray) (w : World)  :
    Calls Tryd.prog 19 #[.agg #[.int .i64 3, .int .i64 i, .string s, .int .i64 r]] w fun e w' => e = .returned (.agg #[.int .i64 3, .int .i64 i, .string ⟨#[]⟩, .int .i64 0]) ∧ Chg (fun _ => False) w w' := by
  have HC := Lib.hid ((Chg.alloc (fun _ => False) w (.cells #[.int .i64 3, .int .i64 i, .string s, .int .i64 r] 36)).allocR (.cells #[.int .i64 0, .int .i64 0, .string ⟨#[]⟩, .int .i64 0] 36))
  have hb := alloc_block (w.alloc (.cells #[.int .i64 3, .int .i64 i, .string s, .int .i64 r] 36)) (.cells #[.int .i64 0, .int .i64 0, .string ⟨#[]⟩, .int .i64 0] 36)
  rw [show (w.alloc (.cells #[.int .i64 3, .int .i64 i, .string s, .int .i64 r] 36)).heap.size = w.heap.size + 1 from Array.size_push ..] at hb
  have HB := Lib.hid hb
  have HKB := Lib.hid ((Chg.alloc (fun _ => False) (w.alloc (.cells #[.int .i64 3, .int .i64 i, .string s, .int .i64 r] 36)) (.cells #[.int .i64 0, .int .i64 0, .string ⟨#[]⟩, .int .i64 0] 36)).keep (alloc_block w (.cells #[.int .i64 3, .int .i64 i, .string s, .int .i64 r] 36)) (fun x => x))
  clear hb
  go_enter Tryd.func19, Tryd.ntmps19
  go_upto_region 1 with fail
  generalize ((w.alloc (.cells #[.int .i64 3, .int .i64 i, .string s, .int .i64 r] 36)).alloc (.cells #[.int .i64 0, .int .i64 0, .string ⟨#[]⟩, .int .i64 0] 36)) = w3 at *
  generalize hb2e : w.heap.size + 1 = b2 at *
  have HB2 := Lib.hid hb2e
  clear hb2e
  have k0 := cell_of_block (i := 0) HKB.out rfl
  have k1 := cell_of_block (i := 1) HKB.out rfl
  have k2 := cell_of_block (i := 2) HKB.out rfl
  have k3 := cell_of_block (i := 3) HKB.out rfl
  simp only [List.getElem_toArray, List.getElem_cons_zero, List.getElem_cons_succ] at k0 k1 k2 k3
  have hcf := Chg.refl (fun _ => False) w3
  have hb4 := HB.out
  obtain ⟨z0, q0, z1, q1, z2, q2, z3, q3, hbf, hcs⟩ := store4 hb4 (.int .i64 3) (.int .i64 i) (.string ⟨#[]⟩) (.int .i64 0)
  go_wp2_with fail
  generalize ((((w3.setCell ⟨b2, 0, none⟩ (.int .i64 3)).setCell ⟨b2, 1, none⟩ (.int .i64 i)).setCell ⟨b2, 2, none⟩ (.string ⟨#[]⟩)).setCell ⟨b2, 3, none⟩ (.int .i64 0)) = wz at *
  refine bodyPost_ret (results_cell_row rfl _ _ b2 _ _ _ _ (by rfl) hbf Tryd.underlying36 rfl (by kernel_rfl)) rfl ?_
  exact ⟨rfl, (HC.out.trans' hcf).trans hcs (fun _ _ x => x) (fun k hk e => by have := HB2.out; omega)⟩
set_option maxHeartbeats 3200000 in
set_option maxRecDepth 100000 in
theorem rnormal_k4 (i r : Int) (s : ByteArray) (w : World) (hs : s.size ≤ 35184372088832) (hU : Lib.Utf8Tabs 0 1 w) :
    Calls Tryd.prog 19 #[.agg #[.int .i64 4, .int .i64 i, .string s, .int .i64 r]] w fun e w' => e = .returned (.agg #[.int .i64 4, .int .i64 0, .string (repairM s), .int .i64 0]) ∧ Chg (fun _ => False) w w' := by
  have HC := Lib.hid ((Chg.alloc (fun _ => False) w (.cells #[.int .i64 4, .int .i64 i, .string s, .int .i64 r] 36)).allocR (.cells #[.int .i64 0, .int .i64 0, .string ⟨#[]⟩, .int .i64 0] 36))
  have hb := alloc_block (w.alloc (.cells #[.int .i64 4, .int .i64 i, .string s, .int .i64 r] 36)) (.cells #[.int .i64 0, .int .i64 0, .string ⟨#[]⟩, .int .i64 0] 36)
  rw [show (w.alloc (.cells #[.int .i64 4, .int .i64 i, .string s, .int .i64 r] 36)).heap.size = w.heap.size + 1 from Array.size_push ..] at hb
  have HB := Lib.hid hb
  have HKB := Lib.hid ((Chg.alloc (fun _ => False) (w.alloc (.cells #[.int .i64 4, .int .i64 i, .string s, .int .i64 r] 36)) (.cells #[.int .i64 0, .int .i64 0, .string ⟨#[]⟩, .int .i64 0] 36)).keep (alloc_block w (.cells #[.int .i64 4, .int .i64 i, .string s, .int .i64 r] 36)) (fun x => x))
  have HRP := Lib.hid (fun W hU => rrepair_any s W hs hU)
  have HU := Lib.hid (utf8_stay hU HC.out)
  generalize repairM s = t at *
  clear hU hs
  clear hb
  go_enter Tryd.func19, Tryd.ntmps19
  go_upto_region 1 with fail
  generalize ((w.alloc (.cells #[.int .i64 4, .int .i64 i, .string s, .int .i64 r] 36)).alloc (.cells #[.int .i64 0, .int .i64 0, .string ⟨#[]⟩, .int .i64 0] 36)) = w3 at *
  generalize hb2e : w.heap.size + 1 = b2 at *
  have HB2 := Lib.hid hb2e
  clear hb2e
  have k0 := cell_of_block (i := 0) HKB.out rfl
  have k1 := cell_of_block (i := 1) HKB.out rfl
  have k2 := cell_of_block (i := 2) HKB.out rfl
  have k3 := cell_of_block (i := 3) HKB.out rfl
  simp only [List.getElem_toArray, List.getElem_cons_zero, List.getElem_cons_succ] at k0 k1 k2 k3
  go_wp2_with (go_at_call 39; refine (HRP.out _ HU.out).mono ?_; rintro e wf ⟨rfl, hcf⟩; have hb4 := hcf.keep HB.out (fun x => x); obtain ⟨z0, q0, z1, q1, z2, q2, z3, q3, hbf, hcs⟩ := store4 hb4 (.int .i64 4) (.int .i64 0) (.string t) (.int .i64 0))
  generalize ((((wf.setCell ⟨b2, 0, none⟩ (.int .i64 4)).setCell ⟨b2, 1, none⟩ (.int .i64 0)).setCell ⟨b2, 2, none⟩ (.string t)).setCell ⟨b2, 3, none⟩ (.int .i64 0)) = wz at *
  refine bodyPost_ret (results_cell_row rfl _ _ b2 _ _ _ _ (by rfl) hbf Tryd.underlying36 rfl (by kernel_rfl)) rfl ?_
  exact ⟨rfl, (HC.out.trans' hcf).trans hcs (fun _ _ x => x) (fun k hk e => by have := HB2.out; omega)⟩
set_option maxHeartbeats 3200000 in
set_option maxRecDepth 100000 in
theorem rnormal_k5 (i r : Int) (s : ByteArray) (w : World)  :
    Calls Tryd.prog 19 #[.agg #[.int .i64 5, .int .i64 i, .string s, .int .i64 r]] w fun e w' => e = .returned (.agg #[.int .i64 5, .int .i64 0, .string ⟨#[]⟩, .int .i64 r]) ∧ Chg (fun _ => False) w w' := by
  have HC := Lib.hid ((Chg.alloc (fun _ => False) w (.cells #[.int .i64 5, .int .i64 i, .string s, .int .i64 r] 36)).allocR (.cells #[.int .i64 0, .int .i64 0, .string ⟨#[]⟩, .int .i64 0] 36))
  have hb := alloc_block (w.alloc (.cells #[.int .i64 5, .int .i64 i, .string s, .int .i64 r] 36)) (.cells #[.int .i64 0, .int .i64 0, .string ⟨#[]⟩, .int .i64 0] 36)
  rw [show (w.alloc (.cells #[.int .i64 5, .int .i64 i, .string s, .int .i64 r] 36)).heap.size = w.heap.size + 1 from Array.size_push ..] at hb
  have HB := Lib.hid hb
  have HKB := Lib.hid ((Chg.alloc (fun _ => False) (w.alloc (.cells #[.int .i64 5, .int .i64 i, .string s, .int .i64 r] 36)) (.cells #[.int .i64 0, .int .i64 0, .string ⟨#[]⟩, .int .i64 0] 36)).keep (alloc_block w (.cells #[.int .i64 5, .int .i64 i, .string s, .int .i64 r] 36)) (fun x => x))
  clear hb
  go_enter Tryd.func19, Tryd.ntmps19
  go_upto_region 1 with fail
  generalize ((w.alloc (.cells #[.int .i64 5, .int .i64 i, .string s, .int .i64 r] 36)).alloc (.cells #[.int .i64 0, .int .i64 0, .string ⟨#[]⟩, .int .i64 0] 36)) = w3 at *
  generalize hb2e : w.heap.size + 1 = b2 at *
  have HB2 := Lib.hid hb2e
  clear hb2e
  have k0 := cell_of_block (i := 0) HKB.out rfl
  have k1 := cell_of_block (i := 1) HKB.out rfl
  have k2 := cell_of_block (i := 2) HKB.out rfl
  have k3 := cell_of_block (i := 3) HKB.out rfl
  simp only [List.getElem_toArray, List.getElem_cons_zero, List.getElem_cons_succ] at k0 k1 k2 k3
  have hcf := Chg.refl (fun _ => False) w3
  have hb4 := HB.out
  obtain ⟨z0, q0, z1, q1, z2, q2, z3, q3, hbf, hcs⟩ := store4 hb4 (.int .i64 5) (.int .i64 0) (.string ⟨#[]⟩) (.int .i64 r)
  go_wp2_with fail
  generalize ((((w3.setCell ⟨b2, 0, none⟩ (.int .i64 5)).setCell ⟨b2, 1, none⟩ (.int .i64 0)).setCell ⟨b2, 2, none⟩ (.string ⟨#[]⟩)).setCell ⟨b2, 3, none⟩ (.int .i64 r)) = wz at *
  refine bodyPost_ret (results_cell_row rfl _ _ b2 _ _ _ _ (by rfl) hbf Tryd.underlying36 rfl (by kernel_rfl)) rfl ?_
  exact ⟨rfl, (HC.out.trans' hcf).trans hcs (fun _ _ x => x) (fun k hk e => by have := HB2.out; omega)⟩
set_option maxHeartbeats 3200000 in
set_option maxRecDepth 100000 in
theorem rnormal_k1 (i r : Int) (s : ByteArray) (w : World)  :
    Calls Tryd.prog 19 #[.agg #[.int .i64 1, .int .i64 i, .string s, .int .i64 r]] w fun e w' => e = .returned (.agg #[.int .i64 1, .int .i64 0, .string ⟨#[]⟩, .int .i64 0]) ∧ Chg (fun _ => False) w w' := by
  have HC := Lib.hid ((Chg.alloc (fun _ => False) w (.cells #[.int .i64 1, .int .i64 i, .string s, .int .i64 r] 36)).allocR (.cells #[.int .i64 0, .int .i64 0, .string ⟨#[]⟩, .int .i64 0] 36))
  have hb := alloc_block (w.alloc (.cells #[.int .i64 1, .int .i64 i, .string s, .int .i64 r] 36)) (.cells #[.int .i64 0, .int .i64 0, .string ⟨#[]⟩, .int .i64 0] 36)
  rw [show (w.alloc (.cells #[.int .i64 1, .int .i64 i, .string s, .int .i64 r] 36)).heap.size = w.heap.size + 1 from Array.size_push ..] at hb
  have HB := Lib.hid hb
  have HKB := Lib.hid ((Chg.alloc (fun _ => False) (w.alloc (.cells #[.int .i64 1, .int .i64 i, .string s, .int .i64 r] 36)) (.cells #[.int .i64 0, .int .i64 0, .string ⟨#[]⟩, .int .i64 0] 36)).keep (alloc_block w (.cells #[.int .i64 1, .int .i64 i, .string s, .int .i64 r] 36)) (fun x => x))
  clear hb
  go_enter Tryd.func19, Tryd.ntmps19
  go_upto_region 1 with fail
  generalize ((w.alloc (.cells #[.int .i64 1, .int .i64 i, .string s, .int .i64 r] 36)).alloc (.cells #[.int .i64 0, .int .i64 0, .string ⟨#[]⟩, .int .i64 0] 36)) = w3 at *
  generalize hb2e : w.heap.size + 1 = b2 at *
  have HB2 := Lib.hid hb2e
  clear hb2e
  have k0 := cell_of_block (i := 0) HKB.out rfl
  have k1 := cell_of_block (i := 1) HKB.out rfl
  have k2 := cell_of_block (i := 2) HKB.out rfl
  have k3 := cell_of_block (i := 3) HKB.out rfl
  simp only [List.getElem_toArray, List.getElem_cons_zero, List.getElem_cons_succ] at k0 k1 k2 k3
  have hcf := Chg.refl (fun _ => False) w3
  have hb4 := HB.out
  obtain ⟨z0, q0, z1, q1, z2, q2, z3, q3, hbf, hcs⟩ := store4 hb4 (.int .i64 1) (.int .i64 0) (.string ⟨#[]⟩) (.int .i64 0)
  go_wp2_with fail
  generalize ((((w3.setCell ⟨b2, 0, none⟩ (.int .i64 1)).setCell ⟨b2, 1, none⟩ (.int .i64 0)).setCell ⟨b2, 2, none⟩ (.string ⟨#[]⟩)).setCell ⟨b2, 3, none⟩ (.int .i64 0)) = wz at *
  refine bodyPost_ret (results_cell_row rfl _ _ b2 _ _ _ _ (by rfl) hbf Tryd.underlying36 rfl (by kernel_rfl)) rfl ?_
  exact ⟨rfl, (HC.out.trans' hcf).trans hcs (fun _ _ x => x) (fun k hk e => by have := HB2.out; omega)⟩
set_option maxHeartbeats 3200000 in
set_option maxRecDepth 100000 in
theorem rnormal_k6 (i r : Int) (s : ByteArray) (w : World)  :
    Calls Tryd.prog 19 #[.agg #[.int .i64 6, .int .i64 i, .string s, .int .i64 r]] w fun e w' => e = .returned (.agg #[.int .i64 6, .int .i64 0, .string ⟨#[]⟩, .int .i64 0]) ∧ Chg (fun _ => False) w w' := by
  have HC := Lib.hid ((Chg.alloc (fun _ => False) w (.cells #[.int .i64 6, .int .i64 i, .string s, .int .i64 r] 36)).allocR (.cells #[.int .i64 0, .int .i64 0, .string ⟨#[]⟩, .int .i64 0] 36))
  have hb := alloc_block (w.alloc (.cells #[.int .i64 6, .int .i64 i, .string s, .int .i64 r] 36)) (.cells #[.int .i64 0, .int .i64 0, .string ⟨#[]⟩, .int .i64 0] 36)
  rw [show (w.alloc (.cells #[.int .i64 6, .int .i64 i, .string s, .int .i64 r] 36)).heap.size = w.heap.size + 1 from Array.size_push ..] at hb
  have HB := Lib.hid hb
  have HKB := Lib.hid ((Chg.alloc (fun _ => False) (w.alloc (.cells #[.int .i64 6, .int .i64 i, .string s, .int .i64 r] 36)) (.cells #[.int .i64 0, .int .i64 0, .string ⟨#[]⟩, .int .i64 0] 36)).keep (alloc_block w (.cells #[.int .i64 6, .int .i64 i, .string s, .int .i64 r] 36)) (fun x => x))
  clear hb
  go_enter Tryd.func19, Tryd.ntmps19
  go_upto_region 1 with fail
  generalize ((w.alloc (.cells #[.int .i64 6, .int .i64 i, .string s, .int .i64 r] 36)).alloc (.cells #[.int .i64 0, .int .i64 0, .string ⟨#[]⟩, .int .i64 0] 36)) = w3 at *
  generalize hb2e : w.heap.size + 1 = b2 at *
  have HB2 := Lib.hid hb2e
  clear hb2e
  have k0 := cell_of_block (i := 0) HKB.out rfl
  have k1 := cell_of_block (i := 1) HKB.out rfl
  have k2 := cell_of_block (i := 2) HKB.out rfl
  have k3 := cell_of_block (i := 3) HKB.out rfl
  simp only [List.getElem_toArray, List.getElem_cons_zero, List.getElem_cons_succ] at k0 k1 k2 k3
  have hcf := Chg.refl (fun _ => False) w3
  have hb4 := HB.out
  obtain ⟨z0, q0, z1, q1, z2, q2, z3, q3, hbf, hcs⟩ := store4 hb4 (.int .i64 6) (.int .i64 0) (.string ⟨#[]⟩) (.int .i64 0)
  go_wp2_with fail
  generalize ((((w3.setCell ⟨b2, 0, none⟩ (.int .i64 6)).setCell ⟨b2, 1, none⟩ (.int .i64 0)).setCell ⟨b2, 2, none⟩ (.string ⟨#[]⟩)).setCell ⟨b2, 3, none⟩ (.int .i64 0)) = wz at *
  refine bodyPost_ret (results_cell_row rfl _ _ b2 _ _ _ _ (by rfl) hbf Tryd.underlying36 rfl (by kernel_rfl)) rfl ?_
  exact ⟨rfl, (HC.out.trans' hcf).trans hcs (fun _ _ x => x) (fun k hk e => by have := HB2.out; omega)⟩
set_option maxHeartbeats 3200000 in
set_option maxRecDepth 100000 in
theorem rnormal_ko (i r : Int) (s : ByteArray) (w : World) (c : Int) (h : ¬ c = 1 ∧ ¬ c = 2 ∧ ¬ c = 3 ∧ ¬ c = 4 ∧ ¬ c = 5 ∧ ¬ c = 6) :
    Calls Tryd.prog 19 #[.agg #[.int .i64 c, .int .i64 i, .string s, .int .i64 r]] w fun e w' => e = .returned (.agg #[.int .i64 0, .int .i64 0, .string ⟨#[]⟩, .int .i64 0]) ∧ Chg (fun _ => False) w w' := by
  have HC := Lib.hid ((Chg.alloc (fun _ => False) w (.cells #[.int .i64 c, .int .i64 i, .string s, .int .i64 r] 36)).allocR (.cells #[.int .i64 0, .int .i64 0, .string ⟨#[]⟩, .int .i64 0] 36))
  have hb := alloc_block (w.alloc (.cells #[.int .i64 c, .int .i64 i, .string s, .int .i64 r] 36)) (.cells #[.int .i64 0, .int .i64 0, .string ⟨#[]⟩, .int .i64 0] 36)
  rw [show (w.alloc (.cells #[.int .i64 c, .int .i64 i, .string s, .int .i64 r] 36)).heap.size = w.heap.size + 1 from Array.size_push ..] at hb
  have HB := Lib.hid hb
  have HKB := Lib.hid ((Chg.alloc (fun _ => False) (w.alloc (.cells #[.int .i64 c, .int .i64 i, .string s, .int .i64 r] 36)) (.cells #[.int .i64 0, .int .i64 0, .string ⟨#[]⟩, .int .i64 0] 36)).keep (alloc_block w (.cells #[.int .i64 c, .int .i64 i, .string s, .int .i64 r] 36)) (fun x => x))
  have n1 : (c == 1) = false := beq_false_of_ne (by omega)
  have n2 : (c == 2) = false := beq_false_of_ne (by omega)
  have n3 : (c == 3) = false := beq_false_of_ne (by omega)
  have n4 : (c == 4) = false := beq_false_of_ne (by omega)
  have n5 : (c == 5) = false := beq_false_of_ne (by omega)
  have n6 : (c == 6) = false := beq_false_of_ne (by omega)
  clear h
  clear hb
  go_enter Tryd.func19, Tryd.ntmps19
  go_upto_region 1 with fail
  generalize ((w.alloc (.cells #[.int .i64 c, .int .i64 i, .string s, .int .i64 r] 36)).alloc (.cells #[.int .i64 0, .int .i64 0, .string ⟨#[]⟩, .int .i64 0] 36)) = w3 at *
  generalize hb2e : w.heap.size + 1 = b2 at *
  have HB2 := Lib.hid hb2e
  clear hb2e
  have k0 := cell_of_block (i := 0) HKB.out rfl
  have k1 := cell_of_block (i := 1) HKB.out rfl
  have k2 := cell_of_block (i := 2) HKB.out rfl
  have k3 := cell_of_block (i := 3) HKB.out rfl
  simp only [List.getElem_toArray, List.getElem_cons_zero, List.getElem_cons_succ] at k0 k1 k2 k3
  have hcf := Chg.refl (fun _ => False) w3
  have hb4 := HB.out
  obtain ⟨z0, q0, z1, q1, z2, q2, z3, q3, hbf, hcs⟩ := store4 hb4 (.int .i64 0) (.int .i64 0) (.string ⟨#[]⟩) (.int .i64 0)
  go_wp2_with fail
  generalize ((((w3.setCell ⟨b2, 0, none⟩ (.int .i64 0)).setCell ⟨b2, 1, none⟩ (.int .i64 0)).setCell ⟨b2, 2, none⟩ (.string ⟨#[]⟩)).setCell ⟨b2, 3, none⟩ (.int .i64 0)) = wz at *
  refine bodyPost_ret (results_cell_row rfl _ _ b2 _ _ _ _ (by rfl) hbf Tryd.underlying36 rfl (by kernel_rfl)) rfl ?_
  exact ⟨rfl, (HC.out.trans' hcf).trans hcs (fun _ _ x => x) (fun k hk e => by have := HB2.out; omega)⟩
theorem rnormal_any (x : Val) (w : World) (hs : x.str.size ≤ 35184372088832) (hU : Lib.Utf8Tabs 0 1 w) :
    Calls Tryd.prog 19 #[.agg #[.int .i64 x.kind, .int .i64 x.int, .string x.str, .int .i64 x.ref]] w fun e w' => e = .returned (.agg #[.int .i64 (normM x).kind, .int .i64 (normM x).int, .string (normM x).str, .int .i64 (normM x).ref]) ∧ Chg (fun _ => False) w w' := by
  obtain ⟨c, i, s, r⟩ := x
  by_cases h2 : c = 2
  · subst h2
    by_cases hi : i = 0
    · rw [show normM ⟨2, i, s, r⟩ = ⟨2, 0, ⟨#[]⟩, 0⟩ by simp [normM, hi]]; exact rnormal_k2n i r s w hi
    · rw [show normM ⟨2, i, s, r⟩ = ⟨2, 1, ⟨#[]⟩, 0⟩ by simp [normM, hi]]; exact rnormal_k2y i r s w hi
  · by_cases h3 : c = 3
    · subst h3; rw [show normM ⟨3, i, s, r⟩ = ⟨3, i, ⟨#[]⟩, 0⟩ by simp [normM]]; exact rnormal_k3 i r s w
    · by_cases h4 : c = 4
      · subst h4; rw [show normM ⟨4, i, s, r⟩ = ⟨4, 0, repairM s, 0⟩ by simp [normM]]; exact rnormal_k4 i r s w hs hU
      · by_cases h5 : c = 5
        · subst h5; rw [show normM ⟨5, i, s, r⟩ = ⟨5, 0, ⟨#[]⟩, r⟩ by simp [normM]]; exact rnormal_k5 i r s w
        · by_cases h1 : c = 1
          · subst h1; rw [show normM ⟨1, i, s, r⟩ = ⟨1, 0, ⟨#[]⟩, 0⟩ by simp [normM]]; exact rnormal_k1 i r s w
          · by_cases h6 : c = 6
            · subst h6; rw [show normM ⟨6, i, s, r⟩ = ⟨6, 0, ⟨#[]⟩, 0⟩ by simp [normM]]; exact rnormal_k6 i r s w
            · rw [show normM ⟨c, i, s, r⟩ = ⟨0, 0, ⟨#[]⟩, 0⟩ by simp [normM, h1, h2, h3, h4, h5, h6]]; exact rnormal_ko i r s w c ⟨h1, h2, h3, h4, h5, h6⟩
end Go.Proofs.YtjianickjahdnaaDoor
namespace Go.Proofs.YtjianickjahdnaaDoor
open Go.RowKit
set_option linter.unusedVariables false
set_option linter.unusedSimpArgs false

/-- The byte of a number's last digit. -/
def dgB (n : Nat) : UInt8 := UInt8.ofNat (48 + n % 10)
theorem digit_one (n : Nat) : (⟨#[48, 49, 50, 51, 52, 53, 54, 55, 56, 57]⟩ : ByteArray).extract (n % 10) (n % 10 + 1) = ⟨[dgB n].toArray⟩ := by
  have key : ∀ k : Fin 10, (⟨#[48, 49, 50, 51, 52, 53, 54, 55, 56, 57]⟩ : ByteArray).extract k.val (k.val + 1) = ⟨[UInt8.ofNat (48 + k.val)].toArray⟩ := by decide
  exact key ⟨n % 10, Nat.mod_lt _ (by omega)⟩
theorem dec_small {n : Nat} (h : n < 10) : Lib.decDigits n = [dgB n] := by unfold dgB; rw [Lib.decDigits, dif_pos h, Nat.mod_eq_of_lt h]
theorem dec_big {n : Nat} (h : ¬ n < 10) : Lib.decDigits n = Lib.decDigits (n / 10) ++ [dgB n] := by rw [Lib.decDigits, dif_neg h]; rfl
set_option maxHeartbeats 1600000 in
set_option maxRecDepth 100000 in
theorem digits_nn (n : Nat) (w : World) (hn : (n : Int) ≤ 9223372036854775807) :
    Calls Tryd.prog 40 #[.int .i64 n] w fun e w' => e = .returned (.string ⟨(Lib.decDigits n).toArray⟩) ∧ w = w' := by
  have n0 : (0 : Int) ≤ (n : Int) := Int.natCast_nonneg _
  have n2 : ((n : Int) == -9223372036854775808) = false := by simp
  have n3 : ¬ (n : Int) < 0 := by omega
  have HD := Lib.hid (fun k => digit_one k)
  have HST : Hid ((0 < n / 10 → Lib.decDigits (n / 10) ++ [dgB n] = Lib.decDigits n) ∧ (n / 10 = 0 → [dgB n] = Lib.decDigits n)) := Lib.hid ⟨fun h => (dec_big (by omega)).symm, fun h => (dec_small (by omega)).symm⟩
  go_enter Tryd.func40, Tryd.ntmps40
  go_upto_region 6 with fail
  rw [HD.out n]
  go_wp2_with fail
  go_loopw [0, 3] (fun s0 s3 wr => ∃ (k : Nat) (u : List UInt8), s0 = .int .i64 k ∧ s3 = .string ⟨u.toArray⟩ ∧ (k : Int) ≤ 922337203685477580 ∧ Hid ((0 < k → Lib.decDigits k ++ u = Lib.decDigits n) ∧ (k = 0 → u = Lib.decDigits n)) ∧ Hid (u.length + k ≤ n / 10 + 1) ∧ wr = w) (fun s0 _ _ => (intOf s0).toNat)
  case atStart => exact ⟨n / 10, _, by go_num, rfl, by omega, HST, Lib.hid (by simp; omega), rfl⟩
  case round =>
    obtain ⟨k, u, rfl, rfl, hk, HU, HZ, rfl⟩ := hrel
    have k0 : (0 : Int) ≤ (k : Int) := Int.natCast_nonneg _
    by_cases h : 0 < k
    · have h1 : (0 : Int) < (k : Int) := by omega
      have hcat := cat_bytes [dgB k] u
      have HC := Lib.hid hcat
      have hz : (⟨u.toArray⟩ : ByteArray).size = u.length := by show u.toArray.size = _; simp
      have hx : ((⟨#[48, 49, 50, 51, 52, 53, 54, 55, 56, 57]⟩ : ByteArray).extract (k % 10) (k % 10 + 1)).size = 1 := by rw [digit_one]; rfl
      have hsz : ¬ 9223372036854775807 < ((⟨#[48, 49, 50, 51, 52, 53, 54, 55, 56, 57]⟩ : ByteArray).extract (k % 10) (k % 10 + 1)).size + (⟨u.toArray⟩ : ByteArray).size := by rw [hx, hz]; have := HZ.out; omega
      have HN : Hid ((0 < k / 10 → Lib.decDigits (k / 10) ++ (dgB k :: u) = Lib.decDigits n) ∧ (k / 10 = 0 → (dgB k :: u) = Lib.decDigits n)) := Lib.hid ⟨fun h2 => by
        rw [← HU.out.1 h, dec_big (n := k) (by omega), List.append_assoc]; rfl, fun h2 => by
        rw [← HU.out.1 h, dec_small (n := k) (by omega)]; rfl⟩
      clear hcat hz hx
      go_wp2_with fail
      go_roundw
      case rel => exact ⟨k / 10, _, by go_num, by rw [HD.out k, HC.out]; rfl, by omega, HN, Lib.hid (by have := HZ.out; simp only [List.length_cons]; omega), trivial⟩
      case measure => simp [intOf]; omega
    · have h1 : ¬ (0 : Int) < (k : Int) := by omega
      have hk0 : k = 0 := by omega
      have HE := Lib.hid (HU.out.2 hk0)
      clear hk0
      go_wp2_with fail
      go_ret
      exact ⟨by rw [HE.out]; rfl, rfl⟩
set_option maxHeartbeats 1600000 in
set_option maxRecDepth 100000 in
theorem digits_any (v : Int) (w : World) (h0 : -9223372036854775808 ≤ v ∧ v ≤ 9223372036854775807) :
    Calls Tryd.prog 40 #[.int .i64 v] w fun e w' => e = .returned (.string (itoaB v)) ∧ w = w' := by
  by_cases hn : 0 ≤ v
  · obtain ⟨n, rfl⟩ : ∃ n : Nat, v = (n : Int) := ⟨v.toNat, by omega⟩
    rw [show itoaB (n : Int) = ⟨(Lib.decDigits n).toArray⟩ by unfold itoaB; rw [Lib.itoa_nonneg]]
    exact digits_nn n w h0.2
  · by_cases hm : v = -9223372036854775808
    · subst hm
      rw [show itoaB (-9223372036854775808) = ⟨#[45, 57, 50, 50, 51, 51, 55, 50, 48, 51, 54, 56, 53, 52, 55, 55, 53, 56, 48, 56]⟩ by kernel_rfl]
      go_enter Tryd.func40, Tryd.ntmps40
      go_wp2_with fail
      go_ret
      exact ⟨rfl, rfl⟩
    · obtain ⟨n, rfl⟩ : ∃ n : Nat, v = -(n : Int) := ⟨v.natAbs, by omega⟩
      have hi : itoaB (-(n : Int)) = (⟨[45].toArray⟩ : ByteArray) ++ ⟨(Lib.decDigits n).toArray⟩ := by
        unfold itoaB
        rw [Lib.itoa_neg n (by omega), cat_bytes]; rfl
      rw [hi]
      have HDN := Lib.hid (digits_nn n w (by omega))
      have hz : (⟨(Lib.decDigits n).toArray⟩ : ByteArray).size ≤ 100 := by
        show (Lib.decDigits n).toArray.size ≤ 100
        rw [List.size_toArray]
        have key : ∀ (f m : Nat), m < 10 ^ f → (Lib.decDigits m).length ≤ f + 1 := fun f => by
          induction f with
          | zero => intro m hm; rw [dec_small (by omega)]; simp
          | succ f ih =>
            intro m hm
            by_cases h : m < 10
            · rw [dec_small h]; simp
            · rw [dec_big h, List.length_append]
              have := ih (m / 10) (by rw [Nat.pow_succ] at hm; omega)
              simp; omega
        exact Nat.le_trans (key 20 n (by omega)) (by omega)
      have hsz : ¬ 9223372036854775807 < (⟨#[45]⟩ : ByteArray).size + (⟨(Lib.decDigits n).toArray⟩ : ByteArray).size := by rw [show (⟨#[45]⟩ : ByteArray).size = 1 from rfl]; omega
      have e1 : (-(n : Int) == -9223372036854775808) = false := beq_false_of_ne hm
      have e2 : -(n : Int) < 0 := by omega
      have e3 : IntKind.i64.wrap (- -(n : Int)) = (n : Int) := by rw [Int.neg_neg]; exact IntWalk.i64_in _ (by omega)
      have e4 : IntKind.i64.wrap (n : Int) = (n : Int) := IntWalk.i64_in _ (by omega)
      have e5 : wrap64 (- -(n : Int)) = (n : Int) := by rw [Int.neg_neg]; exact IntWalk.wrap64_in _ (by omega)
      generalize (⟨(Lib.decDigits n).toArray⟩ : ByteArray) = u at *
      clear hi hz hm hn
      go_enter Tryd.func40, Tryd.ntmps40
      go_wp2_with (go_at_call 40; refine HDN.out.mono ?_; rintro e wd ⟨rfl, rfl⟩)
      go_ret
      exact ⟨rfl, rfl⟩
end Go.Proofs.YtjianickjahdnaaDoor
namespace Go.Proofs.YtjianickjahdnaaDoor
open Go.RowKit
set_option linter.unusedVariables false
set_option linter.unusedSimpArgs false

def isDg (c : UInt8) : Bool := decide (48 ≤ c.toNat ∧ c.toNat ≤ 57)
/-- The value of a list of digits, behind what was read. -/
def vL (a : Nat) : List UInt8 → Nat
  | [] => a
  | c :: l => vL (a * 10 + (c.toNat - 48)) l
theorem vL_app (a : Nat) (l m : List UInt8) : vL a (l ++ m) = vL (vL a l) m := by
  induction l generalizing a with
  | nil => rfl
  | cons c l ih => exact ih _
theorem dgB_val (n : Nat) : (dgB n).toNat = 48 + n % 10 := by
  unfold dgB
  rw [UInt8.toNat_ofNat']
  omega
theorem dec_all (n : Nat) : ∀ c ∈ Lib.decDigits n, isDg c = true := by
  induction n using Nat.strongRecOn with
  | _ n ih =>
    by_cases h : n < 10
    · rw [dec_small h]
      intro c hc
      rw [List.mem_singleton] at hc
      subst hc
      unfold isDg
      rw [dgB_val]
      simp; omega
    · rw [dec_big h]
      intro c hc
      rcases List.mem_append.1 hc with hc | hc
      · exact ih (n / 10) (by omega) c hc
      · rw [List.mem_singleton] at hc
        subst hc
        unfold isDg
        rw [dgB_val]
        simp; omega
theorem dec_val (n : Nat) : vL 0 (Lib.decDigits n) = n := by
  induction n using Nat.strongRecOn with
  | _ n ih =>
    by_cases h : n < 10
    · rw [dec_small h]
      show 0 * 10 + ((dgB n).toNat - 48) = n
      rw [dgB_val]; omega
    · rw [dec_big h, vL_app, ih (n / 10) (by omega)]
      show n / 10 * 10 + ((dgB n).toNat - 48) = n
      rw [dgB_val]; omega
theorem dec_ne (n : Nat) : Lib.decDigits n ≠ [] := by
  by_cases h : n < 10
  · rw [dec_small h]; simp
  · rw [dec_big h]; simp
theorem dec_len : ∀ (f m : Nat), m < 10 ^ (f + 1) → (Lib.decDigits m).length ≤ f + 1 := fun f => by
  induction f with
  | zero => intro m hm; rw [dec_small (by omega)]; simp
  | succ f ih =>
    intro m hm
    by_cases h : m < 10
    · rw [dec_small h]; simp
    · rw [dec_big h, List.length_append]
      have := ih (m / 10) (by rw [Nat.pow_succ] at hm; omega)
      simp; omega
theorem dec_head (n : Nat) : ∀ c l, Lib.decDigits n = c :: l → c.toNat ≠ 43 ∧ c.toNat ≠ 45 := fun c l h => by
  have := dec_all n c (by rw [h]; exact List.mem_cons_self ..)
  unfold isDg at this
  simp at this
  omega
/-- ParseUint's loop on digits. -/
theorem pu_ok (M : Nat) (hM : M ≤ 18446744073709551615) : ∀ (l : List UInt8) (a : Nat), (∀ c ∈ l, isDg c = true) → vL a l ≤ M → Lib.parseUintM M a l = .ok (vL a l)
  | [], a, _, _ => rfl
  | c :: l, a, h, hv => by
    have hc := h c (List.mem_cons_self ..)
    have hc2 : 48 ≤ c.toNat ∧ c.toNat ≤ 57 := by simpa [isDg] using hc
    have mono : ∀ (l : List UInt8) (a : Nat), a ≤ vL a l := fun l => by
      induction l with
      | nil => intro a; exact Nat.le_refl _
      | cons c l ih => intro a; have := ih (a * 10 + (c.toNat - 48)); show a ≤ vL (a * 10 + (c.toNat - 48)) l; omega
    have hle := mono l (a * 10 + (c.toNat - 48))
    have hv' : vL (a * 10 + (c.toNat - 48)) l ≤ M := hv
    rw [Lib.parseUintM, if_pos hc2, if_neg (by omega), if_neg (by omega)]
    exact pu_ok M hM l _ (fun d hd => h d (List.mem_cons_of_mem _ hd)) hv'
theorem parse_itoa (v : Int) (h0 : -9223372036854775808 ≤ v ∧ v ≤ 9223372036854775807) : Lib.parseIntB 64 (Lib.itoa v) = .ok v := by
  have key : ∀ n : Nat, n ≤ 9223372036854775808 → Lib.parseUintB 64 (Lib.decDigits n) = .ok n := fun n hn => by
    unfold Lib.parseUintB
    rw [if_neg (dec_ne n), pu_ok _ (by decide) _ _ (dec_all n) (by rw [dec_val]; exact Nat.le_trans hn (by decide)), dec_val]
  by_cases hn : 0 ≤ v
  · obtain ⟨n, rfl⟩ : ∃ n : Nat, v = (n : Int) := ⟨v.toNat, by omega⟩
    rw [Lib.itoa_nonneg]
    have hk := key n (by omega)
    cases hd : Lib.decDigits n with
    | nil => exact absurd hd (dec_ne n)
    | cons c l =>
      obtain ⟨h1, h2⟩ := dec_head n c l hd
      rw [hd] at hk
      unfold Lib.parseIntB
      simp only [h1, h2, or_self, if_false, hk]
      rw [if_neg (by simp; omega), if_neg (by simp)]
  · obtain ⟨n, rfl⟩ : ∃ n : Nat, v = -(n : Int) := ⟨v.natAbs, by omega⟩
    rw [Lib.itoa_neg n (by omega)]
    have hk := key n (by omega)
    unfold Lib.parseIntB
    simp only [show (45 : UInt8).toNat = 45 from rfl, or_true, if_true, hk]
    rw [if_neg (by simp), if_neg (by simp; omega)]
theorem numM_itoa (v : Int) (h0 : -9223372036854775808 ≤ v ∧ v ≤ 9223372036854775807) : numM (itoaB v) = some v := by
  unfold numM itoaB
  simp only [parse_itoa v h0]
  rfl
theorem numM_some {s : ByteArray} {v : Int} (h : numM s = some v) : s = itoaB v ∧ -9223372036854775808 ≤ v ∧ v ≤ 9223372036854775807 := by
  unfold numM at h
  cases hp : Lib.parseIntB 64 s.data.toList with
  | ok u =>
    simp only [hp] at h
    split at h
    · rename_i he
      cases h
      refine ⟨?_, parse_in hp⟩
      unfold itoaB
      exact (str_eq_list.2 he).symm
    · cases h
  | «syntax» => simp only [hp] at h; cases h
  | range => simp only [hp] at h; cases h
/-- What the reference reads of a text. -/
def sgnB (s : ByteArray) : Bool := s.data.toList.head? == some 45
def digL (s : ByteArray) : List UInt8 := if sgnB s = true then s.data.toList.drop 1 else s.data.toList
def okL (l : List UInt8) : Bool := decide (1 ≤ l.length ∧ l.length ≤ 19) && l.all isDg
def valI (s : ByteArray) : Int := if sgnB s = true then IntKind.i64.wrap (-(IntKind.i64.wrap (vL 0 (digL s) : Int))) else IntKind.i64.wrap (vL 0 (digL s) : Int)
theorem read_itoa (u : Int) (h0 : -9223372036854775808 ≤ u ∧ u ≤ 9223372036854775807) : okL (digL (itoaB u)) = true ∧ valI (itoaB u) = u := by
  have hdt : (itoaB u).data.toList = Lib.itoa u := by unfold itoaB; simp
  have hw := h0
  by_cases hn : 0 ≤ u
  · obtain ⟨n, rfl⟩ : ∃ n : Nat, u = (n : Int) := ⟨u.toNat, by omega⟩
    rw [Lib.itoa_nonneg] at hdt
    have hs : sgnB (itoaB (n : Int)) = false := by
      unfold sgnB
      rw [hdt]
      cases hd : Lib.decDigits n with
      | nil => rfl
      | cons c l =>
        have := (dec_head n c l hd).2
        simp only [List.head?_cons, beq_eq_false_iff_ne, ne_eq, Option.some.injEq]
        intro e
        subst e
        exact this rfl
    have hD : digL (itoaB (n : Int)) = Lib.decDigits n := by unfold digL; rw [hs, hdt]; simp
    refine ⟨?_, ?_⟩
    · unfold okL
      rw [hD, Bool.and_eq_true, decide_eq_true_eq, List.all_eq_true]
      exact ⟨⟨List.length_pos_iff.2 (dec_ne n), dec_len 18 n (by omega)⟩, dec_all n⟩
    · unfold valI
      rw [hs, hD, dec_val]
      simp only [Bool.false_eq_true, if_false]
      exact IntWalk.i64_in _ (by omega)
  · obtain ⟨n, rfl⟩ : ∃ n : Nat, u = -(n : Int) := ⟨u.natAbs, by omega⟩
    rw [Lib.itoa_neg n (by omega)] at hdt
    have hs : sgnB (itoaB (-(n : Int))) = true := by unfold sgnB; rw [hdt]; rfl
    have hD : digL (itoaB (-(n : Int))) = Lib.decDigits n := by unfold digL; rw [hs, hdt]; rfl
    refine ⟨?_, ?_⟩
    · unfold okL
      rw [hD, Bool.and_eq_true, decide_eq_true_eq, List.all_eq_true]
      exact ⟨⟨List.length_pos_iff.2 (dec_ne n), dec_len 18 n (by omega)⟩, dec_all n⟩
    · unfold valI
      rw [hs, hD, dec_val, if_pos rfl]
      by_cases hm : n = 9223372036854775808
      · subst hm; decide
      · rw [IntWalk.i64_in (n : Int) (by omega)]
        exact IntWalk.i64_in _ (by omega)
theorem read_bad {s : ByteArray} (h : okL (digL s) = false) : numM s = none := by
  cases hm : numM s with
  | none => rfl
  | some u =>
    obtain ⟨h1, h2⟩ := numM_some hm
    rw [h1, (read_itoa u h2).1] at h
    cases h
theorem read_good (s : ByteArray) (hv : -9223372036854775808 ≤ valI s ∧ valI s ≤ 9223372036854775807) : numM s = if itoaB (valI s) = s then some (valI s) else none := by
  split
  · rename_i e
    have := numM_itoa (valI s) hv
    rwa [e] at this
  · rename_i e
    cases hm : numM s with
    | none => rfl
    | some u =>
      obtain ⟨h1, h2⟩ := numM_some hm
      exfalso
      apply e
      rw [h1, (read_itoa u h2).2]
end Go.Proofs.YtjianickjahdnaaDoor
namespace Go.Proofs.YtjianickjahdnaaDoor
open Go.RowKit
set_option linter.unusedVariables false
set_option linter.unusedSimpArgs false

def NumPost (s : ByteArray) (e : Ending) : Prop := e = .returned (match numM s with | some v => .tuple #[.int .i64 v, .int .i64 0] | none => .tuple #[.int .i64 0, .int .i64 6])
theorem vL_bd (l : List UInt8) : (∀ c ∈ l, isDg c = true) → ∀ a, vL a l + 1 ≤ (a + 1) * 10 ^ l.length := by
  induction l with
  | nil => intro _ a; show a + 1 ≤ (a + 1) * 10 ^ 0; omega
  | cons c l ih =>
    intro h a
    have hc : 48 ≤ c.toNat ∧ c.toNat ≤ 57 := by simpa [isDg] using h c (List.mem_cons_self ..)
    have := ih (fun d hd => h d (List.mem_cons_of_mem _ hd)) (a * 10 + (c.toNat - 48))
    show vL (a * 10 + (c.toNat - 48)) l + 1 ≤ (a + 1) * 10 ^ (l.length + 1)
    refine Nat.le_trans this ?_
    rw [Nat.pow_succ, Nat.mul_comm (10 ^ l.length) 10, ← Nat.mul_assoc]
    exact Nat.mul_le_mul_right _ (by omega)
theorem vL_lt (l : List UInt8) (h : ∀ c ∈ l, isDg c = true) (i : Nat) (hl : l.length ≤ i) : vL 0 l < 10 ^ i := by
  have h1 := vL_bd l h 0
  have h2 : 10 ^ l.length ≤ 10 ^ i := Nat.pow_le_pow_right (by omega) hl
  omega
theorem w64_eq (n : Int) : IntKind.i64.wrap n = wrap64 n := by
  unfold wrap64
  exact IntKind.wrap_i64 n
def B18 (n : Nat) : Prop := (n : Int) < 1000000000000000000
theorem wrap_acc {n x : Nat} (h1 : 48 ≤ x) (h2 : x ≤ 57) (hb : B18 n) : IntKind.u64.wrap (IntKind.u64.wrap ((n : Int) * 10) + ((x : Int) - 48)) = ((n * 10 + (x - 48) : Nat) : Int) := by
  have hn : (n : Int) < 1000000000000000000 := hb
  rw [IntWalk.u64_in ((n : Int) * 10) (by omega), show (n : Int) * 10 + ((x : Int) - 48) = ((n * 10 + (x - 48) : Nat) : Int) by omega]
  exact IntWalk.u64_in _ (by omega)
theorem wrap_rg (x : Int) : -9223372036854775808 ≤ IntKind.i64.wrap x ∧ IntKind.i64.wrap x ≤ 9223372036854775807 := by
  rw [IntKind.wrap_i64]
  omega
set_option maxHeartbeats 6400000 in
set_option maxRecDepth 100000 in
theorem rnumber_any (s : ByteArray) (w : World) (hs : s.size ≤ 1000000) :
    Calls Tryd.prog 42 #[.string s] w fun e w' => NumPost s e ∧ w' = w := by
  have hdt : s.data.toList.length = s.size := by rw [Array.length_toList]; rfl
  by_cases h0 : 0 < s.size
  · have hhd : s.data.toList.head? = some s[0] := by
      rw [List.head?_eq_getElem?, Array.getElem?_toList]
      exact Array.getElem?_eq_getElem h0
    by_cases hc : (s[0].toNat : Int) = 45
    · have hcb : ((s[0].toNat : Int) == 45) = true := by simpa using hc
      have hsg : sgnB s = true := by
        unfold sgnB
        rw [hhd]
        have : s[0] = 45 := UInt8.toNat_inj.1 (by rw [show (45 : UInt8).toNat = 45 from rfl]; omega)
        rw [this]; rfl
      have HSG := Lib.hid hsg
      have hD : (s.extract 1 s.size).data.toList = digL s := by
        unfold digL
        rw [hsg, if_pos rfl, ByteArray.data_extract, Array.toList_extract, List.extract_eq_take_drop, List.take_of_length_le (by rw [List.length_drop]; omega)]
      have hne : ((s.extract 1 s.size).toList != s.toList) = true := by
        rw [bne_iff_ne]
        intro e
        have := congrArg ByteArray.size (toList_inj e)
        rw [ByteArray.size_extract] at this
        omega
      have h01 : (1 : Int) ≤ (s.size : Int) := by omega
      clear hsg hhd hdt hs
      go_enter Tryd.func42, Tryd.ntmps42
      go_upto_region 5 with fail
      clear hcb
      generalize s.extract 1 s.size = D at *
      have HNEQ := Lib.hid hne
      have hsz : D.size = (digL s).length := by rw [← hD, Array.length_toList]; rfl
      have HSZ := Lib.hid hsz
      have HGET : Hid (∀ i, (h : i < D.size) → (digL s)[i]? = some D[i]) := Lib.hid (fun i h => by
        rw [← hD, Array.getElem?_toList]
        exact Array.getElem?_eq_getElem h)
      clear hD hne
      have BAD : Hid (okL (digL s) = false → NumPost s (.returned (.tuple #[.int .i64 0, .int .i64 6]))) := Lib.hid (fun h => by unfold NumPost; rw [read_bad h])
      by_cases hl : 1 ≤ D.size ∧ D.size ≤ 19
      · have l1 : ¬ (D.size : Int) < 1 := by omega
        have l2 : ¬ (19 : Int) < (D.size : Int) := by omega
        have HL := Lib.hid hl
        clear hl hsz
        go_upto_region 8 with fail
        go_loopw [4, 6] (fun u4 u6 wr => ∃ i : Nat, i ≤ D.size ∧ u6 = .int .i64 i ∧ u4 = .int .u64 ((vL 0 ((digL s).take i) : Nat) : Int) ∧ Hid (∀ c ∈ (digL s).take i, isDg c = true) ∧ wr = w) (fun _ u6 _ => D.size - (intOf u6).toNat)
        case atStart => exact ⟨0, by omega, rfl, rfl, Lib.hid (by simp), rfl⟩
        case round =>
          obtain ⟨i, hi, rfl, rfl, HA, rfl⟩ := hrel
          by_cases hlt : i < D.size
          · have i0 : (0 : Int) ≤ (i : Int) := by omega
            have i1 : (i : Int) < (D.size : Int) := by omega
            have w64 : IntKind.i64.wrap ((i : Int) + 1) = ((i + 1 : Nat) : Int) := IntWalk.i64_in _ (by have := HL.out; omega)
            have HNX : Hid (i + 1 ≤ D.size) := Lib.hid hlt
            have hg := HGET.out i hlt
            have htk : (digL s).take (i + 1) = (digL s).take i ++ [D[i]] := by rw [List.take_add_one, hg]; rfl
            have hmem : D[i] ∈ digL s := List.mem_of_getElem? hg
            have hbd := vL_lt ((digL s).take i) HA.out i (List.length_take_le ..)
            have hpw : 10 ^ i ≤ 10 ^ 18 := Nat.pow_le_pow_right (by omega) (by have := HL.out; omega)
            have HV : Hid (vL 0 ((digL s).take (i + 1)) = vL 0 ((digL s).take i) * 10 + (D[i].toNat - 48)) := Lib.hid (by rw [htk, vL_app]; rfl)
            generalize hn : vL 0 ((digL s).take i) = n at *
            have HN18 : Hid (B18 n) := Lib.hid (show (n : Int) < 1000000000000000000 by omega)
            have HTK := Lib.hid htk
            have HMM := Lib.hid hmem
            clear hn hbd hpw htk hmem hg
            by_cases hd : isDg D[i] = true
            · have hd2 : 48 ≤ D[i].toNat ∧ D[i].toNat ≤ 57 := by simpa [isDg] using hd
              have c1 : ¬ (D[i].toNat : Int) < 48 := by omega
              have c2 : ¬ (57 : Int) < (D[i].toNat : Int) := by omega
              have HACC := Lib.hid (wrap_acc hd2.1 hd2.2 HN18.out)
              clear hd2 HN18
              have HA2 : Hid (∀ c ∈ (digL s).take (i + 1), isDg c = true) := Lib.hid (fun c hc => by
                rw [HTK.out] at hc
                rcases List.mem_append.1 hc with hc | hc
                · exact HA.out c hc
                · rw [List.mem_singleton] at hc; rw [hc]; exact hd)
              clear hd
              go_upto_region 10 with fail
              go_upto_region 12 with fail
              go_wp2_with fail
              go_roundw
              case rel => exact ⟨i + 1, HNX.out, rfl, by rw [HV.out]; exact congrArg (Value.int .u64) HACC.out, HA2, trivial⟩
              case measure => have := HNX.out; simp [intOf, w64]; omega
            · have hd2 : ¬ (48 ≤ D[i].toNat ∧ D[i].toNat ≤ 57) := by simpa [isDg] using hd
              have hok : okL (digL s) = false := by
                unfold okL
                rw [Bool.and_eq_false_iff]
                right
                rw [Bool.eq_false_iff]
                intro h
                exact hd (List.all_eq_true.1 h _ HMM.out)
              have HB := Lib.hid (BAD.out hok)
              clear hok hd HN18
              by_cases c1 : (D[i].toNat : Int) < 48
              · clear hd2
                go_upto_region 10 with fail
                go_wp2_with fail
                go_ret2
                exact ⟨HB.out, rfl⟩
              · have c2 : (57 : Int) < (D[i].toNat : Int) := by omega
                clear hd2
                go_upto_region 10 with fail
                go_wp2_with fail
                go_ret2
                exact ⟨HB.out, rfl⟩
          · have hi2 : i = D.size := by omega
            have i1 : ¬ (i : Int) < (D.size : Int) := by omega
            have htk : (digL s).take i = digL s := List.take_of_length_le (by have := HSZ.out; omega)
            rw [htk] at HA ⊢
            have hok : okL (digL s) = true := by
              unfold okL
              rw [Bool.and_eq_true, decide_eq_true_eq, List.all_eq_true]
              exact ⟨by have := HSZ.out; have := HL.out; omega, HA.out⟩
            have hvi : valI s = wrap64 (-(wrap64 (vL 0 (digL s) : Int))) := by unfold valI; rw [HSG.out]; simp only [if_true, w64_eq]
            have hrg : -9223372036854775808 ≤ valI s ∧ valI s ≤ 9223372036854775807 := by
              unfold valI
              split <;> exact wrap_rg _
            have HGD := Lib.hid (read_good s hrg)
            have HDG := Lib.hid (fun W => digits_any (valI s) W hrg)
            have ne := HNEQ.out
            have neD : (D.toList == s.toList) = false := by simpa using ne
            rw [hvi] at HGD HDG
            clear hrg hok htk hi2 hlt hi hvi
            generalize vL 0 (digL s) = n at *
            obtain ⟨x, hx⟩ : ∃ x, wrap64 (n : Int) = x := ⟨_, rfl⟩
            have hx2 : IntKind.i64.wrap (n : Int) = x := by rw [w64_eq]; exact hx
            rw [hx] at HGD HDG
            obtain ⟨v, hv⟩ : ∃ v, wrap64 (-x) = v := ⟨_, rfl⟩
            have hv2 : IntKind.i64.wrap (-x) = v := by rw [w64_eq]; exact hv
            rw [hv] at HGD HDG

            by_cases he : itoaB (v) = s
            · have HB : Hid (NumPost s (.returned (.tuple #[.int .i64 (v), .int .i64 0]))) := Lib.hid (by unfold NumPost; rw [HGD.out, if_pos he])
              rw [he] at HDG
              clear HGD he
              have sne : (s.toList != s.toList) = false := by simp
              go_upto_region 14 with fail
              go_upto_region 16 with fail
              go_upto_region 18 with (go_at_call 40; refine (HDG.out _).mono ?_; rintro e wd ⟨rfl, rfl⟩)
              go_wp2_with fail
              go_ret2
              exact ⟨HB.out, rfl⟩
            · have HB : Hid (NumPost s (.returned (.tuple #[.int .i64 0, .int .i64 6]))) := Lib.hid (by unfold NumPost; rw [HGD.out, if_neg he])
              have sne : ((itoaB (v)).toList != s.toList) = true := by
                rw [bne_iff_ne]
                exact fun e => he (toList_inj e)
              have sne2 : ((itoaB v).toList == s.toList) = false := by simpa using sne
              clear HGD he
              go_upto_region 14 with fail
              go_upto_region 16 with fail
              go_upto_region 18 with (go_at_call 40; refine (HDG.out _).mono ?_; rintro e wd ⟨rfl, rfl⟩)
              go_wp2_with fail
              go_ret2
              exact ⟨HB.out, rfl⟩
      · have hok : okL (digL s) = false := by
          unfold okL
          rw [Bool.and_eq_false_iff]
          left
          rw [decide_eq_false_iff_not]
          rw [hsz] at hl
          exact hl
        have HB := Lib.hid (BAD.out hok)
        clear hok
        by_cases l1 : (D.size : Int) < 1
        · clear hl hsz
          go_wp2_with fail
          go_ret2
          exact ⟨HB.out, rfl⟩
        · have l2 : (19 : Int) < (D.size : Int) := by omega
          clear hl hsz
          go_wp2_with fail
          go_ret2
          exact ⟨HB.out, rfl⟩
    · have hcb : ((s[0].toNat : Int) == 45) = false := beq_false_of_ne hc
      have hsg : sgnB s = false := by
        unfold sgnB
        rw [hhd]
        simp only [beq_eq_false_iff_ne, ne_eq, Option.some.injEq]
        intro e
        rw [e] at hc
        exact hc rfl
      have HSG := Lib.hid hsg
      have hD : s.data.toList = digL s := by
        unfold digL
        rw [hsg]; rfl
      have hne : (s.toList != s.toList) = false := by simp
      clear hsg hhd hdt hs
      go_enter Tryd.func42, Tryd.ntmps42
      go_upto_region 5 with fail
      clear hcb
      have HNEQ := Lib.hid hne
      have hsz : s.size = (digL s).length := by rw [← hD, Array.length_toList]; rfl
      have HSZ := Lib.hid hsz
      have HGET : Hid (∀ i, (h : i < s.size) → (digL s)[i]? = some s[i]) := Lib.hid (fun i h => by
        rw [← hD, Array.getElem?_toList]
        exact Array.getElem?_eq_getElem h)
      clear hD hne
      have BAD : Hid (okL (digL s) = false → NumPost s (.returned (.tuple #[.int .i64 0, .int .i64 6]))) := Lib.hid (fun h => by unfold NumPost; rw [read_bad h])
      by_cases hl : 1 ≤ s.size ∧ s.size ≤ 19
      · have l1 : ¬ (s.size : Int) < 1 := by omega
        have l2 : ¬ (19 : Int) < (s.size : Int) := by omega
        have HL := Lib.hid hl
        clear hl hsz
        go_upto_region 8 with fail
        go_loopw [4, 6] (fun u4 u6 wr => ∃ i : Nat, i ≤ s.size ∧ u6 = .int .i64 i ∧ u4 = .int .u64 ((vL 0 ((digL s).take i) : Nat) : Int) ∧ Hid (∀ c ∈ (digL s).take i, isDg c = true) ∧ wr = w) (fun _ u6 _ => s.size - (intOf u6).toNat)
        case atStart => exact ⟨0, by omega, rfl, rfl, Lib.hid (by simp), rfl⟩
        case round =>
          obtain ⟨i, hi, rfl, rfl, HA, rfl⟩ := hrel
          by_cases hlt : i < s.size
          · have i0 : (0 : Int) ≤ (i : Int) := by omega
            have i1 : (i : Int) < (s.size : Int) := by omega
            have w64 : IntKind.i64.wrap ((i : Int) + 1) = ((i + 1 : Nat) : Int) := IntWalk.i64_in _ (by have := HL.out; omega)
            have HNX : Hid (i + 1 ≤ s.size) := Lib.hid hlt
            have hg := HGET.out i hlt
            have htk : (digL s).take (i + 1) = (digL s).take i ++ [s[i]] := by rw [List.take_add_one, hg]; rfl
            have hmem : s[i] ∈ digL s := List.mem_of_getElem? hg
            have hbd := vL_lt ((digL s).take i) HA.out i (List.length_take_le ..)
            have hpw : 10 ^ i ≤ 10 ^ 18 := Nat.pow_le_pow_right (by omega) (by have := HL.out; omega)
            have HV : Hid (vL 0 ((digL s).take (i + 1)) = vL 0 ((digL s).take i) * 10 + (s[i].toNat - 48)) := Lib.hid (by rw [htk, vL_app]; rfl)
            generalize hn : vL 0 ((digL s).take i) = n at *
            have HN18 : Hid (B18 n) := Lib.hid (show (n : Int) < 1000000000000000000 by omega)
            have HTK := Lib.hid htk
            have HMM := Lib.hid hmem
            clear hn hbd hpw htk hmem hg
            by_cases hd : isDg s[i] = true
            · have hd2 : 48 ≤ s[i].toNat ∧ s[i].toNat ≤ 57 := by simpa [isDg] using hd
              have c1 : ¬ (s[i].toNat : Int) < 48 := by omega
              have c2 : ¬ (57 : Int) < (s[i].toNat : Int) := by omega
              have HACC := Lib.hid (wrap_acc hd2.1 hd2.2 HN18.out)
              clear hd2 HN18
              have HA2 : Hid (∀ c ∈ (digL s).take (i + 1), isDg c = true) := Lib.hid (fun c hc => by
                rw [HTK.out] at hc
                rcases List.mem_append.1 hc with hc | hc
                · exact HA.out c hc
                · rw [List.mem_singleton] at hc; rw [hc]; exact hd)
              clear hd
              go_upto_region 10 with fail
              go_upto_region 12 with fail
              go_wp2_with fail
              go_roundw
              case rel => exact ⟨i + 1, HNX.out, rfl, by rw [HV.out]; exact congrArg (Value.int .u64) HACC.out, HA2, trivial⟩
              case measure => have := HNX.out; simp [intOf, w64]; omega
            · have hd2 : ¬ (48 ≤ s[i].toNat ∧ s[i].toNat ≤ 57) := by simpa [isDg] using hd
              have hok : okL (digL s) = false := by
                unfold okL
                rw [Bool.and_eq_false_iff]
                right
                rw [Bool.eq_false_iff]
                intro h
                exact hd (List.all_eq_true.1 h _ HMM.out)
              have HB := Lib.hid (BAD.out hok)
              clear hok hd HN18
              by_cases c1 : (s[i].toNat : Int) < 48
              · clear hd2
                go_upto_region 10 with fail
                go_wp2_with fail
                go_ret2
                exact ⟨HB.out, rfl⟩
              · have c2 : (57 : Int) < (s[i].toNat : Int) := by omega
                clear hd2
                go_upto_region 10 with fail
                go_wp2_with fail
                go_ret2
                exact ⟨HB.out, rfl⟩
          · have hi2 : i = s.size := by omega
            have i1 : ¬ (i : Int) < (s.size : Int) := by omega
            have htk : (digL s).take i = digL s := List.take_of_length_le (by have := HSZ.out; omega)
            rw [htk] at HA ⊢
            have hok : okL (digL s) = true := by
              unfold okL
              rw [Bool.and_eq_true, decide_eq_true_eq, List.all_eq_true]
              exact ⟨by have := HSZ.out; have := HL.out; omega, HA.out⟩
            have hvi : valI s = wrap64 (vL 0 (digL s) : Int) := by unfold valI; rw [HSG.out]; simp only [Bool.false_eq_true, if_false, w64_eq]
            have hrg : -9223372036854775808 ≤ valI s ∧ valI s ≤ 9223372036854775807 := by
              unfold valI
              split <;> exact wrap_rg _
            have HGD := Lib.hid (read_good s hrg)
            have HDG := Lib.hid (fun W => digits_any (valI s) W hrg)
            have ne := HNEQ.out

            rw [hvi] at HGD HDG
            clear hrg hok htk hi2 hlt hi hvi
            generalize vL 0 (digL s) = n at *
            obtain ⟨x, hx⟩ : ∃ x, wrap64 (n : Int) = x := ⟨_, rfl⟩
            have hx2 : IntKind.i64.wrap (n : Int) = x := by rw [w64_eq]; exact hx
            rw [hx] at HGD HDG
            obtain ⟨v, hv⟩ : ∃ v, x = v := ⟨_, rfl⟩

            rw [hv] at HGD HDG
            subst hv
            by_cases he : itoaB (x) = s
            · have HB : Hid (NumPost s (.returned (.tuple #[.int .i64 (x), .int .i64 0]))) := Lib.hid (by unfold NumPost; rw [HGD.out, if_pos he])
              rw [he] at HDG
              clear HGD he
              have sne : (s.toList != s.toList) = false := by simp
              go_upto_region 14 with fail
              go_upto_region 16 with fail
              go_upto_region 18 with (go_at_call 40; refine (HDG.out _).mono ?_; rintro e wd ⟨rfl, rfl⟩)
              go_wp2_with fail
              go_ret2
              exact ⟨HB.out, rfl⟩
            · have HB : Hid (NumPost s (.returned (.tuple #[.int .i64 0, .int .i64 6]))) := Lib.hid (by unfold NumPost; rw [HGD.out, if_neg he])
              have sne : ((itoaB (x)).toList != s.toList) = true := by
                rw [bne_iff_ne]
                exact fun e => he (toList_inj e)
              have sne2 : ((itoaB x).toList == s.toList) = false := by simpa using sne
              clear HGD he
              go_upto_region 14 with fail
              go_upto_region 16 with fail
              go_upto_region 18 with (go_at_call 40; refine (HDG.out _).mono ?_; rintro e wd ⟨rfl, rfl⟩)
              go_wp2_with fail
              go_ret2
              exact ⟨HB.out, rfl⟩
      · have hok : okL (digL s) = false := by
          unfold okL
          rw [Bool.and_eq_false_iff]
          left
          rw [decide_eq_false_iff_not]
          rw [hsz] at hl
          exact hl
        have HB := Lib.hid (BAD.out hok)
        clear hok
        by_cases l1 : (s.size : Int) < 1
        · exfalso; omega
        · have l2 : (19 : Int) < (s.size : Int) := by omega
          clear hl hsz
          go_wp2_with fail
          go_ret2
          exact ⟨HB.out, rfl⟩
  · have hz : s.size = 0 := by omega
    have hl : s.data.toList = [] := List.length_eq_zero_iff.1 (by omega)
    have hsg : sgnB s = false := by unfold sgnB; rw [hl]; rfl
    have hok : okL (digL s) = false := by unfold digL; rw [hsg, hl]; rfl
    have HB : Hid (NumPost s (.returned (.tuple #[.int .i64 0, .int .i64 6]))) := Lib.hid (by unfold NumPost; rw [read_bad hok])
    have z0 : (s.size : Int) = 0 := by omega
    clear hsg hok hl hdt hs h0
    go_enter Tryd.func42, Tryd.ntmps42
    go_wp2_with fail
    go_ret2
    exact ⟨HB.out, rfl⟩
set_option maxHeartbeats 3200000 in
set_option maxRecDepth 100000 in
theorem rposition_any (s : ByteArray) (w : World) (hs : s.size ≤ 1000000) :
    Calls Tryd.prog 22 #[.string s] w fun e w' => e = .returned (.int .i64 (posM s)) ∧ w' = w := by
  have hn := rnumber_any s w hs
  unfold NumPost at hn
  cases hm : numM s with
  | none =>
    have hq : posM s = -1 := by unfold posM; rw [hm]
    rw [hq]
    rw [hm] at hn
    have HN := Lib.hid hn
    clear hn hq hm
    go_enter Tryd.func22, Tryd.ntmps22
    go_wp2_with (go_at_call 42; refine HN.out.mono ?_; rintro e wn ⟨rfl, rfl⟩)
    go_ret
    exact ⟨rfl, rfl⟩
  | some v =>
    rw [hm] at hn
    have HN := Lib.hid hn
    clear hn
    by_cases h0 : v < 0
    · have hq : posM s = -1 := by unfold posM; rw [hm]; exact if_neg (by omega)
      rw [hq]
      clear hq hm
      go_enter Tryd.func22, Tryd.ntmps22
      go_wp2_with (go_at_call 42; refine HN.out.mono ?_; rintro e wn ⟨rfl, rfl⟩)
      go_ret
      exact ⟨rfl, rfl⟩
    · by_cases h1 : (10000 : Int) ≤ v
      · have hq : posM s = -1 := by unfold posM; rw [hm]; exact if_neg (by omega)
        rw [hq]
        clear hq hm
        go_enter Tryd.func22, Tryd.ntmps22
        go_wp2_with (go_at_call 42; refine HN.out.mono ?_; rintro e wn ⟨rfl, rfl⟩)
        go_ret
        exact ⟨rfl, rfl⟩
      · have hq : posM s = v := by unfold posM; rw [hm]; exact if_pos (by omega)
        rw [hq]
        clear hq hm
        go_enter Tryd.func22, Tryd.ntmps22
        go_wp2_with (go_at_call 42; refine HN.out.mono ?_; rintro e wn ⟨rfl, rfl⟩)
        go_ret
        exact ⟨rfl, rfl⟩
end Go.Proofs.YtjianickjahdnaaDoor
namespace Go.Proofs.YtjianickjahdnaaDoor
set_option linter.unusedVariables false
open Go.ChangeShapes Go.WideShapes Go.ChangeAt Go.RowKit

theorem Tryd.own : ownKnob Tryd.prog.godebug = none := by kernel_rfl
theorem Tryd.laidOut : laidOutB Tryd.prog = true := by kernel_rfl
/-- Each type can be read and is a row of the table. -/
def rowed (P : Program) (ts : List TypeId) : Bool := ts.all fun t => P.readableRec t && decide (t < P.types.size)

theorem trodAll_below {H : Type} {enc : TypeId × Value → H} {P : Program} (hl : laidOutB P = true) {W W' : World} (hb : Below W.heap.size W W') :
    ∀ {ts : List TypeId} {vs : List Value} {ds : List (DataW H)} {ps : List MemPlace}, rowed P ts = true → DataW.TrodAll enc P W 0 (fun _ => true) true ts vs ds ps → (∀ x ∈ ps, x.block < W.heap.size) →
      DataW.TrodAll enc P W' 0 (fun b => decide (b < W.heap.size)) true ts vs ds ps
  | [], [], [], _, _, h, _ => h
  | t :: ts, v :: vs, d :: ds, ps, hr, ⟨p, q, h1, h2, e⟩, hlt => by
    simp only [rowed, List.all_cons, Bool.and_eq_true, decide_eq_true_eq] at hr
    exact ⟨p, q, Below.trod hl hr.1.1 hr.1.2 h1 hb (fun x hx => hlt x (by rw [e]; exact List.mem_append_left _ hx)),
      trodAll_below hl hb (by simpa [rowed] using hr.2) h2 (fun x hx => hlt x (by rw [e]; exact List.mem_append_right _ hx)), e⟩
  | [], [], _ :: _, _, _, h, _ => h.elim
  | [], _ :: _, _, _, _, h, _ => h.elim
  | _ :: _, [], _, _, _, h, _ => h.elim
  | _ :: _, _ :: _, [], _, _, h, _ => h.elim

theorem law_post {P : Program} {H : Type} {enc : TypeId × Value → H} {f : Func} {s : ChangeSpec} {W W' : World} {args : Array Value} {ds gs : List (DataW H)} {before : List MemPlace} {tb : TypeId}
    (hl : laidOutB P = true) (hts : rowed P f.params.toList = true) (hres : f.resultTypes = #[tb]) (hbool : P.underlying tb = some .bool) (hvars : s.vars = [])
    (hW : DataW.Whole enc P f.params.toList s.vars false W args.toList ds gs before) (hfn : s.fn H (ds ++ gs) = { results := [.lit (.bool true)], args := ds })
    (hb : Below W.heap.size W W') : s.post enc P f false true false false W args (.bool true) W' := by
  have hW' := hW
  have hlt : ∀ x ∈ before, x.block < W.heap.size := fun x hx => hW.lt x hx
  obtain ⟨p, q, hA, hV, rfl, hfz, hnd⟩ := hW
  refine ⟨ds, gs, p ++ q, [], p, [], hW', ?_, ?_, ?_, hb.frame _, fun h => by cases h⟩
  · rw [hfn, hres]; exact trodAll_mk1 (shut_bool hbool _)
  · rw [hfn]; exact trodAll_below hl hb hts hA (fun x hx => hlt x (List.mem_append_left _ hx))
  · rw [hfn, hvars]; rfl

/-- A law's contract lifted to its row. -/
theorem law_lift {C : Checked} {os : Os} {f : FuncId} {fn : Func} {s : ChangeSpec} {H : Type} {enc : TypeId × Value → H} {tb : TypeId} (started : os.Started)
    (own : ownKnob C.prog.godebug = none) (hl : laidOutB C.prog = true) (noInit : C.prog.inits.idxOf? f = none) (hfn : C.prog.funcs[f]? = some fn) (hts : rowed C.prog fn.params.toList = true) (hres : fn.resultTypes = #[tb]) (hbool : C.prog.underlying tb = some .bool) (hvars : s.vars = [])
    (hargs : ∀ ds : List (DataW H), ds.length = fn.params.toList.length → s.fn H ds = { results := [.lit (.bool true)], args := ds })
    (witness : ∃ (w : World) (tape : Tape) (i : Input), w.os = os ∧ (w.forCall tape i).Shaped C.prog ∧ i.vars = [] ∧ Input.okWide C.prog (w.forCall tape i) .any w.heap.size f i ∧
      s.pre6 enc C.prog fn [] false (w.forCall tape i).memory i.args ∧ Assume.holds {} C.prog (lone (Frame.enter C.prog f i.args .normal) [] (w.forCall tape i)))
    (core : ∀ (W : World) (base : Nat) (vs : List Value) (ds : List (DataW H)) (ps : List MemPlace), (∀ (j : Nat) t v, fn.params.toList[j]? = some t → vs[j]? = some v → Value.okWide C.prog W .any base t v) →
      DataW.TrodAll enc C.prog W 0 (fun _ => true) true fn.params.toList vs ds ps → (DataW.weightsEach C.prog fn.params.toList ds).all (· ≤ reachBytes) = true →
      Calls C.prog f vs.toArray W fun e W' => e = .returned (.bool true) ∧ Below W.heap.size W W') :
    ReturnsInHanded {} C os f .any (s.pre6 enc C.prog fn [] false) (s.post enc C.prog fn false true false false) := by
  refine returnsInHanded_of_change_sized (C := C) own started noInit hfn witness ?_
  intro W base args ds gs before hval hW _ hsz _
  have hW' := hW
  obtain ⟨p, q, hA, hV, rfl, hfz, hnd⟩ := hW
  rw [hvars] at hV
  obtain ⟨rfl, rfl⟩ := trodVars_none hV
  simp only [List.append_nil] at hsz
  have hlen : ds.length = fn.params.toList.length := by
    have : ∀ (ts : List TypeId) (vs : List Value) (ds : List (DataW H)) (ps : List MemPlace), DataW.TrodAll enc C.prog W 0 (fun _ => true) true ts vs ds ps → ds.length = ts.length := by
      intro ts
      induction ts with
      | nil => intro vs ds ps h; cases vs <;> cases ds <;> first | rfl | exact h.elim
      | cons t ts ih => intro vs ds ps h; cases vs <;> cases ds <;> first | exact h.elim | (obtain ⟨_, _, _, h2, _⟩ := h; simp [ih _ _ _ h2])
    exact this _ _ _ _ hA
  have hvt : s.plain.varTypes C.prog = [] := by simp [DataSpec.varTypes, ChangeSpec.plain, hvars]
  rw [hvt, List.append_nil] at hsz
  have := core W base args.toList ds p (fun j t v h1 h2 => hval j t v (by simpa using h1) (by simpa using h2)) hA hsz
  rw [Array.toArray_toList] at this
  refine this.mono fun e W' ⟨he, hb⟩ => ⟨_, he, law_post hl hts hres hbool hvars hW' (by rw [List.append_nil]; exact hargs ds hlen) hb⟩

/-- A law's contract lifted to its second row (bulk at most 1048576). -/
theorem law_lift_upto {C : Checked} {os : Os} {f : FuncId} {fn : Func} {s : ChangeSpec} {H : Type} {enc : TypeId × Value → H} {tb : TypeId} {F : Stop.Interp} (started : os.Started)
    (own : ownKnob C.prog.godebug = none) (hl : laidOutB C.prog = true) (noInit : C.prog.inits.idxOf? f = none) (hfn : C.prog.funcs[f]? = some fn) (hts : rowed C.prog fn.params.toList = true) (hres : fn.resultTypes = #[tb]) (hbool : C.prog.underlying tb = some .bool) (hvars : s.vars = [])
    (hargs : ∀ ds : List (DataW H), ds.length = fn.params.toList.length → s.fn H ds = { results := [.lit (.bool true)], args := ds })
    (witness : ∃ (w : World) (tape : Tape) (i : Input), w.os = os ∧ (w.forCall tape i).Shaped C.prog ∧ i.vars = [] ∧ Input.okWide C.prog (w.forCall tape i) .any w.heap.size f i ∧
      (Rows.OpenSpec.upto s).pre6 enc C.prog fn [] false (w.forCall tape i).memory i.args ∧ Assume.holds {} C.prog (lone (Frame.enter C.prog f i.args .normal) [] (w.forCall tape i)))
    (core : ∀ (W : World) (base : Nat) (vs : List Value) (ds : List (DataW H)) (ps : List MemPlace), (∀ (j : Nat) t v, fn.params.toList[j]? = some t → vs[j]? = some v → Value.okWide C.prog W .any base t v) →
      DataW.TrodAll enc C.prog W 0 (fun _ => true) true fn.params.toList vs ds ps → Rows.uptoBulkAll ds ≤ 1048576 →
      Calls C.prog f vs.toArray W fun e W' => e = .returned (.bool true) ∧ Below W.heap.size W W') :
    ReturnsInHanded {} C os f .any ((Rows.OpenSpec.upto s).pre6 enc C.prog fn [] false) (((Rows.OpenSpec.upto s).at F).post enc C.prog fn false true false false) := by
  refine returnsInHanded_of_cond (C := C) (s := Rows.OpenSpec.upto s) (k := Rows.uptoSmall) rfl own started noInit hfn witness ?_
  intro W base args ds gs before hval hW _ hk _
  have hW' : DataW.Whole enc C.prog fn.params.toList s.vars false W args.toList ds gs before := hW
  obtain ⟨p, q, hA, hV, rfl, hfz, hnd⟩ := hW'
  have hV' : DataW.TrodVars enc C.prog W (fun _ => true) s.vars gs q := hV
  rw [hvars] at hV'
  obtain ⟨rfl, rfl⟩ := trodVars_none hV'
  simp only [List.append_nil] at hk
  have hlen : ds.length = fn.params.toList.length := by
    have : ∀ (ts : List TypeId) (vs : List Value) (ds : List (DataW H)) (ps : List MemPlace), DataW.TrodAll enc C.prog W 0 (fun _ => true) true ts vs ds ps → ds.length = ts.length := by
      intro ts
      induction ts with
      | nil => intro vs ds ps h; cases vs <;> cases ds <;> first | rfl | exact h.elim
      | cons t ts ih => intro vs ds ps h; cases vs <;> cases ds <;> first | exact h.elim | (obtain ⟨_, _, _, h2, _⟩ := h; simp [ih _ _ _ h2])
    exact this _ _ _ _ hA
  have := core W base args.toList ds p (fun j t v h1 h2 => hval j t v (by simpa using h1) (by simpa using h2)) hA (of_decide_eq_true hk)
  rw [Array.toArray_toList] at this
  refine this.mono fun e W' ⟨he, hb⟩ => ⟨_, he, ?_⟩
  exact (law_post (s := s) hl hts hres hbool hvars hW (by rw [List.append_nil]; exact hargs ds hlen) hb)
end Go.Proofs.YtjianickjahdnaaDoor
namespace Go.Proofs.YtjianickjahdnaaDoor
open Go.ChangeShapes Go.WideShapes Go.ChangeAt Go.RowKit
set_option linter.unusedVariables false

/-- A slice that came in: its elements (one cell each) are xs. -/
def ArgRow (w : World) (v : Value) (xs : List Value) : Prop :=
  ∃ a cap, v = .slice a xs.length cap ∧ xs.length ≤ cap ∧ cap ≤ maxLen ∧ (xs ≠ [] → ∃ g off, a = some ⟨g, off, none⟩ ∧ g < w.heap.size ∧ ∀ j u, xs[j]? = some u → w.cell? ⟨g, off + j, none⟩ = some u)
theorem int_of_wf {k : IntKind} {n : Int} (h : (Lit.int k n).wf = true) : k.min ≤ n ∧ n ≤ k.max := by simpa [Lit.wf] using h

section
variable {H : Type} {enc : TypeId × Value → H} {P : Program} {w : World} {base : Nat}
theorem addr_none {w : World} {a : Addr} {v : Value} (h : w.cell? (a.add 0) = some v) : ∃ g off, a = ⟨g, off, none⟩ := by
  obtain ⟨g, off, spot⟩ := a
  have hs : spot = none := by simpa [Addr.add] using World.cell?_spot h
  exact ⟨g, off, by rw [hs]⟩
theorem add_none (g off j : Nat) : (⟨g, off, none⟩ : Addr).add j = ⟨g, off + j, none⟩ := by unfold Addr.add; split <;> simp_all
theorem argRow_of {a : Addr} {len cap : Nat} (xs : List Value) (hl : len ≤ cap) (hc : cap ≤ maxLen) (hx : cap ≤ xs.length) (h : ∀ i u, xs[i]? = some u → w.cell? (a.add i) = some u) : ArgRow w (.slice (some a) len cap) (xs.take len) := by
  have hlen : (xs.take len).length = len := by simp; omega
  refine ⟨some a, cap, by rw [hlen], by omega, hc, fun hne => ?_⟩
  have h0 : 0 < len := by
    apply Nat.pos_of_ne_zero
    rintro rfl
    simp at hne
  have h1 : 0 < xs.length := by omega
  obtain ⟨g, off, rfl⟩ := addr_none (h 0 xs[0] (List.getElem?_eq_getElem h1))
  refine ⟨g, off, rfl, ?_, ?_⟩
  · have := World.block_lt_of_cell? w _ (h 0 xs[0] (List.getElem?_eq_getElem h1))
    simpa [add_none] using this
  · intro j u hu
    rw [List.getElem?_take] at hu
    split at hu
    · have := h j u hu
      rwa [add_none] at this
    · cases hu
theorem open_intRow {k : IntKind} {t e : TypeId} {v : Value} {d : DataW H} {ps : List MemPlace} (ht : P.underlying t = some (.slice e)) (he : P.underlying e = some (.int k)) (hc : P.cellsOf e = 1)
    (hv : Value.okWide P w .any base t v) (h : DataW.Trod enc P w 0 (fun _ => true) true t v d ps) :
    ∃ zs : List Int, ArgRow w v (zs.map (Value.int k)) ∧ (∀ z ∈ zs, k.min ≤ z ∧ z ≤ k.max) ∧ (d = .nil ∧ zs = [] ∨ ∃ rest, d = .slice (lits k zs) rest) := by
  obtain ⟨a, len, cap, rfl⟩ := okWide_slice ht hv
  obtain ⟨fuel, hf⟩ := h
  rcases open_ints ht he hc hf with ⟨hcs, hd⟩ | ⟨x, l, c, zs, hcs, _, hl, hm, hz, hd, hcell, hwz⟩
  · simp [Value.cells] at hcs
    obtain ⟨rfl, rfl, rfl⟩ := hcs
    exact ⟨[], ⟨none, 0, rfl, Nat.le_refl _, by simp, fun h => absurd rfl h⟩, by simp, .inl ⟨(Prod.mk.inj hd).1, rfl⟩⟩
  · simp [Value.cells] at hcs
    obtain ⟨rfl, rfl, rfl⟩ := hcs
    simp at hz
    refine ⟨zs.take len, ?_, fun z hz => int_of_wf (hwz z (List.mem_of_mem_take hz)), .inr ⟨_, (Prod.mk.inj hd).1⟩⟩
    rw [List.map_take]
    refine argRow_of _ hl hm (by simp; omega) ?_
    intro i u hu
    have hi : i < zs.length := by
      have := (List.getElem?_eq_some_iff.1 hu).1
      simpa using this
    rw [hcell i hi]
    simp [List.getElem?_eq_getElem hi] at hu
    simp [List.getD, hi, hu]
theorem open_strRow {t e : TypeId} {v : Value} {d : DataW H} {ps : List MemPlace} (ht : P.underlying t = some (.slice e)) (he : P.underlying e = some .string) (hc : P.cellsOf e = 1)
    (hv : Value.okWide P w .any base t v) (h : DataW.Trod enc P w 0 (fun _ => true) true t v d ps) :
    ∃ ss : List ByteArray, ArgRow w v (ss.map Value.string) ∧ (∀ z ∈ ss, z.size ≤ maxLen) ∧ (d = .nil ∧ ss = [] ∨ ∃ rest, d = .slice (strs ss) rest) := by
  obtain ⟨a, len, cap, rfl⟩ := okWide_slice ht hv
  obtain ⟨fuel, hf⟩ := h
  rcases open_strings ht he hc hf with ⟨hcs, hd⟩ | ⟨x, l, c, zs, hcs, _, hl, hm, hz, hd, hcell, hwz⟩
  · simp [Value.cells] at hcs
    obtain ⟨rfl, rfl, rfl⟩ := hcs
    exact ⟨[], ⟨none, 0, rfl, Nat.le_refl _, by simp, fun h => absurd rfl h⟩, by simp, .inl ⟨(Prod.mk.inj hd).1, rfl⟩⟩
  · simp [Value.cells] at hcs
    obtain ⟨rfl, rfl, rfl⟩ := hcs
    simp at hz
    refine ⟨zs.take len, ?_, fun z hz => hwz z (List.mem_of_mem_take hz), .inr ⟨_, (Prod.mk.inj hd).1⟩⟩
    rw [List.map_take]
    refine argRow_of _ hl hm (by simp; omega) ?_
    intro i u hu
    have hi : i < zs.length := by
      have := (List.getElem?_eq_some_iff.1 hu).1
      simpa using this
    rw [hcell i hi]
    simp [List.getElem?_eq_getElem hi] at hu
    simp [List.getD, hi, hu]
theorem open_array2 {k : IntKind} {t e : TypeId} {v : Value} {d : DataW H} {ps : List MemPlace} (ht : P.underlying t = some (.array 2 e)) (he : P.underlying e = some (.int k)) (hc : P.cellsOf e = 1) (hct : P.cellsOf t = 2)
    (hv : Value.okWide P w .any base t v) (h : DataW.Trod enc P w 0 (fun _ => true) true t v d ps) :
    ∃ x y : Int, v = .agg #[.int k x, .int k y] ∧ (k.min ≤ x ∧ x ≤ k.max) ∧ (k.min ≤ y ∧ y ≤ k.max) := by
  simp only [Value.okWide, ht] at hv
  obtain ⟨cs, rfl, hsz, _⟩ := hv
  rw [hct] at hsz
  obtain ⟨c0, c1, rfl⟩ : ∃ c0 c1, cs = #[c0, c1] := by
    obtain ⟨l⟩ := cs
    match l, hsz with
    | [c0, c1], _ => exact ⟨c0, c1, rfl⟩
  obtain ⟨fuel, hf⟩ := h
  obtain ⟨xs, m, _, _, _, hxl, hx⟩ := DataW.trod_array ht hf
  have h0 := hx 0 (by omega)
  have h1 := hx 1 (by omega)
  rw [hc, List.getElem?_eq_getElem (by omega)] at h0 h1
  simp [Value.cells] at h0 h1
  obtain ⟨n0, e0, _, w0⟩ := DataW.trod_int he h0
  obtain ⟨n1, e1, _, w1⟩ := DataW.trod_int he h1
  simp at e0 e1
  subst e0 e1
  exact ⟨n0, n1, rfl, int_of_wf w0, int_of_wf w1⟩
end
section
variable {w w' : World} {v : Value} {xs : List Value}
theorem ArgRow.keep (h : ArgRow w v xs) (hc : Chg (fun _ => False) w w') : ArgRow w' v xs := by
  obtain ⟨a, cap, rfl, h1, h2, h3⟩ := h
  refine ⟨a, cap, rfl, h1, h2, fun hne => ?_⟩
  obtain ⟨g, off, rfl, hg, hcell⟩ := h3 hne
  exact ⟨g, off, rfl, Nat.lt_of_lt_of_le hg hc.size, fun j u hu => hc.cell (hcell j u hu)⟩
end
theorem argCell {w w' : World} {a : Option Addr} {n cap : Nat} {xs : List Value} (h : ArgRow w (.slice a n cap) xs) (hc : Chg (fun _ => False) w w') {k : Nat} {u : Value} (hu : xs[k]? = some u) :
    ∃ g off, a = some ⟨g, off, none⟩ ∧ w'.cell? ⟨g, off + k, none⟩ = some u := by
  obtain ⟨a', cap', hv, h1, h2, h3⟩ := h
  cases hv
  have hne : xs ≠ [] := by rintro rfl; simp at hu
  obtain ⟨g, off, rfl, hg, hcell⟩ := h3 hne
  exact ⟨g, off, rfl, hc.cell (hcell k u hu)⟩
end Go.Proofs.YtjianickjahdnaaDoor
namespace Go.Proofs.YtjianickjahdnaaDoor
open Go.ChangeShapes Go.WideShapes Go.ChangeAt Go.RowKit
set_option linter.unusedVariables false

section
variable {H : Type} {enc : TypeId × Value → H} {P : Program} {w : World} {base : Nat} {sp : Nat → Bool} {held : Bool} {x : List Value} {y : DataW H × List MemPlace} {fuel o : Nat} {t : TypeId}
theorem one_get {v : Value} (h : (x.drop o).take 1 = [v]) : x[o]? = some v := by
  have h2 := congrArg (fun l => l[0]?) h
  simpa [List.getElem?_take, List.getElem?_drop] using h2
theorem cell_int {k : IntKind} (ht : P.underlying t = some (.int k)) (hc : P.cellsOf t = 1) (h : DataW.trod enc P w 0 sp held fuel t ((x.drop o).take (P.cellsOf t)) = some y) : ∃ n, x[o]? = some (.int k n) ∧ (k.min ≤ n ∧ n ≤ k.max) := by
  obtain ⟨n, h1, _, h2⟩ := DataW.trod_int ht h
  rw [hc] at h1
  exact ⟨n, one_get h1, int_of_wf h2⟩
theorem cell_string (ht : P.underlying t = some .string) (hc : P.cellsOf t = 1) (h : DataW.trod enc P w 0 sp held fuel t ((x.drop o).take (P.cellsOf t)) = some y) : ∃ s : ByteArray, x[o]? = some (.string s) ∧ s.size ≤ maxLen := by
  obtain ⟨s, h1, _, h2⟩ := DataW.trod_string ht h
  rw [hc] at h1
  exact ⟨s, one_get h1, h2⟩
/-- A struct that came in, cell by cell. -/
theorem open_struct {fs : Array Field} {v : Value} {d : DataW H} {ps : List MemPlace} (ht : P.underlying t = some (.struct fs)) (hv : Value.okWide P w .any base t v) (h : DataW.Trod enc P w 0 sp held t v d ps) :
    ∃ cs : Array Value, v = .agg cs ∧ cs.toList.length = P.cellsOf t ∧ ∀ (i : Nat) (f : Field), fs[i]? = some f → ∃ fuel y, DataW.trod enc P w 0 sp held fuel f.type ((cs.toList.drop f.offset).take (P.cellsOf f.type)) = some y := by
  simp only [Value.okWide, ht] at hv
  obtain ⟨cs, rfl, hsz, _⟩ := hv
  obtain ⟨n, hf⟩ := h
  obtain ⟨xs, m, _, _, _, hxl, hx⟩ := DataW.trod_struct ht hf
  refine ⟨cs, rfl, by simpa using hsz, fun i f hif => ?_⟩
  have hi : i < xs.length := by rw [hxl]; exact (Array.getElem?_eq_some_iff.1 hif).1
  exact ⟨m, xs[i], by rw [← List.getElem?_eq_getElem hi]; exact hx i f hif⟩
end
theorem list8 {x : List Value} {a b c d e f g h : Value} (hl : x.length = 8) (h0 : x[0]? = some a) (h1 : x[1]? = some b) (h2 : x[2]? = some c) (h3 : x[3]? = some d) (h4 : x[4]? = some e) (h5 : x[5]? = some f) (h6 : x[6]? = some g) (h7 : x[7]? = some h) : x = [a, b, c, d, e, f, g, h] := by
  match x, hl with
  | [_, _, _, _, _, _, _, _], _ => simp_all
end Go.Proofs.YtjianickjahdnaaDoor
