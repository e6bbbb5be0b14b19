/-
  value.Normal and the reference's Normal of any value.
-/
import Derived.Test.YtiecgbmeobpomaaDoorPHistoryNewg
namespace Go.Proofs.YtiecgbmeobpomaaDoor
open Go.RowKit
set_option linter.unusedVariables false
set_option linter.unusedSimpArgs false

/-- Four cells of a block stored one after the other. -/
theorem store4 {w : World} {g T : Nat} {u0 u1 u2 u3 : Value} (b0 : w.heap[g]? = some (.cells #[u0, u1, u2, u3] T (0, 0))) (v0 v1 v2 v3 : Value) :
    w.cell? ⟨g, 0, none⟩ = some u0 ∧ w.frozen? ⟨g, 0, none⟩ = false ∧
    (w.setCell ⟨g, 0, none⟩ v0).cell? ⟨g, 1, none⟩ = some u1 ∧ (w.setCell ⟨g, 0, none⟩ v0).frozen? ⟨g, 1, none⟩ = false ∧
    ((w.setCell ⟨g, 0, none⟩ v0).setCell ⟨g, 1, none⟩ v1).cell? ⟨g, 2, none⟩ = some u2 ∧ ((w.setCell ⟨g, 0, none⟩ v0).setCell ⟨g, 1, none⟩ v1).frozen? ⟨g, 2, none⟩ = false ∧
    (((w.setCell ⟨g, 0, none⟩ v0).setCell ⟨g, 1, none⟩ v1).setCell ⟨g, 2, none⟩ v2).cell? ⟨g, 3, none⟩ = some u3 ∧ (((w.setCell ⟨g, 0, none⟩ v0).setCell ⟨g, 1, none⟩ v1).setCell ⟨g, 2, none⟩ v2).frozen? ⟨g, 3, none⟩ = false ∧
    ((((w.setCell ⟨g, 0, none⟩ v0).setCell ⟨g, 1, none⟩ v1).setCell ⟨g, 2, none⟩ v2).setCell ⟨g, 3, none⟩ v3).heap[g]? = some (.cells #[v0, v1, v2, v3] T (0, 0)) ∧ Chg (fun k => k = g) w ((((w.setCell ⟨g, 0, none⟩ v0).setCell ⟨g, 1, none⟩ v1).setCell ⟨g, 2, none⟩ v2).setCell ⟨g, 3, none⟩ v3) := by
  have c0 : w.cell? ⟨g, 0, none⟩ = some u0 := cell_of_block b0 rfl
  have f0 : w.frozen? ⟨g, 0, none⟩ = false := frozen_of_block b0
  have b1 : (w.setCell ⟨g, 0, none⟩ v0).heap[g]? = some (.cells #[v0, u1, u2, u3] T (0, 0)) := setCell_block (i := 0) v0 b0
  have c1 : (w.setCell ⟨g, 0, none⟩ v0).cell? ⟨g, 1, none⟩ = some u1 := cell_of_block b1 rfl
  have f1 : (w.setCell ⟨g, 0, none⟩ v0).frozen? ⟨g, 1, none⟩ = false := frozen_of_block b1
  have b2 : ((w.setCell ⟨g, 0, none⟩ v0).setCell ⟨g, 1, none⟩ v1).heap[g]? = some (.cells #[v0, v1, u2, u3] T (0, 0)) := setCell_block (i := 1) v1 b1
  have c2 : ((w.setCell ⟨g, 0, none⟩ v0).setCell ⟨g, 1, none⟩ v1).cell? ⟨g, 2, none⟩ = some u2 := cell_of_block b2 rfl
  have f2 : ((w.setCell ⟨g, 0, none⟩ v0).setCell ⟨g, 1, none⟩ v1).frozen? ⟨g, 2, none⟩ = false := frozen_of_block b2
  have b3 : (((w.setCell ⟨g, 0, none⟩ v0).setCell ⟨g, 1, none⟩ v1).setCell ⟨g, 2, none⟩ v2).heap[g]? = some (.cells #[v0, v1, v2, u3] T (0, 0)) := setCell_block (i := 2) v2 b2
  have c3 : (((w.setCell ⟨g, 0, none⟩ v0).setCell ⟨g, 1, none⟩ v1).setCell ⟨g, 2, none⟩ v2).cell? ⟨g, 3, none⟩ = some u3 := cell_of_block b3 rfl
  have f3 : (((w.setCell ⟨g, 0, none⟩ v0).setCell ⟨g, 1, none⟩ v1).setCell ⟨g, 2, none⟩ v2).frozen? ⟨g, 3, none⟩ = false := frozen_of_block b3
  have b4 : ((((w.setCell ⟨g, 0, none⟩ v0).setCell ⟨g, 1, none⟩ v1).setCell ⟨g, 2, none⟩ v2).setCell ⟨g, 3, none⟩ v3).heap[g]? = some (.cells #[v0, v1, v2, v3] T (0, 0)) := setCell_block (i := 3) v3 b3
  exact ⟨c0, f0, c1, f1, c2, f2, c3, f3, b4, chg_put4 (chg_put4 (chg_put4 (chg_put4 (Chg.refl _ _))))⟩
set_option maxHeartbeats 1600000 in
set_option maxRecDepth 100000 in
theorem text_any (s : ByteArray) (w : World) (hs : s.size ≤ 35184372088832) (hT : Lib.Utf8Tabs 0 1 w) :
    Calls Tryd.prog 98 #[.string s] w fun e w' => e = .returned (.agg #[.int .i64 4, .int .i64 0, .string (repairM s), .int .i64 0]) ∧ Chg (fun _ => False) w w' := by
  have hca := Chg.alloc (fun _ => False) w (.cells #[.int .i64 0, .int .i64 0, .string ⟨#[]⟩, .int .i64 0] 123)
  have HKB := Lib.hid (alloc_block w (.cells #[.int .i64 0, .int .i64 0, .string ⟨#[]⟩, .int .i64 0] 123))
  have HRP := Lib.hid (fun W hU => repair_any s W hs hU)
  have hT2 : Lib.Utf8Tabs 0 1 (w.alloc (.cells #[.int .i64 0, .int .i64 0, .string ⟨#[]⟩, .int .i64 0] 123)) := ⟨fun c hc => hca.cell (hT.1 c hc), fun i hi => ⟨hca.cell (hT.2 i hi).1, hca.cell (hT.2 i hi).2⟩⟩
  have HU := Lib.hid hT2
  have HCA := Lib.hid hca
  generalize repairM s = t at *
  clear hT hT2 hca
  go_enter Tryd.func98, Tryd.ntmps98
  go_upto_region 1 with fail
  generalize w.alloc (.cells #[.int .i64 0, .int .i64 0, .string ⟨#[]⟩, .int .i64 0] 123) = w1 at *
  generalize hb2e : w.heap.size = b2 at *
  have HB2 := Lib.hid hb2e
  clear hb2e
  go_wp2_with (go_at_call 101; refine (HRP.out _ HU.out).mono ?_; rintro e wf ⟨rfl, hcf⟩; have hb4 := hcf.keep HKB.out (fun x => x); obtain ⟨z0, q0, z1, q1, z2, q2, z3, q3, hbf, hcs⟩ := store4 hb4 (.int .i64 4) (.int .i64 0) (.string t) (.int .i64 0))
  generalize ((((wf.setCell ⟨b2, 0, none⟩ (.int .i64 4)).setCell ⟨b2, 1, none⟩ (.int .i64 0)).setCell ⟨b2, 2, none⟩ (.string t)).setCell ⟨b2, 3, none⟩ (.int .i64 0)) = wz at *
  refine bodyPost_ret (results_cell_row rfl _ _ b2 _ _ _ _ (by rfl) hbf Tryd.underlying123 rfl (by kernel_rfl)) rfl ?_
  exact ⟨rfl, (HCA.out.trans' hcf).trans hcs (fun _ _ x => x) (fun k hk e => by have := HB2.out; omega)⟩
set_option maxHeartbeats 400000 in
set_option maxRecDepth 100000 in
theorem vref_any (h : Int) (w : World) :
    Calls Tryd.prog 99 #[.int .i64 h] w fun e w' => e = .returned (.agg #[.int .i64 5, .int .i64 0, .string ⟨#[]⟩, .int .i64 h]) ∧ Chg (fun _ => False) w w' := by
  go_enter Tryd.func99, Tryd.ntmps99
  go_wp2_with fail
  refine bodyPost_ret (results_cell_row rfl _ _ w.heap.size _ _ _ _ (by rfl) (heap_alloc_new _ _) Tryd.underlying123 rfl (by kernel_rfl)) rfl ?_
  exact ⟨rfl, Chg.alloc _ _ _⟩
set_option maxHeartbeats 400000 in
set_option maxRecDepth 100000 in
theorem vof_any (h : Int) (w : World) :
    Calls Tryd.prog 97 #[.int .i64 h] w fun e w' => e = .returned (.agg #[.int .i64 3, .int .i64 h, .string ⟨#[]⟩, .int .i64 0]) ∧ Chg (fun _ => False) w w' := by
  go_enter Tryd.func97, Tryd.ntmps97
  go_wp2_with fail
  refine bodyPost_ret (results_cell_row rfl _ _ w.heap.size _ _ _ _ (by rfl) (heap_alloc_new _ _) Tryd.underlying123 rfl (by kernel_rfl)) rfl ?_
  exact ⟨rfl, Chg.alloc _ _ _⟩

/-- A value's normal form. -/
def normM (x : Vl) : Vl :=
  if x.kind = 2 then ⟨2, if x.int = 0 then 0 else 1, ⟨#[]⟩, 0⟩ else if x.kind = 3 then ⟨3, x.int, ⟨#[]⟩, 0⟩ else if x.kind = 4 then ⟨4, 0, repairM x.str, 0⟩
  else if x.kind = 5 then ⟨5, 0, ⟨#[]⟩, x.ref⟩ else if x.kind = 1 then ⟨1, 0, ⟨#[]⟩, 0⟩ else if x.kind = 6 then ⟨6, 0, ⟨#[]⟩, 0⟩ else ⟨0, 0, ⟨#[]⟩, 0⟩
theorem utf8_stay {w w' : World} (h : Lib.Utf8Tabs 0 1 w) (hc : Chg (fun _ => False) w w') : Lib.Utf8Tabs 0 1 w' := ⟨fun c hk => hc.cell (h.1 c hk), fun i hi => ⟨hc.cell (h.2 i hi).1, hc.cell (h.2 i hi).2⟩⟩
set_option maxHeartbeats 3200000 in
set_option maxRecDepth 100000 in
theorem truth_yes (w : World) : Calls Tryd.prog 96 #[.bool true] w fun e w' => e = .returned (.agg #[.int .i64 2, .int .i64 1, .string ⟨#[]⟩, .int .i64 0]) ∧ Chg (fun _ => False) w w' := by
  go_enter Tryd.func96, Tryd.ntmps96
  go_wp2_with fail
  refine bodyPost_ret (results_cell_row rfl _ _ w.heap.size _ _ _ _ (by rfl) (heap_alloc_new _ _) Tryd.underlying123 rfl (by kernel_rfl)) rfl ?_
  exact ⟨rfl, Chg.alloc _ _ _⟩
set_option maxHeartbeats 3200000 in
set_option maxRecDepth 100000 in
theorem truth_no (w : World) : Calls Tryd.prog 96 #[.bool false] w fun e w' => e = .returned (.agg #[.int .i64 2, .int .i64 0, .string ⟨#[]⟩, .int .i64 0]) ∧ Chg (fun _ => False) w w' := by
  go_enter Tryd.func96, Tryd.ntmps96
  go_wp2_with fail
  refine bodyPost_ret (results_cell_row rfl _ _ w.heap.size _ _ _ _ (by rfl) (heap_alloc_new _ _) Tryd.underlying123 rfl (by kernel_rfl)) rfl ?_
  exact ⟨rfl, Chg.alloc _ _ _⟩
set_option maxHeartbeats 3200000 in
set_option maxRecDepth 100000 in
theorem normal_k2y (i r : Int) (s : ByteArray) (w : World) (hi : ¬ i = 0) :
    Calls Tryd.prog 86 #[.agg #[.int .i64 2, .int .i64 i, .string s, .int .i64 r]] w fun e w' => e = .returned (.agg #[.int .i64 2, .int .i64 1, .string ⟨#[]⟩, .int .i64 0]) ∧ Chg (fun _ => False) w w' := by
  have HC := Lib.hid ((Chg.alloc (fun _ => False) w (.cells #[.int .i64 2, .int .i64 i, .string s, .int .i64 r] 123)).allocR (.cells #[.int .i64 0, .int .i64 0, .string ⟨#[]⟩, .int .i64 0] 123))
  have hb := alloc_block (w.alloc (.cells #[.int .i64 2, .int .i64 i, .string s, .int .i64 r] 123)) (.cells #[.int .i64 0, .int .i64 0, .string ⟨#[]⟩, .int .i64 0] 123)
  rw [show (w.alloc (.cells #[.int .i64 2, .int .i64 i, .string s, .int .i64 r] 123)).heap.size = w.heap.size + 1 from Array.size_push ..] at hb
  have HB := Lib.hid hb
  have HKB := Lib.hid ((Chg.alloc (fun _ => False) (w.alloc (.cells #[.int .i64 2, .int .i64 i, .string s, .int .i64 r] 123)) (.cells #[.int .i64 0, .int .i64 0, .string ⟨#[]⟩, .int .i64 0] 123)).keep (alloc_block w (.cells #[.int .i64 2, .int .i64 i, .string s, .int .i64 r] 123)) (fun x => x))
  have zi : (i != 0) = true := by simpa using hi
  clear hi
  clear hb
  go_enter Tryd.func86, Tryd.ntmps86
  go_upto_region 1 with fail
  generalize ((w.alloc (.cells #[.int .i64 2, .int .i64 i, .string s, .int .i64 r] 123)).alloc (.cells #[.int .i64 0, .int .i64 0, .string ⟨#[]⟩, .int .i64 0] 123)) = w3 at *
  generalize hb2e : w.heap.size + 1 = b2 at *
  have HB2 := Lib.hid hb2e
  clear hb2e
  have k0 := cell_of_block (i := 0) HKB.out rfl
  have k1 := cell_of_block (i := 1) HKB.out rfl
  have k2 := cell_of_block (i := 2) HKB.out rfl
  have k3 := cell_of_block (i := 3) HKB.out rfl
  simp only [List.getElem_toArray, List.getElem_cons_zero, List.getElem_cons_succ] at k0 k1 k2 k3
  go_wp2_with (go_at_call 96; refine (truth_yes _).mono ?_; rintro e wf ⟨rfl, hcf⟩; have hb4 := hcf.keep HB.out (fun x => x); obtain ⟨z0, q0, z1, q1, z2, q2, z3, q3, hbf, hcs⟩ := store4 hb4 (.int .i64 2) (.int .i64 1) (.string ⟨#[]⟩) (.int .i64 0))
  generalize ((((wf.setCell ⟨b2, 0, none⟩ (.int .i64 2)).setCell ⟨b2, 1, none⟩ (.int .i64 1)).setCell ⟨b2, 2, none⟩ (.string ⟨#[]⟩)).setCell ⟨b2, 3, none⟩ (.int .i64 0)) = wz at *
  refine bodyPost_ret (results_cell_row rfl _ _ b2 _ _ _ _ (by rfl) hbf Tryd.underlying123 rfl (by kernel_rfl)) rfl ?_
  exact ⟨rfl, (HC.out.trans' hcf).trans hcs (fun _ _ x => x) (fun k hk e => by have := HB2.out; omega)⟩
set_option maxHeartbeats 3200000 in
set_option maxRecDepth 100000 in
theorem normal_k2n (i r : Int) (s : ByteArray) (w : World) (hi : i = 0) :
    Calls Tryd.prog 86 #[.agg #[.int .i64 2, .int .i64 i, .string s, .int .i64 r]] w fun e w' => e = .returned (.agg #[.int .i64 2, .int .i64 0, .string ⟨#[]⟩, .int .i64 0]) ∧ Chg (fun _ => False) w w' := by
  have HC := Lib.hid ((Chg.alloc (fun _ => False) w (.cells #[.int .i64 2, .int .i64 i, .string s, .int .i64 r] 123)).allocR (.cells #[.int .i64 0, .int .i64 0, .string ⟨#[]⟩, .int .i64 0] 123))
  have hb := alloc_block (w.alloc (.cells #[.int .i64 2, .int .i64 i, .string s, .int .i64 r] 123)) (.cells #[.int .i64 0, .int .i64 0, .string ⟨#[]⟩, .int .i64 0] 123)
  rw [show (w.alloc (.cells #[.int .i64 2, .int .i64 i, .string s, .int .i64 r] 123)).heap.size = w.heap.size + 1 from Array.size_push ..] at hb
  have HB := Lib.hid hb
  have HKB := Lib.hid ((Chg.alloc (fun _ => False) (w.alloc (.cells #[.int .i64 2, .int .i64 i, .string s, .int .i64 r] 123)) (.cells #[.int .i64 0, .int .i64 0, .string ⟨#[]⟩, .int .i64 0] 123)).keep (alloc_block w (.cells #[.int .i64 2, .int .i64 i, .string s, .int .i64 r] 123)) (fun x => x))
  have zi : (i != 0) = false := by simpa using hi
  clear hi
  clear hb
  go_enter Tryd.func86, Tryd.ntmps86
  go_upto_region 1 with fail
  generalize ((w.alloc (.cells #[.int .i64 2, .int .i64 i, .string s, .int .i64 r] 123)).alloc (.cells #[.int .i64 0, .int .i64 0, .string ⟨#[]⟩, .int .i64 0] 123)) = w3 at *
  generalize hb2e : w.heap.size + 1 = b2 at *
  have HB2 := Lib.hid hb2e
  clear hb2e
  have k0 := cell_of_block (i := 0) HKB.out rfl
  have k1 := cell_of_block (i := 1) HKB.out rfl
  have k2 := cell_of_block (i := 2) HKB.out rfl
  have k3 := cell_of_block (i := 3) HKB.out rfl
  simp only [List.getElem_toArray, List.getElem_cons_zero, List.getElem_cons_succ] at k0 k1 k2 k3
  go_wp2_with (go_at_call 96; refine (truth_no _).mono ?_; rintro e wf ⟨rfl, hcf⟩; have hb4 := hcf.keep HB.out (fun x => x); obtain ⟨z0, q0, z1, q1, z2, q2, z3, q3, hbf, hcs⟩ := store4 hb4 (.int .i64 2) (.int .i64 0) (.string ⟨#[]⟩) (.int .i64 0))
  generalize ((((wf.setCell ⟨b2, 0, none⟩ (.int .i64 2)).setCell ⟨b2, 1, none⟩ (.int .i64 0)).setCell ⟨b2, 2, none⟩ (.string ⟨#[]⟩)).setCell ⟨b2, 3, none⟩ (.int .i64 0)) = wz at *
  refine bodyPost_ret (results_cell_row rfl _ _ b2 _ _ _ _ (by rfl) hbf Tryd.underlying123 rfl (by kernel_rfl)) rfl ?_
  exact ⟨rfl, (HC.out.trans' hcf).trans hcs (fun _ _ x => x) (fun k hk e => by have := HB2.out; omega)⟩
set_option maxHeartbeats 3200000 in
set_option maxRecDepth 100000 in
theorem normal_k3 (i r : Int) (s : ByteArray) (w : World)  :
    Calls Tryd.prog 86 #[.agg #[.int .i64 3, .int .i64 i, .string s, .int .i64 r]] w fun e w' => e = .returned (.agg #[.int .i64 3, .int .i64 i, .string ⟨#[]⟩, .int .i64 0]) ∧ Chg (fun _ => False) w w' := by
  have HC := Lib.hid ((Chg.alloc (fun _ => False) w (.cells #[.int .i64 3, .int .i64 i, .string s, .int .i64 r] 123)).allocR (.cells #[.int .i64 0, .int .i64 0, .string ⟨#[]⟩, .int .i64 0] 123))
  have hb := alloc_block (w.alloc (.cells #[.int .i64 3, .int .i64 i, .string s, .int .i64 r] 123)) (.cells #[.int .i64 0, .int .i64 0, .string ⟨#[]⟩, .int .i64 0] 123)
  rw [show (w.alloc (.cells #[.int .i64 3, .int .i64 i, .string s, .int .i64 r] 123)).heap.size = w.heap.size + 1 from Array.size_push ..] at hb
  have HB := Lib.hid hb
  have HKB := Lib.hid ((Chg.alloc (fun _ => False) (w.alloc (.cells #[.int .i64 3, .int .i64 i, .string s, .int .i64 r] 123)) (.cells #[.int .i64 0, .int .i64 0, .string ⟨#[]⟩, .int .i64 0] 123)).keep (alloc_block w (.cells #[.int .i64 3, .int .i64 i, .string s, .int .i64 r] 123)) (fun x => x))
  clear hb
  go_enter Tryd.func86, Tryd.ntmps86
  go_upto_region 1 with fail
  generalize ((w.alloc (.cells #[.int .i64 3, .int .i64 i, .string s, .int .i64 r] 123)).alloc (.cells #[.int .i64 0, .int .i64 0, .string ⟨#[]⟩, .int .i64 0] 123)) = w3 at *
  generalize hb2e : w.heap.size + 1 = b2 at *
  have HB2 := Lib.hid hb2e
  clear hb2e
  have k0 := cell_of_block (i := 0) HKB.out rfl
  have k1 := cell_of_block (i := 1) HKB.out rfl
  have k2 := cell_of_block (i := 2) HKB.out rfl
  have k3 := cell_of_block (i := 3) HKB.out rfl
  simp only [List.getElem_toArray, List.getElem_cons_zero, List.getElem_cons_succ] at k0 k1 k2 k3
  go_wp2_with (go_at_call 97; refine (vof_any i _).mono ?_; rintro e wf ⟨rfl, hcf⟩; have hb4 := hcf.keep HB.out (fun x => x); obtain ⟨z0, q0, z1, q1, z2, q2, z3, q3, hbf, hcs⟩ := store4 hb4 (.int .i64 3) (.int .i64 i) (.string ⟨#[]⟩) (.int .i64 0))
  generalize ((((wf.setCell ⟨b2, 0, none⟩ (.int .i64 3)).setCell ⟨b2, 1, none⟩ (.int .i64 i)).setCell ⟨b2, 2, none⟩ (.string ⟨#[]⟩)).setCell ⟨b2, 3, none⟩ (.int .i64 0)) = wz at *
  refine bodyPost_ret (results_cell_row rfl _ _ b2 _ _ _ _ (by rfl) hbf Tryd.underlying123 rfl (by kernel_rfl)) rfl ?_
  exact ⟨rfl, (HC.out.trans' hcf).trans hcs (fun _ _ x => x) (fun k hk e => by have := HB2.out; omega)⟩
set_option maxHeartbeats 3200000 in
set_option maxRecDepth 100000 in
theorem normal_k4 (i r : Int) (s : ByteArray) (w : World) (hs : s.size ≤ 35184372088832) (hU : Lib.Utf8Tabs 0 1 w) :
    Calls Tryd.prog 86 #[.agg #[.int .i64 4, .int .i64 i, .string s, .int .i64 r]] w fun e w' => e = .returned (.agg #[.int .i64 4, .int .i64 0, .string (repairM s), .int .i64 0]) ∧ Chg (fun _ => False) w w' := by
  have HC := Lib.hid ((Chg.alloc (fun _ => False) w (.cells #[.int .i64 4, .int .i64 i, .string s, .int .i64 r] 123)).allocR (.cells #[.int .i64 0, .int .i64 0, .string ⟨#[]⟩, .int .i64 0] 123))
  have hb := alloc_block (w.alloc (.cells #[.int .i64 4, .int .i64 i, .string s, .int .i64 r] 123)) (.cells #[.int .i64 0, .int .i64 0, .string ⟨#[]⟩, .int .i64 0] 123)
  rw [show (w.alloc (.cells #[.int .i64 4, .int .i64 i, .string s, .int .i64 r] 123)).heap.size = w.heap.size + 1 from Array.size_push ..] at hb
  have HB := Lib.hid hb
  have HKB := Lib.hid ((Chg.alloc (fun _ => False) (w.alloc (.cells #[.int .i64 4, .int .i64 i, .string s, .int .i64 r] 123)) (.cells #[.int .i64 0, .int .i64 0, .string ⟨#[]⟩, .int .i64 0] 123)).keep (alloc_block w (.cells #[.int .i64 4, .int .i64 i, .string s, .int .i64 r] 123)) (fun x => x))
  have HRP := Lib.hid (fun W hU => text_any s W hs hU)
  have HU := Lib.hid (utf8_stay hU HC.out)
  generalize repairM s = t at *
  clear hU hs
  clear hb
  go_enter Tryd.func86, Tryd.ntmps86
  go_upto_region 1 with fail
  generalize ((w.alloc (.cells #[.int .i64 4, .int .i64 i, .string s, .int .i64 r] 123)).alloc (.cells #[.int .i64 0, .int .i64 0, .string ⟨#[]⟩, .int .i64 0] 123)) = w3 at *
  generalize hb2e : w.heap.size + 1 = b2 at *
  have HB2 := Lib.hid hb2e
  clear hb2e
  have k0 := cell_of_block (i := 0) HKB.out rfl
  have k1 := cell_of_block (i := 1) HKB.out rfl
  have k2 := cell_of_block (i := 2) HKB.out rfl
  have k3 := cell_of_block (i := 3) HKB.out rfl
  simp only [List.getElem_toArray, List.getElem_cons_zero, List.getElem_cons_succ] at k0 k1 k2 k3
  go_wp2_with (go_at_call 98; refine (HRP.out _ HU.out).mono ?_; rintro e wf ⟨rfl, hcf⟩; have hb4 := hcf.keep HB.out (fun x => x); obtain ⟨z0, q0, z1, q1, z2, q2, z3, q3, hbf, hcs⟩ := store4 hb4 (.int .i64 4) (.int .i64 0) (.string t) (.int .i64 0))
  generalize ((((wf.setCell ⟨b2, 0, none⟩ (.int .i64 4)).setCell ⟨b2, 1, none⟩ (.int .i64 0)).setCell ⟨b2, 2, none⟩ (.string t)).setCell ⟨b2, 3, none⟩ (.int .i64 0)) = wz at *
  refine bodyPost_ret (results_cell_row rfl _ _ b2 _ _ _ _ (by rfl) hbf Tryd.underlying123 rfl (by kernel_rfl)) rfl ?_
  exact ⟨rfl, (HC.out.trans' hcf).trans hcs (fun _ _ x => x) (fun k hk e => by have := HB2.out; omega)⟩
set_option maxHeartbeats 3200000 in
set_option maxRecDepth 100000 in
theorem normal_k5 (i r : Int) (s : ByteArray) (w : World)  :
    Calls Tryd.prog 86 #[.agg #[.int .i64 5, .int .i64 i, .string s, .int .i64 r]] w fun e w' => e = .returned (.agg #[.int .i64 5, .int .i64 0, .string ⟨#[]⟩, .int .i64 r]) ∧ Chg (fun _ => False) w w' := by
  have HC := Lib.hid ((Chg.alloc (fun _ => False) w (.cells #[.int .i64 5, .int .i64 i, .string s, .int .i64 r] 123)).allocR (.cells #[.int .i64 0, .int .i64 0, .string ⟨#[]⟩, .int .i64 0] 123))
  have hb := alloc_block (w.alloc (.cells #[.int .i64 5, .int .i64 i, .string s, .int .i64 r] 123)) (.cells #[.int .i64 0, .int .i64 0, .string ⟨#[]⟩, .int .i64 0] 123)
  rw [show (w.alloc (.cells #[.int .i64 5, .int .i64 i, .string s, .int .i64 r] 123)).heap.size = w.heap.size + 1 from Array.size_push ..] at hb
  have HB := Lib.hid hb
  have HKB := Lib.hid ((Chg.alloc (fun _ => False) (w.alloc (.cells #[.int .i64 5, .int .i64 i, .string s, .int .i64 r] 123)) (.cells #[.int .i64 0, .int .i64 0, .string ⟨#[]⟩, .int .i64 0] 123)).keep (alloc_block w (.cells #[.int .i64 5, .int .i64 i, .string s, .int .i64 r] 123)) (fun x => x))
  clear hb
  go_enter Tryd.func86, Tryd.ntmps86
  go_upto_region 1 with fail
  generalize ((w.alloc (.cells #[.int .i64 5, .int .i64 i, .string s, .int .i64 r] 123)).alloc (.cells #[.int .i64 0, .int .i64 0, .string ⟨#[]⟩, .int .i64 0] 123)) = w3 at *
  generalize hb2e : w.heap.size + 1 = b2 at *
  have HB2 := Lib.hid hb2e
  clear hb2e
  have k0 := cell_of_block (i := 0) HKB.out rfl
  have k1 := cell_of_block (i := 1) HKB.out rfl
  have k2 := cell_of_block (i := 2) HKB.out rfl
  have k3 := cell_of_block (i := 3) HKB.out rfl
  simp only [List.getElem_toArray, List.getElem_cons_zero, List.getElem_cons_succ] at k0 k1 k2 k3
  go_wp2_with (go_at_call 99; refine (vref_any r _).mono ?_; rintro e wf ⟨rfl, hcf⟩; have hb4 := hcf.keep HB.out (fun x => x); obtain ⟨z0, q0, z1, q1, z2, q2, z3, q3, hbf, hcs⟩ := store4 hb4 (.int .i64 5) (.int .i64 0) (.string ⟨#[]⟩) (.int .i64 r))
  generalize ((((wf.setCell ⟨b2, 0, none⟩ (.int .i64 5)).setCell ⟨b2, 1, none⟩ (.int .i64 0)).setCell ⟨b2, 2, none⟩ (.string ⟨#[]⟩)).setCell ⟨b2, 3, none⟩ (.int .i64 r)) = wz at *
  refine bodyPost_ret (results_cell_row rfl _ _ b2 _ _ _ _ (by rfl) hbf Tryd.underlying123 rfl (by kernel_rfl)) rfl ?_
  exact ⟨rfl, (HC.out.trans' hcf).trans hcs (fun _ _ x => x) (fun k hk e => by have := HB2.out; omega)⟩
set_option maxHeartbeats 3200000 in
set_option maxRecDepth 100000 in
theorem normal_k1 (i r : Int) (s : ByteArray) (w : World)  :
    Calls Tryd.prog 86 #[.agg #[.int .i64 1, .int .i64 i, .string s, .int .i64 r]] w fun e w' => e = .returned (.agg #[.int .i64 1, .int .i64 0, .string ⟨#[]⟩, .int .i64 0]) ∧ Chg (fun _ => False) w w' := by
  have HC := Lib.hid ((Chg.alloc (fun _ => False) w (.cells #[.int .i64 1, .int .i64 i, .string s, .int .i64 r] 123)).allocR (.cells #[.int .i64 0, .int .i64 0, .string ⟨#[]⟩, .int .i64 0] 123))
  have hb := alloc_block (w.alloc (.cells #[.int .i64 1, .int .i64 i, .string s, .int .i64 r] 123)) (.cells #[.int .i64 0, .int .i64 0, .string ⟨#[]⟩, .int .i64 0] 123)
  rw [show (w.alloc (.cells #[.int .i64 1, .int .i64 i, .string s, .int .i64 r] 123)).heap.size = w.heap.size + 1 from Array.size_push ..] at hb
  have HB := Lib.hid hb
  have HKB := Lib.hid ((Chg.alloc (fun _ => False) (w.alloc (.cells #[.int .i64 1, .int .i64 i, .string s, .int .i64 r] 123)) (.cells #[.int .i64 0, .int .i64 0, .string ⟨#[]⟩, .int .i64 0] 123)).keep (alloc_block w (.cells #[.int .i64 1, .int .i64 i, .string s, .int .i64 r] 123)) (fun x => x))
  clear hb
  go_enter Tryd.func86, Tryd.ntmps86
  go_upto_region 1 with fail
  generalize ((w.alloc (.cells #[.int .i64 1, .int .i64 i, .string s, .int .i64 r] 123)).alloc (.cells #[.int .i64 0, .int .i64 0, .string ⟨#[]⟩, .int .i64 0] 123)) = w3 at *
  generalize hb2e : w.heap.size + 1 = b2 at *
  have HB2 := Lib.hid hb2e
  clear hb2e
  have k0 := cell_of_block (i := 0) HKB.out rfl
  have k1 := cell_of_block (i := 1) HKB.out rfl
  have k2 := cell_of_block (i := 2) HKB.out rfl
  have k3 := cell_of_block (i := 3) HKB.out rfl
  simp only [List.getElem_toArray, List.getElem_cons_zero, List.getElem_cons_succ] at k0 k1 k2 k3
  have hcf := Chg.refl (fun _ => False) w3
  have hb4 := HB.out
  obtain ⟨z0, q0, z1, q1, z2, q2, z3, q3, hbf, hcs⟩ := store4 hb4 (.int .i64 1) (.int .i64 0) (.string ⟨#[]⟩) (.int .i64 0)
  go_wp2_with fail
  generalize ((((w3.setCell ⟨b2, 0, none⟩ (.int .i64 1)).setCell ⟨b2, 1, none⟩ (.int .i64 0)).setCell ⟨b2, 2, none⟩ (.string ⟨#[]⟩)).setCell ⟨b2, 3, none⟩ (.int .i64 0)) = wz at *
  refine bodyPost_ret (results_cell_row rfl _ _ b2 _ _ _ _ (by rfl) hbf Tryd.underlying123 rfl (by kernel_rfl)) rfl ?_
  exact ⟨rfl, (HC.out.trans' hcf).trans hcs (fun _ _ x => x) (fun k hk e => by have := HB2.out; omega)⟩
set_option maxHeartbeats 3200000 in
set_option maxRecDepth 100000 in
theorem normal_k6 (i r : Int) (s : ByteArray) (w : World)  :
    Calls Tryd.prog 86 #[.agg #[.int .i64 6, .int .i64 i, .string s, .int .i64 r]] w fun e w' => e = .returned (.agg #[.int .i64 6, .int .i64 0, .string ⟨#[]⟩, .int .i64 0]) ∧ Chg (fun _ => False) w w' := by
  have HC := Lib.hid ((Chg.alloc (fun _ => False) w (.cells #[.int .i64 6, .int .i64 i, .string s, .int .i64 r] 123)).allocR (.cells #[.int .i64 0, .int .i64 0, .string ⟨#[]⟩, .int .i64 0] 123))
  have hb := alloc_block (w.alloc (.cells #[.int .i64 6, .int .i64 i, .string s, .int .i64 r] 123)) (.cells #[.int .i64 0, .int .i64 0, .string ⟨#[]⟩, .int .i64 0] 123)
  rw [show (w.alloc (.cells #[.int .i64 6, .int .i64 i, .string s, .int .i64 r] 123)).heap.size = w.heap.size + 1 from Array.size_push ..] at hb
  have HB := Lib.hid hb
  have HKB := Lib.hid ((Chg.alloc (fun _ => False) (w.alloc (.cells #[.int .i64 6, .int .i64 i, .string s, .int .i64 r] 123)) (.cells #[.int .i64 0, .int .i64 0, .string ⟨#[]⟩, .int .i64 0] 123)).keep (alloc_block w (.cells #[.int .i64 6, .int .i64 i, .string s, .int .i64 r] 123)) (fun x => x))
  clear hb
  go_enter Tryd.func86, Tryd.ntmps86
  go_upto_region 1 with fail
  generalize ((w.alloc (.cells #[.int .i64 6, .int .i64 i, .string s, .int .i64 r] 123)).alloc (.cells #[.int .i64 0, .int .i64 0, .string ⟨#[]⟩, .int .i64 0] 123)) = w3 at *
  generalize hb2e : w.heap.size + 1 = b2 at *
  have HB2 := Lib.hid hb2e
  clear hb2e
  have k0 := cell_of_block (i := 0) HKB.out rfl
  have k1 := cell_of_block (i := 1) HKB.out rfl
  have k2 := cell_of_block (i := 2) HKB.out rfl
  have k3 := cell_of_block (i := 3) HKB.out rfl
  simp only [List.getElem_toArray, List.getElem_cons_zero, List.getElem_cons_succ] at k0 k1 k2 k3
  have hcf := Chg.refl (fun _ => False) w3
  have hb4 := HB.out
  obtain ⟨z0, q0, z1, q1, z2, q2, z3, q3, hbf, hcs⟩ := store4 hb4 (.int .i64 6) (.int .i64 0) (.string ⟨#[]⟩) (.int .i64 0)
  go_wp2_with fail
  generalize ((((w3.setCell ⟨b2, 0, none⟩ (.int .i64 6)).setCell ⟨b2, 1, none⟩ (.int .i64 0)).setCell ⟨b2, 2, none⟩ (.string ⟨#[]⟩)).setCell ⟨b2, 3, none⟩ (.int .i64 0)) = wz at *
  refine bodyPost_ret (results_cell_row rfl _ _ b2 _ _ _ _ (by rfl) hbf Tryd.underlying123 rfl (by kernel_rfl)) rfl ?_
  exact ⟨rfl, (HC.out.trans' hcf).trans hcs (fun _ _ x => x) (fun k hk e => by have := HB2.out; omega)⟩
set_option maxHeartbeats 3200000 in
set_option maxRecDepth 100000 in
theorem normal_ko (i r : Int) (s : ByteArray) (w : World) (c : Int) (h : ¬ c = 1 ∧ ¬ c = 2 ∧ ¬ c = 3 ∧ ¬ c = 4 ∧ ¬ c = 5 ∧ ¬ c = 6) :
    Calls Tryd.prog 86 #[.agg #[.int .i64 c, .int .i64 i, .string s, .int .i64 r]] w fun e w' => e = .returned (.agg #[.int .i64 0, .int .i64 0, .string ⟨#[]⟩, .int .i64 0]) ∧ Chg (fun _ => False) w w' := by
  have HC := Lib.hid ((Chg.alloc (fun _ => False) w (.cells #[.int .i64 c, .int .i64 i, .string s, .int .i64 r] 123)).allocR (.cells #[.int .i64 0, .int .i64 0, .string ⟨#[]⟩, .int .i64 0] 123))
  have hb := alloc_block (w.alloc (.cells #[.int .i64 c, .int .i64 i, .string s, .int .i64 r] 123)) (.cells #[.int .i64 0, .int .i64 0, .string ⟨#[]⟩, .int .i64 0] 123)
  rw [show (w.alloc (.cells #[.int .i64 c, .int .i64 i, .string s, .int .i64 r] 123)).heap.size = w.heap.size + 1 from Array.size_push ..] at hb
  have HB := Lib.hid hb
  have HKB := Lib.hid ((Chg.alloc (fun _ => False) (w.alloc (.cells #[.int .i64 c, .int .i64 i, .string s, .int .i64 r] 123)) (.cells #[.int .i64 0, .int .i64 0, .string ⟨#[]⟩, .int .i64 0] 123)).keep (alloc_block w (.cells #[.int .i64 c, .int .i64 i, .string s, .int .i64 r] 123)) (fun x => x))
  have n1 : (c == 1) = false := beq_false_of_ne (by omega)
  have n2 : (c == 2) = false := beq_false_of_ne (by omega)
  have n3 : (c == 3) = false := beq_false_of_ne (by omega)
  have n4 : (c == 4) = false := beq_false_of_ne (by omega)
  have n5 : (c == 5) = false := beq_false_of_ne (by omega)
  have n6 : (c == 6) = false := beq_false_of_ne (by omega)
  clear h
  clear hb
  go_enter Tryd.func86, Tryd.ntmps86
  go_upto_region 1 with fail
  generalize ((w.alloc (.cells #[.int .i64 c, .int .i64 i, .string s, .int .i64 r] 123)).alloc (.cells #[.int .i64 0, .int .i64 0, .string ⟨#[]⟩, .int .i64 0] 123)) = w3 at *
  generalize hb2e : w.heap.size + 1 = b2 at *
  have HB2 := Lib.hid hb2e
  clear hb2e
  have k0 := cell_of_block (i := 0) HKB.out rfl
  have k1 := cell_of_block (i := 1) HKB.out rfl
  have k2 := cell_of_block (i := 2) HKB.out rfl
  have k3 := cell_of_block (i := 3) HKB.out rfl
  simp only [List.getElem_toArray, List.getElem_cons_zero, List.getElem_cons_succ] at k0 k1 k2 k3
  have hcf := Chg.refl (fun _ => False) w3
  have hb4 := HB.out
  obtain ⟨z0, q0, z1, q1, z2, q2, z3, q3, hbf, hcs⟩ := store4 hb4 (.int .i64 0) (.int .i64 0) (.string ⟨#[]⟩) (.int .i64 0)
  go_wp2_with fail
  generalize ((((w3.setCell ⟨b2, 0, none⟩ (.int .i64 0)).setCell ⟨b2, 1, none⟩ (.int .i64 0)).setCell ⟨b2, 2, none⟩ (.string ⟨#[]⟩)).setCell ⟨b2, 3, none⟩ (.int .i64 0)) = wz at *
  refine bodyPost_ret (results_cell_row rfl _ _ b2 _ _ _ _ (by rfl) hbf Tryd.underlying123 rfl (by kernel_rfl)) rfl ?_
  exact ⟨rfl, (HC.out.trans' hcf).trans hcs (fun _ _ x => x) (fun k hk e => by have := HB2.out; omega)⟩
theorem normal_any (x : Vl) (w : World) (hs : x.str.size ≤ 35184372088832) (hU : Lib.Utf8Tabs 0 1 w) :
    Calls Tryd.prog 86 #[.agg #[.int .i64 x.kind, .int .i64 x.int, .string x.str, .int .i64 x.ref]] w fun e w' => e = .returned (.agg #[.int .i64 (normM x).kind, .int .i64 (normM x).int, .string (normM x).str, .int .i64 (normM x).ref]) ∧ Chg (fun _ => False) w w' := by
  obtain ⟨c, i, s, r⟩ := x
  by_cases h2 : c = 2
  · subst h2
    by_cases hi : i = 0
    · rw [show normM ⟨2, i, s, r⟩ = ⟨2, 0, ⟨#[]⟩, 0⟩ by simp [normM, hi]]; exact normal_k2n i r s w hi
    · rw [show normM ⟨2, i, s, r⟩ = ⟨2, 1, ⟨#[]⟩, 0⟩ by simp [normM, hi]]; exact normal_k2y i r s w hi
  · by_cases h3 : c = 3
    · subst h3; rw [show normM ⟨3, i, s, r⟩ = ⟨3, i, ⟨#[]⟩, 0⟩ by simp [normM]]; exact normal_k3 i r s w
    · by_cases h4 : c = 4
      · subst h4; rw [show normM ⟨4, i, s, r⟩ = ⟨4, 0, repairM s, 0⟩ by simp [normM]]; exact normal_k4 i r s w hs hU
      · by_cases h5 : c = 5
        · subst h5; rw [show normM ⟨5, i, s, r⟩ = ⟨5, 0, ⟨#[]⟩, r⟩ by simp [normM]]; exact normal_k5 i r s w
        · by_cases h1 : c = 1
          · subst h1; rw [show normM ⟨1, i, s, r⟩ = ⟨1, 0, ⟨#[]⟩, 0⟩ by simp [normM]]; exact normal_k1 i r s w
          · by_cases h6 : c = 6
            · subst h6; rw [show normM ⟨6, i, s, r⟩ = ⟨6, 0, ⟨#[]⟩, 0⟩ by simp [normM]]; exact normal_k6 i r s w
            · rw [show normM ⟨c, i, s, r⟩ = ⟨0, 0, ⟨#[]⟩, 0⟩ by simp [normM, h1, h2, h3, h4, h5, h6]]; exact normal_ko i r s w c ⟨h1, h2, h3, h4, h5, h6⟩
set_option maxHeartbeats 3200000 in
set_option maxRecDepth 100000 in
theorem rnormal_k2y (i r : Int) (s : ByteArray) (w : World) (hi : ¬ i = 0) :
    Calls Tryd.prog 83 #[.agg #[.int .i64 2, .int .i64 i, .string s, .int .i64 r]] w fun e w' => e = .returned (.agg #[.int .i64 2, .int .i64 1, .string ⟨#[]⟩, .int .i64 0]) ∧ Chg (fun _ => False) w w' := by
  have HC := Lib.hid ((Chg.alloc (fun _ => False) w (.cells #[.int .i64 2, .int .i64 i, .string s, .int .i64 r] 123)).allocR (.cells #[.int .i64 0, .int .i64 0, .string ⟨#[]⟩, .int .i64 0] 123))
  have hb := alloc_block (w.alloc (.cells #[.int .i64 2, .int .i64 i, .string s, .int .i64 r] 123)) (.cells #[.int .i64 0, .int .i64 0, .string ⟨#[]⟩, .int .i64 0] 123)
  rw [show (w.alloc (.cells #[.int .i64 2, .int .i64 i, .string s, .int .i64 r] 123)).heap.size = w.heap.size + 1 from Array.size_push ..] at hb
  have HB := Lib.hid hb
  have HKB := Lib.hid ((Chg.alloc (fun _ => False) (w.alloc (.cells #[.int .i64 2, .int .i64 i, .string s, .int .i64 r] 123)) (.cells #[.int .i64 0, .int .i64 0, .string ⟨#[]⟩, .int .i64 0] 123)).keep (alloc_block w (.cells #[.int .i64 2, .int .i64 i, .string s, .int .i64 r] 123)) (fun x => x))
  have zi : (i != 0) = true := by simpa using hi
  clear hi
  clear hb
  go_enter Tryd.func83, Tryd.ntmps83
  go_upto_region 1 with fail
  generalize ((w.alloc (.cells #[.int .i64 2, .int .i64 i, .string s, .int .i64 r] 123)).alloc (.cells #[.int .i64 0, .int .i64 0, .string ⟨#[]⟩, .int .i64 0] 123)) = w3 at *
  generalize hb2e : w.heap.size + 1 = b2 at *
  have HB2 := Lib.hid hb2e
  clear hb2e
  have k0 := cell_of_block (i := 0) HKB.out rfl
  have k1 := cell_of_block (i := 1) HKB.out rfl
  have k2 := cell_of_block (i := 2) HKB.out rfl
  have k3 := cell_of_block (i := 3) HKB.out rfl
  simp only [List.getElem_toArray, List.getElem_cons_zero, List.getElem_cons_succ] at k0 k1 k2 k3
  have hcf := Chg.refl (fun _ => False) w3
  have hb4 := HB.out
  obtain ⟨z0, q0, z1, q1, z2, q2, z3, q3, hbf, hcs⟩ := store4 hb4 (.int .i64 2) (.int .i64 1) (.string ⟨#[]⟩) (.int .i64 0)
  go_wp2_with fail
  generalize ((((w3.setCell ⟨b2, 0, none⟩ (.int .i64 2)).setCell ⟨b2, 1, none⟩ (.int .i64 1)).setCell ⟨b2, 2, none⟩ (.string ⟨#[]⟩)).setCell ⟨b2, 3, none⟩ (.int .i64 0)) = wz at *
  refine bodyPost_ret (results_cell_row rfl _ _ b2 _ _ _ _ (by rfl) hbf Tryd.underlying123 rfl (by kernel_rfl)) rfl ?_
  exact ⟨rfl, (HC.out.trans' hcf).trans hcs (fun _ _ x => x) (fun k hk e => by have := HB2.out; omega)⟩
set_option maxHeartbeats 3200000 in
set_option maxRecDepth 100000 in
theorem rnormal_k2n (i r : Int) (s : ByteArray) (w : World) (hi : i = 0) :
    Calls Tryd.prog 83 #[.agg #[.int .i64 2, .int .i64 i, .string s, .int .i64 r]] w fun e w' => e = .returned (.agg #[.int .i64 2, .int .i64 0, .string ⟨#[]⟩, .int .i64 0]) ∧ Chg (fun _ => False) w w' := by
  have HC := Lib.hid ((Chg.alloc (fun _ => False) w (.cells #[.int .i64 2, .int .i64 i, .string s, .int .i64 r] 123)).allocR (.cells #[.int .i64 0, .int .i64 0, .string ⟨#[]⟩, .int .i64 0] 123))
  have hb := alloc_block (w.alloc (.cells #[.int .i64 2, .int .i64 i, .string s, .int .i64 r] 123)) (.cells #[.int .i64 0, .int .i64 0, .string ⟨#[]⟩, .int .i64 0] 123)
  rw [show (w.alloc (.cells #[.int .i64 2, .int .i64 i, .string s, .int .i64 r] 123)).heap.size = w.heap.size + 1 from Array.size_push ..] at hb
  have HB := Lib.hid hb
  have HKB := Lib.hid ((Chg.alloc (fun _ => False) (w.alloc (.cells #[.int .i64 2, .int .i64 i, .string s, .int .i64 r] 123)) (.cells #[.int .i64 0, .int .i64 0, .string ⟨#[]⟩, .int .i64 0] 123)).keep (alloc_block w (.cells #[.int .i64 2, .int .i64 i, .string s, .int .i64 r] 123)) (fun x => x))
  have zi : (i != 0) = false := by simpa using hi
  clear hi
  clear hb
  go_enter Tryd.func83, Tryd.ntmps83
  go_upto_region 1 with fail
  generalize ((w.alloc (.cells #[.int .i64 2, .int .i64 i, .string s, .int .i64 r] 123)).alloc (.cells #[.int .i64 0, .int .i64 0, .string ⟨#[]⟩, .int .i64 0] 123)) = w3 at *
  generalize hb2e : w.heap.size + 1 = b2 at *
  have HB2 := Lib.hid hb2e
  clear hb2e
  have k0 := cell_of_block (i := 0) HKB.out rfl
  have k1 := cell_of_block (i := 1) HKB.out rfl
  have k2 := cell_of_block (i := 2) HKB.out rfl
  have k3 := cell_of_block (i := 3) HKB.out rfl
  simp only [List.getElem_toArray, List.getElem_cons_zero, List.getElem_cons_succ] at k0 k1 k2 k3
  have hcf := Chg.refl (fun _ => False) w3
  have hb4 := HB.out
  obtain ⟨z0, q0, z1, q1, z2, q2, z3, q3, hbf, hcs⟩ := store4 hb4 (.int .i64 2) (.int .i64 0) (.string ⟨#[]⟩) (.int .i64 0)
  go_wp2_with fail
  generalize ((((w3.setCell ⟨b2, 0, none⟩ (.int .i64 2)).setCell ⟨b2, 1, none⟩ (.int .i64 0)).setCell ⟨b2, 2, none⟩ (.string ⟨#[]⟩)).setCell ⟨b2, 3, none⟩ (.int .i64 0)) = wz at *
  refine bodyPost_ret (results_cell_row rfl _ _ b2 _ _ _ _ (by rfl) hbf Tryd.underlying123 rfl (by kernel_rfl)) rfl ?_
  exact ⟨rfl, (HC.out.trans' hcf).trans hcs (fun _ _ x => x) (fun k hk e => by have := HB2.out; omega)⟩
set_option maxHeartbeats 3200000 in
set_option maxRecDepth 100000 in
theorem rnormal_k3 (i r : Int) (s : ByteArray) (w : World)  :
    Calls Tryd.prog 83 #[.agg #[.int .i64 3, .int .i64 i, .string s, .int .i64 r]] w fun e w' => e = .returned (.agg #[.int .i64 3, .int .i64 i, .string ⟨#[]⟩, .int .i64 0]) ∧ Chg (fun _ => False) w w' := by
  have HC := Lib.hid ((Chg.alloc (fun _ => False) w (.cells #[.int .i64 3, .int .i64 i, .string s, .int .i64 r] 123)).allocR (.cells #[.int .i64 0, .int .i64 0, .string ⟨#[]⟩, .int .i64 0] 123))
  have hb := alloc_block (w.alloc (.cells #[.int .i64 3, .int .i64 i, .string s, .int .i64 r] 123)) (.cells #[.int .i64 0, .int .i64 0, .string ⟨#[]⟩, .int .i64 0] 123)
  rw [show (w.alloc (.cells #[.int .i64 3, .int .i64 i, .string s, .int .i64 r] 123)).heap.size = w.heap.size + 1 from Array.size_push ..] at hb
  have HB := Lib.hid hb
  have HKB := Lib.hid ((Chg.alloc (fun _ => False) (w.alloc (.cells #[.int .i64 3, .int .i64 i, .string s, .int .i64 r] 123)) (.cells #[.int .i64 0, .int .i64 0, .string ⟨#[]⟩, .int .i64 0] 123)).keep (alloc_block w (.cells #[.int .i64 3, .int .i64 i, .string s, .int .i64 r] 123)) (fun x => x))
  clear hb
  go_enter Tryd.func83, Tryd.ntmps83
  go_upto_region 1 with fail
  generalize ((w.alloc (.cells #[.int .i64 3, .int .i64 i, .string s, .int .i64 r] 123)).alloc (.cells #[.int .i64 0, .int .i64 0, .string ⟨#[]⟩, .int .i64 0] 123)) = w3 at *
  generalize hb2e : w.heap.size + 1 = b2 at *
  have HB2 := Lib.hid hb2e
  clear hb2e
  have k0 := cell_of_block (i := 0) HKB.out rfl
  have k1 := cell_of_block (i := 1) HKB.out rfl
  have k2 := cell_of_block (i := 2) HKB.out rfl
  have k3 := cell_of_block (i := 3) HKB.out rfl
  simp only [List.getElem_toArray, List.getElem_cons_zero, List.getElem_cons_succ] at k0 k1 k2 k3
  have hcf := Chg.refl (fun _ => False) w3
  have hb4 := HB.out
  obtain ⟨z0, q0, z1, q1, z2, q2, z3, q3, hbf, hcs⟩ := store4 hb4 (.int .i64 3) (.int .i64 i) (.string ⟨#[]⟩) (.int .i64 0)
  go_wp2_with fail
  generalize ((((w3.setCell ⟨b2, 0, none⟩ (.int .i64 3)).setCell ⟨b2, 1, none⟩ (.int .i64 i)).setCell ⟨b2, 2, none⟩ (.string ⟨#[]⟩)).setCell ⟨b2, 3, none⟩ (.int .i64 0)) = wz at *
  refine bodyPost_ret (results_cell_row rfl _ _ b2 _ _ _ _ (by rfl) hbf Tryd.underlying123 rfl (by kernel_rfl)) rfl ?_
  exact ⟨rfl, (HC.out.trans' hcf).trans hcs (fun _ _ x => x) (fun k hk e => by have := HB2.out; omega)⟩
set_option maxHeartbeats 3200000 in
set_option maxRecDepth 100000 in
theorem rnormal_k4 (i r : Int) (s : ByteArray) (w : World) (hs : s.size ≤ 35184372088832) (hU : Lib.Utf8Tabs 0 1 w) :
    Calls Tryd.prog 83 #[.agg #[.int .i64 4, .int .i64 i, .string s, .int .i64 r]] w fun e w' => e = .returned (.agg #[.int .i64 4, .int .i64 0, .string (repairM s), .int .i64 0]) ∧ Chg (fun _ => False) w w' := by
  have HC := Lib.hid ((Chg.alloc (fun _ => False) w (.cells #[.int .i64 4, .int .i64 i, .string s, .int .i64 r] 123)).allocR (.cells #[.int .i64 0, .int .i64 0, .string ⟨#[]⟩, .int .i64 0] 123))
  have hb := alloc_block (w.alloc (.cells #[.int .i64 4, .int .i64 i, .string s, .int .i64 r] 123)) (.cells #[.int .i64 0, .int .i64 0, .string ⟨#[]⟩, .int .i64 0] 123)
  rw [show (w.alloc (.cells #[.int .i64 4, .int .i64 i, .string s, .int .i64 r] 123)).heap.size = w.heap.size + 1 from Array.size_push ..] at hb
  have HB := Lib.hid hb
  have HKB := Lib.hid ((Chg.alloc (fun _ => False) (w.alloc (.cells #[.int .i64 4, .int .i64 i, .string s, .int .i64 r] 123)) (.cells #[.int .i64 0, .int .i64 0, .string ⟨#[]⟩, .int .i64 0] 123)).keep (alloc_block w (.cells #[.int .i64 4, .int .i64 i, .string s, .int .i64 r] 123)) (fun x => x))
  have HRP := Lib.hid (fun W hU => rrepair_any s W hs hU)
  have HU := Lib.hid (utf8_stay hU HC.out)
  generalize repairM s = t at *
  clear hU hs
  clear hb
  go_enter Tryd.func83, Tryd.ntmps83
  go_upto_region 1 with fail
  generalize ((w.alloc (.cells #[.int .i64 4, .int .i64 i, .string s, .int .i64 r] 123)).alloc (.cells #[.int .i64 0, .int .i64 0, .string ⟨#[]⟩, .int .i64 0] 123)) = w3 at *
  generalize hb2e : w.heap.size + 1 = b2 at *
  have HB2 := Lib.hid hb2e
  clear hb2e
  have k0 := cell_of_block (i := 0) HKB.out rfl
  have k1 := cell_of_block (i := 1) HKB.out rfl
  have k2 := cell_of_block (i := 2) HKB.out rfl
  have k3 := cell_of_block (i := 3) HKB.out rfl
  simp only [List.getElem_toArray, List.getElem_cons_zero, List.getElem_cons_succ] at k0 k1 k2 k3
  go_wp2_with (go_at_call 95; refine (HRP.out _ HU.out).mono ?_; rintro e wf ⟨rfl, hcf⟩; have hb4 := hcf.keep HB.out (fun x => x); obtain ⟨z0, q0, z1, q1, z2, q2, z3, q3, hbf, hcs⟩ := store4 hb4 (.int .i64 4) (.int .i64 0) (.string t) (.int .i64 0))
  generalize ((((wf.setCell ⟨b2, 0, none⟩ (.int .i64 4)).setCell ⟨b2, 1, none⟩ (.int .i64 0)).setCell ⟨b2, 2, none⟩ (.string t)).setCell ⟨b2, 3, none⟩ (.int .i64 0)) = wz at *
  refine bodyPost_ret (results_cell_row rfl _ _ b2 _ _ _ _ (by rfl) hbf Tryd.underlying123 rfl (by kernel_rfl)) rfl ?_
  exact ⟨rfl, (HC.out.trans' hcf).trans hcs (fun _ _ x => x) (fun k hk e => by have := HB2.out; omega)⟩
set_option maxHeartbeats 3200000 in
set_option maxRecDepth 100000 in
theorem rnormal_k5 (i r : Int) (s : ByteArray) (w : World)  :
    Calls Tryd.prog 83 #[.agg #[.int .i64 5, .int .i64 i, .string s, .int .i64 r]] w fun e w' => e = .returned (.agg #[.int .i64 5, .int .i64 0, .string ⟨#[]⟩, .int .i64 r]) ∧ Chg (fun _ => False) w w' := by
  have HC := Lib.hid ((Chg.alloc (fun _ => False) w (.cells #[.int .i64 5, .int .i64 i, .string s, .int .i64 r] 123)).allocR (.cells #[.int .i64 0, .int .i64 0, .string ⟨#[]⟩, .int .i64 0] 123))
  have hb := alloc_block (w.alloc (.cells #[.int .i64 5, .int .i64 i, .string s, .int .i64 r] 123)) (.cells #[.int .i64 0, .int .i64 0, .string ⟨#[]⟩, .int .i64 0] 123)
  rw [show (w.alloc (.cells #[.int .i64 5, .int .i64 i, .string s, .int .i64 r] 123)).heap.size = w.heap.size + 1 from Array.size_push ..] at hb
  have HB := Lib.hid hb
  have HKB := Lib.hid ((Chg.alloc (fun _ => False) (w.alloc (.cells #[.int .i64 5, .int .i64 i, .string s, .int .i64 r] 123)) (.cells #[.int .i64 0, .int .i64 0, .string ⟨#[]⟩, .int .i64 0] 123)).keep (alloc_block w (.cells #[.int .i64 5, .int .i64 i, .string s, .int .i64 r] 123)) (fun x => x))
  clear hb
  go_enter Tryd.func83, Tryd.ntmps83
  go_upto_region 1 with fail
  generalize ((w.alloc (.cells #[.int .i64 5, .int .i64 i, .string s, .int .i64 r] 123)).alloc (.cells #[.int .i64 0, .int .i64 0, .string ⟨#[]⟩, .int .i64 0] 123)) = w3 at *
  generalize hb2e : w.heap.size + 1 = b2 at *
  have HB2 := Lib.hid hb2e
  clear hb2e
  have k0 := cell_of_block (i := 0) HKB.out rfl
  have k1 := cell_of_block (i := 1) HKB.out rfl
  have k2 := cell_of_block (i := 2) HKB.out rfl
  have k3 := cell_of_block (i := 3) HKB.out rfl
  simp only [List.getElem_toArray, List.getElem_cons_zero, List.getElem_cons_succ] at k0 k1 k2 k3
  have hcf := Chg.refl (fun _ => False) w3
  have hb4 := HB.out
  obtain ⟨z0, q0, z1, q1, z2, q2, z3, q3, hbf, hcs⟩ := store4 hb4 (.int .i64 5) (.int .i64 0) (.string ⟨#[]⟩) (.int .i64 r)
  go_wp2_with fail
  generalize ((((w3.setCell ⟨b2, 0, none⟩ (.int .i64 5)).setCell ⟨b2, 1, none⟩ (.int .i64 0)).setCell ⟨b2, 2, none⟩ (.string ⟨#[]⟩)).setCell ⟨b2, 3, none⟩ (.int .i64 r)) = wz at *
  refine bodyPost_ret (results_cell_row rfl _ _ b2 _ _ _ _ (by rfl) hbf Tryd.underlying123 rfl (by kernel_rfl)) rfl ?_
  exact ⟨rfl, (HC.out.trans' hcf).trans hcs (fun _ _ x => x) (fun k hk e => by have := HB2.out; omega)⟩
set_option maxHeartbeats 3200000 in
set_option maxRecDepth 100000 in
theorem rnormal_k1 (i r : Int) (s : ByteArray) (w : World)  :
    Calls Tryd.prog 83 #[.agg #[.int .i64 1, .int .i64 i, .string s, .int .i64 r]] w fun e w' => e = .returned (.agg #[.int .i64 1, .int .i64 0, .string ⟨#[]⟩, .int .i64 0]) ∧ Chg (fun _ => False) w w' := by
  have HC := Lib.hid ((Chg.alloc (fun _ => False) w (.cells #[.int .i64 1, .int .i64 i, .string s, .int .i64 r] 123)).allocR (.cells #[.int .i64 0, .int .i64 0, .string ⟨#[]⟩, .int .i64 0] 123))
  have hb := alloc_block (w.alloc (.cells #[.int .i64 1, .int .i64 i, .string s, .int .i64 r] 123)) (.cells #[.int .i64 0, .int .i64 0, .string ⟨#[]⟩, .int .i64 0] 123)
  rw [show (w.alloc (.cells #[.int .i64 1, .int .i64 i, .string s, .int .i64 r] 123)).heap.size = w.heap.size + 1 from Array.size_push ..] at hb
  have HB := Lib.hid hb
  have HKB := Lib.hid ((Chg.alloc (fun _ => False) (w.alloc (.cells #[.int .i64 1, .int .i64 i, .string s, .int .i64 r] 123)) (.cells #[.int .i64 0, .int .i64 0, .string ⟨#[]⟩, .int .i64 0] 123)).keep (alloc_block w (.cells #[.int .i64 1, .int .i64 i, .string s, .int .i64 r] 123)) (fun x => x))
  clear hb
  go_enter Tryd.func83, Tryd.ntmps83
  go_upto_region 1 with fail
  generalize ((w.alloc (.cells #[.int .i64 1, .int .i64 i, .string s, .int .i64 r] 123)).alloc (.cells #[.int .i64 0, .int .i64 0, .string ⟨#[]⟩, .int .i64 0] 123)) = w3 at *
  generalize hb2e : w.heap.size + 1 = b2 at *
  have HB2 := Lib.hid hb2e
  clear hb2e
  have k0 := cell_of_block (i := 0) HKB.out rfl
  have k1 := cell_of_block (i := 1) HKB.out rfl
  have k2 := cell_of_block (i := 2) HKB.out rfl
  have k3 := cell_of_block (i := 3) HKB.out rfl
  simp only [List.getElem_toArray, List.getElem_cons_zero, List.getElem_cons_succ] at k0 k1 k2 k3
  have hcf := Chg.refl (fun _ => False) w3
  have hb4 := HB.out
  obtain ⟨z0, q0, z1, q1, z2, q2, z3, q3, hbf, hcs⟩ := store4 hb4 (.int .i64 1) (.int .i64 0) (.string ⟨#[]⟩) (.int .i64 0)
  go_wp2_with fail
  generalize ((((w3.setCell ⟨b2, 0, none⟩ (.int .i64 1)).setCell ⟨b2, 1, none⟩ (.int .i64 0)).setCell ⟨b2, 2, none⟩ (.string ⟨#[]⟩)).setCell ⟨b2, 3, none⟩ (.int .i64 0)) = wz at *
  refine bodyPost_ret (results_cell_row rfl _ _ b2 _ _ _ _ (by rfl) hbf Tryd.underlying123 rfl (by kernel_rfl)) rfl ?_
  exact ⟨rfl, (HC.out.trans' hcf).trans hcs (fun _ _ x => x) (fun k hk e => by have := HB2.out; omega)⟩
set_option maxHeartbeats 3200000 in
set_option maxRecDepth 100000 in
theorem rnormal_k6 (i r : Int) (s : ByteArray) (w : World)  :
    Calls Tryd.prog 83 #[.agg #[.int .i64 6, .int .i64 i, .string s, .int .i64 r]] w fun e w' => e = .returned (.agg #[.int .i64 6, .int .i64 0, .string ⟨#[]⟩, .int .i64 0]) ∧ Chg (fun _ => False) w w' := by
  have HC := Lib.hid ((Chg.alloc (fun _ => False) w (.cells #[.int .i64 6, .int .i64 i, .string s, .int .i64 r] 123)).allocR (.cells #[.int .i64 0, .int .i64 0, .string ⟨#[]⟩, .int .i64 0] 123))
  have hb := alloc_block (w.alloc (.cells #[.int .i64 6, .int .i64 i, .string s, .int .i64 r] 123)) (.cells #[.int .i64 0, .int .i64 0, .string ⟨#[]⟩, .int .i64 0] 123)
  rw [show (w.alloc (.cells #[.int .i64 6, .int .i64 i, .string s, .int .i64 r] 123)).heap.size = w.heap.size + 1 from Array.size_push ..] at hb
  have HB := Lib.hid hb
  have HKB := Lib.hid ((Chg.alloc (fun _ => False) (w.alloc (.cells #[.int .i64 6, .int .i64 i, .string s, .int .i64 r] 123)) (.cells #[.int .i64 0, .int .i64 0, .string ⟨#[]⟩, .int .i64 0] 123)).keep (alloc_block w (.cells #[.int .i64 6, .int .i64 i, .string s, .int .i64 r] 123)) (fun x => x))
  clear hb
  go_enter Tryd.func83, Tryd.ntmps83
  go_upto_region 1 with fail
  generalize ((w.alloc (.cells #[.int .i64 6, .int .i64 i, .string s, .int .i64 r] 123)).alloc (.cells #[.int .i64 0, .int .i64 0, .string ⟨#[]⟩, .int .i64 0] 123)) = w3 at *
  generalize hb2e : w.heap.size + 1 = b2 at *
  have HB2 := Lib.hid hb2e
  clear hb2e
  have k0 := cell_of_block (i := 0) HKB.out rfl
  have k1 := cell_of_block (i := 1) HKB.out rfl
  have k2 := cell_of_block (i := 2) HKB.out rfl
  have k3 := cell_of_block (i := 3) HKB.out rfl
  simp only [List.getElem_toArray, List.getElem_cons_zero, List.getElem_cons_succ] at k0 k1 k2 k3
  have hcf := Chg.refl (fun _ => False) w3
  have hb4 := HB.out
  obtain ⟨z0, q0, z1, q1, z2, q2, z3, q3, hbf, hcs⟩ := store4 hb4 (.int .i64 6) (.int .i64 0) (.string ⟨#[]⟩) (.int .i64 0)
  go_wp2_with fail
  generalize ((((w3.setCell ⟨b2, 0, none⟩ (.int .i64 6)).setCell ⟨b2, 1, none⟩ (.int .i64 0)).setCell ⟨b2, 2, none⟩ (.string ⟨#[]⟩)).setCell ⟨b2, 3, none⟩ (.int .i64 0)) = wz at *
  refine bodyPost_ret (results_cell_row rfl _ _ b2 _ _ _ _ (by rfl) hbf Tryd.underlying123 rfl (by kernel_rfl)) rfl ?_
  exact ⟨rfl, (HC.out.trans' hcf).trans hcs (fun _ _ x => x) (fun k hk e => by have := HB2.out; omega)⟩
set_option maxHeartbeats 3200000 in
set_option maxRecDepth 100000 in
theorem rnormal_ko (i r : Int) (s : ByteArray) (w : World) (c : Int) (h : ¬ c = 1 ∧ ¬ c = 2 ∧ ¬ c = 3 ∧ ¬ c = 4 ∧ ¬ c = 5 ∧ ¬ c = 6) :
    Calls Tryd.prog 83 #[.agg #[.int .i64 c, .int .i64 i, .string s, .int .i64 r]] w fun e w' => e = .returned (.agg #[.int .i64 0, .int .i64 0, .string ⟨#[]⟩, .int .i64 0]) ∧ Chg (fun _ => False) w w' := by
  have HC := Lib.hid ((Chg.alloc (fun _ => False) w (.cells #[.int .i64 c, .int .i64 i, .string s, .int .i64 r] 123)).allocR (.cells #[.int .i64 0, .int .i64 0, .string ⟨#[]⟩, .int .i64 0] 123))
  have hb := alloc_block (w.alloc (.cells #[.int .i64 c, .int .i64 i, .string s, .int .i64 r] 123)) (.cells #[.int .i64 0, .int .i64 0, .string ⟨#[]⟩, .int .i64 0] 123)
  rw [show (w.alloc (.cells #[.int .i64 c, .int .i64 i, .string s, .int .i64 r] 123)).heap.size = w.heap.size + 1 from Array.size_push ..] at hb
  have HB := Lib.hid hb
  have HKB := Lib.hid ((Chg.alloc (fun _ => False) (w.alloc (.cells #[.int .i64 c, .int .i64 i, .string s, .int .i64 r] 123)) (.cells #[.int .i64 0, .int .i64 0, .string ⟨#[]⟩, .int .i64 0] 123)).keep (alloc_block w (.cells #[.int .i64 c, .int .i64 i, .string s, .int .i64 r] 123)) (fun x => x))
  have n1 : (c == 1) = false := beq_false_of_ne (by omega)
  have n2 : (c == 2) = false := beq_false_of_ne (by omega)
  have n3 : (c == 3) = false := beq_false_of_ne (by omega)
  have n4 : (c == 4) = false := beq_false_of_ne (by omega)
  have n5 : (c == 5) = false := beq_false_of_ne (by omega)
  have n6 : (c == 6) = false := beq_false_of_ne (by omega)
  clear h
  clear hb
  go_enter Tryd.func83, Tryd.ntmps83
  go_upto_region 1 with fail
  generalize ((w.alloc (.cells #[.int .i64 c, .int .i64 i, .string s, .int .i64 r] 123)).alloc (.cells #[.int .i64 0, .int .i64 0, .string ⟨#[]⟩, .int .i64 0] 123)) = w3 at *
  generalize hb2e : w.heap.size + 1 = b2 at *
  have HB2 := Lib.hid hb2e
  clear hb2e
  have k0 := cell_of_block (i := 0) HKB.out rfl
  have k1 := cell_of_block (i := 1) HKB.out rfl
  have k2 := cell_of_block (i := 2) HKB.out rfl
  have k3 := cell_of_block (i := 3) HKB.out rfl
  simp only [List.getElem_toArray, List.getElem_cons_zero, List.getElem_cons_succ] at k0 k1 k2 k3
  have hcf := Chg.refl (fun _ => False) w3
  have hb4 := HB.out
  obtain ⟨z0, q0, z1, q1, z2, q2, z3, q3, hbf, hcs⟩ := store4 hb4 (.int .i64 0) (.int .i64 0) (.string ⟨#[]⟩) (.int .i64 0)
  go_wp2_with fail
  generalize ((((w3.setCell ⟨b2, 0, none⟩ (.int .i64 0)).setCell ⟨b2, 1, none⟩ (.int .i64 0)).setCell ⟨b2, 2, none⟩ (.string ⟨#[]⟩)).setCell ⟨b2, 3, none⟩ (.int .i64 0)) = wz at *
  refine bodyPost_ret (results_cell_row rfl _ _ b2 _ _ _ _ (by rfl) hbf Tryd.underlying123 rfl (by kernel_rfl)) rfl ?_
  exact ⟨rfl, (HC.out.trans' hcf).trans hcs (fun _ _ x => x) (fun k hk e => by have := HB2.out; omega)⟩
theorem rnormal_any (x : Vl) (w : World) (hs : x.str.size ≤ 35184372088832) (hU : Lib.Utf8Tabs 0 1 w) :
    Calls Tryd.prog 83 #[.agg #[.int .i64 x.kind, .int .i64 x.int, .string x.str, .int .i64 x.ref]] w fun e w' => e = .returned (.agg #[.int .i64 (normM x).kind, .int .i64 (normM x).int, .string (normM x).str, .int .i64 (normM x).ref]) ∧ Chg (fun _ => False) w w' := by
  obtain ⟨c, i, s, r⟩ := x
  by_cases h2 : c = 2
  · subst h2
    by_cases hi : i = 0
    · rw [show normM ⟨2, i, s, r⟩ = ⟨2, 0, ⟨#[]⟩, 0⟩ by simp [normM, hi]]; exact rnormal_k2n i r s w hi
    · rw [show normM ⟨2, i, s, r⟩ = ⟨2, 1, ⟨#[]⟩, 0⟩ by simp [normM, hi]]; exact rnormal_k2y i r s w hi
  · by_cases h3 : c = 3
    · subst h3; rw [show normM ⟨3, i, s, r⟩ = ⟨3, i, ⟨#[]⟩, 0⟩ by simp [normM]]; exact rnormal_k3 i r s w
    · by_cases h4 : c = 4
      · subst h4; rw [show normM ⟨4, i, s, r⟩ = ⟨4, 0, repairM s, 0⟩ by simp [normM]]; exact rnormal_k4 i r s w hs hU
      · by_cases h5 : c = 5
        · subst h5; rw [show normM ⟨5, i, s, r⟩ = ⟨5, 0, ⟨#[]⟩, r⟩ by simp [normM]]; exact rnormal_k5 i r s w
        · by_cases h1 : c = 1
          · subst h1; rw [show normM ⟨1, i, s, r⟩ = ⟨1, 0, ⟨#[]⟩, 0⟩ by simp [normM]]; exact rnormal_k1 i r s w
          · by_cases h6 : c = 6
            · subst h6; rw [show normM ⟨6, i, s, r⟩ = ⟨6, 0, ⟨#[]⟩, 0⟩ by simp [normM]]; exact rnormal_k6 i r s w
            · rw [show normM ⟨c, i, s, r⟩ = ⟨0, 0, ⟨#[]⟩, 0⟩ by simp [normM, h1, h2, h3, h4, h5, h6]]; exact rnormal_ko i r s w c ⟨h1, h2, h3, h4, h5, h6⟩
end Go.Proofs.YtiecgbmeobpomaaDoor
