/-
  References as values: value.Normal, value.Same; heap.table; heap.entry.
-/
import Derived.Test.YthiiehanlconeaaDoorJoh
import Derived.Test.YthiiehanlconeaaDoorHeldT
import Derived.Test.YthiiehanlconeaaDoorMku
import Derived.Test.YthiiehanlconeaaDoorOut
import Derived.Laws.ResultCell
namespace Go.Proofs.YthiiehanlconeaaDoor
open Go.RowKit
set_option linter.unusedVariables false
set_option linter.unusedSimpArgs false

theorem chg_put4 {W W' : World} {b k : Nat} {v : Value} (h : Chg (fun j => j = b) W W') : Chg (fun j => j = b) W (W'.setCell ⟨b, k, none⟩ v) := h.trans' (show Chg (fun j => j = b) W' (W'.setCell ⟨b, k, none⟩ v) from Chg.setCell W' ⟨b, k, none⟩ v)
/-- The cells of a block stored one after the other. -/
theorem store4 {w : World} {g T : Nat} {u0 u1 u2 u3 : Value} (b0 : w.heap[g]? = some (.cells #[u0, u1, u2, u3] T (0, 0))) (v0 v1 v2 v3 : Value) :
    w.cell? ⟨g, 0, none⟩ = some u0 ∧ w.frozen? ⟨g, 0, none⟩ = false ∧
    (w.setCell ⟨g, 0, none⟩ v0).cell? ⟨g, 1, none⟩ = some u1 ∧ (w.setCell ⟨g, 0, none⟩ v0).frozen? ⟨g, 1, none⟩ = false ∧
    ((w.setCell ⟨g, 0, none⟩ v0).setCell ⟨g, 1, none⟩ v1).cell? ⟨g, 2, none⟩ = some u2 ∧ ((w.setCell ⟨g, 0, none⟩ v0).setCell ⟨g, 1, none⟩ v1).frozen? ⟨g, 2, none⟩ = false ∧
    (((w.setCell ⟨g, 0, none⟩ v0).setCell ⟨g, 1, none⟩ v1).setCell ⟨g, 2, none⟩ v2).cell? ⟨g, 3, none⟩ = some u3 ∧ (((w.setCell ⟨g, 0, none⟩ v0).setCell ⟨g, 1, none⟩ v1).setCell ⟨g, 2, none⟩ v2).frozen? ⟨g, 3, none⟩ = false ∧
    ((((w.setCell ⟨g, 0, none⟩ v0).setCell ⟨g, 1, none⟩ v1).setCell ⟨g, 2, none⟩ v2).setCell ⟨g, 3, none⟩ v3).heap[g]? = some (.cells #[v0, v1, v2, v3] T (0, 0)) ∧ Chg (fun k => k = g) w ((((w.setCell ⟨g, 0, none⟩ v0).setCell ⟨g, 1, none⟩ v1).setCell ⟨g, 2, none⟩ v2).setCell ⟨g, 3, none⟩ v3) := by
  have c0 : w.cell? ⟨g, 0, none⟩ = some u0 := cell_of_block b0 rfl
  have f0 : w.frozen? ⟨g, 0, none⟩ = false := frozen_of_block b0
  have b1 : (w.setCell ⟨g, 0, none⟩ v0).heap[g]? = some (.cells #[v0, u1, u2, u3] T (0, 0)) := setCell_block (i := 0) v0 b0
  have c1 : (w.setCell ⟨g, 0, none⟩ v0).cell? ⟨g, 1, none⟩ = some u1 := cell_of_block b1 rfl
  have f1 : (w.setCell ⟨g, 0, none⟩ v0).frozen? ⟨g, 1, none⟩ = false := frozen_of_block b1
  have b2 : ((w.setCell ⟨g, 0, none⟩ v0).setCell ⟨g, 1, none⟩ v1).heap[g]? = some (.cells #[v0, v1, u2, u3] T (0, 0)) := setCell_block (i := 1) v1 b1
  have c2 : ((w.setCell ⟨g, 0, none⟩ v0).setCell ⟨g, 1, none⟩ v1).cell? ⟨g, 2, none⟩ = some u2 := cell_of_block b2 rfl
  have f2 : ((w.setCell ⟨g, 0, none⟩ v0).setCell ⟨g, 1, none⟩ v1).frozen? ⟨g, 2, none⟩ = false := frozen_of_block b2
  have b3 : (((w.setCell ⟨g, 0, none⟩ v0).setCell ⟨g, 1, none⟩ v1).setCell ⟨g, 2, none⟩ v2).heap[g]? = some (.cells #[v0, v1, v2, u3] T (0, 0)) := setCell_block (i := 2) v2 b2
  have c3 : (((w.setCell ⟨g, 0, none⟩ v0).setCell ⟨g, 1, none⟩ v1).setCell ⟨g, 2, none⟩ v2).cell? ⟨g, 3, none⟩ = some u3 := cell_of_block b3 rfl
  have f3 : (((w.setCell ⟨g, 0, none⟩ v0).setCell ⟨g, 1, none⟩ v1).setCell ⟨g, 2, none⟩ v2).frozen? ⟨g, 3, none⟩ = false := frozen_of_block b3
  have b4 : ((((w.setCell ⟨g, 0, none⟩ v0).setCell ⟨g, 1, none⟩ v1).setCell ⟨g, 2, none⟩ v2).setCell ⟨g, 3, none⟩ v3).heap[g]? = some (.cells #[v0, v1, v2, v3] T (0, 0)) := setCell_block (i := 3) v3 b3
  exact ⟨c0, f0, c1, f1, c2, f2, c3, f3, b4, chg_put4 (chg_put4 (chg_put4 (chg_put4 (Chg.refl _ _))))⟩

set_option maxHeartbeats 3200000 in
set_option maxRecDepth 100000 in
theorem normal_ref (h : Int) (w : World) :
    Calls Tryd.prog 20 #[.agg #[.int .i64 5, .int .i64 0, .string ⟨#[]⟩, .int .i64 h]] w fun e w' => e = .returned (.agg #[.int .i64 5, .int .i64 0, .string ⟨#[]⟩, .int .i64 h]) ∧ Chg (fun _ => False) w w' := by
  have hc2 := (Chg.alloc (fun _ => False) w (.cells #[.int .i64 5, .int .i64 0, .string ⟨#[]⟩, .int .i64 h] 38)).allocR (.cells #[.int .i64 0, .int .i64 0, .string ⟨#[]⟩, .int .i64 0] 38)
  have hb := alloc_block (w.alloc (.cells #[.int .i64 5, .int .i64 0, .string ⟨#[]⟩, .int .i64 h] 38)) (.cells #[.int .i64 0, .int .i64 0, .string ⟨#[]⟩, .int .i64 0] 38)
  have hs1 : (w.alloc (.cells #[.int .i64 5, .int .i64 0, .string ⟨#[]⟩, .int .i64 h] 38)).heap.size = w.heap.size + 1 := Array.size_push ..
  rw [hs1] at hb
  have HB := Lib.hid hb
  have HC := Lib.hid hc2
  have kb := alloc_block w (.cells #[.int .i64 5, .int .i64 0, .string ⟨#[]⟩, .int .i64 h] 38)
  have k0 := (Chg.alloc (fun _ => False) (w.alloc (.cells #[.int .i64 5, .int .i64 0, .string ⟨#[]⟩, .int .i64 h] 38)) (.cells #[.int .i64 0, .int .i64 0, .string ⟨#[]⟩, .int .i64 0] 38)).cell (cell_of_block (i := 0) kb rfl)
  have k3 := (Chg.alloc (fun _ => False) (w.alloc (.cells #[.int .i64 5, .int .i64 0, .string ⟨#[]⟩, .int .i64 h] 38)) (.cells #[.int .i64 0, .int .i64 0, .string ⟨#[]⟩, .int .i64 0] 38)).cell (cell_of_block (i := 3) kb rfl)
  simp only [List.getElem_toArray, List.getElem_cons_zero, List.getElem_cons_succ] at k0 k3
  have HK0 := Lib.hid k0
  have HK3 := Lib.hid k3
  clear hb hc2 hs1 kb k0 k3
  go_enter Tryd.func20, Tryd.ntmps20
  go_upto_region 1 with fail
  generalize ((w.alloc (.cells #[.int .i64 5, .int .i64 0, .string ⟨#[]⟩, .int .i64 h] 38)).alloc (.cells #[.int .i64 0, .int .i64 0, .string ⟨#[]⟩, .int .i64 0] 38)) = w3 at *
  generalize hb2e : w.heap.size + 1 = b2 at *
  have HB2 := Lib.hid hb2e
  have k0 := HK0.out
  have k3 := HK3.out
  clear hb2e
  go_wp2_with fail
  refine (vref_any h _).mono ?_
  rintro e wf ⟨rfl, hcf⟩
  have hb4 := hcf.keep HB.out (fun x => x)
  obtain ⟨z0, q0, z1, q1, z2, q2, z3, q3, hbf, hcs⟩ := store4 hb4 (.int .i64 5) (.int .i64 0) (.string ⟨#[]⟩) (.int .i64 h)
  go_wp2_with fail
  generalize ((((wf.setCell ⟨b2, 0, none⟩ (.int .i64 5)).setCell ⟨b2, 1, none⟩ (.int .i64 0)).setCell ⟨b2, 2, none⟩ (.string ⟨#[]⟩)).setCell ⟨b2, 3, none⟩ (.int .i64 h)) = wz at *
  refine bodyPost_ret (results_cell_row rfl _ _ b2 _ _ _ _ (by rfl) hbf Tryd.underlying38 rfl (by kernel_rfl)) rfl ?_
  exact ⟨rfl, (HC.out.trans' hcf).trans hcs (fun _ _ x => x) (fun k hk e => by have := HB2.out; omega)⟩
set_option maxHeartbeats 3200000 in
set_option maxRecDepth 100000 in
theorem same_no (a b : Int) (w : World) (hab : ¬ a = b) :
    Calls Tryd.prog 35 #[.agg #[.int .i64 5, .int .i64 0, .string ⟨#[]⟩, .int .i64 a], .agg #[.int .i64 5, .int .i64 0, .string ⟨#[]⟩, .int .i64 b]] w fun e w' => e = .returned (.bool false) ∧ Chg (fun _ => False) w w' := by
  have HN := Lib.hid (fun (h : Int) (W : World) => normal_ref h W)
  have hca := (Chg.alloc (fun _ => False) w (.cells #[.int .i64 5, .int .i64 0, .string ⟨#[]⟩, .int .i64 a] 38)).allocR (.cells #[.int .i64 5, .int .i64 0, .string ⟨#[]⟩, .int .i64 b] 38)
  have kb := alloc_block w (.cells #[.int .i64 5, .int .i64 0, .string ⟨#[]⟩, .int .i64 a] 38)
  have kb2 := alloc_block (w.alloc (.cells #[.int .i64 5, .int .i64 0, .string ⟨#[]⟩, .int .i64 a] 38)) (.cells #[.int .i64 5, .int .i64 0, .string ⟨#[]⟩, .int .i64 b] 38)
  have hs1 : (w.alloc (.cells #[.int .i64 5, .int .i64 0, .string ⟨#[]⟩, .int .i64 a] 38)).heap.size = w.heap.size + 1 := Array.size_push ..
  rw [hs1] at kb2
  have a0 := (Chg.alloc (fun _ => False) (w.alloc (.cells #[.int .i64 5, .int .i64 0, .string ⟨#[]⟩, .int .i64 a] 38)) (.cells #[.int .i64 5, .int .i64 0, .string ⟨#[]⟩, .int .i64 b] 38)).cell (cell_of_block (i := 0) kb rfl)
  have a1 := (Chg.alloc (fun _ => False) (w.alloc (.cells #[.int .i64 5, .int .i64 0, .string ⟨#[]⟩, .int .i64 a] 38)) (.cells #[.int .i64 5, .int .i64 0, .string ⟨#[]⟩, .int .i64 b] 38)).cell (cell_of_block (i := 1) kb rfl)
  have a2 := (Chg.alloc (fun _ => False) (w.alloc (.cells #[.int .i64 5, .int .i64 0, .string ⟨#[]⟩, .int .i64 a] 38)) (.cells #[.int .i64 5, .int .i64 0, .string ⟨#[]⟩, .int .i64 b] 38)).cell (cell_of_block (i := 2) kb rfl)
  have a3 := (Chg.alloc (fun _ => False) (w.alloc (.cells #[.int .i64 5, .int .i64 0, .string ⟨#[]⟩, .int .i64 a] 38)) (.cells #[.int .i64 5, .int .i64 0, .string ⟨#[]⟩, .int .i64 b] 38)).cell (cell_of_block (i := 3) kb rfl)
  have b0 := cell_of_block (i := 0) kb2 rfl
  have b1 := cell_of_block (i := 1) kb2 rfl
  have b2 := cell_of_block (i := 2) kb2 rfl
  have b3 := cell_of_block (i := 3) kb2 rfl
  simp only [List.getElem_toArray, List.getElem_cons_zero, List.getElem_cons_succ] at a0 a1 a2 a3 b0 b1 b2 b3
  have HS00 := Lib.hid (And.intro a0 (And.intro a1 (And.intro a2 (And.intro a3 (And.intro b0 (And.intro b1 (And.intro b2 b3)))))))
  have HCA := Lib.hid hca
  clear a0 a1 a2 a3 b0 b1 b2 b3 hca kb kb2 hs1
  go_enter Tryd.func35, Tryd.ntmps35
  go_upto_region 1 with fail
  generalize ((w.alloc (.cells #[.int .i64 5, .int .i64 0, .string ⟨#[]⟩, .int .i64 a] 38)).alloc (.cells #[.int .i64 5, .int .i64 0, .string ⟨#[]⟩, .int .i64 b] 38)) = W0 at *
  generalize w.heap.size + 1 = bb at *
  generalize w.heap.size = ba at *
  have HS0 : Hid (W0.cell? ⟨ba, 0, none⟩ = some (.int .i64 5) ∧ W0.cell? ⟨ba, 1, none⟩ = some (.int .i64 0) ∧ W0.cell? ⟨ba, 2, none⟩ = some (.string ⟨#[]⟩) ∧ W0.cell? ⟨ba, 3, none⟩ = some (.int .i64 a) ∧ W0.cell? ⟨bb, 0, none⟩ = some (.int .i64 5) ∧ W0.cell? ⟨bb, 1, none⟩ = some (.int .i64 0) ∧ W0.cell? ⟨bb, 2, none⟩ = some (.string ⟨#[]⟩) ∧ W0.cell? ⟨bb, 3, none⟩ = some (.int .i64 b)) := HS00
  clear HS00
  refine wp_region_held_split 5 (fun w' => w'.cell? ⟨ba, 0, none⟩ = some (.int .i64 5) ∧ w'.cell? ⟨ba, 1, none⟩ = some (.int .i64 0) ∧ w'.cell? ⟨ba, 2, none⟩ = some (.string ⟨#[]⟩) ∧ w'.cell? ⟨ba, 3, none⟩ = some (.int .i64 a) ∧ w'.cell? ⟨bb, 0, none⟩ = some (.int .i64 5) ∧ w'.cell? ⟨bb, 1, none⟩ = some (.int .i64 0) ∧ w'.cell? ⟨bb, 2, none⟩ = some (.string ⟨#[]⟩) ∧ w'.cell? ⟨bb, 3, none⟩ = some (.int .i64 b)) (by kernel_rfl) (by kernel_rfl) ?_ (fun hHeld => ?_)
  · (first | exact HS0.out | exact HKS.out _ HCC.out)
  simp only [List.take_succ_cons, List.take_zero]
  have HKS : Hid (∀ W, Chg (fun _ => False) W0.drew W → W.cell? ⟨ba, 0, none⟩ = some (.int .i64 5) ∧ W.cell? ⟨ba, 1, none⟩ = some (.int .i64 0) ∧ W.cell? ⟨ba, 2, none⟩ = some (.string ⟨#[]⟩) ∧ W.cell? ⟨ba, 3, none⟩ = some (.int .i64 a) ∧ W.cell? ⟨bb, 0, none⟩ = some (.int .i64 5) ∧ W.cell? ⟨bb, 1, none⟩ = some (.int .i64 0) ∧ W.cell? ⟨bb, 2, none⟩ = some (.string ⟨#[]⟩) ∧ W.cell? ⟨bb, 3, none⟩ = some (.int .i64 b)) := Lib.hid (fun W hc => ⟨hc.cell HS0.out.1, hc.cell HS0.out.2.1, hc.cell HS0.out.2.2.1, hc.cell HS0.out.2.2.2.1, hc.cell HS0.out.2.2.2.2.1, hc.cell HS0.out.2.2.2.2.2.1, hc.cell HS0.out.2.2.2.2.2.2.1, hc.cell HS0.out.2.2.2.2.2.2.2⟩)
  have HWD : Hid (Chg (fun _ => False) W0 W0.drew) := Lib.hid (Chg.refl _ W0).drewR
  generalize W0.drew = wD at *
  have HCC := Lib.hid (Chg.refl (fun _ => False) wD)
  refine wpAnyH_take (i := 0) (v := ?_) rfl (by kernel_rfl) (by kernel_rfl) (by kernel_rfl) (fun _ _ _ h => h) (Or.inl ⟨by rfl, ?_⟩) (by assumption) ?_
  rotate_left
  · (intro wq hSw; (try dsimp only at hSw); go_simp; (try with_reducible rfl))
  simp only [Act.put, List.getElem_toArray, List.getElem_cons_zero, List.getElem_cons_succ, List.setIfInBounds_toArray, List.set_cons_zero, List.set_cons_succ]
  refine wpAnyH_take (i := 2) (v := ?_) rfl (by kernel_rfl) (by kernel_rfl) (by kernel_rfl) (fun _ _ _ h => h) (Or.inl ⟨by rfl, ?_⟩) (by assumption) ?_
  rotate_left
  · (intro wq hSw; (try dsimp only at hSw); go_simp; (try with_reducible rfl))
  simp only [Act.put, List.getElem_toArray, List.getElem_cons_zero, List.getElem_cons_succ, List.setIfInBounds_toArray, List.set_cons_zero, List.set_cons_succ]
  refine wpAnyH_ready (rs := [1]) (by kernel_rfl) (by simp) ?_
  refine AllReadyH.cons (by simp only [List.getElem?_toArray, List.getElem?_cons_succ, List.getElem?_cons_zero]; rfl) (fun K hK => ?_) AllReadyH.nil
  (go_simp; go_at_call 20; refine (HN.out _ _).mono ?_; rintro _ wd ⟨rfl, hcd⟩; have HCC := Lib.hid (HCC.out.trans' hcd); clear hcd; go_simp)
  refine hK.out _ _ ?_ (fun hHeld => ?_)
  · (first | exact HS0.out | exact HKS.out _ HCC.out)
  clear hK K
  (try simp only [Act.put, List.getElem_toArray, List.getElem_cons_zero, List.getElem_cons_succ, List.setIfInBounds_toArray, List.set_cons_zero, List.set_cons_succ])
  refine wpAnyH_ready (rs := [3]) (by kernel_rfl) (by simp) ?_
  refine AllReadyH.cons (by simp only [List.getElem?_toArray, List.getElem?_cons_succ, List.getElem?_cons_zero]; rfl) (fun K hK => ?_) AllReadyH.nil
  (go_simp; go_at_call 20; refine (HN.out _ _).mono ?_; rintro _ wd ⟨rfl, hcd⟩; have HCC := Lib.hid (HCC.out.trans' hcd); clear hcd; go_simp)
  refine hK.out _ _ ?_ (fun hHeld => ?_)
  · (first | exact HS0.out | exact HKS.out _ HCC.out)
  clear hK K
  (try simp only [Act.put, List.getElem_toArray, List.getElem_cons_zero, List.getElem_cons_succ, List.setIfInBounds_toArray, List.set_cons_zero, List.set_cons_succ])
  refine wpAnyH_take (i := 4) (v := ?_) rfl (by kernel_rfl) (by kernel_rfl) (by kernel_rfl) (fun _ _ _ h => h) (Or.inl ⟨by rfl, ?_⟩) (by assumption) ?_
  rotate_left
  · (intro wq hSw; (try dsimp only at hSw); go_simp; (try with_reducible rfl))
  simp only [Act.put, List.getElem_toArray, List.getElem_cons_zero, List.getElem_cons_succ, List.setIfInBounds_toArray, List.set_cons_zero, List.set_cons_succ]
  refine wpAnyH_done (by kernel_rfl) ?_ _
  change wpList _ _ _ _ _ _
  simp only [List.drop_succ_cons, List.drop_zero]
  go_wp2_with fail
  go_ret
  exact ⟨rfl, (HCA.out.trans' HWD.out).trans' HCC.out⟩
set_option maxHeartbeats 3200000 in
set_option maxRecDepth 100000 in
theorem same_yes (a : Int) (w : World) :
    Calls Tryd.prog 35 #[.agg #[.int .i64 5, .int .i64 0, .string ⟨#[]⟩, .int .i64 a], .agg #[.int .i64 5, .int .i64 0, .string ⟨#[]⟩, .int .i64 a]] w fun e w' => e = .returned (.bool true) ∧ Chg (fun _ => False) w w' := by
  have HN := Lib.hid (fun (h : Int) (W : World) => normal_ref h W)
  have hca := (Chg.alloc (fun _ => False) w (.cells #[.int .i64 5, .int .i64 0, .string ⟨#[]⟩, .int .i64 a] 38)).allocR (.cells #[.int .i64 5, .int .i64 0, .string ⟨#[]⟩, .int .i64 a] 38)
  have kb := alloc_block w (.cells #[.int .i64 5, .int .i64 0, .string ⟨#[]⟩, .int .i64 a] 38)
  have kb2 := alloc_block (w.alloc (.cells #[.int .i64 5, .int .i64 0, .string ⟨#[]⟩, .int .i64 a] 38)) (.cells #[.int .i64 5, .int .i64 0, .string ⟨#[]⟩, .int .i64 a] 38)
  have hs1 : (w.alloc (.cells #[.int .i64 5, .int .i64 0, .string ⟨#[]⟩, .int .i64 a] 38)).heap.size = w.heap.size + 1 := Array.size_push ..
  rw [hs1] at kb2
  have a0 := (Chg.alloc (fun _ => False) (w.alloc (.cells #[.int .i64 5, .int .i64 0, .string ⟨#[]⟩, .int .i64 a] 38)) (.cells #[.int .i64 5, .int .i64 0, .string ⟨#[]⟩, .int .i64 a] 38)).cell (cell_of_block (i := 0) kb rfl)
  have a1 := (Chg.alloc (fun _ => False) (w.alloc (.cells #[.int .i64 5, .int .i64 0, .string ⟨#[]⟩, .int .i64 a] 38)) (.cells #[.int .i64 5, .int .i64 0, .string ⟨#[]⟩, .int .i64 a] 38)).cell (cell_of_block (i := 1) kb rfl)
  have a2 := (Chg.alloc (fun _ => False) (w.alloc (.cells #[.int .i64 5, .int .i64 0, .string ⟨#[]⟩, .int .i64 a] 38)) (.cells #[.int .i64 5, .int .i64 0, .string ⟨#[]⟩, .int .i64 a] 38)).cell (cell_of_block (i := 2) kb rfl)
  have a3 := (Chg.alloc (fun _ => False) (w.alloc (.cells #[.int .i64 5, .int .i64 0, .string ⟨#[]⟩, .int .i64 a] 38)) (.cells #[.int .i64 5, .int .i64 0, .string ⟨#[]⟩, .int .i64 a] 38)).cell (cell_of_block (i := 3) kb rfl)
  have b0 := cell_of_block (i := 0) kb2 rfl
  have b1 := cell_of_block (i := 1) kb2 rfl
  have b2 := cell_of_block (i := 2) kb2 rfl
  have b3 := cell_of_block (i := 3) kb2 rfl
  simp only [List.getElem_toArray, List.getElem_cons_zero, List.getElem_cons_succ] at a0 a1 a2 a3 b0 b1 b2 b3
  have HS00 := Lib.hid (And.intro a0 (And.intro a1 (And.intro a2 (And.intro a3 (And.intro b0 (And.intro b1 (And.intro b2 b3)))))))
  have HCA := Lib.hid hca
  clear a0 a1 a2 a3 b0 b1 b2 b3 hca kb kb2 hs1
  go_enter Tryd.func35, Tryd.ntmps35
  go_upto_region 1 with fail
  generalize ((w.alloc (.cells #[.int .i64 5, .int .i64 0, .string ⟨#[]⟩, .int .i64 a] 38)).alloc (.cells #[.int .i64 5, .int .i64 0, .string ⟨#[]⟩, .int .i64 a] 38)) = W0 at *
  generalize w.heap.size + 1 = bb at *
  generalize w.heap.size = ba at *
  have HS0 : Hid (W0.cell? ⟨ba, 0, none⟩ = some (.int .i64 5) ∧ W0.cell? ⟨ba, 1, none⟩ = some (.int .i64 0) ∧ W0.cell? ⟨ba, 2, none⟩ = some (.string ⟨#[]⟩) ∧ W0.cell? ⟨ba, 3, none⟩ = some (.int .i64 a) ∧ W0.cell? ⟨bb, 0, none⟩ = some (.int .i64 5) ∧ W0.cell? ⟨bb, 1, none⟩ = some (.int .i64 0) ∧ W0.cell? ⟨bb, 2, none⟩ = some (.string ⟨#[]⟩) ∧ W0.cell? ⟨bb, 3, none⟩ = some (.int .i64 a)) := HS00
  clear HS00
  refine wp_region_held_split 5 (fun w' => w'.cell? ⟨ba, 0, none⟩ = some (.int .i64 5) ∧ w'.cell? ⟨ba, 1, none⟩ = some (.int .i64 0) ∧ w'.cell? ⟨ba, 2, none⟩ = some (.string ⟨#[]⟩) ∧ w'.cell? ⟨ba, 3, none⟩ = some (.int .i64 a) ∧ w'.cell? ⟨bb, 0, none⟩ = some (.int .i64 5) ∧ w'.cell? ⟨bb, 1, none⟩ = some (.int .i64 0) ∧ w'.cell? ⟨bb, 2, none⟩ = some (.string ⟨#[]⟩) ∧ w'.cell? ⟨bb, 3, none⟩ = some (.int .i64 a)) (by kernel_rfl) (by kernel_rfl) ?_ (fun hHeld => ?_)
  · (first | exact HS0.out | exact HKS.out _ HCC.out)
  simp only [List.take_succ_cons, List.take_zero]
  have HKS : Hid (∀ W, Chg (fun _ => False) W0.drew W → W.cell? ⟨ba, 0, none⟩ = some (.int .i64 5) ∧ W.cell? ⟨ba, 1, none⟩ = some (.int .i64 0) ∧ W.cell? ⟨ba, 2, none⟩ = some (.string ⟨#[]⟩) ∧ W.cell? ⟨ba, 3, none⟩ = some (.int .i64 a) ∧ W.cell? ⟨bb, 0, none⟩ = some (.int .i64 5) ∧ W.cell? ⟨bb, 1, none⟩ = some (.int .i64 0) ∧ W.cell? ⟨bb, 2, none⟩ = some (.string ⟨#[]⟩) ∧ W.cell? ⟨bb, 3, none⟩ = some (.int .i64 a)) := Lib.hid (fun W hc => ⟨hc.cell HS0.out.1, hc.cell HS0.out.2.1, hc.cell HS0.out.2.2.1, hc.cell HS0.out.2.2.2.1, hc.cell HS0.out.2.2.2.2.1, hc.cell HS0.out.2.2.2.2.2.1, hc.cell HS0.out.2.2.2.2.2.2.1, hc.cell HS0.out.2.2.2.2.2.2.2⟩)
  have HWD : Hid (Chg (fun _ => False) W0 W0.drew) := Lib.hid (Chg.refl _ W0).drewR
  generalize W0.drew = wD at *
  have HCC := Lib.hid (Chg.refl (fun _ => False) wD)
  refine wpAnyH_take (i := 0) (v := ?_) rfl (by kernel_rfl) (by kernel_rfl) (by kernel_rfl) (fun _ _ _ h => h) (Or.inl ⟨by rfl, ?_⟩) (by assumption) ?_
  rotate_left
  · (intro wq hSw; (try dsimp only at hSw); go_simp; (try with_reducible rfl))
  simp only [Act.put, List.getElem_toArray, List.getElem_cons_zero, List.getElem_cons_succ, List.setIfInBounds_toArray, List.set_cons_zero, List.set_cons_succ]
  refine wpAnyH_take (i := 2) (v := ?_) rfl (by kernel_rfl) (by kernel_rfl) (by kernel_rfl) (fun _ _ _ h => h) (Or.inl ⟨by rfl, ?_⟩) (by assumption) ?_
  rotate_left
  · (intro wq hSw; (try dsimp only at hSw); go_simp; (try with_reducible rfl))
  simp only [Act.put, List.getElem_toArray, List.getElem_cons_zero, List.getElem_cons_succ, List.setIfInBounds_toArray, List.set_cons_zero, List.set_cons_succ]
  refine wpAnyH_ready (rs := [1]) (by kernel_rfl) (by simp) ?_
  refine AllReadyH.cons (by simp only [List.getElem?_toArray, List.getElem?_cons_succ, List.getElem?_cons_zero]; rfl) (fun K hK => ?_) AllReadyH.nil
  (go_simp; go_at_call 20; refine (HN.out _ _).mono ?_; rintro _ wd ⟨rfl, hcd⟩; have HCC := Lib.hid (HCC.out.trans' hcd); clear hcd; go_simp)
  refine hK.out _ _ ?_ (fun hHeld => ?_)
  · (first | exact HS0.out | exact HKS.out _ HCC.out)
  clear hK K
  (try simp only [Act.put, List.getElem_toArray, List.getElem_cons_zero, List.getElem_cons_succ, List.setIfInBounds_toArray, List.set_cons_zero, List.set_cons_succ])
  refine wpAnyH_ready (rs := [3]) (by kernel_rfl) (by simp) ?_
  refine AllReadyH.cons (by simp only [List.getElem?_toArray, List.getElem?_cons_succ, List.getElem?_cons_zero]; rfl) (fun K hK => ?_) AllReadyH.nil
  (go_simp; go_at_call 20; refine (HN.out _ _).mono ?_; rintro _ wd ⟨rfl, hcd⟩; have HCC := Lib.hid (HCC.out.trans' hcd); clear hcd; go_simp)
  refine hK.out _ _ ?_ (fun hHeld => ?_)
  · (first | exact HS0.out | exact HKS.out _ HCC.out)
  clear hK K
  (try simp only [Act.put, List.getElem_toArray, List.getElem_cons_zero, List.getElem_cons_succ, List.setIfInBounds_toArray, List.set_cons_zero, List.set_cons_succ])
  refine wpAnyH_take (i := 4) (v := ?_) rfl (by kernel_rfl) (by kernel_rfl) (by kernel_rfl) (fun _ _ _ h => h) (Or.inl ⟨by rfl, ?_⟩) (by assumption) ?_
  rotate_left
  · (intro wq hSw; (try dsimp only at hSw); go_simp; (try with_reducible rfl))
  simp only [Act.put, List.getElem_toArray, List.getElem_cons_zero, List.getElem_cons_succ, List.setIfInBounds_toArray, List.set_cons_zero, List.set_cons_succ]
  refine wpAnyH_done (by kernel_rfl) ?_ _
  change wpList _ _ _ _ _ _
  simp only [List.drop_succ_cons, List.drop_zero]
  go_wp2_with fail
  go_ret
  exact ⟨rfl, (HCA.out.trans' HWD.out).trans' HCC.out⟩
theorem same_ref (a b : Int) (w : World) :
    Calls Tryd.prog 35 #[.agg #[.int .i64 5, .int .i64 0, .string ⟨#[]⟩, .int .i64 a], .agg #[.int .i64 5, .int .i64 0, .string ⟨#[]⟩, .int .i64 b]] w fun e w' => e = .returned (.bool (decide (a = b))) ∧ Chg (fun _ => False) w w' := by
  by_cases h : a = b
  · subst h; rw [decide_eq_true rfl]; exact same_yes a w
  · rw [decide_eq_false h]; exact same_no a b w h
end Go.Proofs.YthiiehanlconeaaDoor
