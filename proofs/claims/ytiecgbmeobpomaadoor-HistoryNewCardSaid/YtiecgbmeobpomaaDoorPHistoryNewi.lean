/-
  port.formed.
  port.formed: the kinds of objects.
  port.formed of any node.
-/
import Derived.Test.YtiecgbmeobpomaaDoorPHistoryNewh
import Derived.Test.YtiecgbmeobpomaaDoorPHistoryNewb
namespace Go.Proofs.YtiecgbmeobpomaaDoor
open Go.RowKit
set_option linter.unusedVariables false
set_option linter.unusedSimpArgs false

set_option maxHeartbeats 3200000 in
set_option maxRecDepth 100000 in
theorem formed_neg (w : World) (kind int : Int) (str : ByteArray) (pk pd : Option Addr) (nk ck nd cd : Nat) (hU : Lib.Utf8Tabs 0 1 w) (hs : str.size ≤ 35184372088832) (h4 : kind ≤ 4) (h0 : ¬ 0 ≤ kind) :
    Calls Tryd.prog 68 #[.agg #[.int .i64 kind, .int .i64 int, .string str, .slice pk nk ck, .slice pd nd cd]] w fun e w' => e = .returned (.bool false) ∧ Chg (fun _ => False) w w' := by
  have HC := Lib.hid ((Chg.alloc (fun _ => False) w (.cells #[.int .i64 kind, .int .i64 int, .string str, .slice pk nk ck, .slice pd nd cd] 85)).allocR (.cells #[.int .i64 kind, .int .i64 int, .string str, .int .i64 0] 123))
  have HB1 := Lib.hid (alloc_old (.cells #[.int .i64 kind, .int .i64 int, .string str, .int .i64 0] 123) (alloc_block w (.cells #[.int .i64 kind, .int .i64 int, .string str, .slice pk nk ck, .slice pd nd cd] 85)))
  have hb3 := alloc_block (w.alloc (.cells #[.int .i64 kind, .int .i64 int, .string str, .slice pk nk ck, .slice pd nd cd] 85)) (.cells #[.int .i64 kind, .int .i64 int, .string str, .int .i64 0] 123)
  rw [World.size_alloc] at hb3
  have HB3 := Lib.hid hb3
  have HU := Lib.hid hU
  clear hb3 hU
  go_enter Tryd.func68, Tryd.ntmps68
  go_upto_region 3 with fail
  have HNM := Lib.hid (fun W (hc : Chg (fun _ => False) ((w.alloc (.cells #[.int .i64 kind, .int .i64 int, .string str, .slice pk nk ck, .slice pd nd cd] 85)).alloc (.cells #[.int .i64 kind, .int .i64 int, .string str, .int .i64 0] 123)) W) => normal_any ⟨kind, int, str, 0⟩ W hs (utf8_stay HU.out (HC.out.trans' hc)))
  generalize (w.alloc (.cells #[.int .i64 kind, .int .i64 int, .string str, .slice pk nk ck, .slice pd nd cd] 85)).alloc (.cells #[.int .i64 kind, .int .i64 int, .string str, .int .i64 0] 123) = w4 at *
  generalize w.heap.size + 1 = b3 at *
  generalize w.heap.size = b1 at *
  generalize normM ⟨kind, int, str, 0⟩ = nv at *
  have HS0 : Hid (w4.cell? ⟨b1, 0, none⟩ = some (.int .i64 kind) ∧ w4.cell? ⟨b1, 3, none⟩ = some (.slice pk nk ck) ∧ w4.cell? ⟨b1, 4, none⟩ = some (.slice pd nd cd) ∧ w4.cell? ⟨b3, 0, none⟩ = some (.int .i64 kind) ∧ w4.cell? ⟨b3, 1, none⟩ = some (.int .i64 int) ∧ w4.cell? ⟨b3, 2, none⟩ = some (.string str) ∧ w4.cell? ⟨b3, 3, none⟩ = some (.int .i64 0)) := Lib.hid ⟨cell_of_block HB1.out rfl, cell_of_block HB1.out rfl, cell_of_block HB1.out rfl, cell_of_block HB3.out rfl, cell_of_block HB3.out rfl, cell_of_block HB3.out rfl, cell_of_block HB3.out rfl⟩
  refine wp_region_held_split 21 (fun w' => w'.cell? ⟨b1, 0, none⟩ = some (.int .i64 kind) ∧ w'.cell? ⟨b1, 3, none⟩ = some (.slice pk nk ck) ∧ w'.cell? ⟨b1, 4, none⟩ = some (.slice pd nd cd) ∧ w'.cell? ⟨b3, 0, none⟩ = some (.int .i64 kind) ∧ w'.cell? ⟨b3, 1, none⟩ = some (.int .i64 int) ∧ w'.cell? ⟨b3, 2, none⟩ = some (.string str) ∧ w'.cell? ⟨b3, 3, none⟩ = some (.int .i64 0)) (by kernel_rfl) (by kernel_rfl) ?_ (fun hHeld => ?_)
  · (first | exact HS0.out | exact HKS.out _ (Chg.refl _ _) | exact zc)
  simp only [List.take_succ_cons, List.take_zero]
  have HKS : Hid (∀ W, Chg (fun _ => False) w4.drew W → W.cell? ⟨b1, 0, none⟩ = some (.int .i64 kind) ∧ W.cell? ⟨b1, 3, none⟩ = some (.slice pk nk ck) ∧ W.cell? ⟨b1, 4, none⟩ = some (.slice pd nd cd) ∧ W.cell? ⟨b3, 0, none⟩ = some (.int .i64 kind) ∧ W.cell? ⟨b3, 1, none⟩ = some (.int .i64 int) ∧ W.cell? ⟨b3, 2, none⟩ = some (.string str) ∧ W.cell? ⟨b3, 3, none⟩ = some (.int .i64 0)) := Lib.hid (fun W hc => ⟨hc.cell HS0.out.1, hc.cell HS0.out.2.1, hc.cell HS0.out.2.2.1, hc.cell HS0.out.2.2.2.1, hc.cell HS0.out.2.2.2.2.1, hc.cell HS0.out.2.2.2.2.2.1, hc.cell HS0.out.2.2.2.2.2.2⟩)
  have HWD : Hid (Chg (fun _ => False) w4 w4.drew) := Lib.hid (Chg.refl _ w4).drewR
  generalize w4.drew = wD at *
  refine wpAnyH_take (i := 0) (v := ?_) rfl (by kernel_rfl) (by kernel_rfl) (by kernel_rfl) (fun _ _ _ h => h) (Or.inl ⟨by rfl, ?_⟩) (by assumption) ?_
  rotate_left
  · (intro wq hSw; (try dsimp only at hSw); go_simp; (try with_reducible rfl))
  simp only [Act.put, List.getElem_toArray, List.getElem_cons_zero, List.getElem_cons_succ, List.setIfInBounds_toArray, List.set_cons_zero, List.set_cons_succ]
  refine wpAnyH_take (i := 1) (v := ?_) rfl (by kernel_rfl) (by kernel_rfl) (by kernel_rfl) (fun _ _ _ h => h) (Or.inl ⟨by rfl, ?_⟩) (by assumption) ?_
  rotate_left
  · (intro wq hSw; (try dsimp only at hSw); go_simp; (try with_reducible rfl))
  simp only [Act.put, List.getElem_toArray, List.getElem_cons_zero, List.getElem_cons_succ, List.setIfInBounds_toArray, List.set_cons_zero, List.set_cons_succ]
  refine wpAnyH_take (i := 2) (v := ?_) rfl (by kernel_rfl) (by kernel_rfl) (by kernel_rfl) (fun _ _ _ h => h) (Or.inl ⟨by rfl, ?_⟩) (by assumption) ?_
  rotate_left
  · (intro wq hSw; (try dsimp only at hSw); go_simp; (try with_reducible rfl))
  simp only [Act.put, List.getElem_toArray, List.getElem_cons_zero, List.getElem_cons_succ, List.setIfInBounds_toArray, List.set_cons_zero, List.set_cons_succ]
  refine wpAnyH_take (i := 3) (v := ?_) rfl (by kernel_rfl) (by kernel_rfl) (by kernel_rfl) (fun _ _ _ h => h) (Or.inl ⟨by rfl, ?_⟩) (by assumption) ?_
  rotate_left
  · (intro wq hSw; (try dsimp only at hSw); go_simp; (try with_reducible rfl))
  simp only [Act.put, List.getElem_toArray, List.getElem_cons_zero, List.getElem_cons_succ, List.setIfInBounds_toArray, List.set_cons_zero, List.set_cons_succ]
  first
  | (refine wpAnyH_take (i := 4) (v := undef) rfl (by kernel_rfl) (by kernel_rfl) (by kernel_rfl) (fun _ _ _ h => h) (Or.inr ⟨by rfl, rfl⟩) (by assumption) ?_)
  | (refine wpAnyH_take (i := 4) (v := ?_) rfl (by kernel_rfl) (by kernel_rfl) (by kernel_rfl) (fun _ _ _ h => h) (Or.inl ⟨by rfl, ?_⟩) (by assumption) ?_; rotate_left; (focus (intro wq hSw; (try dsimp only at hSw); go_simp; (try with_reducible rfl))))
  simp only [Act.put, List.getElem_toArray, List.getElem_cons_zero, List.getElem_cons_succ, List.setIfInBounds_toArray, List.set_cons_zero, List.set_cons_succ]
  first
  | (refine wpAnyH_take (i := 6) (v := undef) rfl (by kernel_rfl) (by kernel_rfl) (by kernel_rfl) (fun _ _ _ h => h) (Or.inr ⟨by rfl, rfl⟩) (by assumption) ?_)
  | (refine wpAnyH_take (i := 6) (v := ?_) rfl (by kernel_rfl) (by kernel_rfl) (by kernel_rfl) (fun _ _ _ h => h) (Or.inl ⟨by rfl, ?_⟩) (by assumption) ?_; rotate_left; (focus (intro wq hSw; (try dsimp only at hSw); go_simp; (try with_reducible rfl))))
  simp only [Act.put, List.getElem_toArray, List.getElem_cons_zero, List.getElem_cons_succ, List.setIfInBounds_toArray, List.set_cons_zero, List.set_cons_succ]
  refine wpAnyH_ready (rs := [5]) (by kernel_rfl) (by simp) ?_
  refine AllReadyH.cons (by simp only [List.getElem?_toArray, List.getElem?_cons_succ, List.getElem?_cons_zero]; rfl) (fun K hK => ?_) AllReadyH.nil
  go_simp
  refine hK.out _ _ ?_ (fun hHeld => ?_)
  · (first | exact HS0.out | exact HKS.out _ (Chg.refl _ _) | exact zc)
  clear hK K
  (try simp only [Act.put, List.getElem_toArray, List.getElem_cons_zero, List.getElem_cons_succ, List.setIfInBounds_toArray, List.set_cons_zero, List.set_cons_succ])
  first
  | (refine wpAnyH_take (i := 7) (v := undef) rfl (by kernel_rfl) (by kernel_rfl) (by kernel_rfl) (fun _ _ _ h => h) (Or.inr ⟨by rfl, rfl⟩) (by assumption) ?_)
  | (refine wpAnyH_take (i := 7) (v := ?_) rfl (by kernel_rfl) (by kernel_rfl) (by kernel_rfl) (fun _ _ _ h => h) (Or.inl ⟨by rfl, ?_⟩) (by assumption) ?_; rotate_left; (focus (intro wq hSw; (try dsimp only at hSw); go_simp; (try with_reducible rfl))))
  simp only [Act.put, List.getElem_toArray, List.getElem_cons_zero, List.getElem_cons_succ, List.setIfInBounds_toArray, List.set_cons_zero, List.set_cons_succ]
  refine wpAnyH_take (i := 8) (v := ?_) rfl (by kernel_rfl) (by kernel_rfl) (by kernel_rfl) (fun _ _ _ h => h) (Or.inl ⟨by rfl, ?_⟩) (by assumption) ?_
  rotate_left
  · (intro wq hSw; (try dsimp only at hSw); go_simp; (try with_reducible rfl))
  simp only [Act.put, List.getElem_toArray, List.getElem_cons_zero, List.getElem_cons_succ, List.setIfInBounds_toArray, List.set_cons_zero, List.set_cons_succ]
  refine wpAnyH_take (i := 9) (v := ?_) rfl (by kernel_rfl) (by kernel_rfl) (by kernel_rfl) (fun _ _ _ h => h) (Or.inl ⟨by rfl, ?_⟩) (by assumption) ?_
  rotate_left
  · (intro wq hSw; (try dsimp only at hSw); go_simp; (try with_reducible rfl))
  simp only [Act.put, List.getElem_toArray, List.getElem_cons_zero, List.getElem_cons_succ, List.setIfInBounds_toArray, List.set_cons_zero, List.set_cons_succ]
  first
  | (refine wpAnyH_take (i := 10) (v := undef) rfl (by kernel_rfl) (by kernel_rfl) (by kernel_rfl) (fun _ _ _ h => h) (Or.inr ⟨by rfl, rfl⟩) (by assumption) ?_)
  | (refine wpAnyH_take (i := 10) (v := ?_) rfl (by kernel_rfl) (by kernel_rfl) (by kernel_rfl) (fun _ _ _ h => h) (Or.inl ⟨by rfl, ?_⟩) (by assumption) ?_; rotate_left; (focus (intro wq hSw; (try dsimp only at hSw); go_simp; (try with_reducible rfl))))
  simp only [Act.put, List.getElem_toArray, List.getElem_cons_zero, List.getElem_cons_succ, List.setIfInBounds_toArray, List.set_cons_zero, List.set_cons_succ]
  first
  | (refine wpAnyH_take (i := 11) (v := undef) rfl (by kernel_rfl) (by kernel_rfl) (by kernel_rfl) (fun _ _ _ h => h) (Or.inr ⟨by rfl, rfl⟩) (by assumption) ?_)
  | (refine wpAnyH_take (i := 11) (v := ?_) rfl (by kernel_rfl) (by kernel_rfl) (by kernel_rfl) (fun _ _ _ h => h) (Or.inl ⟨by rfl, ?_⟩) (by assumption) ?_; rotate_left; (focus (intro wq hSw; (try dsimp only at hSw); go_simp; (try with_reducible rfl))))
  simp only [Act.put, List.getElem_toArray, List.getElem_cons_zero, List.getElem_cons_succ, List.setIfInBounds_toArray, List.set_cons_zero, List.set_cons_succ]
  first
  | (refine wpAnyH_take (i := 12) (v := undef) rfl (by kernel_rfl) (by kernel_rfl) (by kernel_rfl) (fun _ _ _ h => h) (Or.inr ⟨by rfl, rfl⟩) (by assumption) ?_)
  | (refine wpAnyH_take (i := 12) (v := ?_) rfl (by kernel_rfl) (by kernel_rfl) (by kernel_rfl) (fun _ _ _ h => h) (Or.inl ⟨by rfl, ?_⟩) (by assumption) ?_; rotate_left; (focus (intro wq hSw; (try dsimp only at hSw); go_simp; (try with_reducible rfl))))
  simp only [Act.put, List.getElem_toArray, List.getElem_cons_zero, List.getElem_cons_succ, List.setIfInBounds_toArray, List.set_cons_zero, List.set_cons_succ]
  first
  | (refine wpAnyH_take (i := 13) (v := undef) rfl (by kernel_rfl) (by kernel_rfl) (by kernel_rfl) (fun _ _ _ h => h) (Or.inr ⟨by rfl, rfl⟩) (by assumption) ?_)
  | (refine wpAnyH_take (i := 13) (v := ?_) rfl (by kernel_rfl) (by kernel_rfl) (by kernel_rfl) (fun _ _ _ h => h) (Or.inl ⟨by rfl, ?_⟩) (by assumption) ?_; rotate_left; (focus (intro wq hSw; (try dsimp only at hSw); go_simp; (try with_reducible rfl))))
  simp only [Act.put, List.getElem_toArray, List.getElem_cons_zero, List.getElem_cons_succ, List.setIfInBounds_toArray, List.set_cons_zero, List.set_cons_succ]
  refine wpAnyH_take (i := 14) (v := ?_) rfl (by kernel_rfl) (by kernel_rfl) (by kernel_rfl) (fun _ _ _ h => h) (Or.inl ⟨by rfl, ?_⟩) (by assumption) ?_
  rotate_left
  · (intro wq hSw; (try dsimp only at hSw); go_simp; (try with_reducible rfl))
  simp only [Act.put, List.getElem_toArray, List.getElem_cons_zero, List.getElem_cons_succ, List.setIfInBounds_toArray, List.set_cons_zero, List.set_cons_succ]
  refine wpAnyH_take (i := 15) (v := ?_) rfl (by kernel_rfl) (by kernel_rfl) (by kernel_rfl) (fun _ _ _ h => h) (Or.inl ⟨by rfl, ?_⟩) (by assumption) ?_
  rotate_left
  · (intro wq hSw; (try dsimp only at hSw); go_simp; (try with_reducible rfl))
  simp only [Act.put, List.getElem_toArray, List.getElem_cons_zero, List.getElem_cons_succ, List.setIfInBounds_toArray, List.set_cons_zero, List.set_cons_succ]
  first
  | (refine wpAnyH_take (i := 16) (v := undef) rfl (by kernel_rfl) (by kernel_rfl) (by kernel_rfl) (fun _ _ _ h => h) (Or.inr ⟨by rfl, rfl⟩) (by assumption) ?_)
  | (refine wpAnyH_take (i := 16) (v := ?_) rfl (by kernel_rfl) (by kernel_rfl) (by kernel_rfl) (fun _ _ _ h => h) (Or.inl ⟨by rfl, ?_⟩) (by assumption) ?_; rotate_left; (focus (intro wq hSw; (try dsimp only at hSw); go_simp; (try with_reducible rfl))))
  simp only [Act.put, List.getElem_toArray, List.getElem_cons_zero, List.getElem_cons_succ, List.setIfInBounds_toArray, List.set_cons_zero, List.set_cons_succ]
  first
  | (refine wpAnyH_take (i := 17) (v := undef) rfl (by kernel_rfl) (by kernel_rfl) (by kernel_rfl) (fun _ _ _ h => h) (Or.inr ⟨by rfl, rfl⟩) (by assumption) ?_)
  | (refine wpAnyH_take (i := 17) (v := ?_) rfl (by kernel_rfl) (by kernel_rfl) (by kernel_rfl) (fun _ _ _ h => h) (Or.inl ⟨by rfl, ?_⟩) (by assumption) ?_; rotate_left; (focus (intro wq hSw; (try dsimp only at hSw); go_simp; (try with_reducible rfl))))
  simp only [Act.put, List.getElem_toArray, List.getElem_cons_zero, List.getElem_cons_succ, List.setIfInBounds_toArray, List.set_cons_zero, List.set_cons_succ]
  first
  | (refine wpAnyH_take (i := 18) (v := undef) rfl (by kernel_rfl) (by kernel_rfl) (by kernel_rfl) (fun _ _ _ h => h) (Or.inr ⟨by rfl, rfl⟩) (by assumption) ?_)
  | (refine wpAnyH_take (i := 18) (v := ?_) rfl (by kernel_rfl) (by kernel_rfl) (by kernel_rfl) (fun _ _ _ h => h) (Or.inl ⟨by rfl, ?_⟩) (by assumption) ?_; rotate_left; (focus (intro wq hSw; (try dsimp only at hSw); go_simp; (try with_reducible rfl))))
  simp only [Act.put, List.getElem_toArray, List.getElem_cons_zero, List.getElem_cons_succ, List.setIfInBounds_toArray, List.set_cons_zero, List.set_cons_succ]
  first
  | (refine wpAnyH_take (i := 19) (v := undef) rfl (by kernel_rfl) (by kernel_rfl) (by kernel_rfl) (fun _ _ _ h => h) (Or.inr ⟨by rfl, rfl⟩) (by assumption) ?_)
  | (refine wpAnyH_take (i := 19) (v := ?_) rfl (by kernel_rfl) (by kernel_rfl) (by kernel_rfl) (fun _ _ _ h => h) (Or.inl ⟨by rfl, ?_⟩) (by assumption) ?_; rotate_left; (focus (intro wq hSw; (try dsimp only at hSw); go_simp; (try with_reducible rfl))))
  simp only [Act.put, List.getElem_toArray, List.getElem_cons_zero, List.getElem_cons_succ, List.setIfInBounds_toArray, List.set_cons_zero, List.set_cons_succ]
  refine wpAnyH_take (i := 20) (v := ?_) rfl (by kernel_rfl) (by kernel_rfl) (by kernel_rfl) (fun _ _ _ h => h) (Or.inl ⟨by rfl, ?_⟩) (by assumption) ?_
  rotate_left
  · (intro wq hSw; (try dsimp only at hSw); go_simp; (try with_reducible rfl))
  simp only [Act.put, List.getElem_toArray, List.getElem_cons_zero, List.getElem_cons_succ, List.setIfInBounds_toArray, List.set_cons_zero, List.set_cons_succ]
  refine wpAnyH_done (by kernel_rfl) ?_ _
  change wpList _ _ _ _ _ _
  simp only [List.drop_succ_cons, List.drop_zero]
  go_wp2_with fail
  go_ret
  exact ⟨by first | rfl | simp, HC.out.trans' HWD.out⟩
set_option maxHeartbeats 3200000 in
set_option maxRecDepth 100000 in
theorem formed_int (w : World) (kind int : Int) (str : ByteArray) (pk pd : Option Addr) (nk ck nd cd : Nat) (hU : Lib.Utf8Tabs 0 1 w) (hs : str.size ≤ 35184372088832) (h4 : kind ≤ 4) (h0 : 0 ≤ kind) (hk : (normM ⟨kind, int, str, 0⟩).kind = kind) (hr : (normM ⟨kind, int, str, 0⟩).ref = 0) (hi : ¬ (normM ⟨kind, int, str, 0⟩).int = int) :
    Calls Tryd.prog 68 #[.agg #[.int .i64 kind, .int .i64 int, .string str, .slice pk nk ck, .slice pd nd cd]] w fun e w' => e = .returned (.bool false) ∧ Chg (fun _ => False) w w' := by
  have HC := Lib.hid ((Chg.alloc (fun _ => False) w (.cells #[.int .i64 kind, .int .i64 int, .string str, .slice pk nk ck, .slice pd nd cd] 85)).allocR (.cells #[.int .i64 kind, .int .i64 int, .string str, .int .i64 0] 123))
  have HB1 := Lib.hid (alloc_old (.cells #[.int .i64 kind, .int .i64 int, .string str, .int .i64 0] 123) (alloc_block w (.cells #[.int .i64 kind, .int .i64 int, .string str, .slice pk nk ck, .slice pd nd cd] 85)))
  have hb3 := alloc_block (w.alloc (.cells #[.int .i64 kind, .int .i64 int, .string str, .slice pk nk ck, .slice pd nd cd] 85)) (.cells #[.int .i64 kind, .int .i64 int, .string str, .int .i64 0] 123)
  rw [World.size_alloc] at hb3
  have HB3 := Lib.hid hb3
  have HU := Lib.hid hU
  clear hb3 hU
  go_enter Tryd.func68, Tryd.ntmps68
  go_upto_region 3 with fail
  have HNM := Lib.hid (fun W (hc : Chg (fun _ => False) ((w.alloc (.cells #[.int .i64 kind, .int .i64 int, .string str, .slice pk nk ck, .slice pd nd cd] 85)).alloc (.cells #[.int .i64 kind, .int .i64 int, .string str, .int .i64 0] 123)) W) => normal_any ⟨kind, int, str, 0⟩ W hs (utf8_stay HU.out (HC.out.trans' hc)))
  generalize (w.alloc (.cells #[.int .i64 kind, .int .i64 int, .string str, .slice pk nk ck, .slice pd nd cd] 85)).alloc (.cells #[.int .i64 kind, .int .i64 int, .string str, .int .i64 0] 123) = w4 at *
  generalize w.heap.size + 1 = b3 at *
  generalize w.heap.size = b1 at *
  generalize normM ⟨kind, int, str, 0⟩ = nv at *
  have HS0 : Hid (w4.cell? ⟨b1, 0, none⟩ = some (.int .i64 kind) ∧ w4.cell? ⟨b1, 3, none⟩ = some (.slice pk nk ck) ∧ w4.cell? ⟨b1, 4, none⟩ = some (.slice pd nd cd) ∧ w4.cell? ⟨b3, 0, none⟩ = some (.int .i64 kind) ∧ w4.cell? ⟨b3, 1, none⟩ = some (.int .i64 int) ∧ w4.cell? ⟨b3, 2, none⟩ = some (.string str) ∧ w4.cell? ⟨b3, 3, none⟩ = some (.int .i64 0)) := Lib.hid ⟨cell_of_block HB1.out rfl, cell_of_block HB1.out rfl, cell_of_block HB1.out rfl, cell_of_block HB3.out rfl, cell_of_block HB3.out rfl, cell_of_block HB3.out rfl, cell_of_block HB3.out rfl⟩
  refine wp_region_held_split 21 (fun w' => w'.cell? ⟨b1, 0, none⟩ = some (.int .i64 kind) ∧ w'.cell? ⟨b1, 3, none⟩ = some (.slice pk nk ck) ∧ w'.cell? ⟨b1, 4, none⟩ = some (.slice pd nd cd) ∧ w'.cell? ⟨b3, 0, none⟩ = some (.int .i64 kind) ∧ w'.cell? ⟨b3, 1, none⟩ = some (.int .i64 int) ∧ w'.cell? ⟨b3, 2, none⟩ = some (.string str) ∧ w'.cell? ⟨b3, 3, none⟩ = some (.int .i64 0)) (by kernel_rfl) (by kernel_rfl) ?_ (fun hHeld => ?_)
  · (first | exact HS0.out | exact HKS.out _ (Chg.refl _ _) | exact zc)
  simp only [List.take_succ_cons, List.take_zero]
  have HKS : Hid (∀ W, Chg (fun _ => False) w4.drew W → W.cell? ⟨b1, 0, none⟩ = some (.int .i64 kind) ∧ W.cell? ⟨b1, 3, none⟩ = some (.slice pk nk ck) ∧ W.cell? ⟨b1, 4, none⟩ = some (.slice pd nd cd) ∧ W.cell? ⟨b3, 0, none⟩ = some (.int .i64 kind) ∧ W.cell? ⟨b3, 1, none⟩ = some (.int .i64 int) ∧ W.cell? ⟨b3, 2, none⟩ = some (.string str) ∧ W.cell? ⟨b3, 3, none⟩ = some (.int .i64 0)) := Lib.hid (fun W hc => ⟨hc.cell HS0.out.1, hc.cell HS0.out.2.1, hc.cell HS0.out.2.2.1, hc.cell HS0.out.2.2.2.1, hc.cell HS0.out.2.2.2.2.1, hc.cell HS0.out.2.2.2.2.2.1, hc.cell HS0.out.2.2.2.2.2.2⟩)
  have HWD : Hid (Chg (fun _ => False) w4 w4.drew) := Lib.hid (Chg.refl _ w4).drewR
  generalize w4.drew = wD at *
  refine wpAnyH_take (i := 0) (v := ?_) rfl (by kernel_rfl) (by kernel_rfl) (by kernel_rfl) (fun _ _ _ h => h) (Or.inl ⟨by rfl, ?_⟩) (by assumption) ?_
  rotate_left
  · (intro wq hSw; (try dsimp only at hSw); go_simp; (try with_reducible rfl))
  simp only [Act.put, List.getElem_toArray, List.getElem_cons_zero, List.getElem_cons_succ, List.setIfInBounds_toArray, List.set_cons_zero, List.set_cons_succ]
  refine wpAnyH_take (i := 1) (v := ?_) rfl (by kernel_rfl) (by kernel_rfl) (by kernel_rfl) (fun _ _ _ h => h) (Or.inl ⟨by rfl, ?_⟩) (by assumption) ?_
  rotate_left
  · (intro wq hSw; (try dsimp only at hSw); go_simp; (try with_reducible rfl))
  simp only [Act.put, List.getElem_toArray, List.getElem_cons_zero, List.getElem_cons_succ, List.setIfInBounds_toArray, List.set_cons_zero, List.set_cons_succ]
  refine wpAnyH_take (i := 2) (v := ?_) rfl (by kernel_rfl) (by kernel_rfl) (by kernel_rfl) (fun _ _ _ h => h) (Or.inl ⟨by rfl, ?_⟩) (by assumption) ?_
  rotate_left
  · (intro wq hSw; (try dsimp only at hSw); go_simp; (try with_reducible rfl))
  simp only [Act.put, List.getElem_toArray, List.getElem_cons_zero, List.getElem_cons_succ, List.setIfInBounds_toArray, List.set_cons_zero, List.set_cons_succ]
  refine wpAnyH_take (i := 3) (v := ?_) rfl (by kernel_rfl) (by kernel_rfl) (by kernel_rfl) (fun _ _ _ h => h) (Or.inl ⟨by rfl, ?_⟩) (by assumption) ?_
  rotate_left
  · (intro wq hSw; (try dsimp only at hSw); go_simp; (try with_reducible rfl))
  simp only [Act.put, List.getElem_toArray, List.getElem_cons_zero, List.getElem_cons_succ, List.setIfInBounds_toArray, List.set_cons_zero, List.set_cons_succ]
  first
  | (refine wpAnyH_take (i := 4) (v := undef) rfl (by kernel_rfl) (by kernel_rfl) (by kernel_rfl) (fun _ _ _ h => h) (Or.inr ⟨by rfl, rfl⟩) (by assumption) ?_)
  | (refine wpAnyH_take (i := 4) (v := ?_) rfl (by kernel_rfl) (by kernel_rfl) (by kernel_rfl) (fun _ _ _ h => h) (Or.inl ⟨by rfl, ?_⟩) (by assumption) ?_; rotate_left; (focus (intro wq hSw; (try dsimp only at hSw); go_simp; (try with_reducible rfl))))
  simp only [Act.put, List.getElem_toArray, List.getElem_cons_zero, List.getElem_cons_succ, List.setIfInBounds_toArray, List.set_cons_zero, List.set_cons_succ]
  first
  | (refine wpAnyH_take (i := 6) (v := undef) rfl (by kernel_rfl) (by kernel_rfl) (by kernel_rfl) (fun _ _ _ h => h) (Or.inr ⟨by rfl, rfl⟩) (by assumption) ?_)
  | (refine wpAnyH_take (i := 6) (v := ?_) rfl (by kernel_rfl) (by kernel_rfl) (by kernel_rfl) (fun _ _ _ h => h) (Or.inl ⟨by rfl, ?_⟩) (by assumption) ?_; rotate_left; (focus (intro wq hSw; (try dsimp only at hSw); go_simp; (try with_reducible rfl))))
  simp only [Act.put, List.getElem_toArray, List.getElem_cons_zero, List.getElem_cons_succ, List.setIfInBounds_toArray, List.set_cons_zero, List.set_cons_succ]
  refine wpAnyH_ready (rs := [5]) (by kernel_rfl) (by simp) ?_
  refine AllReadyH.cons (by simp only [List.getElem?_toArray, List.getElem?_cons_succ, List.getElem?_cons_zero]; rfl) (fun K hK => ?_) AllReadyH.nil
  (go_simp; go_at_call 86; refine (HNM.out _ HWD.out).mono ?_; rintro _ wd ⟨rfl, hcd⟩; have HCD := Lib.hid hcd; have zc := HKS.out _ hcd; clear hcd; go_simp)
  refine hK.out _ _ ?_ (fun hHeld => ?_)
  · (first | exact HS0.out | exact HKS.out _ (Chg.refl _ _) | exact zc)
  clear hK K
  (try simp only [Act.put, List.getElem_toArray, List.getElem_cons_zero, List.getElem_cons_succ, List.setIfInBounds_toArray, List.set_cons_zero, List.set_cons_succ])
  first
  | (refine wpAnyH_take (i := 7) (v := undef) rfl (by kernel_rfl) (by kernel_rfl) (by kernel_rfl) (fun _ _ _ h => h) (Or.inr ⟨by rfl, rfl⟩) (by assumption) ?_)
  | (refine wpAnyH_take (i := 7) (v := ?_) rfl (by kernel_rfl) (by kernel_rfl) (by kernel_rfl) (fun _ _ _ h => h) (Or.inl ⟨by rfl, ?_⟩) (by assumption) ?_; rotate_left; (focus (intro wq hSw; (try dsimp only at hSw); go_simp; (try with_reducible rfl))))
  simp only [Act.put, List.getElem_toArray, List.getElem_cons_zero, List.getElem_cons_succ, List.setIfInBounds_toArray, List.set_cons_zero, List.set_cons_succ]
  refine wpAnyH_take (i := 8) (v := ?_) rfl (by kernel_rfl) (by kernel_rfl) (by kernel_rfl) (fun _ _ _ h => h) (Or.inl ⟨by rfl, ?_⟩) (by assumption) ?_
  rotate_left
  · (intro wq hSw; (try dsimp only at hSw); go_simp; (try with_reducible rfl))
  simp only [Act.put, List.getElem_toArray, List.getElem_cons_zero, List.getElem_cons_succ, List.setIfInBounds_toArray, List.set_cons_zero, List.set_cons_succ]
  refine wpAnyH_take (i := 9) (v := ?_) rfl (by kernel_rfl) (by kernel_rfl) (by kernel_rfl) (fun _ _ _ h => h) (Or.inl ⟨by rfl, ?_⟩) (by assumption) ?_
  rotate_left
  · (intro wq hSw; (try dsimp only at hSw); go_simp; (try with_reducible rfl))
  simp only [Act.put, List.getElem_toArray, List.getElem_cons_zero, List.getElem_cons_succ, List.setIfInBounds_toArray, List.set_cons_zero, List.set_cons_succ]
  first
  | (refine wpAnyH_take (i := 10) (v := undef) rfl (by kernel_rfl) (by kernel_rfl) (by kernel_rfl) (fun _ _ _ h => h) (Or.inr ⟨by rfl, rfl⟩) (by assumption) ?_)
  | (refine wpAnyH_take (i := 10) (v := ?_) rfl (by kernel_rfl) (by kernel_rfl) (by kernel_rfl) (fun _ _ _ h => h) (Or.inl ⟨by rfl, ?_⟩) (by assumption) ?_; rotate_left; (focus (intro wq hSw; (try dsimp only at hSw); go_simp; (try with_reducible rfl))))
  simp only [Act.put, List.getElem_toArray, List.getElem_cons_zero, List.getElem_cons_succ, List.setIfInBounds_toArray, List.set_cons_zero, List.set_cons_succ]
  first
  | (refine wpAnyH_take (i := 11) (v := undef) rfl (by kernel_rfl) (by kernel_rfl) (by kernel_rfl) (fun _ _ _ h => h) (Or.inr ⟨by rfl, rfl⟩) (by assumption) ?_)
  | (refine wpAnyH_take (i := 11) (v := ?_) rfl (by kernel_rfl) (by kernel_rfl) (by kernel_rfl) (fun _ _ _ h => h) (Or.inl ⟨by rfl, ?_⟩) (by assumption) ?_; rotate_left; (focus (intro wq hSw; (try dsimp only at hSw); go_simp; (try with_reducible rfl))))
  simp only [Act.put, List.getElem_toArray, List.getElem_cons_zero, List.getElem_cons_succ, List.setIfInBounds_toArray, List.set_cons_zero, List.set_cons_succ]
  first
  | (refine wpAnyH_take (i := 12) (v := undef) rfl (by kernel_rfl) (by kernel_rfl) (by kernel_rfl) (fun _ _ _ h => h) (Or.inr ⟨by rfl, rfl⟩) (by assumption) ?_)
  | (refine wpAnyH_take (i := 12) (v := ?_) rfl (by kernel_rfl) (by kernel_rfl) (by kernel_rfl) (fun _ _ _ h => h) (Or.inl ⟨by rfl, ?_⟩) (by assumption) ?_; rotate_left; (focus (intro wq hSw; (try dsimp only at hSw); go_simp; (try with_reducible rfl))))
  simp only [Act.put, List.getElem_toArray, List.getElem_cons_zero, List.getElem_cons_succ, List.setIfInBounds_toArray, List.set_cons_zero, List.set_cons_succ]
  first
  | (refine wpAnyH_take (i := 13) (v := undef) rfl (by kernel_rfl) (by kernel_rfl) (by kernel_rfl) (fun _ _ _ h => h) (Or.inr ⟨by rfl, rfl⟩) (by assumption) ?_)
  | (refine wpAnyH_take (i := 13) (v := ?_) rfl (by kernel_rfl) (by kernel_rfl) (by kernel_rfl) (fun _ _ _ h => h) (Or.inl ⟨by rfl, ?_⟩) (by assumption) ?_; rotate_left; (focus (intro wq hSw; (try dsimp only at hSw); go_simp; (try with_reducible rfl))))
  simp only [Act.put, List.getElem_toArray, List.getElem_cons_zero, List.getElem_cons_succ, List.setIfInBounds_toArray, List.set_cons_zero, List.set_cons_succ]
  refine wpAnyH_take (i := 14) (v := ?_) rfl (by kernel_rfl) (by kernel_rfl) (by kernel_rfl) (fun _ _ _ h => h) (Or.inl ⟨by rfl, ?_⟩) (by assumption) ?_
  rotate_left
  · (intro wq hSw; (try dsimp only at hSw); go_simp; (try with_reducible rfl))
  simp only [Act.put, List.getElem_toArray, List.getElem_cons_zero, List.getElem_cons_succ, List.setIfInBounds_toArray, List.set_cons_zero, List.set_cons_succ]
  refine wpAnyH_take (i := 15) (v := ?_) rfl (by kernel_rfl) (by kernel_rfl) (by kernel_rfl) (fun _ _ _ h => h) (Or.inl ⟨by rfl, ?_⟩) (by assumption) ?_
  rotate_left
  · (intro wq hSw; (try dsimp only at hSw); go_simp; (try with_reducible rfl))
  simp only [Act.put, List.getElem_toArray, List.getElem_cons_zero, List.getElem_cons_succ, List.setIfInBounds_toArray, List.set_cons_zero, List.set_cons_succ]
  first
  | (refine wpAnyH_take (i := 16) (v := undef) rfl (by kernel_rfl) (by kernel_rfl) (by kernel_rfl) (fun _ _ _ h => h) (Or.inr ⟨by rfl, rfl⟩) (by assumption) ?_)
  | (refine wpAnyH_take (i := 16) (v := ?_) rfl (by kernel_rfl) (by kernel_rfl) (by kernel_rfl) (fun _ _ _ h => h) (Or.inl ⟨by rfl, ?_⟩) (by assumption) ?_; rotate_left; (focus (intro wq hSw; (try dsimp only at hSw); go_simp; (try with_reducible rfl))))
  simp only [Act.put, List.getElem_toArray, List.getElem_cons_zero, List.getElem_cons_succ, List.setIfInBounds_toArray, List.set_cons_zero, List.set_cons_succ]
  first
  | (refine wpAnyH_take (i := 17) (v := undef) rfl (by kernel_rfl) (by kernel_rfl) (by kernel_rfl) (fun _ _ _ h => h) (Or.inr ⟨by rfl, rfl⟩) (by assumption) ?_)
  | (refine wpAnyH_take (i := 17) (v := ?_) rfl (by kernel_rfl) (by kernel_rfl) (by kernel_rfl) (fun _ _ _ h => h) (Or.inl ⟨by rfl, ?_⟩) (by assumption) ?_; rotate_left; (focus (intro wq hSw; (try dsimp only at hSw); go_simp; (try with_reducible rfl))))
  simp only [Act.put, List.getElem_toArray, List.getElem_cons_zero, List.getElem_cons_succ, List.setIfInBounds_toArray, List.set_cons_zero, List.set_cons_succ]
  first
  | (refine wpAnyH_take (i := 18) (v := undef) rfl (by kernel_rfl) (by kernel_rfl) (by kernel_rfl) (fun _ _ _ h => h) (Or.inr ⟨by rfl, rfl⟩) (by assumption) ?_)
  | (refine wpAnyH_take (i := 18) (v := ?_) rfl (by kernel_rfl) (by kernel_rfl) (by kernel_rfl) (fun _ _ _ h => h) (Or.inl ⟨by rfl, ?_⟩) (by assumption) ?_; rotate_left; (focus (intro wq hSw; (try dsimp only at hSw); go_simp; (try with_reducible rfl))))
  simp only [Act.put, List.getElem_toArray, List.getElem_cons_zero, List.getElem_cons_succ, List.setIfInBounds_toArray, List.set_cons_zero, List.set_cons_succ]
  first
  | (refine wpAnyH_take (i := 19) (v := undef) rfl (by kernel_rfl) (by kernel_rfl) (by kernel_rfl) (fun _ _ _ h => h) (Or.inr ⟨by rfl, rfl⟩) (by assumption) ?_)
  | (refine wpAnyH_take (i := 19) (v := ?_) rfl (by kernel_rfl) (by kernel_rfl) (by kernel_rfl) (fun _ _ _ h => h) (Or.inl ⟨by rfl, ?_⟩) (by assumption) ?_; rotate_left; (focus (intro wq hSw; (try dsimp only at hSw); go_simp; (try with_reducible rfl))))
  simp only [Act.put, List.getElem_toArray, List.getElem_cons_zero, List.getElem_cons_succ, List.setIfInBounds_toArray, List.set_cons_zero, List.set_cons_succ]
  refine wpAnyH_take (i := 20) (v := ?_) rfl (by kernel_rfl) (by kernel_rfl) (by kernel_rfl) (fun _ _ _ h => h) (Or.inl ⟨by rfl, ?_⟩) (by assumption) ?_
  rotate_left
  · (intro wq hSw; (try dsimp only at hSw); go_simp; (try with_reducible rfl))
  simp only [Act.put, List.getElem_toArray, List.getElem_cons_zero, List.getElem_cons_succ, List.setIfInBounds_toArray, List.set_cons_zero, List.set_cons_succ]
  refine wpAnyH_done (by kernel_rfl) ?_ _
  change wpList _ _ _ _ _ _
  simp only [List.drop_succ_cons, List.drop_zero]
  go_wp2_with fail
  go_ret
  exact ⟨by first | rfl | simp, HC.out.trans' (HWD.out.trans' HCD.out)⟩
set_option maxHeartbeats 3200000 in
set_option maxRecDepth 100000 in
theorem formed_str (w : World) (kind int : Int) (str : ByteArray) (pk pd : Option Addr) (nk ck nd cd : Nat) (hU : Lib.Utf8Tabs 0 1 w) (hs : str.size ≤ 35184372088832) (h4 : kind ≤ 4) (h0 : 0 ≤ kind) (hk : (normM ⟨kind, int, str, 0⟩).kind = kind) (hr : (normM ⟨kind, int, str, 0⟩).ref = 0) (hi : (normM ⟨kind, int, str, 0⟩).int = int) (ht : ¬ (normM ⟨kind, int, str, 0⟩).str.toList = str.toList) :
    Calls Tryd.prog 68 #[.agg #[.int .i64 kind, .int .i64 int, .string str, .slice pk nk ck, .slice pd nd cd]] w fun e w' => e = .returned (.bool false) ∧ Chg (fun _ => False) w w' := by
  have HC := Lib.hid ((Chg.alloc (fun _ => False) w (.cells #[.int .i64 kind, .int .i64 int, .string str, .slice pk nk ck, .slice pd nd cd] 85)).allocR (.cells #[.int .i64 kind, .int .i64 int, .string str, .int .i64 0] 123))
  have HB1 := Lib.hid (alloc_old (.cells #[.int .i64 kind, .int .i64 int, .string str, .int .i64 0] 123) (alloc_block w (.cells #[.int .i64 kind, .int .i64 int, .string str, .slice pk nk ck, .slice pd nd cd] 85)))
  have hb3 := alloc_block (w.alloc (.cells #[.int .i64 kind, .int .i64 int, .string str, .slice pk nk ck, .slice pd nd cd] 85)) (.cells #[.int .i64 kind, .int .i64 int, .string str, .int .i64 0] 123)
  rw [World.size_alloc] at hb3
  have HB3 := Lib.hid hb3
  have HU := Lib.hid hU
  clear hb3 hU
  go_enter Tryd.func68, Tryd.ntmps68
  go_upto_region 3 with fail
  have HNM := Lib.hid (fun W (hc : Chg (fun _ => False) ((w.alloc (.cells #[.int .i64 kind, .int .i64 int, .string str, .slice pk nk ck, .slice pd nd cd] 85)).alloc (.cells #[.int .i64 kind, .int .i64 int, .string str, .int .i64 0] 123)) W) => normal_any ⟨kind, int, str, 0⟩ W hs (utf8_stay HU.out (HC.out.trans' hc)))
  generalize (w.alloc (.cells #[.int .i64 kind, .int .i64 int, .string str, .slice pk nk ck, .slice pd nd cd] 85)).alloc (.cells #[.int .i64 kind, .int .i64 int, .string str, .int .i64 0] 123) = w4 at *
  generalize w.heap.size + 1 = b3 at *
  generalize w.heap.size = b1 at *
  generalize normM ⟨kind, int, str, 0⟩ = nv at *
  have HS0 : Hid (w4.cell? ⟨b1, 0, none⟩ = some (.int .i64 kind) ∧ w4.cell? ⟨b1, 3, none⟩ = some (.slice pk nk ck) ∧ w4.cell? ⟨b1, 4, none⟩ = some (.slice pd nd cd) ∧ w4.cell? ⟨b3, 0, none⟩ = some (.int .i64 kind) ∧ w4.cell? ⟨b3, 1, none⟩ = some (.int .i64 int) ∧ w4.cell? ⟨b3, 2, none⟩ = some (.string str) ∧ w4.cell? ⟨b3, 3, none⟩ = some (.int .i64 0)) := Lib.hid ⟨cell_of_block HB1.out rfl, cell_of_block HB1.out rfl, cell_of_block HB1.out rfl, cell_of_block HB3.out rfl, cell_of_block HB3.out rfl, cell_of_block HB3.out rfl, cell_of_block HB3.out rfl⟩
  refine wp_region_held_split 21 (fun w' => w'.cell? ⟨b1, 0, none⟩ = some (.int .i64 kind) ∧ w'.cell? ⟨b1, 3, none⟩ = some (.slice pk nk ck) ∧ w'.cell? ⟨b1, 4, none⟩ = some (.slice pd nd cd) ∧ w'.cell? ⟨b3, 0, none⟩ = some (.int .i64 kind) ∧ w'.cell? ⟨b3, 1, none⟩ = some (.int .i64 int) ∧ w'.cell? ⟨b3, 2, none⟩ = some (.string str) ∧ w'.cell? ⟨b3, 3, none⟩ = some (.int .i64 0)) (by kernel_rfl) (by kernel_rfl) ?_ (fun hHeld => ?_)
  · (first | exact HS0.out | exact HKS.out _ (Chg.refl _ _) | exact zc)
  simp only [List.take_succ_cons, List.take_zero]
  have HKS : Hid (∀ W, Chg (fun _ => False) w4.drew W → W.cell? ⟨b1, 0, none⟩ = some (.int .i64 kind) ∧ W.cell? ⟨b1, 3, none⟩ = some (.slice pk nk ck) ∧ W.cell? ⟨b1, 4, none⟩ = some (.slice pd nd cd) ∧ W.cell? ⟨b3, 0, none⟩ = some (.int .i64 kind) ∧ W.cell? ⟨b3, 1, none⟩ = some (.int .i64 int) ∧ W.cell? ⟨b3, 2, none⟩ = some (.string str) ∧ W.cell? ⟨b3, 3, none⟩ = some (.int .i64 0)) := Lib.hid (fun W hc => ⟨hc.cell HS0.out.1, hc.cell HS0.out.2.1, hc.cell HS0.out.2.2.1, hc.cell HS0.out.2.2.2.1, hc.cell HS0.out.2.2.2.2.1, hc.cell HS0.out.2.2.2.2.2.1, hc.cell HS0.out.2.2.2.2.2.2⟩)
  have HWD : Hid (Chg (fun _ => False) w4 w4.drew) := Lib.hid (Chg.refl _ w4).drewR
  generalize w4.drew = wD at *
  refine wpAnyH_take (i := 0) (v := ?_) rfl (by kernel_rfl) (by kernel_rfl) (by kernel_rfl) (fun _ _ _ h => h) (Or.inl ⟨by rfl, ?_⟩) (by assumption) ?_
  rotate_left
  · (intro wq hSw; (try dsimp only at hSw); go_simp; (try with_reducible rfl))
  simp only [Act.put, List.getElem_toArray, List.getElem_cons_zero, List.getElem_cons_succ, List.setIfInBounds_toArray, List.set_cons_zero, List.set_cons_succ]
  refine wpAnyH_take (i := 1) (v := ?_) rfl (by kernel_rfl) (by kernel_rfl) (by kernel_rfl) (fun _ _ _ h => h) (Or.inl ⟨by rfl, ?_⟩) (by assumption) ?_
  rotate_left
  · (intro wq hSw; (try dsimp only at hSw); go_simp; (try with_reducible rfl))
  simp only [Act.put, List.getElem_toArray, List.getElem_cons_zero, List.getElem_cons_succ, List.setIfInBounds_toArray, List.set_cons_zero, List.set_cons_succ]
  refine wpAnyH_take (i := 2) (v := ?_) rfl (by kernel_rfl) (by kernel_rfl) (by kernel_rfl) (fun _ _ _ h => h) (Or.inl ⟨by rfl, ?_⟩) (by assumption) ?_
  rotate_left
  · (intro wq hSw; (try dsimp only at hSw); go_simp; (try with_reducible rfl))
  simp only [Act.put, List.getElem_toArray, List.getElem_cons_zero, List.getElem_cons_succ, List.setIfInBounds_toArray, List.set_cons_zero, List.set_cons_succ]
  refine wpAnyH_take (i := 3) (v := ?_) rfl (by kernel_rfl) (by kernel_rfl) (by kernel_rfl) (fun _ _ _ h => h) (Or.inl ⟨by rfl, ?_⟩) (by assumption) ?_
  rotate_left
  · (intro wq hSw; (try dsimp only at hSw); go_simp; (try with_reducible rfl))
  simp only [Act.put, List.getElem_toArray, List.getElem_cons_zero, List.getElem_cons_succ, List.setIfInBounds_toArray, List.set_cons_zero, List.set_cons_succ]
  first
  | (refine wpAnyH_take (i := 4) (v := undef) rfl (by kernel_rfl) (by kernel_rfl) (by kernel_rfl) (fun _ _ _ h => h) (Or.inr ⟨by rfl, rfl⟩) (by assumption) ?_)
  | (refine wpAnyH_take (i := 4) (v := ?_) rfl (by kernel_rfl) (by kernel_rfl) (by kernel_rfl) (fun _ _ _ h => h) (Or.inl ⟨by rfl, ?_⟩) (by assumption) ?_; rotate_left; (focus (intro wq hSw; (try dsimp only at hSw); go_simp; (try with_reducible rfl))))
  simp only [Act.put, List.getElem_toArray, List.getElem_cons_zero, List.getElem_cons_succ, List.setIfInBounds_toArray, List.set_cons_zero, List.set_cons_succ]
  first
  | (refine wpAnyH_take (i := 6) (v := undef) rfl (by kernel_rfl) (by kernel_rfl) (by kernel_rfl) (fun _ _ _ h => h) (Or.inr ⟨by rfl, rfl⟩) (by assumption) ?_)
  | (refine wpAnyH_take (i := 6) (v := ?_) rfl (by kernel_rfl) (by kernel_rfl) (by kernel_rfl) (fun _ _ _ h => h) (Or.inl ⟨by rfl, ?_⟩) (by assumption) ?_; rotate_left; (focus (intro wq hSw; (try dsimp only at hSw); go_simp; (try with_reducible rfl))))
  simp only [Act.put, List.getElem_toArray, List.getElem_cons_zero, List.getElem_cons_succ, List.setIfInBounds_toArray, List.set_cons_zero, List.set_cons_succ]
  refine wpAnyH_ready (rs := [5]) (by kernel_rfl) (by simp) ?_
  refine AllReadyH.cons (by simp only [List.getElem?_toArray, List.getElem?_cons_succ, List.getElem?_cons_zero]; rfl) (fun K hK => ?_) AllReadyH.nil
  (go_simp; go_at_call 86; refine (HNM.out _ HWD.out).mono ?_; rintro _ wd ⟨rfl, hcd⟩; have HCD := Lib.hid hcd; have zc := HKS.out _ hcd; clear hcd; go_simp)
  refine hK.out _ _ ?_ (fun hHeld => ?_)
  · (first | exact HS0.out | exact HKS.out _ (Chg.refl _ _) | exact zc)
  clear hK K
  (try simp only [Act.put, List.getElem_toArray, List.getElem_cons_zero, List.getElem_cons_succ, List.setIfInBounds_toArray, List.set_cons_zero, List.set_cons_succ])
  first
  | (refine wpAnyH_take (i := 7) (v := undef) rfl (by kernel_rfl) (by kernel_rfl) (by kernel_rfl) (fun _ _ _ h => h) (Or.inr ⟨by rfl, rfl⟩) (by assumption) ?_)
  | (refine wpAnyH_take (i := 7) (v := ?_) rfl (by kernel_rfl) (by kernel_rfl) (by kernel_rfl) (fun _ _ _ h => h) (Or.inl ⟨by rfl, ?_⟩) (by assumption) ?_; rotate_left; (focus (intro wq hSw; (try dsimp only at hSw); go_simp; (try with_reducible rfl))))
  simp only [Act.put, List.getElem_toArray, List.getElem_cons_zero, List.getElem_cons_succ, List.setIfInBounds_toArray, List.set_cons_zero, List.set_cons_succ]
  refine wpAnyH_take (i := 8) (v := ?_) rfl (by kernel_rfl) (by kernel_rfl) (by kernel_rfl) (fun _ _ _ h => h) (Or.inl ⟨by rfl, ?_⟩) (by assumption) ?_
  rotate_left
  · (intro wq hSw; (try dsimp only at hSw); go_simp; (try with_reducible rfl))
  simp only [Act.put, List.getElem_toArray, List.getElem_cons_zero, List.getElem_cons_succ, List.setIfInBounds_toArray, List.set_cons_zero, List.set_cons_succ]
  refine wpAnyH_take (i := 9) (v := ?_) rfl (by kernel_rfl) (by kernel_rfl) (by kernel_rfl) (fun _ _ _ h => h) (Or.inl ⟨by rfl, ?_⟩) (by assumption) ?_
  rotate_left
  · (intro wq hSw; (try dsimp only at hSw); go_simp; (try with_reducible rfl))
  simp only [Act.put, List.getElem_toArray, List.getElem_cons_zero, List.getElem_cons_succ, List.setIfInBounds_toArray, List.set_cons_zero, List.set_cons_succ]
  first
  | (refine wpAnyH_take (i := 10) (v := undef) rfl (by kernel_rfl) (by kernel_rfl) (by kernel_rfl) (fun _ _ _ h => h) (Or.inr ⟨by rfl, rfl⟩) (by assumption) ?_)
  | (refine wpAnyH_take (i := 10) (v := ?_) rfl (by kernel_rfl) (by kernel_rfl) (by kernel_rfl) (fun _ _ _ h => h) (Or.inl ⟨by rfl, ?_⟩) (by assumption) ?_; rotate_left; (focus (intro wq hSw; (try dsimp only at hSw); go_simp; (try with_reducible rfl))))
  simp only [Act.put, List.getElem_toArray, List.getElem_cons_zero, List.getElem_cons_succ, List.setIfInBounds_toArray, List.set_cons_zero, List.set_cons_succ]
  first
  | (refine wpAnyH_take (i := 11) (v := undef) rfl (by kernel_rfl) (by kernel_rfl) (by kernel_rfl) (fun _ _ _ h => h) (Or.inr ⟨by rfl, rfl⟩) (by assumption) ?_)
  | (refine wpAnyH_take (i := 11) (v := ?_) rfl (by kernel_rfl) (by kernel_rfl) (by kernel_rfl) (fun _ _ _ h => h) (Or.inl ⟨by rfl, ?_⟩) (by assumption) ?_; rotate_left; (focus (intro wq hSw; (try dsimp only at hSw); go_simp; (try with_reducible rfl))))
  simp only [Act.put, List.getElem_toArray, List.getElem_cons_zero, List.getElem_cons_succ, List.setIfInBounds_toArray, List.set_cons_zero, List.set_cons_succ]
  first
  | (refine wpAnyH_take (i := 12) (v := undef) rfl (by kernel_rfl) (by kernel_rfl) (by kernel_rfl) (fun _ _ _ h => h) (Or.inr ⟨by rfl, rfl⟩) (by assumption) ?_)
  | (refine wpAnyH_take (i := 12) (v := ?_) rfl (by kernel_rfl) (by kernel_rfl) (by kernel_rfl) (fun _ _ _ h => h) (Or.inl ⟨by rfl, ?_⟩) (by assumption) ?_; rotate_left; (focus (intro wq hSw; (try dsimp only at hSw); go_simp; (try with_reducible rfl))))
  simp only [Act.put, List.getElem_toArray, List.getElem_cons_zero, List.getElem_cons_succ, List.setIfInBounds_toArray, List.set_cons_zero, List.set_cons_succ]
  first
  | (refine wpAnyH_take (i := 13) (v := undef) rfl (by kernel_rfl) (by kernel_rfl) (by kernel_rfl) (fun _ _ _ h => h) (Or.inr ⟨by rfl, rfl⟩) (by assumption) ?_)
  | (refine wpAnyH_take (i := 13) (v := ?_) rfl (by kernel_rfl) (by kernel_rfl) (by kernel_rfl) (fun _ _ _ h => h) (Or.inl ⟨by rfl, ?_⟩) (by assumption) ?_; rotate_left; (focus (intro wq hSw; (try dsimp only at hSw); go_simp; (try with_reducible rfl))))
  simp only [Act.put, List.getElem_toArray, List.getElem_cons_zero, List.getElem_cons_succ, List.setIfInBounds_toArray, List.set_cons_zero, List.set_cons_succ]
  refine wpAnyH_take (i := 14) (v := ?_) rfl (by kernel_rfl) (by kernel_rfl) (by kernel_rfl) (fun _ _ _ h => h) (Or.inl ⟨by rfl, ?_⟩) (by assumption) ?_
  rotate_left
  · (intro wq hSw; (try dsimp only at hSw); go_simp; (try with_reducible rfl))
  simp only [Act.put, List.getElem_toArray, List.getElem_cons_zero, List.getElem_cons_succ, List.setIfInBounds_toArray, List.set_cons_zero, List.set_cons_succ]
  refine wpAnyH_take (i := 15) (v := ?_) rfl (by kernel_rfl) (by kernel_rfl) (by kernel_rfl) (fun _ _ _ h => h) (Or.inl ⟨by rfl, ?_⟩) (by assumption) ?_
  rotate_left
  · (intro wq hSw; (try dsimp only at hSw); go_simp; (try with_reducible rfl))
  simp only [Act.put, List.getElem_toArray, List.getElem_cons_zero, List.getElem_cons_succ, List.setIfInBounds_toArray, List.set_cons_zero, List.set_cons_succ]
  first
  | (refine wpAnyH_take (i := 16) (v := undef) rfl (by kernel_rfl) (by kernel_rfl) (by kernel_rfl) (fun _ _ _ h => h) (Or.inr ⟨by rfl, rfl⟩) (by assumption) ?_)
  | (refine wpAnyH_take (i := 16) (v := ?_) rfl (by kernel_rfl) (by kernel_rfl) (by kernel_rfl) (fun _ _ _ h => h) (Or.inl ⟨by rfl, ?_⟩) (by assumption) ?_; rotate_left; (focus (intro wq hSw; (try dsimp only at hSw); go_simp; (try with_reducible rfl))))
  simp only [Act.put, List.getElem_toArray, List.getElem_cons_zero, List.getElem_cons_succ, List.setIfInBounds_toArray, List.set_cons_zero, List.set_cons_succ]
  first
  | (refine wpAnyH_take (i := 17) (v := undef) rfl (by kernel_rfl) (by kernel_rfl) (by kernel_rfl) (fun _ _ _ h => h) (Or.inr ⟨by rfl, rfl⟩) (by assumption) ?_)
  | (refine wpAnyH_take (i := 17) (v := ?_) rfl (by kernel_rfl) (by kernel_rfl) (by kernel_rfl) (fun _ _ _ h => h) (Or.inl ⟨by rfl, ?_⟩) (by assumption) ?_; rotate_left; (focus (intro wq hSw; (try dsimp only at hSw); go_simp; (try with_reducible rfl))))
  simp only [Act.put, List.getElem_toArray, List.getElem_cons_zero, List.getElem_cons_succ, List.setIfInBounds_toArray, List.set_cons_zero, List.set_cons_succ]
  first
  | (refine wpAnyH_take (i := 18) (v := undef) rfl (by kernel_rfl) (by kernel_rfl) (by kernel_rfl) (fun _ _ _ h => h) (Or.inr ⟨by rfl, rfl⟩) (by assumption) ?_)
  | (refine wpAnyH_take (i := 18) (v := ?_) rfl (by kernel_rfl) (by kernel_rfl) (by kernel_rfl) (fun _ _ _ h => h) (Or.inl ⟨by rfl, ?_⟩) (by assumption) ?_; rotate_left; (focus (intro wq hSw; (try dsimp only at hSw); go_simp; (try with_reducible rfl))))
  simp only [Act.put, List.getElem_toArray, List.getElem_cons_zero, List.getElem_cons_succ, List.setIfInBounds_toArray, List.set_cons_zero, List.set_cons_succ]
  first
  | (refine wpAnyH_take (i := 19) (v := undef) rfl (by kernel_rfl) (by kernel_rfl) (by kernel_rfl) (fun _ _ _ h => h) (Or.inr ⟨by rfl, rfl⟩) (by assumption) ?_)
  | (refine wpAnyH_take (i := 19) (v := ?_) rfl (by kernel_rfl) (by kernel_rfl) (by kernel_rfl) (fun _ _ _ h => h) (Or.inl ⟨by rfl, ?_⟩) (by assumption) ?_; rotate_left; (focus (intro wq hSw; (try dsimp only at hSw); go_simp; (try with_reducible rfl))))
  simp only [Act.put, List.getElem_toArray, List.getElem_cons_zero, List.getElem_cons_succ, List.setIfInBounds_toArray, List.set_cons_zero, List.set_cons_succ]
  refine wpAnyH_take (i := 20) (v := ?_) rfl (by kernel_rfl) (by kernel_rfl) (by kernel_rfl) (fun _ _ _ h => h) (Or.inl ⟨by rfl, ?_⟩) (by assumption) ?_
  rotate_left
  · (intro wq hSw; (try dsimp only at hSw); go_simp; (try with_reducible rfl))
  simp only [Act.put, List.getElem_toArray, List.getElem_cons_zero, List.getElem_cons_succ, List.setIfInBounds_toArray, List.set_cons_zero, List.set_cons_succ]
  refine wpAnyH_done (by kernel_rfl) ?_ _
  change wpList _ _ _ _ _ _
  simp only [List.drop_succ_cons, List.drop_zero]
  go_wp2_with fail
  go_ret
  exact ⟨by first | rfl | simp, HC.out.trans' (HWD.out.trans' HCD.out)⟩
set_option maxHeartbeats 3200000 in
set_option maxRecDepth 100000 in
theorem formed_keys (w : World) (kind int : Int) (str : ByteArray) (pk pd : Option Addr) (nk ck nd cd : Nat) (hU : Lib.Utf8Tabs 0 1 w) (hs : str.size ≤ 35184372088832) (h4 : kind ≤ 4) (h0 : 0 ≤ kind) (hk : (normM ⟨kind, int, str, 0⟩).kind = kind) (hr : (normM ⟨kind, int, str, 0⟩).ref = 0) (hi : (normM ⟨kind, int, str, 0⟩).int = int) (ht : (normM ⟨kind, int, str, 0⟩).str.toList = str.toList) (hn : ¬ nk = 0) :
    Calls Tryd.prog 68 #[.agg #[.int .i64 kind, .int .i64 int, .string str, .slice pk nk ck, .slice pd nd cd]] w fun e w' => e = .returned (.bool false) ∧ Chg (fun _ => False) w w' := by
  have HC := Lib.hid ((Chg.alloc (fun _ => False) w (.cells #[.int .i64 kind, .int .i64 int, .string str, .slice pk nk ck, .slice pd nd cd] 85)).allocR (.cells #[.int .i64 kind, .int .i64 int, .string str, .int .i64 0] 123))
  have HB1 := Lib.hid (alloc_old (.cells #[.int .i64 kind, .int .i64 int, .string str, .int .i64 0] 123) (alloc_block w (.cells #[.int .i64 kind, .int .i64 int, .string str, .slice pk nk ck, .slice pd nd cd] 85)))
  have hb3 := alloc_block (w.alloc (.cells #[.int .i64 kind, .int .i64 int, .string str, .slice pk nk ck, .slice pd nd cd] 85)) (.cells #[.int .i64 kind, .int .i64 int, .string str, .int .i64 0] 123)
  rw [World.size_alloc] at hb3
  have HB3 := Lib.hid hb3
  have HU := Lib.hid hU
  clear hb3 hU
  go_enter Tryd.func68, Tryd.ntmps68
  go_upto_region 3 with fail
  have HNM := Lib.hid (fun W (hc : Chg (fun _ => False) ((w.alloc (.cells #[.int .i64 kind, .int .i64 int, .string str, .slice pk nk ck, .slice pd nd cd] 85)).alloc (.cells #[.int .i64 kind, .int .i64 int, .string str, .int .i64 0] 123)) W) => normal_any ⟨kind, int, str, 0⟩ W hs (utf8_stay HU.out (HC.out.trans' hc)))
  generalize (w.alloc (.cells #[.int .i64 kind, .int .i64 int, .string str, .slice pk nk ck, .slice pd nd cd] 85)).alloc (.cells #[.int .i64 kind, .int .i64 int, .string str, .int .i64 0] 123) = w4 at *
  generalize w.heap.size + 1 = b3 at *
  generalize w.heap.size = b1 at *
  generalize normM ⟨kind, int, str, 0⟩ = nv at *
  have hn0 : ((nk : Int) == 0) = false := beq_false_of_ne (by omega)
  clear hn
  have HS0 : Hid (w4.cell? ⟨b1, 0, none⟩ = some (.int .i64 kind) ∧ w4.cell? ⟨b1, 3, none⟩ = some (.slice pk nk ck) ∧ w4.cell? ⟨b1, 4, none⟩ = some (.slice pd nd cd) ∧ w4.cell? ⟨b3, 0, none⟩ = some (.int .i64 kind) ∧ w4.cell? ⟨b3, 1, none⟩ = some (.int .i64 int) ∧ w4.cell? ⟨b3, 2, none⟩ = some (.string str) ∧ w4.cell? ⟨b3, 3, none⟩ = some (.int .i64 0)) := Lib.hid ⟨cell_of_block HB1.out rfl, cell_of_block HB1.out rfl, cell_of_block HB1.out rfl, cell_of_block HB3.out rfl, cell_of_block HB3.out rfl, cell_of_block HB3.out rfl, cell_of_block HB3.out rfl⟩
  refine wp_region_held_split 21 (fun w' => w'.cell? ⟨b1, 0, none⟩ = some (.int .i64 kind) ∧ w'.cell? ⟨b1, 3, none⟩ = some (.slice pk nk ck) ∧ w'.cell? ⟨b1, 4, none⟩ = some (.slice pd nd cd) ∧ w'.cell? ⟨b3, 0, none⟩ = some (.int .i64 kind) ∧ w'.cell? ⟨b3, 1, none⟩ = some (.int .i64 int) ∧ w'.cell? ⟨b3, 2, none⟩ = some (.string str) ∧ w'.cell? ⟨b3, 3, none⟩ = some (.int .i64 0)) (by kernel_rfl) (by kernel_rfl) ?_ (fun hHeld => ?_)
  · (first | exact HS0.out | exact HKS.out _ (Chg.refl _ _) | exact zc)
  simp only [List.take_succ_cons, List.take_zero]
  have HKS : Hid (∀ W, Chg (fun _ => False) w4.drew W → W.cell? ⟨b1, 0, none⟩ = some (.int .i64 kind) ∧ W.cell? ⟨b1, 3, none⟩ = some (.slice pk nk ck) ∧ W.cell? ⟨b1, 4, none⟩ = some (.slice pd nd cd) ∧ W.cell? ⟨b3, 0, none⟩ = some (.int .i64 kind) ∧ W.cell? ⟨b3, 1, none⟩ = some (.int .i64 int) ∧ W.cell? ⟨b3, 2, none⟩ = some (.string str) ∧ W.cell? ⟨b3, 3, none⟩ = some (.int .i64 0)) := Lib.hid (fun W hc => ⟨hc.cell HS0.out.1, hc.cell HS0.out.2.1, hc.cell HS0.out.2.2.1, hc.cell HS0.out.2.2.2.1, hc.cell HS0.out.2.2.2.2.1, hc.cell HS0.out.2.2.2.2.2.1, hc.cell HS0.out.2.2.2.2.2.2⟩)
  have HWD : Hid (Chg (fun _ => False) w4 w4.drew) := Lib.hid (Chg.refl _ w4).drewR
  generalize w4.drew = wD at *
  refine wpAnyH_take (i := 0) (v := ?_) rfl (by kernel_rfl) (by kernel_rfl) (by kernel_rfl) (fun _ _ _ h => h) (Or.inl ⟨by rfl, ?_⟩) (by assumption) ?_
  rotate_left
  · (intro wq hSw; (try dsimp only at hSw); go_simp; (try with_reducible rfl))
  simp only [Act.put, List.getElem_toArray, List.getElem_cons_zero, List.getElem_cons_succ, List.setIfInBounds_toArray, List.set_cons_zero, List.set_cons_succ]
  refine wpAnyH_take (i := 1) (v := ?_) rfl (by kernel_rfl) (by kernel_rfl) (by kernel_rfl) (fun _ _ _ h => h) (Or.inl ⟨by rfl, ?_⟩) (by assumption) ?_
  rotate_left
  · (intro wq hSw; (try dsimp only at hSw); go_simp; (try with_reducible rfl))
  simp only [Act.put, List.getElem_toArray, List.getElem_cons_zero, List.getElem_cons_succ, List.setIfInBounds_toArray, List.set_cons_zero, List.set_cons_succ]
  refine wpAnyH_take (i := 2) (v := ?_) rfl (by kernel_rfl) (by kernel_rfl) (by kernel_rfl) (fun _ _ _ h => h) (Or.inl ⟨by rfl, ?_⟩) (by assumption) ?_
  rotate_left
  · (intro wq hSw; (try dsimp only at hSw); go_simp; (try with_reducible rfl))
  simp only [Act.put, List.getElem_toArray, List.getElem_cons_zero, List.getElem_cons_succ, List.setIfInBounds_toArray, List.set_cons_zero, List.set_cons_succ]
  refine wpAnyH_take (i := 3) (v := ?_) rfl (by kernel_rfl) (by kernel_rfl) (by kernel_rfl) (fun _ _ _ h => h) (Or.inl ⟨by rfl, ?_⟩) (by assumption) ?_
  rotate_left
  · (intro wq hSw; (try dsimp only at hSw); go_simp; (try with_reducible rfl))
  simp only [Act.put, List.getElem_toArray, List.getElem_cons_zero, List.getElem_cons_succ, List.setIfInBounds_toArray, List.set_cons_zero, List.set_cons_succ]
  first
  | (refine wpAnyH_take (i := 4) (v := undef) rfl (by kernel_rfl) (by kernel_rfl) (by kernel_rfl) (fun _ _ _ h => h) (Or.inr ⟨by rfl, rfl⟩) (by assumption) ?_)
  | (refine wpAnyH_take (i := 4) (v := ?_) rfl (by kernel_rfl) (by kernel_rfl) (by kernel_rfl) (fun _ _ _ h => h) (Or.inl ⟨by rfl, ?_⟩) (by assumption) ?_; rotate_left; (focus (intro wq hSw; (try dsimp only at hSw); go_simp; (try with_reducible rfl))))
  simp only [Act.put, List.getElem_toArray, List.getElem_cons_zero, List.getElem_cons_succ, List.setIfInBounds_toArray, List.set_cons_zero, List.set_cons_succ]
  first
  | (refine wpAnyH_take (i := 6) (v := undef) rfl (by kernel_rfl) (by kernel_rfl) (by kernel_rfl) (fun _ _ _ h => h) (Or.inr ⟨by rfl, rfl⟩) (by assumption) ?_)
  | (refine wpAnyH_take (i := 6) (v := ?_) rfl (by kernel_rfl) (by kernel_rfl) (by kernel_rfl) (fun _ _ _ h => h) (Or.inl ⟨by rfl, ?_⟩) (by assumption) ?_; rotate_left; (focus (intro wq hSw; (try dsimp only at hSw); go_simp; (try with_reducible rfl))))
  simp only [Act.put, List.getElem_toArray, List.getElem_cons_zero, List.getElem_cons_succ, List.setIfInBounds_toArray, List.set_cons_zero, List.set_cons_succ]
  refine wpAnyH_ready (rs := [5]) (by kernel_rfl) (by simp) ?_
  refine AllReadyH.cons (by simp only [List.getElem?_toArray, List.getElem?_cons_succ, List.getElem?_cons_zero]; rfl) (fun K hK => ?_) AllReadyH.nil
  (go_simp; go_at_call 86; refine (HNM.out _ HWD.out).mono ?_; rintro _ wd ⟨rfl, hcd⟩; have HCD := Lib.hid hcd; have zc := HKS.out _ hcd; clear hcd; go_simp)
  refine hK.out _ _ ?_ (fun hHeld => ?_)
  · (first | exact HS0.out | exact HKS.out _ (Chg.refl _ _) | exact zc)
  clear hK K
  (try simp only [Act.put, List.getElem_toArray, List.getElem_cons_zero, List.getElem_cons_succ, List.setIfInBounds_toArray, List.set_cons_zero, List.set_cons_succ])
  first
  | (refine wpAnyH_take (i := 7) (v := undef) rfl (by kernel_rfl) (by kernel_rfl) (by kernel_rfl) (fun _ _ _ h => h) (Or.inr ⟨by rfl, rfl⟩) (by assumption) ?_)
  | (refine wpAnyH_take (i := 7) (v := ?_) rfl (by kernel_rfl) (by kernel_rfl) (by kernel_rfl) (fun _ _ _ h => h) (Or.inl ⟨by rfl, ?_⟩) (by assumption) ?_; rotate_left; (focus (intro wq hSw; (try dsimp only at hSw); go_simp; (try with_reducible rfl))))
  simp only [Act.put, List.getElem_toArray, List.getElem_cons_zero, List.getElem_cons_succ, List.setIfInBounds_toArray, List.set_cons_zero, List.set_cons_succ]
  refine wpAnyH_take (i := 8) (v := ?_) rfl (by kernel_rfl) (by kernel_rfl) (by kernel_rfl) (fun _ _ _ h => h) (Or.inl ⟨by rfl, ?_⟩) (by assumption) ?_
  rotate_left
  · (intro wq hSw; (try dsimp only at hSw); go_simp; (try with_reducible rfl))
  simp only [Act.put, List.getElem_toArray, List.getElem_cons_zero, List.getElem_cons_succ, List.setIfInBounds_toArray, List.set_cons_zero, List.set_cons_succ]
  refine wpAnyH_take (i := 9) (v := ?_) rfl (by kernel_rfl) (by kernel_rfl) (by kernel_rfl) (fun _ _ _ h => h) (Or.inl ⟨by rfl, ?_⟩) (by assumption) ?_
  rotate_left
  · (intro wq hSw; (try dsimp only at hSw); go_simp; (try with_reducible rfl))
  simp only [Act.put, List.getElem_toArray, List.getElem_cons_zero, List.getElem_cons_succ, List.setIfInBounds_toArray, List.set_cons_zero, List.set_cons_succ]
  first
  | (refine wpAnyH_take (i := 10) (v := undef) rfl (by kernel_rfl) (by kernel_rfl) (by kernel_rfl) (fun _ _ _ h => h) (Or.inr ⟨by rfl, rfl⟩) (by assumption) ?_)
  | (refine wpAnyH_take (i := 10) (v := ?_) rfl (by kernel_rfl) (by kernel_rfl) (by kernel_rfl) (fun _ _ _ h => h) (Or.inl ⟨by rfl, ?_⟩) (by assumption) ?_; rotate_left; (focus (intro wq hSw; (try dsimp only at hSw); go_simp; (try with_reducible rfl))))
  simp only [Act.put, List.getElem_toArray, List.getElem_cons_zero, List.getElem_cons_succ, List.setIfInBounds_toArray, List.set_cons_zero, List.set_cons_succ]
  first
  | (refine wpAnyH_take (i := 11) (v := undef) rfl (by kernel_rfl) (by kernel_rfl) (by kernel_rfl) (fun _ _ _ h => h) (Or.inr ⟨by rfl, rfl⟩) (by assumption) ?_)
  | (refine wpAnyH_take (i := 11) (v := ?_) rfl (by kernel_rfl) (by kernel_rfl) (by kernel_rfl) (fun _ _ _ h => h) (Or.inl ⟨by rfl, ?_⟩) (by assumption) ?_; rotate_left; (focus (intro wq hSw; (try dsimp only at hSw); go_simp; (try with_reducible rfl))))
  simp only [Act.put, List.getElem_toArray, List.getElem_cons_zero, List.getElem_cons_succ, List.setIfInBounds_toArray, List.set_cons_zero, List.set_cons_succ]
  first
  | (refine wpAnyH_take (i := 12) (v := undef) rfl (by kernel_rfl) (by kernel_rfl) (by kernel_rfl) (fun _ _ _ h => h) (Or.inr ⟨by rfl, rfl⟩) (by assumption) ?_)
  | (refine wpAnyH_take (i := 12) (v := ?_) rfl (by kernel_rfl) (by kernel_rfl) (by kernel_rfl) (fun _ _ _ h => h) (Or.inl ⟨by rfl, ?_⟩) (by assumption) ?_; rotate_left; (focus (intro wq hSw; (try dsimp only at hSw); go_simp; (try with_reducible rfl))))
  simp only [Act.put, List.getElem_toArray, List.getElem_cons_zero, List.getElem_cons_succ, List.setIfInBounds_toArray, List.set_cons_zero, List.set_cons_succ]
  first
  | (refine wpAnyH_take (i := 13) (v := undef) rfl (by kernel_rfl) (by kernel_rfl) (by kernel_rfl) (fun _ _ _ h => h) (Or.inr ⟨by rfl, rfl⟩) (by assumption) ?_)
  | (refine wpAnyH_take (i := 13) (v := ?_) rfl (by kernel_rfl) (by kernel_rfl) (by kernel_rfl) (fun _ _ _ h => h) (Or.inl ⟨by rfl, ?_⟩) (by assumption) ?_; rotate_left; (focus (intro wq hSw; (try dsimp only at hSw); go_simp; (try with_reducible rfl))))
  simp only [Act.put, List.getElem_toArray, List.getElem_cons_zero, List.getElem_cons_succ, List.setIfInBounds_toArray, List.set_cons_zero, List.set_cons_succ]
  refine wpAnyH_take (i := 14) (v := ?_) rfl (by kernel_rfl) (by kernel_rfl) (by kernel_rfl) (fun _ _ _ h => h) (Or.inl ⟨by rfl, ?_⟩) (by assumption) ?_
  rotate_left
  · (intro wq hSw; (try dsimp only at hSw); go_simp; (try with_reducible rfl))
  simp only [Act.put, List.getElem_toArray, List.getElem_cons_zero, List.getElem_cons_succ, List.setIfInBounds_toArray, List.set_cons_zero, List.set_cons_succ]
  refine wpAnyH_take (i := 15) (v := ?_) rfl (by kernel_rfl) (by kernel_rfl) (by kernel_rfl) (fun _ _ _ h => h) (Or.inl ⟨by rfl, ?_⟩) (by assumption) ?_
  rotate_left
  · (intro wq hSw; (try dsimp only at hSw); go_simp; (try with_reducible rfl))
  simp only [Act.put, List.getElem_toArray, List.getElem_cons_zero, List.getElem_cons_succ, List.setIfInBounds_toArray, List.set_cons_zero, List.set_cons_succ]
  first
  | (refine wpAnyH_take (i := 16) (v := undef) rfl (by kernel_rfl) (by kernel_rfl) (by kernel_rfl) (fun _ _ _ h => h) (Or.inr ⟨by rfl, rfl⟩) (by assumption) ?_)
  | (refine wpAnyH_take (i := 16) (v := ?_) rfl (by kernel_rfl) (by kernel_rfl) (by kernel_rfl) (fun _ _ _ h => h) (Or.inl ⟨by rfl, ?_⟩) (by assumption) ?_; rotate_left; (focus (intro wq hSw; (try dsimp only at hSw); go_simp; (try with_reducible rfl))))
  simp only [Act.put, List.getElem_toArray, List.getElem_cons_zero, List.getElem_cons_succ, List.setIfInBounds_toArray, List.set_cons_zero, List.set_cons_succ]
  first
  | (refine wpAnyH_take (i := 17) (v := undef) rfl (by kernel_rfl) (by kernel_rfl) (by kernel_rfl) (fun _ _ _ h => h) (Or.inr ⟨by rfl, rfl⟩) (by assumption) ?_)
  | (refine wpAnyH_take (i := 17) (v := ?_) rfl (by kernel_rfl) (by kernel_rfl) (by kernel_rfl) (fun _ _ _ h => h) (Or.inl ⟨by rfl, ?_⟩) (by assumption) ?_; rotate_left; (focus (intro wq hSw; (try dsimp only at hSw); go_simp; (try with_reducible rfl))))
  simp only [Act.put, List.getElem_toArray, List.getElem_cons_zero, List.getElem_cons_succ, List.setIfInBounds_toArray, List.set_cons_zero, List.set_cons_succ]
  first
  | (refine wpAnyH_take (i := 18) (v := undef) rfl (by kernel_rfl) (by kernel_rfl) (by kernel_rfl) (fun _ _ _ h => h) (Or.inr ⟨by rfl, rfl⟩) (by assumption) ?_)
  | (refine wpAnyH_take (i := 18) (v := ?_) rfl (by kernel_rfl) (by kernel_rfl) (by kernel_rfl) (fun _ _ _ h => h) (Or.inl ⟨by rfl, ?_⟩) (by assumption) ?_; rotate_left; (focus (intro wq hSw; (try dsimp only at hSw); go_simp; (try with_reducible rfl))))
  simp only [Act.put, List.getElem_toArray, List.getElem_cons_zero, List.getElem_cons_succ, List.setIfInBounds_toArray, List.set_cons_zero, List.set_cons_succ]
  first
  | (refine wpAnyH_take (i := 19) (v := undef) rfl (by kernel_rfl) (by kernel_rfl) (by kernel_rfl) (fun _ _ _ h => h) (Or.inr ⟨by rfl, rfl⟩) (by assumption) ?_)
  | (refine wpAnyH_take (i := 19) (v := ?_) rfl (by kernel_rfl) (by kernel_rfl) (by kernel_rfl) (fun _ _ _ h => h) (Or.inl ⟨by rfl, ?_⟩) (by assumption) ?_; rotate_left; (focus (intro wq hSw; (try dsimp only at hSw); go_simp; (try with_reducible rfl))))
  simp only [Act.put, List.getElem_toArray, List.getElem_cons_zero, List.getElem_cons_succ, List.setIfInBounds_toArray, List.set_cons_zero, List.set_cons_succ]
  refine wpAnyH_take (i := 20) (v := ?_) rfl (by kernel_rfl) (by kernel_rfl) (by kernel_rfl) (fun _ _ _ h => h) (Or.inl ⟨by rfl, ?_⟩) (by assumption) ?_
  rotate_left
  · (intro wq hSw; (try dsimp only at hSw); go_simp; (try with_reducible rfl))
  simp only [Act.put, List.getElem_toArray, List.getElem_cons_zero, List.getElem_cons_succ, List.setIfInBounds_toArray, List.set_cons_zero, List.set_cons_succ]
  refine wpAnyH_done (by kernel_rfl) ?_ _
  change wpList _ _ _ _ _ _
  simp only [List.drop_succ_cons, List.drop_zero]
  go_wp2_with fail
  go_ret
  exact ⟨by first | rfl | simp, HC.out.trans' (HWD.out.trans' HCD.out)⟩
set_option maxHeartbeats 3200000 in
set_option maxRecDepth 100000 in
theorem formed_kids (w : World) (kind int : Int) (str : ByteArray) (pk pd : Option Addr) (nk ck nd cd : Nat) (hU : Lib.Utf8Tabs 0 1 w) (hs : str.size ≤ 35184372088832) (h4 : kind ≤ 4) (h0 : 0 ≤ kind) (hk : (normM ⟨kind, int, str, 0⟩).kind = kind) (hr : (normM ⟨kind, int, str, 0⟩).ref = 0) (hi : (normM ⟨kind, int, str, 0⟩).int = int) (ht : (normM ⟨kind, int, str, 0⟩).str.toList = str.toList) (hn0 : ((nk : Int) == 0) = true) :
    Calls Tryd.prog 68 #[.agg #[.int .i64 kind, .int .i64 int, .string str, .slice pk nk ck, .slice pd nd cd]] w fun e w' => e = .returned (.bool ((nd : Int) == 0)) ∧ Chg (fun _ => False) w w' := by
  have HC := Lib.hid ((Chg.alloc (fun _ => False) w (.cells #[.int .i64 kind, .int .i64 int, .string str, .slice pk nk ck, .slice pd nd cd] 85)).allocR (.cells #[.int .i64 kind, .int .i64 int, .string str, .int .i64 0] 123))
  have HB1 := Lib.hid (alloc_old (.cells #[.int .i64 kind, .int .i64 int, .string str, .int .i64 0] 123) (alloc_block w (.cells #[.int .i64 kind, .int .i64 int, .string str, .slice pk nk ck, .slice pd nd cd] 85)))
  have hb3 := alloc_block (w.alloc (.cells #[.int .i64 kind, .int .i64 int, .string str, .slice pk nk ck, .slice pd nd cd] 85)) (.cells #[.int .i64 kind, .int .i64 int, .string str, .int .i64 0] 123)
  rw [World.size_alloc] at hb3
  have HB3 := Lib.hid hb3
  have HU := Lib.hid hU
  clear hb3 hU
  go_enter Tryd.func68, Tryd.ntmps68
  go_upto_region 3 with fail
  have HNM := Lib.hid (fun W (hc : Chg (fun _ => False) ((w.alloc (.cells #[.int .i64 kind, .int .i64 int, .string str, .slice pk nk ck, .slice pd nd cd] 85)).alloc (.cells #[.int .i64 kind, .int .i64 int, .string str, .int .i64 0] 123)) W) => normal_any ⟨kind, int, str, 0⟩ W hs (utf8_stay HU.out (HC.out.trans' hc)))
  generalize (w.alloc (.cells #[.int .i64 kind, .int .i64 int, .string str, .slice pk nk ck, .slice pd nd cd] 85)).alloc (.cells #[.int .i64 kind, .int .i64 int, .string str, .int .i64 0] 123) = w4 at *
  generalize w.heap.size + 1 = b3 at *
  generalize w.heap.size = b1 at *
  generalize normM ⟨kind, int, str, 0⟩ = nv at *
  have HS0 : Hid (w4.cell? ⟨b1, 0, none⟩ = some (.int .i64 kind) ∧ w4.cell? ⟨b1, 3, none⟩ = some (.slice pk nk ck) ∧ w4.cell? ⟨b1, 4, none⟩ = some (.slice pd nd cd) ∧ w4.cell? ⟨b3, 0, none⟩ = some (.int .i64 kind) ∧ w4.cell? ⟨b3, 1, none⟩ = some (.int .i64 int) ∧ w4.cell? ⟨b3, 2, none⟩ = some (.string str) ∧ w4.cell? ⟨b3, 3, none⟩ = some (.int .i64 0)) := Lib.hid ⟨cell_of_block HB1.out rfl, cell_of_block HB1.out rfl, cell_of_block HB1.out rfl, cell_of_block HB3.out rfl, cell_of_block HB3.out rfl, cell_of_block HB3.out rfl, cell_of_block HB3.out rfl⟩
  refine wp_region_held_split 21 (fun w' => w'.cell? ⟨b1, 0, none⟩ = some (.int .i64 kind) ∧ w'.cell? ⟨b1, 3, none⟩ = some (.slice pk nk ck) ∧ w'.cell? ⟨b1, 4, none⟩ = some (.slice pd nd cd) ∧ w'.cell? ⟨b3, 0, none⟩ = some (.int .i64 kind) ∧ w'.cell? ⟨b3, 1, none⟩ = some (.int .i64 int) ∧ w'.cell? ⟨b3, 2, none⟩ = some (.string str) ∧ w'.cell? ⟨b3, 3, none⟩ = some (.int .i64 0)) (by kernel_rfl) (by kernel_rfl) ?_ (fun hHeld => ?_)
  · (first | exact HS0.out | exact HKS.out _ (Chg.refl _ _) | exact zc)
  simp only [List.take_succ_cons, List.take_zero]
  have HKS : Hid (∀ W, Chg (fun _ => False) w4.drew W → W.cell? ⟨b1, 0, none⟩ = some (.int .i64 kind) ∧ W.cell? ⟨b1, 3, none⟩ = some (.slice pk nk ck) ∧ W.cell? ⟨b1, 4, none⟩ = some (.slice pd nd cd) ∧ W.cell? ⟨b3, 0, none⟩ = some (.int .i64 kind) ∧ W.cell? ⟨b3, 1, none⟩ = some (.int .i64 int) ∧ W.cell? ⟨b3, 2, none⟩ = some (.string str) ∧ W.cell? ⟨b3, 3, none⟩ = some (.int .i64 0)) := Lib.hid (fun W hc => ⟨hc.cell HS0.out.1, hc.cell HS0.out.2.1, hc.cell HS0.out.2.2.1, hc.cell HS0.out.2.2.2.1, hc.cell HS0.out.2.2.2.2.1, hc.cell HS0.out.2.2.2.2.2.1, hc.cell HS0.out.2.2.2.2.2.2⟩)
  have HWD : Hid (Chg (fun _ => False) w4 w4.drew) := Lib.hid (Chg.refl _ w4).drewR
  generalize w4.drew = wD at *
  refine wpAnyH_take (i := 0) (v := ?_) rfl (by kernel_rfl) (by kernel_rfl) (by kernel_rfl) (fun _ _ _ h => h) (Or.inl ⟨by rfl, ?_⟩) (by assumption) ?_
  rotate_left
  · (intro wq hSw; (try dsimp only at hSw); go_simp; (try with_reducible rfl))
  simp only [Act.put, List.getElem_toArray, List.getElem_cons_zero, List.getElem_cons_succ, List.setIfInBounds_toArray, List.set_cons_zero, List.set_cons_succ]
  refine wpAnyH_take (i := 1) (v := ?_) rfl (by kernel_rfl) (by kernel_rfl) (by kernel_rfl) (fun _ _ _ h => h) (Or.inl ⟨by rfl, ?_⟩) (by assumption) ?_
  rotate_left
  · (intro wq hSw; (try dsimp only at hSw); go_simp; (try with_reducible rfl))
  simp only [Act.put, List.getElem_toArray, List.getElem_cons_zero, List.getElem_cons_succ, List.setIfInBounds_toArray, List.set_cons_zero, List.set_cons_succ]
  refine wpAnyH_take (i := 2) (v := ?_) rfl (by kernel_rfl) (by kernel_rfl) (by kernel_rfl) (fun _ _ _ h => h) (Or.inl ⟨by rfl, ?_⟩) (by assumption) ?_
  rotate_left
  · (intro wq hSw; (try dsimp only at hSw); go_simp; (try with_reducible rfl))
  simp only [Act.put, List.getElem_toArray, List.getElem_cons_zero, List.getElem_cons_succ, List.setIfInBounds_toArray, List.set_cons_zero, List.set_cons_succ]
  refine wpAnyH_take (i := 3) (v := ?_) rfl (by kernel_rfl) (by kernel_rfl) (by kernel_rfl) (fun _ _ _ h => h) (Or.inl ⟨by rfl, ?_⟩) (by assumption) ?_
  rotate_left
  · (intro wq hSw; (try dsimp only at hSw); go_simp; (try with_reducible rfl))
  simp only [Act.put, List.getElem_toArray, List.getElem_cons_zero, List.getElem_cons_succ, List.setIfInBounds_toArray, List.set_cons_zero, List.set_cons_succ]
  first
  | (refine wpAnyH_take (i := 4) (v := undef) rfl (by kernel_rfl) (by kernel_rfl) (by kernel_rfl) (fun _ _ _ h => h) (Or.inr ⟨by rfl, rfl⟩) (by assumption) ?_)
  | (refine wpAnyH_take (i := 4) (v := ?_) rfl (by kernel_rfl) (by kernel_rfl) (by kernel_rfl) (fun _ _ _ h => h) (Or.inl ⟨by rfl, ?_⟩) (by assumption) ?_; rotate_left; (focus (intro wq hSw; (try dsimp only at hSw); go_simp; (try with_reducible rfl))))
  simp only [Act.put, List.getElem_toArray, List.getElem_cons_zero, List.getElem_cons_succ, List.setIfInBounds_toArray, List.set_cons_zero, List.set_cons_succ]
  first
  | (refine wpAnyH_take (i := 6) (v := undef) rfl (by kernel_rfl) (by kernel_rfl) (by kernel_rfl) (fun _ _ _ h => h) (Or.inr ⟨by rfl, rfl⟩) (by assumption) ?_)
  | (refine wpAnyH_take (i := 6) (v := ?_) rfl (by kernel_rfl) (by kernel_rfl) (by kernel_rfl) (fun _ _ _ h => h) (Or.inl ⟨by rfl, ?_⟩) (by assumption) ?_; rotate_left; (focus (intro wq hSw; (try dsimp only at hSw); go_simp; (try with_reducible rfl))))
  simp only [Act.put, List.getElem_toArray, List.getElem_cons_zero, List.getElem_cons_succ, List.setIfInBounds_toArray, List.set_cons_zero, List.set_cons_succ]
  refine wpAnyH_ready (rs := [5]) (by kernel_rfl) (by simp) ?_
  refine AllReadyH.cons (by simp only [List.getElem?_toArray, List.getElem?_cons_succ, List.getElem?_cons_zero]; rfl) (fun K hK => ?_) AllReadyH.nil
  (go_simp; go_at_call 86; refine (HNM.out _ HWD.out).mono ?_; rintro _ wd ⟨rfl, hcd⟩; have HCD := Lib.hid hcd; have zc := HKS.out _ hcd; clear hcd; go_simp)
  refine hK.out _ _ ?_ (fun hHeld => ?_)
  · (first | exact HS0.out | exact HKS.out _ (Chg.refl _ _) | exact zc)
  clear hK K
  (try simp only [Act.put, List.getElem_toArray, List.getElem_cons_zero, List.getElem_cons_succ, List.setIfInBounds_toArray, List.set_cons_zero, List.set_cons_succ])
  first
  | (refine wpAnyH_take (i := 7) (v := undef) rfl (by kernel_rfl) (by kernel_rfl) (by kernel_rfl) (fun _ _ _ h => h) (Or.inr ⟨by rfl, rfl⟩) (by assumption) ?_)
  | (refine wpAnyH_take (i := 7) (v := ?_) rfl (by kernel_rfl) (by kernel_rfl) (by kernel_rfl) (fun _ _ _ h => h) (Or.inl ⟨by rfl, ?_⟩) (by assumption) ?_; rotate_left; (focus (intro wq hSw; (try dsimp only at hSw); go_simp; (try with_reducible rfl))))
  simp only [Act.put, List.getElem_toArray, List.getElem_cons_zero, List.getElem_cons_succ, List.setIfInBounds_toArray, List.set_cons_zero, List.set_cons_succ]
  refine wpAnyH_take (i := 8) (v := ?_) rfl (by kernel_rfl) (by kernel_rfl) (by kernel_rfl) (fun _ _ _ h => h) (Or.inl ⟨by rfl, ?_⟩) (by assumption) ?_
  rotate_left
  · (intro wq hSw; (try dsimp only at hSw); go_simp; (try with_reducible rfl))
  simp only [Act.put, List.getElem_toArray, List.getElem_cons_zero, List.getElem_cons_succ, List.setIfInBounds_toArray, List.set_cons_zero, List.set_cons_succ]
  refine wpAnyH_take (i := 9) (v := ?_) rfl (by kernel_rfl) (by kernel_rfl) (by kernel_rfl) (fun _ _ _ h => h) (Or.inl ⟨by rfl, ?_⟩) (by assumption) ?_
  rotate_left
  · (intro wq hSw; (try dsimp only at hSw); go_simp; (try with_reducible rfl))
  simp only [Act.put, List.getElem_toArray, List.getElem_cons_zero, List.getElem_cons_succ, List.setIfInBounds_toArray, List.set_cons_zero, List.set_cons_succ]
  first
  | (refine wpAnyH_take (i := 10) (v := undef) rfl (by kernel_rfl) (by kernel_rfl) (by kernel_rfl) (fun _ _ _ h => h) (Or.inr ⟨by rfl, rfl⟩) (by assumption) ?_)
  | (refine wpAnyH_take (i := 10) (v := ?_) rfl (by kernel_rfl) (by kernel_rfl) (by kernel_rfl) (fun _ _ _ h => h) (Or.inl ⟨by rfl, ?_⟩) (by assumption) ?_; rotate_left; (focus (intro wq hSw; (try dsimp only at hSw); go_simp; (try with_reducible rfl))))
  simp only [Act.put, List.getElem_toArray, List.getElem_cons_zero, List.getElem_cons_succ, List.setIfInBounds_toArray, List.set_cons_zero, List.set_cons_succ]
  first
  | (refine wpAnyH_take (i := 11) (v := undef) rfl (by kernel_rfl) (by kernel_rfl) (by kernel_rfl) (fun _ _ _ h => h) (Or.inr ⟨by rfl, rfl⟩) (by assumption) ?_)
  | (refine wpAnyH_take (i := 11) (v := ?_) rfl (by kernel_rfl) (by kernel_rfl) (by kernel_rfl) (fun _ _ _ h => h) (Or.inl ⟨by rfl, ?_⟩) (by assumption) ?_; rotate_left; (focus (intro wq hSw; (try dsimp only at hSw); go_simp; (try with_reducible rfl))))
  simp only [Act.put, List.getElem_toArray, List.getElem_cons_zero, List.getElem_cons_succ, List.setIfInBounds_toArray, List.set_cons_zero, List.set_cons_succ]
  first
  | (refine wpAnyH_take (i := 12) (v := undef) rfl (by kernel_rfl) (by kernel_rfl) (by kernel_rfl) (fun _ _ _ h => h) (Or.inr ⟨by rfl, rfl⟩) (by assumption) ?_)
  | (refine wpAnyH_take (i := 12) (v := ?_) rfl (by kernel_rfl) (by kernel_rfl) (by kernel_rfl) (fun _ _ _ h => h) (Or.inl ⟨by rfl, ?_⟩) (by assumption) ?_; rotate_left; (focus (intro wq hSw; (try dsimp only at hSw); go_simp; (try with_reducible rfl))))
  simp only [Act.put, List.getElem_toArray, List.getElem_cons_zero, List.getElem_cons_succ, List.setIfInBounds_toArray, List.set_cons_zero, List.set_cons_succ]
  first
  | (refine wpAnyH_take (i := 13) (v := undef) rfl (by kernel_rfl) (by kernel_rfl) (by kernel_rfl) (fun _ _ _ h => h) (Or.inr ⟨by rfl, rfl⟩) (by assumption) ?_)
  | (refine wpAnyH_take (i := 13) (v := ?_) rfl (by kernel_rfl) (by kernel_rfl) (by kernel_rfl) (fun _ _ _ h => h) (Or.inl ⟨by rfl, ?_⟩) (by assumption) ?_; rotate_left; (focus (intro wq hSw; (try dsimp only at hSw); go_simp; (try with_reducible rfl))))
  simp only [Act.put, List.getElem_toArray, List.getElem_cons_zero, List.getElem_cons_succ, List.setIfInBounds_toArray, List.set_cons_zero, List.set_cons_succ]
  refine wpAnyH_take (i := 14) (v := ?_) rfl (by kernel_rfl) (by kernel_rfl) (by kernel_rfl) (fun _ _ _ h => h) (Or.inl ⟨by rfl, ?_⟩) (by assumption) ?_
  rotate_left
  · (intro wq hSw; (try dsimp only at hSw); go_simp; (try with_reducible rfl))
  simp only [Act.put, List.getElem_toArray, List.getElem_cons_zero, List.getElem_cons_succ, List.setIfInBounds_toArray, List.set_cons_zero, List.set_cons_succ]
  refine wpAnyH_take (i := 15) (v := ?_) rfl (by kernel_rfl) (by kernel_rfl) (by kernel_rfl) (fun _ _ _ h => h) (Or.inl ⟨by rfl, ?_⟩) (by assumption) ?_
  rotate_left
  · (intro wq hSw; (try dsimp only at hSw); go_simp; (try with_reducible rfl))
  simp only [Act.put, List.getElem_toArray, List.getElem_cons_zero, List.getElem_cons_succ, List.setIfInBounds_toArray, List.set_cons_zero, List.set_cons_succ]
  first
  | (refine wpAnyH_take (i := 16) (v := undef) rfl (by kernel_rfl) (by kernel_rfl) (by kernel_rfl) (fun _ _ _ h => h) (Or.inr ⟨by rfl, rfl⟩) (by assumption) ?_)
  | (refine wpAnyH_take (i := 16) (v := ?_) rfl (by kernel_rfl) (by kernel_rfl) (by kernel_rfl) (fun _ _ _ h => h) (Or.inl ⟨by rfl, ?_⟩) (by assumption) ?_; rotate_left; (focus (intro wq hSw; (try dsimp only at hSw); go_simp; (try with_reducible rfl))))
  simp only [Act.put, List.getElem_toArray, List.getElem_cons_zero, List.getElem_cons_succ, List.setIfInBounds_toArray, List.set_cons_zero, List.set_cons_succ]
  first
  | (refine wpAnyH_take (i := 17) (v := undef) rfl (by kernel_rfl) (by kernel_rfl) (by kernel_rfl) (fun _ _ _ h => h) (Or.inr ⟨by rfl, rfl⟩) (by assumption) ?_)
  | (refine wpAnyH_take (i := 17) (v := ?_) rfl (by kernel_rfl) (by kernel_rfl) (by kernel_rfl) (fun _ _ _ h => h) (Or.inl ⟨by rfl, ?_⟩) (by assumption) ?_; rotate_left; (focus (intro wq hSw; (try dsimp only at hSw); go_simp; (try with_reducible rfl))))
  simp only [Act.put, List.getElem_toArray, List.getElem_cons_zero, List.getElem_cons_succ, List.setIfInBounds_toArray, List.set_cons_zero, List.set_cons_succ]
  first
  | (refine wpAnyH_take (i := 18) (v := undef) rfl (by kernel_rfl) (by kernel_rfl) (by kernel_rfl) (fun _ _ _ h => h) (Or.inr ⟨by rfl, rfl⟩) (by assumption) ?_)
  | (refine wpAnyH_take (i := 18) (v := ?_) rfl (by kernel_rfl) (by kernel_rfl) (by kernel_rfl) (fun _ _ _ h => h) (Or.inl ⟨by rfl, ?_⟩) (by assumption) ?_; rotate_left; (focus (intro wq hSw; (try dsimp only at hSw); go_simp; (try with_reducible rfl))))
  simp only [Act.put, List.getElem_toArray, List.getElem_cons_zero, List.getElem_cons_succ, List.setIfInBounds_toArray, List.set_cons_zero, List.set_cons_succ]
  first
  | (refine wpAnyH_take (i := 19) (v := undef) rfl (by kernel_rfl) (by kernel_rfl) (by kernel_rfl) (fun _ _ _ h => h) (Or.inr ⟨by rfl, rfl⟩) (by assumption) ?_)
  | (refine wpAnyH_take (i := 19) (v := ?_) rfl (by kernel_rfl) (by kernel_rfl) (by kernel_rfl) (fun _ _ _ h => h) (Or.inl ⟨by rfl, ?_⟩) (by assumption) ?_; rotate_left; (focus (intro wq hSw; (try dsimp only at hSw); go_simp; (try with_reducible rfl))))
  simp only [Act.put, List.getElem_toArray, List.getElem_cons_zero, List.getElem_cons_succ, List.setIfInBounds_toArray, List.set_cons_zero, List.set_cons_succ]
  refine wpAnyH_take (i := 20) (v := ?_) rfl (by kernel_rfl) (by kernel_rfl) (by kernel_rfl) (fun _ _ _ h => h) (Or.inl ⟨by rfl, ?_⟩) (by assumption) ?_
  rotate_left
  · (intro wq hSw; (try dsimp only at hSw); go_simp; (try with_reducible rfl))
  simp only [Act.put, List.getElem_toArray, List.getElem_cons_zero, List.getElem_cons_succ, List.setIfInBounds_toArray, List.set_cons_zero, List.set_cons_succ]
  refine wpAnyH_done (by kernel_rfl) ?_ _
  change wpList _ _ _ _ _ _
  simp only [List.drop_succ_cons, List.drop_zero]
  go_wp2_with fail
  go_ret
  exact ⟨by first | rfl | simp, HC.out.trans' (HWD.out.trans' HCD.out)⟩
end Go.Proofs.YtiecgbmeobpomaaDoor
namespace Go.Proofs.YtiecgbmeobpomaaDoor
open Go.RowKit
set_option linter.unusedVariables false
set_option linter.unusedSimpArgs false

set_option maxHeartbeats 3200000 in
set_option maxRecDepth 100000 in
theorem formed_b1 (w : World) (kind : Int) (int : Int) (str : ByteArray) (pk pd : Option Addr) (nk ck nd cd : Nat) (h4 : ¬ kind ≤ 4) (hs : ¬ str.toList = []) :
    Calls Tryd.prog 68 #[.agg #[.int .i64 kind, .int .i64 int, .string str, .slice pk nk ck, .slice pd nd cd]] w fun e w' => e = .returned (.bool false) ∧ Chg (fun _ => False) w w' := by
  go_enter Tryd.func68, Tryd.ntmps68
  go_wp2_with fail
  go_ret
  exact ⟨by first | rfl | simp, Chg.alloc _ _ _⟩
set_option maxHeartbeats 3200000 in
set_option maxRecDepth 100000 in
theorem formed_b2 (w : World) (kind : Int) (int : Int) (pk pd : Option Addr) (nk ck nd cd : Nat) (h4 : ¬ kind ≤ 4) (h14 : (kind != 14) = true) (hi : (int != 0) = true) :
    Calls Tryd.prog 68 #[.agg #[.int .i64 kind, .int .i64 int, .string ⟨#[]⟩, .slice pk nk ck, .slice pd nd cd]] w fun e w' => e = .returned (.bool false) ∧ Chg (fun _ => False) w w' := by
  go_enter Tryd.func68, Tryd.ntmps68
  go_wp2_with fail
  go_ret
  exact ⟨by first | rfl | simp, Chg.alloc _ _ _⟩
set_option maxHeartbeats 3200000 in
set_option maxRecDepth 100000 in
theorem formed_10_n (w : World) (pk pd : Option Addr) (nk ck nd cd : Nat) (hn : ((nk : Int) == (nd : Int)) = false) :
    Calls Tryd.prog 68 #[.agg #[.int .i64 10, .int .i64 0, .string ⟨#[]⟩, .slice pk nk ck, .slice pd nd cd]] w fun e w' => e = .returned (.bool false) ∧ Chg (fun _ => False) w w' := by
  go_enter Tryd.func68, Tryd.ntmps68
  go_wp2_with fail
  go_ret
  exact ⟨by first | rfl | simp, Chg.alloc _ _ _⟩
set_option maxHeartbeats 3200000 in
set_option maxRecDepth 100000 in
theorem formed_10_l (w : World) (pk pd : Option Addr) (nk ck nd cd : Nat) (hn : ((nk : Int) == (nd : Int)) = true) (hl : ¬ (nd : Int) ≤ 10000) :
    Calls Tryd.prog 68 #[.agg #[.int .i64 10, .int .i64 0, .string ⟨#[]⟩, .slice pk nk ck, .slice pd nd cd]] w fun e w' => e = .returned (.bool false) ∧ Chg (fun _ => False) w w' := by
  go_enter Tryd.func68, Tryd.ntmps68
  go_wp2_with fail
  go_ret
  exact ⟨by first | rfl | simp, Chg.alloc _ _ _⟩
set_option maxHeartbeats 3200000 in
set_option maxRecDepth 100000 in
theorem formed_10_d (w : World) (pk pd : Option Addr) (nk ck nd cd : Nat) {D : Nat → Prop} (keys : List ByteArray) (hK : SeenN D w 1 (.slice pk nk ck) keys.length (strC keys)) (hf : Few keys.length) (hm : ∀ x ∈ keys, x.size ≤ maxLen) (hn : ((nk : Int) == (nd : Int)) = true) (hl : (nd : Int) ≤ 10000) :
    Calls Tryd.prog 68 #[.agg #[.int .i64 10, .int .i64 0, .string ⟨#[]⟩, .slice pk nk ck, .slice pd nd cd]] w fun e w' => e = .returned (.bool (diffB keys)) ∧ Chg (fun _ => False) w w' := by
  have hca := Chg.alloc (fun _ => False) w (.cells #[.int .i64 10, .int .i64 0, .string ⟨#[]⟩, .slice pk nk ck, .slice pd nd cd] 85)
  have HD := Lib.hid (distinctS_any _ _ keys (hK.still hca) hf hm)
  have HCA := Lib.hid hca
  clear hK hf hm hca
  go_enter Tryd.func68, Tryd.ntmps68
  go_wp2_with (go_at_call 87; refine HD.out.mono ?_; rintro _ w1 ⟨rfl, hc1⟩; have HCF := Lib.hid (HCA.out.trans' hc1))
  go_ret
  exact ⟨by first | rfl | simp, HCF.out⟩
set_option maxHeartbeats 3200000 in
set_option maxRecDepth 100000 in
theorem formed_13_n (w : World) (pk pd : Option Addr) (nk ck nd cd : Nat) (hn : ((nk : Int) == (nd : Int)) = false) :
    Calls Tryd.prog 68 #[.agg #[.int .i64 13, .int .i64 0, .string ⟨#[]⟩, .slice pk nk ck, .slice pd nd cd]] w fun e w' => e = .returned (.bool false) ∧ Chg (fun _ => False) w w' := by
  go_enter Tryd.func68, Tryd.ntmps68
  go_wp2_with fail
  go_ret
  exact ⟨by first | rfl | simp, Chg.alloc _ _ _⟩
set_option maxHeartbeats 3200000 in
set_option maxRecDepth 100000 in
theorem formed_13_l (w : World) (pk pd : Option Addr) (nk ck nd cd : Nat) (hn : ((nk : Int) == (nd : Int)) = true) (hl : ¬ (nd : Int) ≤ 10000) :
    Calls Tryd.prog 68 #[.agg #[.int .i64 13, .int .i64 0, .string ⟨#[]⟩, .slice pk nk ck, .slice pd nd cd]] w fun e w' => e = .returned (.bool false) ∧ Chg (fun _ => False) w w' := by
  go_enter Tryd.func68, Tryd.ntmps68
  go_wp2_with fail
  go_ret
  exact ⟨by first | rfl | simp, Chg.alloc _ _ _⟩
set_option maxHeartbeats 3200000 in
set_option maxRecDepth 100000 in
theorem formed_13_d (w : World) (pk pd : Option Addr) (nk ck nd cd : Nat) {D : Nat → Prop} (keys : List ByteArray) (hK : SeenN D w 1 (.slice pk nk ck) keys.length (strC keys)) (hf : Few keys.length) (hm : ∀ x ∈ keys, x.size ≤ maxLen) (hn : ((nk : Int) == (nd : Int)) = true) (hl : (nd : Int) ≤ 10000) :
    Calls Tryd.prog 68 #[.agg #[.int .i64 13, .int .i64 0, .string ⟨#[]⟩, .slice pk nk ck, .slice pd nd cd]] w fun e w' => e = .returned (.bool (diffB keys)) ∧ Chg (fun _ => False) w w' := by
  have hca := Chg.alloc (fun _ => False) w (.cells #[.int .i64 13, .int .i64 0, .string ⟨#[]⟩, .slice pk nk ck, .slice pd nd cd] 85)
  have HD := Lib.hid (distinctS_any _ _ keys (hK.still hca) hf hm)
  have HCA := Lib.hid hca
  clear hK hf hm hca
  go_enter Tryd.func68, Tryd.ntmps68
  go_wp2_with (go_at_call 87; refine HD.out.mono ?_; rintro _ w1 ⟨rfl, hc1⟩; have HCF := Lib.hid (HCA.out.trans' hc1))
  go_ret
  exact ⟨by first | rfl | simp, HCF.out⟩
set_option maxHeartbeats 3200000 in
set_option maxRecDepth 100000 in
theorem formed_11_k (w : World) (pk pd : Option Addr) (nk ck nd cd : Nat) (hk : ((nk : Int) == 0) = false) :
    Calls Tryd.prog 68 #[.agg #[.int .i64 11, .int .i64 0, .string ⟨#[]⟩, .slice pk nk ck, .slice pd nd cd]] w fun e w' => e = .returned (.bool false) ∧ Chg (fun _ => False) w w' := by
  go_enter Tryd.func68, Tryd.ntmps68
  go_wp2_with fail
  go_ret
  exact ⟨by first | rfl | simp, Chg.alloc _ _ _⟩
set_option maxHeartbeats 3200000 in
set_option maxRecDepth 100000 in
theorem formed_11_d (w : World) (pk pd : Option Addr) (nk ck nd cd : Nat) (hk : ((nk : Int) == 0) = true) :
    Calls Tryd.prog 68 #[.agg #[.int .i64 11, .int .i64 0, .string ⟨#[]⟩, .slice pk nk ck, .slice pd nd cd]] w fun e w' => e = .returned (.bool (decide ((nd : Int) ≤ 10000))) ∧ Chg (fun _ => False) w w' := by
  go_enter Tryd.func68, Tryd.ntmps68
  go_wp2_with fail
  go_ret
  exact ⟨by first | rfl | simp, Chg.alloc _ _ _⟩
set_option maxHeartbeats 3200000 in
set_option maxRecDepth 100000 in
theorem formed_12_k (w : World) (pk pd : Option Addr) (nk ck nd cd : Nat) (hk : ((nk : Int) == 0) = false) :
    Calls Tryd.prog 68 #[.agg #[.int .i64 12, .int .i64 0, .string ⟨#[]⟩, .slice pk nk ck, .slice pd nd cd]] w fun e w' => e = .returned (.bool false) ∧ Chg (fun _ => False) w w' := by
  go_enter Tryd.func68, Tryd.ntmps68
  go_wp2_with fail
  go_ret
  exact ⟨by first | rfl | simp, Chg.alloc _ _ _⟩
set_option maxHeartbeats 3200000 in
set_option maxRecDepth 100000 in
theorem formed_12_o (w : World) (pk pd : Option Addr) (nk ck nd cd : Nat) (hk : ((nk : Int) == 0) = true) (ho : ¬ (nd : Int) % 2 = 0) :
    Calls Tryd.prog 68 #[.agg #[.int .i64 12, .int .i64 0, .string ⟨#[]⟩, .slice pk nk ck, .slice pd nd cd]] w fun e w' => e = .returned (.bool false) ∧ Chg (fun _ => False) w w' := by
  go_enter Tryd.func68, Tryd.ntmps68
  go_wp2_with fail
  go_ret
  exact ⟨by first | rfl | simp, Chg.alloc _ _ _⟩
set_option maxHeartbeats 3200000 in
set_option maxRecDepth 100000 in
theorem formed_12_d (w : World) (pk pd : Option Addr) (nk ck nd cd : Nat) (hk : ((nk : Int) == 0) = true) (ho : (nd : Int) % 2 = 0) :
    Calls Tryd.prog 68 #[.agg #[.int .i64 12, .int .i64 0, .string ⟨#[]⟩, .slice pk nk ck, .slice pd nd cd]] w fun e w' => e = .returned (.bool (decide ((nd : Int) ≤ 20000))) ∧ Chg (fun _ => False) w w' := by
  go_enter Tryd.func68, Tryd.ntmps68
  go_wp2_with fail
  go_ret
  exact ⟨by first | rfl | simp, Chg.alloc _ _ _⟩
set_option maxHeartbeats 3200000 in
set_option maxRecDepth 100000 in
theorem formed_x (w : World) (kind : Int) (pk pd : Option Addr) (nk ck nd cd : Nat) (h4 : ¬ kind ≤ 4) (h10 : ¬ kind = 10) (h11 : ¬ kind = 11) (h12 : ¬ kind = 12) (h13 : ¬ kind = 13) (h14 : ¬ kind = 14) :
    Calls Tryd.prog 68 #[.agg #[.int .i64 kind, .int .i64 0, .string ⟨#[]⟩, .slice pk nk ck, .slice pd nd cd]] w fun e w' => e = .returned (.bool false) ∧ Chg (fun _ => False) w w' := by
  go_enter Tryd.func68, Tryd.ntmps68
  go_wp2_with fail
  go_ret
  exact ⟨by first | rfl | simp, Chg.alloc _ _ _⟩
set_option maxHeartbeats 3200000 in
set_option maxRecDepth 100000 in
theorem formed_14_k (w : World) (int : Int) (pk pd : Option Addr) (nk ck nd cd : Nat) (hk : ((nk : Int) == 0) = false) :
    Calls Tryd.prog 68 #[.agg #[.int .i64 14, .int .i64 int, .string ⟨#[]⟩, .slice pk nk ck, .slice pd nd cd]] w fun e w' => e = .returned (.bool false) ∧ Chg (fun _ => False) w w' := by
  go_enter Tryd.func68, Tryd.ntmps68
  go_wp2_with fail
  go_ret
  exact ⟨by first | rfl | simp, Chg.alloc _ _ _⟩
set_option maxHeartbeats 3200000 in
set_option maxRecDepth 100000 in
theorem formed_14_d (w : World) (int : Int) (pk pd : Option Addr) (nk ck nd cd : Nat) (hk : ((nk : Int) == 0) = true) :
    Calls Tryd.prog 68 #[.agg #[.int .i64 14, .int .i64 int, .string ⟨#[]⟩, .slice pk nk ck, .slice pd nd cd]] w fun e w' => e = .returned (.bool ((nd : Int) == 0)) ∧ Chg (fun _ => False) w w' := by
  go_enter Tryd.func68, Tryd.ntmps68
  go_wp2_with fail
  go_ret
  exact ⟨by first | rfl | simp, Chg.alloc _ _ _⟩
end Go.Proofs.YtiecgbmeobpomaaDoor
namespace Go.Proofs.YtiecgbmeobpomaaDoor
open Go.RowKit
set_option linter.unusedVariables false
set_option linter.unusedSimpArgs false

theorem toList_inj {a b : ByteArray} (h : a.toList = b.toList) : a = b := by
  rw [ByteArray.toList_eq, ByteArray.toList_eq] at h
  obtain ⟨⟨x⟩⟩ := a
  obtain ⟨⟨y⟩⟩ := b
  have h : x = y := h
  rw [h]
theorem toList_nil {a : ByteArray} (h : a.toList = []) : a = ⟨#[]⟩ := toList_inj (by rw [h, ByteArray.toList_eq])
/-- A node's numbers and strings are a machine's. -/
structure NodFit (n : Nod) : Prop where
  kind : I64 n.kind
  int : I64 n.int
  str : n.str.size ≤ 35184372088832
  keys : ∀ x ∈ n.keys, x.size ≤ maxLen
  kids : ∀ x ∈ n.kids, I64 x
  fewK : Few n.keys.length
  fewD : Few n.kids.length
def valOf (n : Nod) : Vl := ⟨n.kind, n.int, n.str, 0⟩
open Classical in
noncomputable def formedB (n : Nod) : Bool :=
  if n.kind ≤ 4 then
    if ¬ 0 ≤ n.kind then false else if ¬ normM (valOf n) = valOf n then false else if ¬ n.keys.length = 0 then false else decide (n.kids.length = 0)
  else if ¬ n.str.toList = [] then false
  else if ¬ n.kind = 14 ∧ ¬ n.int = 0 then false
  else if n.kind = 10 ∨ n.kind = 13 then
    if ¬ n.keys.length = n.kids.length then false else if ¬ n.kids.length ≤ 10000 then false else diffB n.keys
  else if n.kind = 11 then if ¬ n.keys.length = 0 then false else decide (n.kids.length ≤ 10000)
  else if n.kind = 12 then if ¬ n.keys.length = 0 then false else if ¬ n.kids.length % 2 = 0 then false else decide (n.kids.length ≤ 20000)
  else if ¬ n.kind = 14 then false
  else if ¬ n.keys.length = 0 then false else decide (n.kids.length = 0)
theorem normM_kind {x : Vl} (h0 : 0 ≤ x.kind) (h4 : x.kind ≤ 4) : (normM x).kind = x.kind ∧ (normM x).ref = 0 := by
  unfold normM
  rcases (show x.kind = 0 ∨ x.kind = 1 ∨ x.kind = 2 ∨ x.kind = 3 ∨ x.kind = 4 by omega) with h | h | h | h | h <;> simp [h]
theorem beq0 {n : Nat} (h : n = 0) : ((n : Int) == 0) = true := by subst h; rfl
theorem beq1 {n : Nat} (h : ¬ n = 0) : ((n : Int) == 0) = false := beq_false_of_ne (by omega)
theorem beqD (n : Nat) : ((n : Int) == 0) = decide (n = 0) := by
  by_cases h : n = 0
  · rw [beq0 h, decide_eq_true h]
  · rw [beq1 h, decide_eq_false h]
theorem formed_any {D : Nat → Prop} (w : World) (n : Nod) (pk pd : Option Addr) (ck cd : Nat) (hU : Lib.Utf8Tabs 0 1 w) (hf : NodFit n) (hK : SeenN D w 1 (.slice pk n.keys.length ck) n.keys.length (strC n.keys)) :
    Calls Tryd.prog 68 #[.agg #[.int .i64 n.kind, .int .i64 n.int, .string n.str, .slice pk n.keys.length ck, .slice pd n.kids.length cd]] w fun e w' => e = .returned (.bool (formedB n)) ∧ Chg (fun _ => False) w w' := by
  have hs := hf.str
  have hfk := hf.fewK
  have hkm := hf.keys
  unfold formedB valOf
  generalize n.kids.length = nd at *
  obtain ⟨kind, int, str, keys, kids⟩ := n
  simp only at *
  clear hf
  by_cases h4 : kind ≤ 4
  · rw [if_pos h4]
    by_cases h0 : 0 ≤ kind
    · rw [if_neg (by simpa using h0)]
      obtain ⟨k1, k2⟩ := normM_kind (x := ⟨kind, int, str, 0⟩) h0 h4
      by_cases hi : (normM ⟨kind, int, str, 0⟩).int = int
      · by_cases ht : (normM ⟨kind, int, str, 0⟩).str.toList = str.toList
        · have he : normM ⟨kind, int, str, 0⟩ = ⟨kind, int, str, 0⟩ := by
            have ht2 := toList_inj ht
            generalize normM ⟨kind, int, str, 0⟩ = nv at *
            obtain ⟨a, b, c, d⟩ := nv
            simp only at *
            rw [k1, k2, hi, ht2]
          rw [if_neg (by simpa using he)]
          by_cases hk : keys.length = 0
          · rw [if_neg (by simpa using hk), ← beqD]
            exact formed_kids w kind int str pk pd keys.length ck nd cd hU hs h4 h0 k1 k2 hi ht (beq0 hk)
          · rw [if_pos hk]
            exact formed_keys w kind int str pk pd keys.length ck nd cd hU hs h4 h0 k1 k2 hi ht hk
        · rw [if_pos (fun he => ht (by rw [he]))]
          exact formed_str w kind int str pk pd keys.length ck nd cd hU hs h4 h0 k1 k2 hi ht
      · rw [if_pos (fun he => hi (by rw [he]))]
        exact formed_int w kind int str pk pd keys.length ck nd cd hU hs h4 h0 k1 k2 hi
    · rw [if_pos h0]
      exact formed_neg w kind int str pk pd keys.length ck nd cd hU hs h4 h0
  · rw [if_neg h4]
    by_cases ht : str.toList = []
    · rw [if_neg (by simpa using ht)]
      have hse := toList_nil ht
      subst hse
      by_cases hi : ¬ kind = 14 ∧ ¬ int = 0
      · rw [if_pos hi]
        exact formed_b2 w kind int pk pd keys.length ck nd cd h4 (by simpa using hi.1) (by simpa using hi.2)
      · rw [if_neg hi]
        by_cases h14 : kind = 14
        · subst h14
          rw [if_neg (by decide), if_neg (by decide), if_neg (by decide), if_neg (by simp)]
          by_cases hk : keys.length = 0
          · rw [if_neg (by simpa using hk), ← beqD]
            exact formed_14_d w int pk pd keys.length ck nd cd (beq0 hk)
          · rw [if_pos hk]
            exact formed_14_k w int pk pd keys.length ck nd cd (beq1 hk)
        · have hz : int = 0 := Classical.not_not.1 fun h => hi ⟨h14, h⟩
          subst hz
          by_cases h10 : kind = 10
          · subst h10
            rw [if_pos (.inl rfl)]
            by_cases hn : keys.length = nd
            · rw [if_neg (by simpa using hn)]
              by_cases hl : nd ≤ 10000
              · rw [if_neg (by simpa using hl)]
                exact formed_10_d w pk pd keys.length ck nd cd keys hK hfk hkm (by simp [hn]) (by omega)
              · rw [if_pos hl]
                exact formed_10_l w pk pd keys.length ck nd cd (by simp [hn]) (by omega)
            · rw [if_pos hn]
              exact formed_10_n w pk pd keys.length ck nd cd (beq_false_of_ne (by omega))
          · by_cases h13 : kind = 13
            · subst h13
              rw [if_pos (.inr rfl)]
              by_cases hn : keys.length = nd
              · rw [if_neg (by simpa using hn)]
                by_cases hl : nd ≤ 10000
                · rw [if_neg (by simpa using hl)]
                  exact formed_13_d w pk pd keys.length ck nd cd keys hK hfk hkm (by simp [hn]) (by omega)
                · rw [if_pos hl]
                  exact formed_13_l w pk pd keys.length ck nd cd (by simp [hn]) (by omega)
              · rw [if_pos hn]
                exact formed_13_n w pk pd keys.length ck nd cd (beq_false_of_ne (by omega))
            · rw [if_neg (by simp [h10, h13])]
              by_cases h11 : kind = 11
              · subst h11
                rw [if_pos rfl]
                by_cases hk : keys.length = 0
                · rw [if_neg (by simpa using hk), show decide (nd ≤ 10000) = decide ((nd : Int) ≤ 10000) from decide_eq_decide.2 (by omega)]
                  exact formed_11_d w pk pd keys.length ck nd cd (beq0 hk)
                · rw [if_pos hk]
                  exact formed_11_k w pk pd keys.length ck nd cd (beq1 hk)
              · rw [if_neg h11]
                by_cases h12 : kind = 12
                · subst h12
                  rw [if_pos rfl]
                  by_cases hk : keys.length = 0
                  · rw [if_neg (by simpa using hk)]
                    by_cases ho : nd % 2 = 0
                    · rw [if_neg (by simpa using ho), show decide (nd ≤ 20000) = decide ((nd : Int) ≤ 20000) from decide_eq_decide.2 (by omega)]
                      exact formed_12_d w pk pd keys.length ck nd cd (beq0 hk) (by omega)
                    · rw [if_pos ho]
                      exact formed_12_o w pk pd keys.length ck nd cd (beq0 hk) (by omega)
                  · rw [if_pos hk]
                    exact formed_12_k w pk pd keys.length ck nd cd (beq1 hk)
                · rw [if_neg h12, if_pos h14]
                  exact formed_x w kind pk pd keys.length ck nd cd h4 h10 h11 h12 h13 h14
    · rw [if_pos ht]
      exact formed_b1 w kind int str pk pd keys.length ck nd cd h4 ht
end Go.Proofs.YtiecgbmeobpomaaDoor
