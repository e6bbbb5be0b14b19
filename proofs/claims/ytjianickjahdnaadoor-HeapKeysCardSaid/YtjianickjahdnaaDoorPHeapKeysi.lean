/-
  The fixed example of the laws of heaps (awake).
  HeapBegins: what it calls, what a new heap holds.
  HeapChains, plainly: chains of eight objects.
  HeapChains, plainly: the heap of the law.
  HeapOrders, plainly: one object's properties, in their order.
  A heap that is full: Make, Fault; value.Text.
  The reference's Repair.
-/
import Derived.Test.YtjianickjahdnaaDoorPHeapKeysh
import Derived.Test.YtjianickjahdnaaDoorPHeapKeyse
import Derived.Test.YtjianickjahdnaaDoorPHeapKeysf
import Derived.Test.YtjianickjahdnaaDoorPHeapKeysg
import Derived.Test.YtjianickjahdnaaDoorPHeapKeysd
import Derived.Lib.MapLaws
import Derived.Lib.TrimUEq
import Derived.Lib.ValidLaws
import Derived.Stop.FmtQuoteTie
namespace Go.Proofs.YtjianickjahdnaaDoor
open Go.RowKit
set_option linter.unusedVariables false
set_option linter.unusedSimpArgs false

def hpB : Hp := addedM (newM 5 3) ⟨true, newObj ((1 : Nat) : Int) ((newM 5 3).protos.getD 1 0)⟩
theorem hpB_len : hpB.slots.length = 13 := rfl
theorem hpB_kind {hh : 12 < hpB.slots.length} : hpB.slots[12].obj.kind = 1 := rfl
theorem hpB_elems {hh : 12 < hpB.slots.length} : hpB.slots[12].obj.elems = [] := rfl
theorem hpB_slot : slotOf hpB (handleM 5 3 12) = some 12 := by kernel_rfl
theorem posOne : posM ⟨#[49]⟩ = ((1 : Nat) : Int) := by kernel_rfl
theorem hB_in : -9223372036854775808 ≤ handleM 5 3 12 ∧ handleM 5 3 12 ≤ 9223372036854775807 := by
  have := handle_in 5 3 (i := 12) (by omega)
  have e : handleM 5 3 ((12 : Nat) : Int) = handleM 5 3 12 := rfl
  omega
def hpC (x : Obj) : Hp := putO hpB 12 x
theorem hpC_len (x : Obj) : (hpC x).slots.length = 13 := rfl
theorem hpC_obj (x : Obj) {hh : 12 < (hpC x).slots.length} : (hpC x).slots[12].obj = x := rfl
def xB : Obj := { hpB.slots[12].obj with elems := (resizeL hpB.slots[12].obj.elems 2).set 1 ⟨3, 7, ⟨#[]⟩, 0⟩ }
theorem xB_kind : xB.kind = 1 := rfl
theorem xB_len : xB.elems.length = 2 := rfl
theorem putB (w : World) (bh : Nat) (F : List Nat) (H : Here hpR w bh 0 hpB F) (HT : Tabs w) : Calls Tryd.prog 24 #[.pointer (some ⟨bh, 0, none⟩), .int .i64 (handleM 5 3 12), .string ⟨#[49]⟩, .agg #[.int .i64 3, .int .i64 7, .string ⟨#[]⟩, .int .i64 0]] w fun e w' => e = .returned (.int .i64 0) ∧ Post hpR w bh 0 (hpC xB) F w' :=
  put_grow w bh hpB F (handleM 5 3 12) 12 ⟨#[49]⟩ ⟨3, 7, ⟨#[]⟩, 0⟩ ⟨3, 7, ⟨#[]⟩, 0⟩ H hB_in hpB_slot (by rw [hpB_len]; omega) hpB_kind (by rw [hpB_elems]; simp) (fun W _ => normal_int 7 W) (by rw [show (⟨#[49]⟩ : ByteArray).toList = [49] from by kernel_rfl]; decide) (by decide) HT 1 posOne (by rw [hpB_elems]; simp) (by omega)
theorem ownB (w : World) (bh : Nat) (F : List Nat) (H : Here hpR w bh 0 (hpC xB) F) : Calls Tryd.prog 23 #[.pointer (some ⟨bh, 0, none⟩), .int .i64 (handleM 5 3 12), .string ⟨#[108, 101, 110, 103, 116, 104]⟩] w fun e w' => e = .returned (.tuple #[.agg #[.int .i64 3, .int .i64 2, .string ⟨#[]⟩, .int .i64 0], .bool true]) ∧ Chg (fun _ => False) w w' :=
  own_len w bh (hpC xB) F (handleM 5 3 12) 12 H hB_in (show slotOf (hpC xB) _ = _ by kernel_rfl) (by rw [hpC_len]; omega) (by rw [hpC_obj]; exact xB_kind)
set_option maxHeartbeats 3200000 in
set_option maxRecDepth 100000 in
theorem awake_heap (w : World) (HT : Tabs w) : Calls Tryd.prog 9 #[] w fun e w' => e = .returned (.bool true) ∧ Chg (fun _ => False) w w' := by
  have HN := Lib.hid (new_any 5 3 w)
  have HTT := Lib.hid HT
  have HOF := Lib.hid (fun (h : Int) (W : World) => vofA h W)
  clear HT
  go_enter Tryd.func9, Tryd.ntmps9
  go_upto_region 2 with (go_at_call 10; refine HN.out.mono ?_; rintro e w1 ⟨cs, F, rfl, hown, hnd, hlo, hch⟩; have hown' := hown; obtain ⟨v1, v2, v3, F1, F2, F3, rfl, o1, o2, o3, -⟩ := hown'; obtain ⟨x1, y1, p1⟩ := Rep.opened o1; obtain ⟨n1, m1, rfl, -⟩ := p1.val; obtain ⟨x2, y2, p2⟩ := Rep.opened o2; obtain ⟨n2, m2, rfl, -⟩ := p2.val; obtain ⟨x3, y3, p3⟩ := Rep.opened o3; obtain ⟨n3, m3, rfl, -⟩ := p3.val; clear o1 o2 o3 p1 p2 p3)
  have HO0 : Own hpR w (w1.alloc (.cells _ 30)) w1.heap.size 0 (newM 5 3) F := ⟨Here.made w1 30 _ (newM 5 3) F hown hnd, hch.allocR _, hch.size, hlo⟩
  have HO := Lib.hid HO0
  clear HN hown hnd hlo hch HO0
  generalize w1.alloc (.cells #[.int .i64 (newM 5 3).base, .int .i64 (newM 5 3).stride, .slice n1 (newM 5 3).slots.length m1, .slice n2 (newM 5 3).free.length m2, .int .i64 (newM 5 3).live, .int .i64 (newM 5 3).global, .int .i64 (newM 5 3).texts, .slice n3 (newM 5 3).protos.length m3] 30) = W2 at *
  generalize w1.heap.size = bh at *
  have HMK := Lib.hid (make_any W2 bh (newM 5 3) F 1 HO.out.here rfl rfl (by show 12 < 100000; omega) rfl (by omega))
  go_upto_region 3 with (go_at_call 11; refine HMK.out.mono ?_; rintro e W3 ⟨rfl, hA⟩)
  obtain ⟨F3, HO3⟩ : ∃ F3, Own hpR w W3 bh 0 hpB F3 := hA.post.own HO.out
  have H3 := Lib.hid HO3
  clear HMK hA HO HO3
  rw [show handleM (newM 5 3).base (newM 5 3).stride (newM 5 3).slots.length = handleM 5 3 12 from rfl]
  go_upto_region 4 with (first
    | (go_at_call 25; refine (HOF.out _ _).mono ?_; rintro e W4 ⟨rfl, hc4⟩; have H4 := Lib.hid (show Own hpR w W4 bh 0 hpB F3 from ⟨H3.out.here.still hc4, H3.out.chg.trans' hc4, H3.out.lo, H3.out.los⟩); clear hc4)
    | (go_at_call 24; refine (putB W4 bh F3 H4.out.here (HTT.out.still H4.out.chg)).mono ?_; rintro e W5 ⟨rfl, hp5⟩))
  obtain ⟨F5, HO5⟩ := hp5.own H4.out
  have H5 := Lib.hid HO5
  clear hp5 HO5
  have HOW := Lib.hid (ownB W5 bh F5 H5.out.here)
  go_upto_region 5 with (go_at_call 23; refine HOW.out.mono ?_; rintro e W6 ⟨rfl, hc6⟩)
  have hb5 := alloc_block W6 (.cells #[.int .i64 3, .int .i64 2, .string ⟨#[]⟩, .int .i64 0] 36)
  have HCO := Lib.hid (hc6.trans' (Chg.alloc (fun _ => False) W6 (.cells #[.int .i64 3, .int .i64 2, .string ⟨#[]⟩, .int .i64 0] 36)))
  generalize W6.alloc (.cells #[.int .i64 3, .int .i64 2, .string ⟨#[]⟩, .int .i64 0] 36) = w5 at *
  generalize W6.heap.size = b5 at *
  have m0 := cell_of_block (i := 0) hb5 rfl
  have m1 := cell_of_block (i := 1) hb5 rfl
  have m2 := cell_of_block (i := 2) hb5 rfl
  have m3 := cell_of_block (i := 3) hb5 rfl
  simp only [List.getElem_toArray, List.getElem_cons_zero, List.getElem_cons_succ] at m0 m1 m2 m3
  obtain ⟨-, -, -, -, -, c5, -, p7, k7, c7⟩ := hpCells H5.out.here
  rw [Nat.zero_add] at c5
  change W5.cell? ⟨bh, 5, none⟩ = some (.int .i64 (handleM 5 3 11)) at c5
  have HS0 : Hid (w5.cell? ⟨b5, 0, none⟩ = some (.int .i64 3) ∧ w5.cell? ⟨b5, 1, none⟩ = some (.int .i64 2) ∧ w5.cell? ⟨b5, 2, none⟩ = some (.string ⟨#[]⟩) ∧ w5.cell? ⟨b5, 3, none⟩ = some (.int .i64 0) ∧ w5.cell? ⟨bh, 5, none⟩ = some (.int .i64 (handleM 5 3 11))) := Lib.hid ⟨m0, m1, m2, m3, HCO.out.cell c5⟩
  have hg : (handleM 5 3 11 != 0) = true := by kernel_rfl
  have hg2 : (handleM 5 3 11 == 0) = false := by kernel_rfl
  have hg3 : ¬ handleM 5 3 11 = 0 := by decide
  have HCZ := Lib.hid (H5.out.chg.trans' HCO.out)
  clear m0 m1 m2 m3 hb5 hc6 c5 c7 HOW H3 H4
  generalize handleM 5 3 11 = hgl at *
  refine wp_region_held_split 19 (fun w' => w'.cell? ⟨b5, 0, none⟩ = some (.int .i64 3) ∧ w'.cell? ⟨b5, 1, none⟩ = some (.int .i64 2) ∧ w'.cell? ⟨b5, 2, none⟩ = some (.string ⟨#[]⟩) ∧ w'.cell? ⟨b5, 3, none⟩ = some (.int .i64 0) ∧ w'.cell? ⟨bh, 5, none⟩ = some (.int .i64 hgl)) (by kernel_rfl) (by kernel_rfl) ?_ (fun hHeld => ?_)
  · (first | exact HS0.out | exact HKS.out _ HCC.out)
  simp only [List.take_succ_cons, List.take_zero]
  have HKS : Hid (∀ W, Chg (fun _ => False) w5.drew W → W.cell? ⟨b5, 0, none⟩ = some (.int .i64 3) ∧ W.cell? ⟨b5, 1, none⟩ = some (.int .i64 2) ∧ W.cell? ⟨b5, 2, none⟩ = some (.string ⟨#[]⟩) ∧ W.cell? ⟨b5, 3, none⟩ = some (.int .i64 0) ∧ W.cell? ⟨bh, 5, none⟩ = some (.int .i64 hgl)) := Lib.hid (fun W hc => ⟨hc.cell HS0.out.1, hc.cell HS0.out.2.1, hc.cell HS0.out.2.2.1, hc.cell HS0.out.2.2.2.1, hc.cell HS0.out.2.2.2.2⟩)
  have HWD : Hid (Chg (fun _ => False) w5 w5.drew) := Lib.hid (Chg.refl _ w5).drewR
  generalize w5.drew = wD at *
  have HCC := Lib.hid (Chg.refl (fun _ => False) wD)
  refine wpAnyH_take (i := 0) (v := ?_) rfl (by kernel_rfl) (by kernel_rfl) (by kernel_rfl) (fun _ _ _ h => h) (Or.inl ⟨by rfl, ?_⟩) (by assumption) ?_
  rotate_left
  · (intro wq hSw; (try dsimp only at hSw); go_simp; (try with_reducible rfl))
  simp only [Act.put, List.getElem_toArray, List.getElem_cons_zero, List.getElem_cons_succ, List.setIfInBounds_toArray, List.set_cons_zero, List.set_cons_succ]
  refine wpAnyH_take (i := 1) (v := ?_) rfl (by kernel_rfl) (by kernel_rfl) (by kernel_rfl) (fun _ _ _ h => h) (Or.inl ⟨by rfl, ?_⟩) (by assumption) ?_
  rotate_left
  · (intro wq hSw; (try dsimp only at hSw); go_simp; (try with_reducible rfl))
  simp only [Act.put, List.getElem_toArray, List.getElem_cons_zero, List.getElem_cons_succ, List.setIfInBounds_toArray, List.set_cons_zero, List.set_cons_succ]
  refine wpAnyH_take (i := 2) (v := ?_) rfl (by kernel_rfl) (by kernel_rfl) (by kernel_rfl) (fun _ _ _ h => h) (Or.inl ⟨by rfl, ?_⟩) (by assumption) ?_
  rotate_left
  · (intro wq hSw; (try dsimp only at hSw); go_simp; (try with_reducible rfl))
  simp only [Act.put, List.getElem_toArray, List.getElem_cons_zero, List.getElem_cons_succ, List.setIfInBounds_toArray, List.set_cons_zero, List.set_cons_succ]
  first
  | (refine wpAnyH_take (i := 3) (v := undef) rfl (by kernel_rfl) (by kernel_rfl) (by kernel_rfl) (fun _ _ _ h => h) (Or.inr ⟨by rfl, rfl⟩) (by assumption) ?_)
  | (refine wpAnyH_take (i := 3) (v := ?_) rfl (by kernel_rfl) (by kernel_rfl) (by kernel_rfl) (fun _ _ _ h => h) (Or.inl ⟨by rfl, ?_⟩) (by assumption) ?_; rotate_left; (focus (intro wq hSw; (try dsimp only at hSw); go_simp; (try with_reducible rfl))))
  simp only [Act.put, List.getElem_toArray, List.getElem_cons_zero, List.getElem_cons_succ, List.setIfInBounds_toArray, List.set_cons_zero, List.set_cons_succ]
  first
  | (refine wpAnyH_take (i := 4) (v := undef) rfl (by kernel_rfl) (by kernel_rfl) (by kernel_rfl) (fun _ _ _ h => h) (Or.inr ⟨by rfl, rfl⟩) (by assumption) ?_)
  | (refine wpAnyH_take (i := 4) (v := ?_) rfl (by kernel_rfl) (by kernel_rfl) (by kernel_rfl) (fun _ _ _ h => h) (Or.inl ⟨by rfl, ?_⟩) (by assumption) ?_; rotate_left; (focus (intro wq hSw; (try dsimp only at hSw); go_simp; (try with_reducible rfl))))
  simp only [Act.put, List.getElem_toArray, List.getElem_cons_zero, List.getElem_cons_succ, List.setIfInBounds_toArray, List.set_cons_zero, List.set_cons_succ]
  refine wpAnyH_take (i := 5) (v := ?_) rfl (by kernel_rfl) (by kernel_rfl) (by kernel_rfl) (fun _ _ _ h => h) (Or.inl ⟨by rfl, ?_⟩) (by assumption) ?_
  rotate_left
  · (intro wq hSw; (try dsimp only at hSw); go_simp; (try with_reducible rfl))
  simp only [Act.put, List.getElem_toArray, List.getElem_cons_zero, List.getElem_cons_succ, List.setIfInBounds_toArray, List.set_cons_zero, List.set_cons_succ]
  refine wpAnyH_take (i := 6) (v := ?_) rfl (by kernel_rfl) (by kernel_rfl) (by kernel_rfl) (fun _ _ _ h => h) (Or.inl ⟨by rfl, ?_⟩) (by assumption) ?_
  rotate_left
  · (intro wq hSw; (try dsimp only at hSw); go_simp; (try with_reducible rfl))
  simp only [Act.put, List.getElem_toArray, List.getElem_cons_zero, List.getElem_cons_succ, List.setIfInBounds_toArray, List.set_cons_zero, List.set_cons_succ]
  first
  | (refine wpAnyH_take (i := 7) (v := undef) rfl (by kernel_rfl) (by kernel_rfl) (by kernel_rfl) (fun _ _ _ h => h) (Or.inr ⟨by rfl, rfl⟩) (by assumption) ?_)
  | (refine wpAnyH_take (i := 7) (v := ?_) rfl (by kernel_rfl) (by kernel_rfl) (by kernel_rfl) (fun _ _ _ h => h) (Or.inl ⟨by rfl, ?_⟩) (by assumption) ?_; rotate_left; (focus (intro wq hSw; (try dsimp only at hSw); go_simp; (try with_reducible rfl))))
  simp only [Act.put, List.getElem_toArray, List.getElem_cons_zero, List.getElem_cons_succ, List.setIfInBounds_toArray, List.set_cons_zero, List.set_cons_succ]
  refine wpAnyH_take (i := 8) (v := ?_) rfl (by kernel_rfl) (by kernel_rfl) (by kernel_rfl) (fun _ _ _ h => h) (Or.inl ⟨by rfl, ?_⟩) (by assumption) ?_
  rotate_left
  · (intro wq hSw; (try dsimp only at hSw); go_simp; (try with_reducible rfl))
  simp only [Act.put, List.getElem_toArray, List.getElem_cons_zero, List.getElem_cons_succ, List.setIfInBounds_toArray, List.set_cons_zero, List.set_cons_succ]
  refine wpAnyH_take (i := 9) (v := ?_) rfl (by kernel_rfl) (by kernel_rfl) (by kernel_rfl) (fun _ _ _ h => h) (Or.inl ⟨by rfl, ?_⟩) (by assumption) ?_
  rotate_left
  · (intro wq hSw; (try dsimp only at hSw); go_simp; (try with_reducible rfl))
  simp only [Act.put, List.getElem_toArray, List.getElem_cons_zero, List.getElem_cons_succ, List.setIfInBounds_toArray, List.set_cons_zero, List.set_cons_succ]
  first
  | (refine wpAnyH_take (i := 10) (v := undef) rfl (by kernel_rfl) (by kernel_rfl) (by kernel_rfl) (fun _ _ _ h => h) (Or.inr ⟨by rfl, rfl⟩) (by assumption) ?_)
  | (refine wpAnyH_take (i := 10) (v := ?_) rfl (by kernel_rfl) (by kernel_rfl) (by kernel_rfl) (fun _ _ _ h => h) (Or.inl ⟨by rfl, ?_⟩) (by assumption) ?_; rotate_left; (focus (intro wq hSw; (try dsimp only at hSw); go_simp; (try with_reducible rfl))))
  simp only [Act.put, List.getElem_toArray, List.getElem_cons_zero, List.getElem_cons_succ, List.setIfInBounds_toArray, List.set_cons_zero, List.set_cons_succ]
  refine wpAnyH_ready (rs := [11]) (by kernel_rfl) (by simp) ?_
  refine AllReadyH.cons (by simp only [List.getElem?_toArray, List.getElem?_cons_succ, List.getElem?_cons_zero]; rfl) (fun K hK => ?_) AllReadyH.nil
  (go_simp; go_at_call 25; refine (HOF.out _ _).mono ?_; rintro _ wd ⟨rfl, hcd⟩; have HCC := Lib.hid (HCC.out.trans' hcd); clear hcd; go_simp)
  refine hK.out _ _ ?_ (fun hHeld => ?_)
  · (first | exact HS0.out | exact HKS.out _ HCC.out)
  clear hK K
  (try simp only [Act.put, List.getElem_toArray, List.getElem_cons_zero, List.getElem_cons_succ, List.setIfInBounds_toArray, List.set_cons_zero, List.set_cons_succ])
  first
  | (refine wpAnyH_take (i := 12) (v := undef) rfl (by kernel_rfl) (by kernel_rfl) (by kernel_rfl) (fun _ _ _ h => h) (Or.inr ⟨by rfl, rfl⟩) (by assumption) ?_)
  | (refine wpAnyH_take (i := 12) (v := ?_) rfl (by kernel_rfl) (by kernel_rfl) (by kernel_rfl) (fun _ _ _ h => h) (Or.inl ⟨by rfl, ?_⟩) (by assumption) ?_; rotate_left; (focus (intro wq hSw; (try dsimp only at hSw); go_simp; (try with_reducible rfl))))
  simp only [Act.put, List.getElem_toArray, List.getElem_cons_zero, List.getElem_cons_succ, List.setIfInBounds_toArray, List.set_cons_zero, List.set_cons_succ]
  refine wpAnyH_take (i := 13) (v := ?_) rfl (by kernel_rfl) (by kernel_rfl) (by kernel_rfl) (fun _ _ _ h => h) (Or.inl ⟨by rfl, ?_⟩) (by assumption) ?_
  rotate_left
  · (intro wq hSw; (try dsimp only at hSw); go_simp; (try with_reducible rfl))
  simp only [Act.put, List.getElem_toArray, List.getElem_cons_zero, List.getElem_cons_succ, List.setIfInBounds_toArray, List.set_cons_zero, List.set_cons_succ]
  refine wpAnyH_take (i := 14) (v := ?_) rfl (by kernel_rfl) (by kernel_rfl) (by kernel_rfl) (fun _ _ _ h => h) (Or.inl ⟨by rfl, ?_⟩) (by assumption) ?_
  rotate_left
  · (intro wq hSw; (try dsimp only at hSw); go_simp; (try with_reducible rfl))
  simp only [Act.put, List.getElem_toArray, List.getElem_cons_zero, List.getElem_cons_succ, List.setIfInBounds_toArray, List.set_cons_zero, List.set_cons_succ]
  first
  | (refine wpAnyH_take (i := 15) (v := undef) rfl (by kernel_rfl) (by kernel_rfl) (by kernel_rfl) (fun _ _ _ h => h) (Or.inr ⟨by rfl, rfl⟩) (by assumption) ?_)
  | (refine wpAnyH_take (i := 15) (v := ?_) rfl (by kernel_rfl) (by kernel_rfl) (by kernel_rfl) (fun _ _ _ h => h) (Or.inl ⟨by rfl, ?_⟩) (by assumption) ?_; rotate_left; (focus (intro wq hSw; (try dsimp only at hSw); go_simp; (try with_reducible rfl))))
  simp only [Act.put, List.getElem_toArray, List.getElem_cons_zero, List.getElem_cons_succ, List.setIfInBounds_toArray, List.set_cons_zero, List.set_cons_succ]
  first
  | (refine wpAnyH_take (i := 16) (v := undef) rfl (by kernel_rfl) (by kernel_rfl) (by kernel_rfl) (fun _ _ _ h => h) (Or.inr ⟨by rfl, rfl⟩) (by assumption) ?_)
  | (refine wpAnyH_take (i := 16) (v := ?_) rfl (by kernel_rfl) (by kernel_rfl) (by kernel_rfl) (fun _ _ _ h => h) (Or.inl ⟨by rfl, ?_⟩) (by assumption) ?_; rotate_left; (focus (intro wq hSw; (try dsimp only at hSw); go_simp; (try with_reducible rfl))))
  simp only [Act.put, List.getElem_toArray, List.getElem_cons_zero, List.getElem_cons_succ, List.setIfInBounds_toArray, List.set_cons_zero, List.set_cons_succ]
  first
  | (refine wpAnyH_take (i := 17) (v := undef) rfl (by kernel_rfl) (by kernel_rfl) (by kernel_rfl) (fun _ _ _ h => h) (Or.inr ⟨by rfl, rfl⟩) (by assumption) ?_)
  | (refine wpAnyH_take (i := 17) (v := ?_) rfl (by kernel_rfl) (by kernel_rfl) (by kernel_rfl) (fun _ _ _ h => h) (Or.inl ⟨by rfl, ?_⟩) (by assumption) ?_; rotate_left; (focus (intro wq hSw; (try dsimp only at hSw); go_simp; (try with_reducible rfl))))
  simp only [Act.put, List.getElem_toArray, List.getElem_cons_zero, List.getElem_cons_succ, List.setIfInBounds_toArray, List.set_cons_zero, List.set_cons_succ]
  refine wpAnyH_take (i := 18) (v := ?_) rfl (by kernel_rfl) (by kernel_rfl) (by kernel_rfl) (fun _ _ _ h => h) (Or.inl ⟨by rfl, ?_⟩) (by assumption) ?_
  rotate_left
  · (intro wq hSw; (try dsimp only at hSw); go_simp; (try with_reducible rfl))
  simp only [Act.put, List.getElem_toArray, List.getElem_cons_zero, List.getElem_cons_succ, List.setIfInBounds_toArray, List.set_cons_zero, List.set_cons_succ]
  refine wpAnyH_done (by kernel_rfl) ?_ _
  change wpList _ _ _ _ _ _
  simp only [List.drop_succ_cons, List.drop_zero]
  go_wp2_with fail
  go_ret
  exact ⟨rfl, (HCZ.out.trans' HWD.out).trans' HCC.out⟩
end Go.Proofs.YtjianickjahdnaaDoor
namespace Go.Proofs.YtjianickjahdnaaDoor
open Go.RowKit
set_option linter.unusedVariables false
set_option linter.unusedSimpArgs false

def protoN (k : Nat) : Int := [1, 2, 3, 3, 4, 5, 6, 7, 8, 0, 9, 10].getD k 0
def handleL (a s n : Int) : Int := if n < 1 then 0 else handleM a s (n - 1)
theorem protoN_in (k : Nat) (hk : k < 12) : 0 ≤ protoN k ∧ protoN k ≤ 12 := by
  have : k = 0 ∨ k = 1 ∨ k = 2 ∨ k = 3 ∨ k = 4 ∨ k = 5 ∨ k = 6 ∨ k = 7 ∨ k = 8 ∨ k = 9 ∨ k = 10 ∨ k = 11 := by omega
  rcases this with rfl | rfl | rfl | rfl | rfl | rfl | rfl | rfl | rfl | rfl | rfl | rfl <;> decide
theorem newM_proto (a s : Int) (k : Nat) (hk : k < 12) : (newM a s).protos[k]? = some (handleL a s (protoN k)) := by
  have : k = 0 ∨ k = 1 ∨ k = 2 ∨ k = 3 ∨ k = 4 ∨ k = 5 ∨ k = 6 ∨ k = 7 ∨ k = 8 ∨ k = 9 ∨ k = 10 ∨ k = 11 := by omega
  rcases this with rfl | rfl | rfl | rfl | rfl | rfl | rfl | rfl | rfl | rfl | rfl | rfl <;> simp [newM, hps, handleL, protoN]
set_option maxHeartbeats 3200000 in
set_option maxRecDepth 100000 in
theorem rproto_any (k : Nat) (w : World) (hk : k < 12) : Calls Tryd.prog 15 #[.int .i64 (k : Int)] w fun e w' => e = .returned (.int .i64 (protoN k)) ∧ Chg (fun _ => False) w w' := by
  have : k = 0 ∨ k = 1 ∨ k = 2 ∨ k = 3 ∨ k = 4 ∨ k = 5 ∨ k = 6 ∨ k = 7 ∨ k = 8 ∨ k = 9 ∨ k = 10 ∨ k = 11 := by omega
  rcases this with rfl | rfl | rfl | rfl | rfl | rfl | rfl | rfl | rfl | rfl | rfl | rfl
  all_goals (
    go_enter Tryd.func15, Tryd.ntmps15
    go_wp2_with fail
    go_ret
    exact ⟨rfl, Chg.refl _ _⟩)
set_option maxHeartbeats 1600000 in
set_option maxRecDepth 100000 in
theorem lhandle_any (a s n : Int) (w : World) (hn : -1000 ≤ n ∧ n ≤ 1000000) : Calls Tryd.prog 14 #[.agg #[.int .i64 a, .int .i64 s], .int .i64 n] w fun e w' => e = .returned (.int .i64 (handleL a s n)) ∧ Chg (fun _ => False) w w' := by
  have hc := Chg.alloc (fun _ => False) w (.cells #[.int .i64 a, .int .i64 s] 24)
  have hb := alloc_block w (.cells #[.int .i64 a, .int .i64 s] 24)
  have k0 := cell_of_block (i := 0) hb rfl
  have k1 := cell_of_block (i := 1) hb rfl
  simp only [List.getElem_toArray, List.getElem_cons_zero, List.getElem_cons_succ] at k0 k1
  have HC := Lib.hid hc
  by_cases h1 : n < 1
  · have e1 : handleL a s n = 0 := if_pos h1
    rw [e1]
    clear e1 hb hc
    go_enter Tryd.func14, Tryd.ntmps14
    go_wp2_with fail
    go_ret
    exact ⟨rfl, HC.out⟩
  · have e1 : handleL a s n = handleM a s (n - 1) := if_neg h1
    rw [e1]
    have w1 : IntKind.i64.wrap (n - 1) = n - 1 := IntWalk.i64_in _ (by omega)
    have HHN := Lib.hid (fun W => handle_any a s (n - 1) W (by omega))
    clear e1 hb hc
    go_enter Tryd.func14, Tryd.ntmps14
    go_wp2_with (go_at_call 34; refine (HHN.out _).mono ?_; rintro e wa ⟨rfl, hca⟩)
    go_ret
    exact ⟨rfl, HC.out.trans' hca⟩
theorem newM_slot (a s : Int) (i : Nat) (hi : i < 12) : slotOf (newM a s) (handleM a s (i : Nat)) = some i := by
  refine slotOf_handle (hp := newM a s) (s := i) hi ?_ (by show 12 ≤ 100000; omega)
  rcases Nat.eq_zero_or_pos i with rfl | h
  · rfl
  · obtain ⟨j, rfl⟩ : ∃ j, i = j + 1 := ⟨i - 1, by omega⟩
    show ((⟨true, newObj 0 0⟩ :: List.replicate 11 (⟨true, newObj 0 (handleM a s 0)⟩ : Slt)).getD (j + 1) noSlt).used = true
    rw [List.getD_cons_succ, List.getD_eq_getElem?_getD, List.getElem?_replicate_of_lt (by omega)]
    rfl
theorem slot_zero (hp : Hp) : slotOf hp 0 = none := by
  have e : indexM hp.base hp.stride 0 = -1 := by
    unfold indexM
    have := normB_in hp.base
    rw [if_pos (.inl (by omega))]
  unfold slotOf
  rw [e]
  simp
theorem newM_chain (a s : Int) : chainM (newM a s) 100001 (handleM a s 0) = [handleM a s 0] := by
  have h : slotOf (newM a s) (handleM a s 0) = some 0 := newM_slot a s 0 (by omega)
  rw [show 100001 = 100000 + 1 from rfl, chainM_some h (by show 0 < 12; omega) 100000]
  rw [show ((newM a s).slots[0]'(by show 0 < 12; omega)).obj.proto = 0 from rfl, chainM_none (slot_zero _)]
theorem within_g (a s : Int) : withinM (newM a s) (handleM a s 11) (handleM a s 0) = true := by
  unfold withinM
  have h : slotOf (newM a s) (handleM a s 11) = some 11 := newM_slot a s 11 (by omega)
  rw [h]
  show (chainM (newM a s) 100001 (handleM a s 0)).contains (handleM a s 0) = true
  rw [newM_chain]
  simp
theorem within_z (a s : Int) : withinM (newM a s) (handleM a s 0) (handleM a s 0) = false := by
  unfold withinM
  have h : slotOf (newM a s) (handleM a s 0) = some 0 := newM_slot a s 0 (by omega)
  rw [h]
  show (chainM (newM a s) 100001 0).contains (handleM a s 0) = false
  rw [chainM_none (slot_zero _)]
  rfl
theorem newM_in (a s : Int) : ∀ i (hi : i < (newM a s).slots.length), InJ (newM a s).slots[i].obj.proto := by
  intro i hi
  have h0 := handle_in a s (i := 0) (by omega)
  have hz : handleM a s ((0 : Nat) : Int) = handleM a s 0 := rfl
  have hall : ∀ x ∈ (newM a s).slots, InJ x.obj.proto := by
    intro x hx
    rcases List.mem_cons.1 hx with rfl | hx
    · exact ⟨by show -9223372036854775808 ≤ (0 : Int); omega, by show (0 : Int) ≤ _; omega⟩
    · rw [List.eq_of_mem_replicate hx]
      exact ⟨by show _ ≤ handleM a s 0; omega, by show handleM a s 0 ≤ _; omega⟩
  exact hall _ (List.getElem_mem hi)
end Go.Proofs.YtjianickjahdnaaDoor
namespace Go.Proofs.YtjianickjahdnaaDoor
open Go.RowKit
set_option linter.unusedVariables false
set_option linter.unusedSimpArgs false

theorem nodup_bound : ∀ (k : Nat) (l : List Nat), l.Nodup → (∀ x ∈ l, x < k) → l.length ≤ k
  | 0, l, _, h => by
    cases l with
    | nil => simp
    | cons a l => exact absurd (h a (by simp)) (by omega)
  | k + 1, l, hn, h => by
    have h1 : (l.erase k).Nodup := hn.erase k
    have h2 : ∀ x ∈ l.erase k, x < k := fun x hx => by
      have := h x (List.mem_of_mem_erase hx)
      have hne : x ≠ k := fun e => by subst e; exact (List.Nodup.not_mem_erase hn) hx
      omega
    have h3 := nodup_bound k _ h1 h2
    have h4 := List.length_erase (a := k) (l := l)
    split at h4 <;> omega
/-- A chain of numbered objects. -/
def cN (pr : Nat → Option Nat) : Nat → Nat → List Nat
  | 0, _ => []
  | n + 1, j => j :: match pr j with
    | none => []
    | some t => cN pr n t
structure Acy (pr : Nat → Option Nat) : Prop where
  lt : ∀ j t, pr j = some t → t < 8
  ex : ∃ rank : Nat → Nat, ∀ j t, pr j = some t → rank t < rank j
section
variable {pr : Nat → Option Nat}
theorem cN_rank {rank : Nat → Nat} (h : ∀ j t, pr j = some t → rank t < rank j) : ∀ n j, (∀ x ∈ cN pr n j, rank x ≤ rank j) ∧ (cN pr n j).Nodup
  | 0, j => by simp [cN]
  | n + 1, j => by
    unfold cN
    cases hp : pr j with
    | none => simp
    | some t =>
      obtain ⟨h1, h2⟩ := cN_rank h n t
      have hl := h j t hp
      refine ⟨fun x hx => ?_, ?_⟩
      · rcases List.mem_cons.1 hx with rfl | hx
        · omega
        · have := h1 x hx; omega
      · exact List.nodup_cons.2 ⟨fun hx => by have := h1 j hx; omega, h2⟩
theorem cN_lt (h : ∀ j t, pr j = some t → t < 8) : ∀ n j, j < 8 → ∀ x ∈ cN pr n j, x < 8
  | 0, j, _, x, hx => by simp [cN] at hx
  | n + 1, j, hj, x, hx => by
    unfold cN at hx
    rcases List.mem_cons.1 hx with rfl | hx
    · exact hj
    · cases hp : pr j with
      | none => rw [hp] at hx; simp at hx
      | some t => rw [hp] at hx; exact cN_lt h n t (h j t hp) x hx
theorem cN_stable : ∀ n j, (cN pr n j).length < n → cN pr (n + 1) j = cN pr n j
  | 0, j, h => by omega
  | n + 1, j, h => by
    cases hp : pr j with
    | none => simp [cN, hp]
    | some t =>
      have e1 : cN pr (n + 1) j = j :: cN pr n t := by simp [cN, hp]
      have e2 : cN pr (n + 1 + 1) j = j :: cN pr (n + 1) t := by conv => lhs; unfold cN; rw [hp]
      rw [e1, List.length_cons] at h
      rw [e1, e2, cN_stable n t (by omega)]
/-- The whole chain. -/
def chN (pr : Nat → Option Nat) (j : Nat) : List Nat := cN pr 100001 j
theorem chN_len (h : Acy pr) (n j : Nat) (hj : j < 8) : (cN pr n j).length ≤ 8 := by
  obtain ⟨rank, hr⟩ := h.ex
  exact nodup_bound 8 _ (cN_rank hr n j).2 (cN_lt h.lt n j hj)
theorem chN_step (h : Acy pr) (j : Nat) (hj : j < 8) : chN pr j = j :: match pr j with
    | none => []
    | some t => chN pr t := by
  unfold chN
  conv => lhs; unfold cN
  cases hp : pr j with
  | none => rfl
  | some t =>
    have ht := h.lt j t hp
    have e := cN_stable (pr := pr) 100000 t (by have := chN_len h 100000 t ht; omega)
    simp only
    rw [show (100001 : Nat) = 100000 + 1 from rfl, e]
theorem chN_none (h : Acy pr) {j : Nat} (hj : j < 8) (hp : pr j = none) : chN pr j = [j] := by rw [chN_step h j hj, hp]
theorem chN_some (h : Acy pr) {j t : Nat} (hj : j < 8) (hp : pr j = some t) : chN pr j = j :: chN pr t := by rw [chN_step h j hj, hp]
/-- What lies behind an object. -/
def behind (pr : Nat → Option Nat) (j : Nat) : List Nat := match pr j with
  | none => []
  | some t => chN pr t
theorem chN_behind (h : Acy pr) {j : Nat} (hj : j < 8) : chN pr j = j :: behind pr j := by
  unfold behind
  exact chN_step h j hj
theorem chN_mem (h : Acy pr) {j : Nat} (hj : j < 8) (a : Nat) : a ∈ chN pr j ↔ a = j ∨ a ∈ behind pr j := by
  rw [chN_behind h hj, List.mem_cons]
theorem behind_self (h : Acy pr) {j : Nat} (hj : j < 8) : j ∉ behind pr j := by
  obtain ⟨rank, hr⟩ := h.ex
  unfold behind
  cases hp : pr j with
  | none => simp
  | some t =>
    intro hx
    have h1 := (cN_rank hr 100001 t).1 j hx
    have := hr j t hp
    omega
theorem Acy.link (h : Acy pr) {a b : Nat} (ha : a < 8) (hb : b < 8) (hn : a ∉ chN pr b) : Acy (fun j => if j = a then some b else pr j) := by
  obtain ⟨rank, hr⟩ := h.ex
  refine ⟨fun j t hj => ?_, fun j => if a ∈ chN pr j then rank j + rank b + 1 else rank j, fun j t hj => ?_⟩
  · by_cases e : j = a
    · rw [if_pos e] at hj; cases hj; exact hb
    · rw [if_neg e] at hj; exact h.lt j t hj
  · by_cases e : j = a
    · subst e
      rw [if_pos rfl] at hj
      cases hj
      have hself : j ∈ chN pr j := (chN_mem h ha j).2 (.inl rfl)
      simp only [if_pos hself, if_neg hn]
      omega
    · rw [if_neg e] at hj
      have hl := hr j t hj
      have ht := h.lt j t hj
      by_cases hm : a ∈ chN pr t
      · have hmj : a ∈ chN pr j := by
          by_cases hj8 : j < 8
          · rw [chN_some h hj8 hj]; exact List.mem_cons_of_mem _ hm
          · unfold chN at hm ⊢
            have e := cN_stable (pr := pr) 100000 t (by have := chN_len h 100000 t ht; omega)
            unfold cN
            rw [hj]
            simp only
            rw [← e]
            exact List.mem_cons_of_mem _ hm
        simp only [if_pos hm, if_pos hmj]
        omega
      · simp only [if_neg hm]
        split <;> omega
end
end Go.Proofs.YtjianickjahdnaaDoor
namespace Go.Proofs.YtjianickjahdnaaDoor
open Go.RowKit
set_option linter.unusedVariables false
set_option linter.unusedSimpArgs false

theorem putO_gt {hp : Hp} {i : Nat} (hi : i < hp.slots.length) (o : Obj) (j : Nat) : (putO hp i o).slots.getD j noSlt = if i = j then { hp.slots.getD i noSlt with obj := o } else hp.slots.getD j noSlt := by
  show (hp.slots.set i { hp.slots.getD i noSlt with obj := o }).getD j noSlt = _
  rw [List.getD_eq_getElem?_getD, List.getElem?_set]
  by_cases e : i = j
  · rw [if_pos e, if_pos e, if_pos hi]; rfl
  · rw [if_neg e, if_neg e, List.getD_eq_getElem?_getD]
theorem gD_app_lt {l : List Slt} {x : Slt} {i : Nat} (h : i < l.length) : (l ++ [x]).getD i noSlt = l.getD i noSlt := by
  rw [List.getD_eq_getElem?_getD, List.getD_eq_getElem?_getD, List.getElem?_append_left h]
theorem gD_app_eq {l : List Slt} {x : Slt} : (l ++ [x]).getD l.length noSlt = x := by
  rw [List.getD_eq_getElem?_getD, List.getElem?_append_right (Nat.le_refl _), Nat.sub_self]; rfl
theorem gD_get {α : Type} {l : List α} {d : α} {i : Nat} (h : i < l.length) : l.getD i d = l[i] := by rw [List.getD_eq_getElem?_getD, List.getElem?_eq_getElem h]; rfl
def hC (t : Nat) : Int := handleM 2 7 ((12 + t : Nat) : Int)
theorem hC_eq {t : Nat} (h : t ≤ 1000) : hC t = 2 + 7 * (12 + (t : Int)) := by
  unfold hC handleM normB
  rw [if_neg (by omega), show min (max (2 : Int) 1) 1000 = 2 from by decide, show min (max (7 : Int) 1) 1000 = 7 from by decide]
  omega
theorem hC_in {t : Nat} (h : t ≤ 1000) : InJ (hC t) := by
  rw [hC_eq h]
  exact ⟨by omega, by omega⟩
theorem hC_inj {a b : Nat} (ha : a ≤ 1000) (hb : b ≤ 1000) (h : hC a = hC b) : a = b := by
  rw [hC_eq ha, hC_eq hb] at h
  omega
def prV : Option Nat → Int
  | none => 0
  | some t => hC t
def objC (p : Option Nat) (ps : List Prp) : Obj := { newObj 0 (prV p) with props := ps }
/-- The law's heap: its own objects, k more; their prototypes and properties. -/
structure CH (k : Nat) (pr : Nat → Option Nat) (P : Nat → List Prp) (hp : Hp) : Prop where
  base : hp.base = 2
  stride : hp.stride = 7
  len : hp.slots.length = 12 + k
  free : hp.free = []
  live : hp.live = ((12 + k : Nat) : Int)
  prot : hp.protos = (newM 2 7).protos
  used : ∀ i, i < 12 + k → (hp.slots.getD i noSlt).used = true
  obj : ∀ j, j < k → (hp.slots.getD (12 + j) noSlt).obj = objC (pr j) (P j)
  pin : ∀ i, i < 12 + k → InJ (hp.slots.getD i noSlt).obj.proto
  pln : ∀ i, i < 12 + k → (hp.slots.getD i noSlt).obj.kind ≠ 1 ∧ (hp.slots.getD i noSlt).obj.props.length ≤ 10
section
variable {k : Nat} {pr : Nat → Option Nat} {P : Nat → List Prp} {hp : Hp}
theorem CH.pinA (h : CH k pr P hp) : ∀ s (hs : s < hp.slots.length), InJ hp.slots[s].obj.proto := fun s hs => by
  have := h.pin s (by rw [h.len] at hs; exact hs)
  rwa [gD_get hs] at this
theorem CH.plain (h : CH k pr P hp) : Plain hp := fun s hs => by
  have := h.pln s (by rw [h.len] at hs; exact hs)
  rw [gD_get hs] at this
  exact ⟨this.1, by omega⟩
theorem CH.slot (h : CH k pr P hp) (hk : k ≤ 8) {j : Nat} (hj : j < k) : slotOf hp (hC j) = some (12 + j) := by
  have q := slotOf_handle (hp := hp) (s := 12 + j) (by rw [h.len]; omega) (h.used (12 + j) (by omega)) (by rw [h.len]; omega)
  rwa [h.base, h.stride] at q
theorem CH.at (h : CH k pr P hp) {j : Nat} (hj : j < k) : ∃ hl : 12 + j < hp.slots.length, hp.slots[12 + j].obj = objC (pr j) (P j) := by
  have hl : 12 + j < hp.slots.length := by rw [h.len]; omega
  exact ⟨hl, by rw [← h.obj j hj, gD_get hl]⟩
theorem CH.begin : CH 0 (fun _ => none) (fun _ => []) (newM 2 7) := by
  have key : ∀ x ∈ (newM 2 7).slots, x.used = true ∧ InJ x.obj.proto ∧ x.obj.kind ≠ 1 ∧ x.obj.props.length ≤ 10 := by
    intro x hx
    have h0 := handle_in 2 7 (i := 0) (by omega)
    have hz : handleM 2 7 ((0 : Nat) : Int) = handleM 2 7 0 := rfl
    rcases List.mem_cons.1 hx with rfl | hx
    · exact ⟨rfl, ⟨by show -9223372036854775808 ≤ (0 : Int); omega, by show (0 : Int) ≤ _; omega⟩, by show (0 : Int) ≠ 1; omega, by show 0 ≤ 10; omega⟩
    · rw [List.eq_of_mem_replicate hx]
      exact ⟨rfl, ⟨by show _ ≤ handleM 2 7 0; omega, by show handleM 2 7 0 ≤ _; omega⟩, by show (0 : Int) ≠ 1; omega, by show 0 ≤ 10; omega⟩
  have key2 : ∀ i, i < 12 → (newM 2 7).slots.getD i noSlt ∈ (newM 2 7).slots := fun i hi => by
    rw [gD_get (show i < (newM 2 7).slots.length from hi)]
    exact List.getElem_mem _
  exact ⟨rfl, rfl, rfl, rfl, rfl, rfl, fun i hi => (key _ (key2 i hi)).1, fun j hj => by omega, fun i hi => (key _ (key2 i hi)).2.1, fun i hi => (key _ (key2 i hi)).2.2⟩
/-- A new object is made. -/
theorem CH.mid (h : CH k pr P hp) (hk : k < 8) : let hpm := addedM hp ⟨true, newObj ((0 : Nat) : Int) (hp.protos.getD 0 0)⟩
    slotOf hpm (hC k) = some (12 + k) ∧ (∀ s (hs : s < hpm.slots.length), InJ hpm.slots[s].obj.proto) ∧ (∃ hl : 12 + k < hpm.slots.length, hpm.slots[12 + k].obj = newObj 0 (handleM 2 7 0)) ∧
    (pr k = none → P k = [] → CH (k + 1) pr P (putO hpm (12 + k) (newObj 0 0))) := by
  intro hpm
  have hpt : hp.protos.getD 0 0 = handleM 2 7 0 := by rw [h.prot]; rfl
  have hl : hpm.slots.length = 12 + k + 1 := by
    show (hp.slots ++ [_]).length = _
    rw [List.length_append, h.len]; rfl
  have gl : ∀ i, i < 12 + k → hpm.slots.getD i noSlt = hp.slots.getD i noSlt := fun i hi => gD_app_lt (by rw [h.len]; exact hi)
  have ge : hpm.slots.getD (12 + k) noSlt = ⟨true, newObj 0 (handleM 2 7 0)⟩ := by
    have e : hpm.slots.getD hp.slots.length noSlt = (⟨true, newObj ((0 : Nat) : Int) (hp.protos.getD 0 0)⟩ : Slt) := gD_app_eq
    rw [h.len] at e
    exact e.trans (by rw [hpt]; rfl)
  have hk0 := handle_in 2 7 (i := 0) (by omega)
  have hz : handleM 2 7 ((0 : Nat) : Int) = handleM 2 7 0 := rfl
  refine ⟨?_, fun s hs => ?_, ⟨by omega, ?_⟩, fun h1 h2 => ?_⟩
  · have q := slotOf_handle (hp := hpm) (s := 12 + k) (by omega) (by rw [ge]) (by omega)
    rw [show hpm.base = 2 from h.base, show hpm.stride = 7 from h.stride] at q
    exact q
  · rw [← gD_get (d := noSlt) hs]
    by_cases e : s < 12 + k
    · rw [gl s e]; exact h.pin s e
    · rw [show s = 12 + k by omega, ge]
      exact ⟨by show _ ≤ handleM 2 7 0; omega, by show handleM 2 7 0 ≤ _; omega⟩
  · rw [← gD_get (d := noSlt) (show 12 + k < hpm.slots.length by omega), ge]
  · have hpl : 12 + k < hpm.slots.length := by omega
    have pg : ∀ i, (putO hpm (12 + k) (newObj 0 0)).slots.getD i noSlt = if 12 + k = i then { hpm.slots.getD (12 + k) noSlt with obj := newObj 0 0 } else hpm.slots.getD i noSlt := putO_gt hpl _
    refine ⟨h.base, h.stride, by show (hpm.slots.set _ _).length = _; rw [List.length_set, hl]; omega, h.free, by show hp.live + 1 = _; rw [h.live]; omega, h.prot, fun i hi => ?_, fun j hj => ?_, fun i hi => ?_, fun i hi => ?_⟩
    · rw [pg]
      split
      · rw [ge]
      · rw [gl i (by omega)]; exact h.used i (by omega)
    · rw [pg]
      split
      · rename_i e
        have : j = k := by omega
        subst this
        rw [h1, h2]
        rfl
      · rw [gl _ (by omega)]; exact h.obj j (by omega)
    · rw [pg]
      split
      · exact ⟨by show -9223372036854775808 ≤ (0 : Int); omega, by show (0 : Int) ≤ _; omega⟩
      · rw [gl i (by omega)]; exact h.pin i (by omega)
    · rw [pg]
      split
      · exact ⟨by show (0 : Int) ≠ 1; omega, by show 0 ≤ 10; omega⟩
      · rw [gl i (by omega)]; exact h.pln i (by omega)
/-- One of the objects is changed. -/
theorem CH.put (h : CH k pr P hp) {a : Nat} (ha : a < k) {pr' : Nat → Option Nat} {P' : Nat → List Prp} {x : Obj} (hx : x = objC (pr' a) (P' a)) (h1 : ∀ j, j ≠ a → pr' j = pr j ∧ P' j = P j) (h2 : InJ (prV (pr' a))) (h3 : (P' a).length ≤ 10) : CH k pr' P' (putO hp (12 + a) x) := by
  have hl : 12 + a < hp.slots.length := by rw [h.len]; omega
  have pg : ∀ i, (putO hp (12 + a) x).slots.getD i noSlt = if 12 + a = i then { hp.slots.getD (12 + a) noSlt with obj := x } else hp.slots.getD i noSlt := putO_gt hl _
  refine ⟨h.base, h.stride, by show (hp.slots.set _ _).length = _; rw [List.length_set, h.len], h.free, h.live, h.prot, fun i hi => ?_, fun j hj => ?_, fun i hi => ?_, fun i hi => ?_⟩
  · rw [pg]
    split
    · exact h.used _ (by omega)
    · exact h.used i hi
  · rw [pg]
    split
    · rename_i e
      have : j = a := by omega
      subst this
      exact hx
    · rw [(h1 j (by omega)).1, (h1 j (by omega)).2]; exact h.obj j hj
  · rw [pg]
    split
    · rw [hx]; exact h2
    · exact h.pin i hi
  · rw [pg]
    split
    · rw [hx]; exact ⟨by show (0 : Int) ≠ 1; omega, h3⟩
    · exact h.pln i hi
theorem CH.chain (h : CH 8 pr P hp) (ha : ∀ j t, pr j = some t → t < 8) : ∀ n j, j < 8 → chainM hp n (hC j) = (cN pr n j).map hC
  | 0, j, _ => rfl
  | n + 1, j, hj => by
    obtain ⟨hl, ho⟩ := h.at hj
    rw [chainM_some (h.slot (by omega) hj) hl, ho]
    unfold cN
    rw [List.map_cons]
    congr 1
    show chainM hp n (prV (pr j)) = _
    cases hp1 : pr j with
    | none => rw [show prV none = 0 from rfl, chainM_none (slot_zero _)]; rfl
    | some t => exact CH.chain h ha n t (ha j t hp1)
theorem mem_map_hC {l : List Nat} (hl : ∀ x ∈ l, x < 8) {a : Nat} (ha : a < 8) : (l.map hC).contains (hC a) = decide (a ∈ l) := by
  by_cases hm : a ∈ l
  · rw [decide_eq_true hm]
    simp only [List.contains_iff_mem]
    exact List.mem_map_of_mem hm
  · rw [decide_eq_false hm]
    simp only [Bool.eq_false_iff, ne_eq, List.contains_iff_mem]
    intro hx
    obtain ⟨y, hy, e⟩ := List.mem_map.1 hx
    have := hC_inj (by have := hl y hy; omega) (by omega) e
    subst this
    exact hm hy
theorem CH.has (h : CH 8 pr P hp) (hA : Acy pr) {a b : Nat} (ha : a < 8) (hb : b < 8) : (chainM hp 100001 (hC b)).contains (hC a) = decide (a ∈ chN pr b) := by
  rw [h.chain hA.lt 100001 b hb]
  exact mem_map_hC (cN_lt hA.lt _ b hb) ha
theorem CH.within (h : CH 8 pr P hp) (hA : Acy pr) {a b : Nat} (ha : a < 8) (hb : b < 8) : withinM hp (hC b) (hC a) = decide (a ∈ behind pr b) := by
  unfold withinM
  rw [h.slot (by omega) hb]
  simp only
  rw [h.obj b hb]
  show (chainM hp 100001 (prV (pr b))).contains (hC a) = _
  unfold behind
  cases hp1 : pr b with
  | none => rw [show prV none = 0 from rfl, chainM_none (slot_zero _)]; simp
  | some t => exact h.has hA ha (hA.lt b t hp1)
/-- The heap in which one object alone has the property. -/
def pvC : Val := ⟨3, 3, ⟨#[]⟩, 0⟩
def keyP : ByteArray := ⟨#[112]⟩
def prC (r : Nat) (j : Nat) : List Prp := if j = r then [⟨keyP, 3, 3, ⟨#[]⟩, 0⟩] else []
theorem CH.own {r : Nat} (h : CH 8 pr (prC r) hp) {j : Nat} (hj : j < 8) : ownR hp keyP (hC j) = if j = r then (pvC, true) else (zeroV, false) := by
  unfold ownR
  rw [h.slot (by omega) hj]
  simp only
  rw [h.obj j hj]
  show (match findP keyP (prC r j) 0 with
    | none => (zeroV, false)
    | some q => match (prC r j)[q]? with
      | none => (zeroV, false)
      | some p => (prpVal p, true)) = _
  unfold prC
  by_cases e : j = r
  · rw [if_pos e, if_pos e]
    have e1 : findP keyP [(⟨keyP, 3, 3, ⟨#[]⟩, 0⟩ : Prp)] 0 = some 0 := by
      show (if (keyP.toList == keyP.toList) = true then some 0 else findP keyP [] 1) = some 0
      rw [if_pos (by simp)]
    rw [e1]
    rfl
  · rw [if_neg e, if_neg e]
    rfl
theorem CH.look {r : Nat} (h : CH 8 pr (prC r) hp) (hA : Acy pr) (hr : r < 8) {i : Nat} (hi : i < 8) : lookupR hp keyP (chainM hp 100001 (hC i)) = if r ∈ chN pr i then (pvC, true) else (zeroV, false) := by
  rw [h.chain hA.lt 100001 i hi]
  have key : ∀ l : List Nat, (∀ x ∈ l, x < 8) → lookupR hp keyP (l.map hC) = if r ∈ l then (pvC, true) else (zeroV, false) := by
    intro l
    induction l with
    | nil => intro _; rfl
    | cons x l ih =>
      intro hl
      have hx := hl x (by simp)
      have ih := ih (fun y hy => hl y (by simp [hy]))
      have ho := h.own hx
      by_cases e : x = r
      · rw [if_pos (show r ∈ x :: l by rw [e]; exact List.mem_cons_self ..)]
        rw [if_pos e] at ho
        unfold lookupR
        rw [List.map_cons, List.find?_cons_of_pos (by rw [ho])]
        simp only
        rw [ho]
      · rw [if_neg e] at ho
        have e2 : lookupR hp keyP (hC x :: l.map hC) = lookupR hp keyP (l.map hC) := by
          unfold lookupR
          rw [List.find?_cons_of_neg (by rw [ho]; simp)]
        rw [List.map_cons, e2, ih]
        have : (r ∈ x :: l) ↔ r ∈ l := by simp [Ne.symm e]
        simp only [this]
  exact key _ (cN_lt hA.lt _ i hi)
end
end Go.Proofs.YtjianickjahdnaaDoor
namespace Go.Proofs.YtjianickjahdnaaDoor
open Go.RowKit
set_option linter.unusedVariables false
set_option linter.unusedSimpArgs false

def kl (l : List Prp) : List (List UInt8) := l.map (fun p => p.key.toList)
theorem findP_none_of {key : ByteArray} : ∀ {l : List Prp} {n : Nat}, key.toList ∉ kl l → findP key l n = none
  | [], n, _ => rfl
  | s :: l, n, h => by
    unfold kl at h
    rw [List.map_cons, List.mem_cons, not_or] at h
    rw [findP, if_neg (by simpa using fun e => h.1 e.symm)]
    exact findP_none_of h.2
theorem findP_none_mem {key : ByteArray} : ∀ {l : List Prp} {n : Nat}, findP key l n = none → key.toList ∉ kl l
  | [], n, _ => by simp [kl]
  | s :: l, n, h => by
    rw [findP] at h
    split at h
    · cases h
    · rename_i hq
      have ih := findP_none_mem h
      unfold kl at ih ⊢
      rw [List.map_cons, List.mem_cons, not_or]
      exact ⟨fun e => hq (by simpa using e.symm), ih⟩
theorem findP_at : ∀ {l : List Prp} {n k : Nat} {key : ByteArray}, (kl l).Nodup → (h : k < l.length) → l[k].key.toList = key.toList → findP key l n = some (n + k)
  | [], _, _, _, _, h, _ => by simp at h
  | s :: l, n, 0, key, _, _, e => by
    rw [findP, if_pos (by simpa using e)]; rfl
  | s :: l, n, k + 1, key, hn, h, e => by
    unfold kl at hn
    rw [List.map_cons, List.nodup_cons] at hn
    simp only [List.length_cons] at h
    rw [List.getElem_cons_succ] at e
    have hm : l[k].key.toList ∈ l.map (fun p => p.key.toList) := List.mem_map_of_mem (f := fun p : Prp => p.key.toList) (List.getElem_mem (show k < l.length by omega))
    rw [findP, if_neg (by
      intro x
      have x : s.key.toList = key.toList := by simpa using x
      rw [x, ← e] at hn
      exact hn.1 hm), findP_at hn.2 (show k < l.length by omega) e]
    congr 1; omega
/-- A heap whose object 12 is no array and has these properties. -/
structure OHp (hp : Hp) (ps : List Prp) : Prop where
  slot : slotOf hp 13 = some 12
  obj : ∃ hl : 12 < hp.slots.length, hp.slots[12].obj.kind ≠ 1 ∧ hp.slots[12].obj.props = ps
theorem slotOf_put (hp : Hp) (i : Nat) (o : Obj) (h : Int) : slotOf (putO hp i o) h = slotOf hp h := by
  unfold slotOf
  have e1 : (putO hp i o).slots.length = hp.slots.length := List.length_set ..
  have e2 : ∀ j, ((putO hp i o).slots.getD j noSlt).used = (hp.slots.getD j noSlt).used := fun j => by
    by_cases hi : i < hp.slots.length
    · rw [putO_gt hi]
      split
      · rename_i e; subst e; rfl
      · rfl
    · show ((hp.slots.set i _).getD j noSlt).used = _
      rw [List.set_eq_of_length_le (by omega)]
  rw [e1, e2]
  rfl
theorem OHp.put {hp : Hp} {ps : List Prp} (h : OHp hp ps) (hl : 12 < hp.slots.length) {x : Obj} (hx : x.kind = hp.slots[12].obj.kind) : OHp (putO hp 12 x) x.props := by
  obtain ⟨h1, hl, h2, h3⟩ := h
  have hl' : 12 < (putO hp 12 x).slots.length := by show 12 < (hp.slots.set _ _).length; rw [List.length_set]; exact hl
  have e : (putO hp 12 x).slots[12].obj = x := by
    have g := putO_gt hl x 12
    rw [if_pos rfl, gD_get hl'] at g
    rw [g]
  refine ⟨by rw [slotOf_put]; exact h1, hl', ?_, ?_⟩
  · rw [e, hx]; exact h2
  · rw [e]
theorem OHp.begin : OHp (addedM (newM 0 0) ⟨true, newObj 0 ((newM 0 0).protos.getD 0 0)⟩) [] := by
  refine ⟨by kernel_rfl, ⟨of_decide_eq_true (by kernel_rfl), ?_, by kernel_rfl⟩⟩
  show (0 : Int) ≠ 1
  decide
/-- The properties after a Put, and where the key is then. -/
theorem put_law (ps : List Prp) (hn : (kl ps).Nodup) (key : ByteArray) (v : Val) : ∃ ps2 j, ∃ hj : j < ps2.length, findP key ps2 0 = some j ∧ (ps2[j].vkind = v.kind ∧ ps2[j].vint = v.int ∧ ps2[j].vstr = v.str ∧ ps2[j].vref = v.ref) ∧ (kl ps2).Nodup ∧
    ((findP key ps 0 = none ∧ ps2 = ps ++ [⟨key, v.kind, v.int, v.str, v.ref⟩]) ∨ ∃ hj1 : j < ps.length, findP key ps 0 = some j ∧ ps2 = ps.set j ⟨ps[j].key, v.kind, v.int, v.str, v.ref⟩) := by
  cases hf : findP key ps 0 with
  | none =>
    have hm := findP_none_mem hf
    have hn2 : (kl (ps ++ [⟨key, v.kind, v.int, v.str, v.ref⟩])).Nodup := by
      unfold kl at hn hm ⊢
      rw [List.map_append, List.nodup_append]
      refine ⟨hn, by simp, fun a ha b hb => ?_⟩
      simp only [List.map_cons, List.map_nil, List.mem_cons, List.not_mem_nil, or_false] at hb
      subst hb
      intro e
      subst e
      exact hm ha
    have hl : ps.length < (ps ++ [(⟨key, v.kind, v.int, v.str, v.ref⟩ : Prp)]).length := by simp
    have hg : (ps ++ [(⟨key, v.kind, v.int, v.str, v.ref⟩ : Prp)])[ps.length] = ⟨key, v.kind, v.int, v.str, v.ref⟩ := by simp
    refine ⟨_, ps.length, hl, ?_, ?_, hn2, .inl ⟨rfl, rfl⟩⟩
    · rw [findP_at hn2 hl (by rw [hg])]; rw [Nat.zero_add]
    · rw [hg]; exact ⟨rfl, rfl, rfl, rfl⟩
  | some j =>
    have hj := findP_lt hf
    have hk : kl (ps.set j ⟨ps[j].key, v.kind, v.int, v.str, v.ref⟩) = kl ps := by
      unfold kl
      rw [List.map_set]
      apply List.ext_getElem (by simp)
      intro q h1 h2
      rw [List.getElem_set]
      split
      · rename_i e; subst e; simp
      · rfl
    have hl : j < (ps.set j ⟨ps[j].key, v.kind, v.int, v.str, v.ref⟩).length := by rw [List.length_set]; exact hj
    have hg : (ps.set j ⟨ps[j].key, v.kind, v.int, v.str, v.ref⟩)[j] = ⟨ps[j].key, v.kind, v.int, v.str, v.ref⟩ := List.getElem_set_self ..
    obtain ⟨-, h2, h3⟩ := findP_some key ps 0 j hf
    refine ⟨_, j, hl, ?_, ?_, by rw [hk]; exact hn, .inr ⟨hj, rfl, rfl⟩⟩
    · rw [findP_at (by rw [hk]; exact hn) hl (by rw [hg]; simpa using h3)]; rw [Nat.zero_add]
    · rw [hg]; exact ⟨rfl, rfl, rfl, rfl⟩
theorem set_keys (ps : List Prp) {j : Nat} (hj : j < ps.length) {v : Val} : (ps.set j ⟨ps[j].key, v.kind, v.int, v.str, v.ref⟩).map (·.key) = ps.map (·.key) := by
  rw [List.map_set]
  apply List.ext_getElem (by simp)
  intro q h1 h2
  rw [List.getElem_set]
  split
  · rename_i e; subst e; simp
  · rfl
/-- What a Delete leaves. -/
theorem del_law {ps : List Prp} (hn : (kl ps).Nodup) {k : Nat} (hk : k < ps.length) : findP ps[k].key ps 0 = some k ∧ findP ps[k].key (ps.take k ++ ps.drop (k + 1)) 0 = none ∧ (ps.take k ++ ps.drop (k + 1)).map (·.key) = (ps.map (·.key)).take k ++ (ps.map (·.key)).drop (k + 1) ∧ (kl (ps.take k ++ ps.drop (k + 1))).Nodup := by
  have e : ps = ps.take k ++ ps[k] :: ps.drop (k + 1) := by rw [List.getElem_cons_drop, List.take_append_drop]
  have hn' := hn
  rw [e] at hn'
  unfold kl at hn'
  rw [List.map_append, List.map_cons, List.nodup_append, List.nodup_cons] at hn'
  obtain ⟨h1, ⟨h2, h3⟩, h4⟩ := hn'
  refine ⟨by rw [findP_at hn hk rfl, Nat.zero_add], findP_none_of ?_, by simp [List.map_take, List.map_drop], ?_⟩
  · unfold kl
    rw [List.map_append, List.mem_append, not_or]
    exact ⟨fun x => h4 _ x _ (List.mem_cons_self ..) rfl, h2⟩
  · unfold kl
    rw [List.map_append, List.nodup_append]
    exact ⟨h1, h3, fun a ha b hb => h4 a ha b (List.mem_cons_of_mem _ hb)⟩
/-- Own, in one form. -/
theorem ownOne_at {hp : Hp} {ps : List Prp} (h : OHp hp ps) (W : World) (b : Nat) (F : List Nat) (key : ByteArray) (H : Here hpR W b 0 hp F) {j : Nat} (hf : findP key ps 0 = some j) (hj : j < ps.length) (hl : ps.length ≤ 1000) :
    Calls Tryd.prog 23 #[.pointer (some ⟨b, 0, none⟩), .int .i64 13, .string key] W fun e w' => e = .returned (.tuple #[.agg #[.int .i64 ps[j].vkind, .int .i64 ps[j].vint, .string ps[j].vstr, .int .i64 ps[j].vref], .bool true]) ∧ Chg (fun _ => False) W w' := by
  obtain ⟨h1, hl2, h2, h3⟩ := h
  subst h3
  exact own_has W b hp F 13 12 key j H (by omega) h1 hl2 h2 hf hj (by omega)
theorem ownOne_gone {hp : Hp} {ps : List Prp} (h : OHp hp ps) (W : World) (b : Nat) (F : List Nat) (key : ByteArray) (H : Here hpR W b 0 hp F) (hf : findP key ps 0 = none) :
    Calls Tryd.prog 23 #[.pointer (some ⟨b, 0, none⟩), .int .i64 13, .string key] W fun e w' => e = .returned (.tuple #[.agg #[.int .i64 0, .int .i64 0, .string ⟨#[]⟩, .int .i64 0], .bool false]) ∧ Chg (fun _ => False) W w' := by
  obtain ⟨h1, hl2, h2, h3⟩ := h
  subst h3
  exact own_not W b hp F 13 12 key H (by omega) h1 hl2 h2 hf
/-- Put of a number. -/
theorem putOne_at {hp : Hp} {ps : List Prp} (h : OHp hp ps) (hn : (kl ps).Nodup) (hl : ps.length ≤ 1000) (key : ByteArray) (v : Int) : ∃ hp2 ps2 j, ∃ hj : j < ps2.length, OHp hp2 ps2 ∧ findP key ps2 0 = some j ∧ (ps2[j].vkind = 3 ∧ ps2[j].vint = v ∧ ps2[j].vstr = ⟨#[]⟩ ∧ ps2[j].vref = 0) ∧ (kl ps2).Nodup ∧
    (findP key ps 0 = none → ps2.map (·.key) = ps.map (·.key) ++ [key]) ∧ ((findP key ps 0).isSome = true → ps2.map (·.key) = ps.map (·.key)) ∧
    ∀ W b F, Here hpR W b 0 hp F → Calls Tryd.prog 24 #[.pointer (some ⟨b, 0, none⟩), .int .i64 13, .string key, .agg #[.int .i64 3, .int .i64 v, .string ⟨#[]⟩, .int .i64 0]] W fun e w' => e = .returned (.int .i64 0) ∧ Post hpR W b 0 hp2 F w' := by
  obtain ⟨ps2, j, hj, p1, p2, p3, p4⟩ := put_law ps hn key ⟨3, v, ⟨#[]⟩, 0⟩
  have h0 := h
  obtain ⟨h1, hl2, h2, h3⟩ := h
  rcases p4 with ⟨q1, q2⟩ | ⟨hj1, q1, q2⟩
  · refine ⟨putO hp 12 { hp.slots[12].obj with props := ps2 }, ps2, j, hj, h0.put hl2 (x := { hp.slots[12].obj with props := ps2 }) rfl, p1, p2, p3, fun _ => by rw [q2, List.map_append]; rfl, fun x => (by rw [q1] at x; cases x), fun W b F H => ?_⟩
    subst h3
    have := put_new W b hp F 13 12 key ⟨3, v, ⟨#[]⟩, 0⟩ ⟨3, v, ⟨#[]⟩, 0⟩ H (by omega) h1 hl2 h2 (fun W _ => normal_int v W) q1 (by omega)
    rw [← q2] at this
    exact this
  · refine ⟨putO hp 12 { hp.slots[12].obj with props := ps2 }, ps2, j, hj, h0.put hl2 (x := { hp.slots[12].obj with props := ps2 }) rfl, p1, p2, p3, fun x => (by rw [q1] at x; cases x), fun _ => by rw [q2]; exact set_keys ps hj1 (v := ⟨3, v, ⟨#[]⟩, 0⟩), fun W b F H => ?_⟩
    subst h3
    have := put_old W b hp F 13 12 key ⟨3, v, ⟨#[]⟩, 0⟩ ⟨3, v, ⟨#[]⟩, 0⟩ H (by omega) h1 hl2 h2 (fun W _ => normal_int v W) j q1 hj1 (by omega)
    rw [← q2] at this
    exact this
/-- Delete. -/
theorem delOne_at {hp : Hp} {ps : List Prp} (h : OHp hp ps) (hn : (kl ps).Nodup) (hl : ps.length ≤ 1000) {k : Nat} (hk : k < ps.length) : ∃ hp2, OHp hp2 (ps.take k ++ ps.drop (k + 1)) ∧
    (∀ W b F, Here hpR W b 0 hp F → Calls Tryd.prog 26 #[.pointer (some ⟨b, 0, none⟩), .int .i64 13, .string ps[k].key] W fun e w' => e = .returned (.bool true) ∧ Post hpR W b 0 hp2 F w') ∧
    (∀ W b F, Here hpR W b 0 hp2 F → Calls Tryd.prog 26 #[.pointer (some ⟨b, 0, none⟩), .int .i64 13, .string ps[k].key] W fun e w' => e = .returned (.bool true) ∧ Chg (fun _ => False) W w') := by
  have h0 := h
  obtain ⟨h1, hl2, h2, h3⟩ := h
  obtain ⟨d1, d2, d3, d4⟩ := del_law hn hk
  have hn2 := h0.put hl2 (x := { hp.slots[12].obj with props := ps.take k ++ ps.drop (k + 1) }) rfl
  refine ⟨_, hn2, fun W b F H => ?_, fun W b F H => ?_⟩
  · subst h3
    exact del_has W b hp F 13 12 _ k H (by omega) h1 hl2 h2 d1 hk (by omega)
  · obtain ⟨g1, gl, g2, g3⟩ := hn2
    exact del_not W b _ F 13 12 _ H (by omega) g1 gl g2 (by rw [g3]; exact d2)
theorem keysOne_at {hp : Hp} {ps : List Prp} (h : OHp hp ps) (hl : ps.length ≤ 1000) (W : World) (b : Nat) (F : List Nat) (H : Here hpR W b 0 hp F) :
    Calls Tryd.prog 27 #[.pointer (some ⟨b, 0, none⟩), .int .i64 13] W fun e w' => ∃ v', e = .returned v' ∧ OutS W w' v' (ps.map (·.key)) := by
  obtain ⟨h1, hl2, h2, h3⟩ := h
  subst h3
  exact keys_not W b hp F 13 12 H (by omega) h1 hl2 h2 (by omega)
end Go.Proofs.YtjianickjahdnaaDoor
namespace Go.Proofs.YtjianickjahdnaaDoor
open Go.RowKit
set_option linter.unusedVariables false
set_option linter.unusedSimpArgs false

set_option maxHeartbeats 1600000 in
set_option maxRecDepth 100000 in
theorem make_full (w : World) (b : Nat) (hp : Hp) (F : List Nat) (k : Nat) (H : Here hpR w b 0 hp F) (hlive : hp.live = 100000) (hk : k < 12) :
    Calls Tryd.prog 11 #[.pointer (some ⟨b, 0, none⟩), .int .i64 (k : Int)] w
      fun e w' => e = .returned (.tuple #[.int .i64 0, .int .i64 5]) ∧ w' = w := by
  have HL := Lib.hid (len_any w b 0 hp F H)
  rw [hlive] at HL
  have h0 : (0 : Int) ≤ (k : Int) := by omega
  have h1 : (k : Int) < 12 := by omega
  have h2 : ¬ ((12 : Int) ≤ (k : Int)) := by omega
  clear H hlive hk
  go_enter Tryd.func11, Tryd.ntmps11
  go_wp2_with (go_at_call 16; refine HL.out.mono ?_; rintro e w2 ⟨rfl, rfl⟩)
  go_ret2
  exact ⟨rfl, rfl⟩
set_option maxHeartbeats 1600000 in
set_option maxRecDepth 100000 in
theorem text_any (s : ByteArray) (w : World) (hs : s.size ≤ 35184372088832) (hT : Lib.Utf8Tabs 0 1 w) :
    Calls Tryd.prog 13 #[.string s] w fun e w' => e = .returned (.agg #[.int .i64 4, .int .i64 0, .string (repairM s), .int .i64 0]) ∧ Chg (fun _ => False) w w' := by
  have hca := Chg.alloc (fun _ => False) w (.cells #[.int .i64 0, .int .i64 0, .string ⟨#[]⟩, .int .i64 0] 36)
  have HKB := Lib.hid (alloc_block w (.cells #[.int .i64 0, .int .i64 0, .string ⟨#[]⟩, .int .i64 0] 36))
  have HRP := Lib.hid (fun W hU => repair_any s W hs hU)
  have hT2 : Lib.Utf8Tabs 0 1 (w.alloc (.cells #[.int .i64 0, .int .i64 0, .string ⟨#[]⟩, .int .i64 0] 36)) := ⟨fun c hc => hca.cell (hT.1 c hc), fun i hi => ⟨hca.cell (hT.2 i hi).1, hca.cell (hT.2 i hi).2⟩⟩
  have HU := Lib.hid hT2
  have HCA := Lib.hid hca
  generalize repairM s = t at *
  clear hT hT2 hca
  go_enter Tryd.func13, Tryd.ntmps13
  go_upto_region 1 with fail
  generalize w.alloc (.cells #[.int .i64 0, .int .i64 0, .string ⟨#[]⟩, .int .i64 0] 36) = w1 at *
  generalize hb2e : w.heap.size = b2 at *
  have HB2 := Lib.hid hb2e
  clear hb2e
  go_wp2_with (go_at_call 33; refine (HRP.out _ HU.out).mono ?_; rintro e wf ⟨rfl, hcf⟩; have hb4 := hcf.keep HKB.out (fun x => x); obtain ⟨z0, q0, z1, q1, z2, q2, z3, q3, hbf, hcs⟩ := store4 hb4 (.int .i64 4) (.int .i64 0) (.string t) (.int .i64 0))
  generalize ((((wf.setCell ⟨b2, 0, none⟩ (.int .i64 4)).setCell ⟨b2, 1, none⟩ (.int .i64 0)).setCell ⟨b2, 2, none⟩ (.string t)).setCell ⟨b2, 3, none⟩ (.int .i64 0)) = wz at *
  refine bodyPost_ret (results_cell_row rfl _ _ b2 _ _ _ _ (by rfl) hbf Tryd.underlying36 rfl (by kernel_rfl)) rfl ?_
  exact ⟨rfl, (HCA.out.trans' hcf).trans hcs (fun _ _ x => x) (fun k hk e => by have := HB2.out; omega)⟩
set_option maxHeartbeats 1600000 in
set_option maxRecDepth 100000 in
theorem fault_full (w : World) (b : Nat) (hp : Hp) (F : List Nat) (n m : ByteArray) (H : Here hpR w b 0 hp F) (hlive : hp.live = 100000) (hn : n.size ≤ 1000) (hm : m.size ≤ 1000) (hT : Lib.Utf8Tabs 0 1 w) :
    Calls Tryd.prog 12 #[.pointer (some ⟨b, 0, none⟩), .string n, .string m] w
      fun e w' => e = .returned (.agg #[.int .i64 4, .int .i64 0, .string (repairM ((n ++ ⟨#[58, 32]⟩) ++ m)), .int .i64 0]) ∧ Chg (fun _ => False) w w' := by
  have hca := Chg.alloc (fun _ => False) w (.cells #[.int .i64 0, .int .i64 0, .string ⟨#[]⟩, .int .i64 0] 36)
  have HKB := Lib.hid (alloc_block w (.cells #[.int .i64 0, .int .i64 0, .string ⟨#[]⟩, .int .i64 0] 36))
  have hT2 : Lib.Utf8Tabs 0 1 (w.alloc (.cells #[.int .i64 0, .int .i64 0, .string ⟨#[]⟩, .int .i64 0] 36)) := ⟨fun c hc => hca.cell (hT.1 c hc), fun i hi => ⟨hca.cell (hT.2 i hi).1, hca.cell (hT.2 i hi).2⟩⟩
  have hz : ((n ++ (⟨#[58, 32]⟩ : ByteArray)) ++ m).size = n.size + 2 + m.size := by rw [ByteArray.size_append, ByteArray.size_append]; rfl
  have HTX := Lib.hid (text_any ((n ++ ⟨#[58, 32]⟩) ++ m) _ (by rw [hz]; omega) hT2)
  have HMK := Lib.hid (make_full _ b hp F 11 (H.still hca) hlive (by omega))
  rw [show ((11 : Nat) : Int) = 11 from rfl] at HMK
  have HCA := Lib.hid hca
  have k1 : ¬ 9223372036854775807 < n.size + 2 := by omega
  have k2 : ¬ 9223372036854775807 < (n ++ (⟨#[58, 32]⟩ : ByteArray)).size + m.size := by rw [ByteArray.size_append, show (⟨#[58, 32]⟩ : ByteArray).size = 2 from rfl]; omega
  generalize repairM ((n ++ ⟨#[58, 32]⟩) ++ m) = t at *
  clear hT hT2 hca H hlive hz
  go_enter Tryd.func12, Tryd.ntmps12
  go_upto_region 1 with fail
  generalize w.alloc (.cells #[.int .i64 0, .int .i64 0, .string ⟨#[]⟩, .int .i64 0] 36) = w1 at *
  generalize hb2e : w.heap.size = b2 at *
  have HB2 := Lib.hid hb2e
  clear hb2e
  go_upto_region 3 with (go_at_call 11; refine HMK.out.mono ?_; rintro e wm ⟨rfl, rfl⟩)
  go_wp2_with (go_at_call 13; refine HTX.out.mono ?_; rintro e wf ⟨rfl, hcf⟩; have hb4 := hcf.keep HKB.out (fun x => x); obtain ⟨z0, q0, z1, q1, z2, q2, z3, q3, hbf, hcs⟩ := store4 hb4 (.int .i64 4) (.int .i64 0) (.string t) (.int .i64 0))
  generalize ((((wf.setCell ⟨b2, 0, none⟩ (.int .i64 4)).setCell ⟨b2, 1, none⟩ (.int .i64 0)).setCell ⟨b2, 2, none⟩ (.string t)).setCell ⟨b2, 3, none⟩ (.int .i64 0)) = wz at *
  refine bodyPost_ret (results_cell_row rfl _ _ b2 _ _ _ _ (by rfl) hbf Tryd.underlying36 rfl (by kernel_rfl)) rfl ?_
  exact ⟨rfl, (HCA.out.trans' hcf).trans hcs (fun _ _ x => x) (fun k hk e => by have := HB2.out; omega)⟩
end Go.Proofs.YtjianickjahdnaaDoor
namespace Go.Proofs.YtjianickjahdnaaDoor
open Go.RowKit
set_option linter.unusedVariables false
set_option linter.unusedSimpArgs false

theorem enc_list (r : Nat) : (Utf8.encode (r : Int)).data.toList = Lib.encodeRune (r : Int) := by
  unfold Lib.encodeRune
  rw [← Extern.FmtText.encode_eq r]
  unfold Extern.FmtText.nums
  rw [List.map_map]
  have : ∀ l : List UInt8, l.map ((fun x : Int => x.toNat.toUInt8) ∘ fun x : UInt8 => (x.toNat : Int)) = l := fun l => by
    induction l with
    | nil => rfl
    | cons a l ih => rw [List.map_cons, ih]; congr 1; simp
  exact (this _).symm
theorem enc_bytes (r : Nat) : Utf8.encode (r : Int) = ⟨(Lib.encodeRune (r : Int)).toArray⟩ := by
  have h := enc_list r
  generalize Utf8.encode (r : Int) = e at *
  generalize Lib.encodeRune (r : Int) = l at *
  subst h
  cases e
  simp
theorem cat_bytes (a b : List UInt8) : (⟨a.toArray⟩ : ByteArray) ++ ⟨b.toArray⟩ = ⟨(a ++ b).toArray⟩ := by
  apply ByteArray.ext
  rw [ByteArray.data_append, List.append_toArray]
set_option maxHeartbeats 4000000 in
set_option maxRecDepth 1000000 in
theorem rrepair_raw (s : ByteArray) (w : World) (hs : s.size ≤ 35184372088832) :
    Calls Tryd.prog 39 #[.string s] w fun e w' => e = .returned (.string ⟨(repB s).toArray⟩) ∧ Chg (fun _ => False) w w' := by
  go_enter Tryd.func39, Tryd.ntmps39
  go_wp2_with fail
  go_loopw [3, 5] (fun u3 _ wr => ∃ (pos fuel : Nat) (acc : List UInt8), u3 = .string ⟨acc.toArray⟩ ∧ wr.heap[w.heap.size]? = some (.stringIter s pos) ∧ Below w.heap.size w wr ∧ acc ++ repFrom s fuel pos = repB s ∧ s.size ≤ pos + fuel ∧ acc.length ≤ 4 * pos) (fun _ _ wr => s.size - wr.iterPos w.heap.size)
  case atStart =>
    refine ⟨0, s.size, [], rfl, ?_, (Below.refl _ w).alloc (Nat.le_refl _) _, rfl, by omega, by simp⟩
    have := World.iter_heap w s 0
    simpa using this
  case round =>
    obtain ⟨pos, fuel, acc, rfl, hit, hbw, hacc, hfu, hal⟩ := hrel
    have hsz : w.heap.size < wr.heap.size := (Array.getElem?_eq_some_iff.1 hit).1
    by_cases hp : pos < s.size
    · have hnx : ∀ ty, (Instr.next (.pointer (some ⟨w.heap.size, 0, none⟩)) true ty).run Tryd.prog wr = _ := fun ty => Lib.run_next_any_at wr w.heap.size s pos ty hit hp
      have hwd := width_pos s pos hp
      have hd1 := decode_le s pos
      obtain ⟨f, rfl⟩ : ∃ f, fuel = f + 1 := ⟨fuel - 1, by omega⟩
      have hl4 := Lib.runeCells_le ((Utf8.decode s pos).1 : Int)
      rw [Lib.runeCells_length] at hl4
      have hza : (⟨acc.toArray⟩ : ByteArray).size = acc.length := by show acc.toArray.size = _; simp
      have HEB := Lib.hid (enc_bytes (Utf8.decode s pos).1)
      have hit2 := Lib.iterAt_heap wr w.heap.size s pos (pos + (Utf8.decode s pos).2) hit
      have HBW := Lib.hid (Lib.below_iterAt hbw (k := w.heap.size) (Nat.le_refl _) s (pos + (Utf8.decode s pos).2))
      have hac : acc ++ (Lib.encodeRune (Utf8.decode s pos).1 ++ repFrom s f (pos + (Utf8.decode s pos).2)) = repB s := by rw [← hacc]; simp [repFrom, hp]
      have HAC := Lib.hid hac
      clear hac hacc
      generalize (Utf8.decode s pos).1 = rn at *
      generalize (Utf8.decode s pos).2 = dl at *
      have hze : (Utf8.encode (rn : Int)).size ≤ 4 := by
        rw [HEB.out]
        show (Lib.encodeRune (rn : Int)).toArray.size ≤ 4
        rw [List.size_toArray]
        exact hl4.2
      have HL4 := Lib.hid hl4
      have hcat := cat_bytes acc (Lib.encodeRune (rn : Int))
      rw [← HEB.out] at hcat
      have HCA := Lib.hid hcat
      have HZA := Lib.hid hza
      generalize (⟨acc.toArray⟩ : ByteArray) = u at *
      go_upto_region 5 with fail
      clear hcat hl4 hza
      have ksz : ¬ 9223372036854775807 < u.size + (Utf8.encode (rn : Int)).size := by have := HZA.out; omega
      generalize wr.iterAt w.heap.size s (pos + dl) = w2 at *
      go_wp2_with fail
      go_roundw
      case rel => exact ⟨pos + dl, f, acc ++ Lib.encodeRune (rn : Int), by rw [HCA.out], hit2, HBW.out, by rw [List.append_assoc]; exact HAC.out, by omega, by rw [List.length_append]; have := HL4.out; omega⟩
      case measure =>
        simp only [World.iterPos, hit2, hit]
        omega
    · have hnx : ∀ ty, (Instr.next (.pointer (some ⟨w.heap.size, 0, none⟩)) true ty).run Tryd.prog wr = _ := fun ty => Lib.run_next_end_at wr w.heap.size s pos ty hit hp
      go_wp2_with fail
      go_ret
      rw [repFrom_end s fuel pos hp, List.append_nil] at hacc
      subst hacc
      exact ⟨rfl, chg_of_below hbw⟩
/-- A valid string is written as it is. -/
theorem rep_valid (s : ByteArray) : ∀ (fuel pos : Nat), pos ≤ s.size → s.size ≤ pos + fuel → Lib.validD (s.data.toList.drop pos) = true → repFrom s fuel pos = s.data.toList.drop pos
  | 0, pos, h1, h2, _ => by
    have hz : s.data.toList.length = s.size := by rw [Array.length_toList]; rfl
    rw [List.drop_of_length_le (by omega)]
    rfl
  | fuel + 1, pos, h1, h2, hv => by
    have hz : s.data.toList.length = s.size := by rw [Array.length_toList]; rfl
    by_cases hp : pos < s.size
    · have hne : s.data.toList.drop pos ≠ [] := by
        intro e
        have := congrArg List.length e
        rw [List.length_drop, List.length_nil] at this
        omega
      have hd := Lib.decodeL_drop s pos
      rw [Lib.validD_step _ hne] at hv
      have hb : ¬ ((Lib.decodeL (s.data.toList.drop pos)).1 = 65533 ∧ (Lib.decodeL (s.data.toList.drop pos)).2 = 1) := fun e => by rw [if_pos e] at hv; cases hv
      rw [if_neg hb] at hv
      have he := Lib.encode_decode _ hne hb
      have hle := Lib.decodeL_le _ hne
      rw [List.length_drop] at hle
      rw [hd] at he hle hv
      rw [List.drop_drop] at hv
      have ih := rep_valid s fuel (pos + (Utf8.decode s pos).2) (by omega) (by have := width_pos s pos hp; omega) hv
      rw [repFrom, if_pos hp, he, ih, ← List.drop_drop, List.take_append_drop]
    · rw [repFrom_end s _ pos hp, List.drop_of_length_le (by omega)]
theorem repair_eq (s : ByteArray) : (⟨(repB s).toArray⟩ : ByteArray) = repairM s := by
  unfold repairM
  by_cases hv : Lib.validD s.data.toList = true
  · rw [if_pos hv]
    have := rep_valid s s.size 0 (by omega) (by omega) (by rw [List.drop_zero]; exact hv)
    rw [List.drop_zero] at this
    unfold repB
    rw [this]
  · rw [if_neg hv]
theorem rrepair_any (s : ByteArray) (w : World) (hs : s.size ≤ 35184372088832) (hU : Lib.Utf8Tabs 0 1 w) :
    Calls Tryd.prog 39 #[.string s] w fun e w' => e = .returned (.string (repairM s)) ∧ Chg (fun _ => False) w w' := by
  rw [← repair_eq]
  exact rrepair_raw s w hs
end Go.Proofs.YtjianickjahdnaaDoor
