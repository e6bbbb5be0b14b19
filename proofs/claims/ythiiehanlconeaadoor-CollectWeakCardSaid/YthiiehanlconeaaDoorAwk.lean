/-
  The laws' fixed example (awake).
-/
import Derived.Test.YthiiehanlconeaaDoorLvb
import Derived.Test.YthiiehanlconeaaDoorMkg
namespace Go.Proofs.YthiiehanlconeaaDoor
open Go.RowKit
set_option linter.unusedVariables false
set_option linter.unusedSimpArgs false

/-- Objects that are just made: nothing but a kind and a prototype that is a number of the machine. -/
structure Fresh (s : Slt) : Prop where
  ex : ∃ k p : Int, s = ⟨true, newObj k p⟩ ∧ InI p
theorem Fresh.mk' (k p : Int) (h : InI p) : Fresh ⟨true, newObj k p⟩ := ⟨k, p, rfl, h⟩
theorem refsM_new (k p : Int) : refsM (newObj k p) = nz [p] := by
  unfold refsM refsL newObj framesM nz refsV
  by_cases h : p = 0 <;> simp [h]
theorem fresh_ok {hp : Hp} (hl : hp.slots.length ≤ 100000) (h : ∀ s ∈ hp.slots, Fresh s) : HpOk hp := by
  have key : ∀ s (hs : s < hp.slots.length), ∃ k p : Int, hp.slots[s].obj = newObj k p ∧ InI p := fun s hs => by
    obtain ⟨k, p, e, hi⟩ := (h _ (List.getElem_mem hs)).ex
    exact ⟨k, p, by rw [e], hi⟩
  refine ⟨hl, fun s hs => ?_, fun s hs r hr => ?_, fun s hs v hv => ?_⟩
  · obtain ⟨k, p, e, -⟩ := key s hs
    rw [e]
    exact ⟨by simp [newObj], by simp [newObj], by simp [newObj], by simp [newObj], fun f hf => by simp [newObj] at hf⟩
  · obtain ⟨k, p, e, hi⟩ := key s hs
    rw [e, refsM_new] at hr
    have : r ∈ [p] := (List.mem_filter.1 hr).1
    rw [List.mem_singleton.1 this]; exact hi
  · obtain ⟨k, p, e, -⟩ := key s hs
    rw [e] at hv
    simp [newObj] at hv
theorem handle_InI (a s : Int) {i : Nat} (hi : i ≤ 2147483647) : InI (handleM a s (i : Nat)) := by
  have := handle_in a s (i := i) (by omega)
  unfold InI
  omega
theorem newM_fresh (a s : Int) : ∀ x ∈ (newM a s).slots, Fresh x := by
  intro x hx
  rcases List.mem_cons.1 hx with rfl | hx
  · exact Fresh.mk' 0 0 (by unfold InI; omega)
  · rw [List.eq_of_mem_replicate hx]
    exact Fresh.mk' 0 _ (handle_InI a s (i := 0) (by omega))
def hpA : Hp := addedM (newM 3 4) ⟨true, newObj 0 (handleM 3 4 0)⟩
theorem hpA_ok : HpOk hpA := fresh_ok (by show 13 ≤ 100000; omega) (fun x hx => by
  rcases List.mem_append.1 hx with h | h
  · exact newM_fresh 3 4 x h
  · rw [List.mem_singleton.1 h]
    exact Fresh.mk' 0 _ (handle_InI 3 4 (i := 0) (by omega)))
theorem hpA_live : liveM hpA (fun _ => []) hpA.slots.length hpA.slots.length (addsK hpA [] [handleM 3 4 11]) 0 = [11, 0] := by kernel_rfl

set_option maxHeartbeats 3200000 in
set_option maxRecDepth 100000 in
theorem awake_any (w : World) : Calls Tryd.prog 5 #[] w fun e w' => e = .returned (.bool true) ∧ Chg (fun _ => False) w w' := by
  have HN := Lib.hid (new_any 3 4 w)
  go_enter Tryd.func5, Tryd.ntmps5
  go_upto_region 2 with (go_at_call 6; refine HN.out.mono ?_; rintro e w1 ⟨cs, F, rfl, hown, hnd, hlo, hch⟩; have hown' := hown; obtain ⟨v1, v2, v3, F1, F2, F3, rfl, o1, o2, o3, -⟩ := hown'; obtain ⟨x1, y1, p1⟩ := Rep.opened o1; obtain ⟨n1, m1, rfl, -⟩ := p1.val; obtain ⟨x2, y2, p2⟩ := Rep.opened o2; obtain ⟨n2, m2, rfl, -⟩ := p2.val; obtain ⟨x3, y3, p3⟩ := Rep.opened o3; obtain ⟨n3, m3, rfl, -⟩ := p3.val; clear o1 o2 o3 p1 p2 p3)
  have HO0 : Own hpR w (w1.alloc (.cells _ 31)) w1.heap.size 0 (newM 3 4) F := ⟨Here.made w1 31 _ (newM 3 4) F hown hnd, hch.allocR _, hch.size, hlo⟩
  have HO := Lib.hid HO0
  clear HN hown hnd hlo hch HO0
  generalize w1.alloc (.cells #[.int .i64 (newM 3 4).base, .int .i64 (newM 3 4).stride, .slice n1 (newM 3 4).slots.length m1, .slice n2 (newM 3 4).free.length m2, .int .i64 (newM 3 4).live, .int .i64 (newM 3 4).global, .int .i64 (newM 3 4).texts, .slice n3 (newM 3 4).protos.length m3] 31) = W2 at *
  generalize w1.heap.size = bh at *
  have HMK := Lib.hid (make_any W2 bh (newM 3 4) F 0 HO.out.here rfl rfl (by show 12 < 100000; omega) rfl (by omega))
  go_upto_region 3 with (go_at_call 7; refine HMK.out.mono ?_; rintro e W3 ⟨rfl, hA⟩)
  obtain ⟨F3, HO3⟩ : ∃ F3, Own hpR w W3 bh 0 hpA F3 := hA.post.own HO.out
  obtain ⟨-, -, -, -, -, c5, -, p7, k7, c7⟩ := hpCells HO3.here
  obtain ⟨gp, op, kp, c7', hset⟩ := protoSet HO3.here (by show 0 < 12; omega)
  obtain ⟨q0, -, -⟩ := hset 0 (by show 0 < 12; omega)
  rw [Nat.zero_add] at c5 c7'
  change W3.cell? ⟨bh, 5, none⟩ = some (.int .i64 (handleM 3 4 11)) at c5
  change W3.cell? ⟨bh, 7, none⟩ = some (.slice (some ⟨gp, op, none⟩) 12 kp) at c7'
  rw [Nat.add_zero] at q0
  change W3.cell? ⟨gp, op, none⟩ = some (.int .i64 (handleM 3 4 0)) at q0
  have HC5 := Lib.hid c5
  have HC7 := Lib.hid c7'
  have HQ0 := Lib.hid q0
  have H3 := Lib.hid HO3
  have hch := Chg.alloc (fun _ => False) W3 (.cells #[.int .i64 (handleM 3 4 11)] 3)
  have HLV := Lib.hid (live_any (W3.alloc (.cells #[.int .i64 (handleM 3 4 11)] 3)) bh hpA F3 (.slice (some ⟨W3.heap.size, 0, none⟩) 1 1) .nilFunc [handleM 3 4 11] (fun _ => []) (HO3.here.still hch) hpA_ok (RowAt.lit [.int .i64 (handleM 3 4 11)] rfl (by simp [maxLen])) (by simp) (by intro r hr; rw [List.mem_singleton.1 hr]; exact handle_InI 3 4 (i := 11) (by omega)) (.inl ⟨rfl, rfl⟩))
  rw [hpA_live] at HLV
  clear HMK hA HO c7 c7' q0 hset HO3
  go_upto_region 4 with (go_at_call 10; refine HLV.out.mono ?_; rintro e W5 ⟨v5, rfl, HO5⟩)
  obtain ⟨g5, o5, k5, rfl, l0⟩ := HO5.at (k := 0) (by show 0 < 2; omega)
  obtain ⟨g5', o5', k5', e5, l1⟩ := HO5.at (k := 1) (by show 1 < 2; omega)
  cases e5
  rw [Nat.add_zero] at l0
  change W5.cell? ⟨g5, o5, none⟩ = some (.int .i64 (handleM 3 4 11)) at l0
  change W5.cell? ⟨g5, o5 + 1, none⟩ = some (.int .i64 (handleM 3 4 0)) at l1
  have hc5 := hch.trans' HO5.chg
  have c5 := hc5.cell HC5.out
  have c7 := hc5.cell HC7.out
  have q0 := hc5.cell HQ0.out
  have HCC := Lib.hid (H3.out.chg.trans' hc5)
  have hll : (([11, 0] : List Nat).map fun i : Nat => handleM hpA.base hpA.stride (i : Nat)).length = 2 := rfl
  rw [hll]
  clear HC5 HC7 HQ0 hch HLV HO5 hc5 hll
  go_quiet (fail)
  all_goals (
    go_wp2_with fail
    go_ret
    exact ⟨rfl, HCC.out.drewNR _⟩)
end Go.Proofs.YthiiehanlconeaaDoor
