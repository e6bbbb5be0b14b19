/-
  HeapBegins: the card.
-/
import Derived.Test.YtjianickjahdnaaDoorPHeapBeginsg
import Derived.Test.YtjianickjahdnaaDoorPHeapBeginsc
import Derived.Test.YtjianickjahdnaaDoorRows
import Derived.Test.YtjianickjahdnaaDoorPHeapBeginse
import Derived.MakeChecks
import Derived.Stop.LaidErr
import Derived.Lib.LaidTab
import Derived.WalkKit
import Derived.ProofKit
import Derived.OpenShut
import Derived.ShutString
import Derived.ChangeOld
import Derived.Below
import Derived.Carry
import Derived.SizedLaws
import Derived.JoinedCond
import Derived.Deep.CondSized
import Derived.Test.YtjianickjahdnaaDoorPHeapBeginsa
import Derived.Deep.DeepHandedRow
import Derived.SevenTiedAt
import Derived.Lay
import Derived.LaidMore
import Derived.Stop.Joined
import Derived.Test.YtjianickjahdnaaDoorCards
import Derived.Test.YtjianickjahdnaaDoorTie
namespace Go.Proofs.YtjianickjahdnaaDoor
open Go.RowKit
set_option linter.unusedVariables false
set_option linter.unusedSimpArgs false

def protoN (k : Nat) : Int := [1, 2, 3, 3, 4, 5, 6, 7, 8, 0, 9, 10].getD k 0
def handleL (a s n : Int) : Int := if n < 1 then 0 else handleM a s (n - 1)
theorem protoN_in (k : Nat) (hk : k < 12) : 0 ≤ protoN k ∧ protoN k ≤ 12 := by
  have : k = 0 ∨ k = 1 ∨ k = 2 ∨ k = 3 ∨ k = 4 ∨ k = 5 ∨ k = 6 ∨ k = 7 ∨ k = 8 ∨ k = 9 ∨ k = 10 ∨ k = 11 := by omega
  rcases this with rfl | rfl | rfl | rfl | rfl | rfl | rfl | rfl | rfl | rfl | rfl | rfl <;> decide
theorem newM_proto (a s : Int) (k : Nat) (hk : k < 12) : (newM a s).protos[k]? = some (handleL a s (protoN k)) := by
  have : k = 0 ∨ k = 1 ∨ k = 2 ∨ k = 3 ∨ k = 4 ∨ k = 5 ∨ k = 6 ∨ k = 7 ∨ k = 8 ∨ k = 9 ∨ k = 10 ∨ k = 11 := by omega
  rcases this with rfl | rfl | rfl | rfl | rfl | rfl | rfl | rfl | rfl | rfl | rfl | rfl <;> simp [newM, hps, handleL, protoN]
set_option maxHeartbeats 3200000 in
set_option maxRecDepth 100000 in
theorem rproto_any (k : Nat) (w : World) (hk : k < 12) : Calls Tryd.prog 15 #[.int .i64 (k : Int)] w fun e w' => e = .returned (.int .i64 (protoN k)) ∧ Chg (fun _ => False) w w' := by
  have : k = 0 ∨ k = 1 ∨ k = 2 ∨ k = 3 ∨ k = 4 ∨ k = 5 ∨ k = 6 ∨ k = 7 ∨ k = 8 ∨ k = 9 ∨ k = 10 ∨ k = 11 := by omega
  rcases this with rfl | rfl | rfl | rfl | rfl | rfl | rfl | rfl | rfl | rfl | rfl | rfl
  all_goals (
    go_enter Tryd.func15, Tryd.ntmps15
    go_wp2_with fail
    go_ret
    exact ⟨rfl, Chg.refl _ _⟩)
set_option maxHeartbeats 1600000 in
set_option maxRecDepth 100000 in
theorem lhandle_any (a s n : Int) (w : World) (hn : -1000 ≤ n ∧ n ≤ 1000000) : Calls Tryd.prog 14 #[.agg #[.int .i64 a, .int .i64 s], .int .i64 n] w fun e w' => e = .returned (.int .i64 (handleL a s n)) ∧ Chg (fun _ => False) w w' := by
  have hc := Chg.alloc (fun _ => False) w (.cells #[.int .i64 a, .int .i64 s] 24)
  have hb := alloc_block w (.cells #[.int .i64 a, .int .i64 s] 24)
  have k0 := cell_of_block (i := 0) hb rfl
  have k1 := cell_of_block (i := 1) hb rfl
  simp only [List.getElem_toArray, List.getElem_cons_zero, List.getElem_cons_succ] at k0 k1
  have HC := Lib.hid hc
  by_cases h1 : n < 1
  · have e1 : handleL a s n = 0 := if_pos h1
    rw [e1]
    clear e1 hb hc
    go_enter Tryd.func14, Tryd.ntmps14
    go_wp2_with fail
    go_ret
    exact ⟨rfl, HC.out⟩
  · have e1 : handleL a s n = handleM a s (n - 1) := if_neg h1
    rw [e1]
    have w1 : IntKind.i64.wrap (n - 1) = n - 1 := IntWalk.i64_in _ (by omega)
    have HHN := Lib.hid (fun W => handle_any a s (n - 1) W (by omega))
    clear e1 hb hc
    go_enter Tryd.func14, Tryd.ntmps14
    go_wp2_with (go_at_call 34; refine (HHN.out _).mono ?_; rintro e wa ⟨rfl, hca⟩)
    go_ret
    exact ⟨rfl, HC.out.trans' hca⟩
theorem newM_slot (a s : Int) (i : Nat) (hi : i < 12) : slotOf (newM a s) (handleM a s (i : Nat)) = some i := by
  refine slotOf_handle (hp := newM a s) (s := i) hi ?_ (by show 12 ≤ 100000; omega)
  rcases Nat.eq_zero_or_pos i with rfl | h
  · rfl
  · obtain ⟨j, rfl⟩ : ∃ j, i = j + 1 := ⟨i - 1, by omega⟩
    show ((⟨true, newObj 0 0⟩ :: List.replicate 11 (⟨true, newObj 0 (handleM a s 0)⟩ : Slt)).getD (j + 1) noSlt).used = true
    rw [List.getD_cons_succ, List.getD_eq_getElem?_getD, List.getElem?_replicate_of_lt (by omega)]
    rfl
theorem slot_zero (hp : Hp) : slotOf hp 0 = none := by
  have e : indexM hp.base hp.stride 0 = -1 := by
    unfold indexM
    have := normB_in hp.base
    rw [if_pos (.inl (by omega))]
  unfold slotOf
  rw [e]
  simp
theorem newM_chain (a s : Int) : chainM (newM a s) 100001 (handleM a s 0) = [handleM a s 0] := by
  have h : slotOf (newM a s) (handleM a s 0) = some 0 := newM_slot a s 0 (by omega)
  rw [show 100001 = 100000 + 1 from rfl, chainM_some h (by show 0 < 12; omega) 100000]
  rw [show ((newM a s).slots[0]'(by show 0 < 12; omega)).obj.proto = 0 from rfl, chainM_none (slot_zero _)]
theorem within_g (a s : Int) : withinM (newM a s) (handleM a s 11) (handleM a s 0) = true := by
  unfold withinM
  have h : slotOf (newM a s) (handleM a s 11) = some 11 := newM_slot a s 11 (by omega)
  rw [h]
  show (chainM (newM a s) 100001 (handleM a s 0)).contains (handleM a s 0) = true
  rw [newM_chain]
  simp
theorem within_z (a s : Int) : withinM (newM a s) (handleM a s 0) (handleM a s 0) = false := by
  unfold withinM
  have h : slotOf (newM a s) (handleM a s 0) = some 0 := newM_slot a s 0 (by omega)
  rw [h]
  show (chainM (newM a s) 100001 0).contains (handleM a s 0) = false
  rw [chainM_none (slot_zero _)]
  rfl
theorem newM_in (a s : Int) : ∀ i (hi : i < (newM a s).slots.length), InJ (newM a s).slots[i].obj.proto := by
  intro i hi
  have h0 := handle_in a s (i := 0) (by omega)
  have hz : handleM a s ((0 : Nat) : Int) = handleM a s 0 := rfl
  have hall : ∀ x ∈ (newM a s).slots, InJ x.obj.proto := by
    intro x hx
    rcases List.mem_cons.1 hx with rfl | hx
    · exact ⟨by show -9223372036854775808 ≤ (0 : Int); omega, by show (0 : Int) ≤ _; omega⟩
    · rw [List.eq_of_mem_replicate hx]
      exact ⟨by show _ ≤ handleM a s 0; omega, by show handleM a s 0 ≤ _; omega⟩
  exact hall _ (List.getElem_mem hi)
end Go.Proofs.YtjianickjahdnaaDoor
namespace Go.Proofs.YtjianickjahdnaaDoor
open Go.RowKit
set_option linter.unusedVariables false
set_option linter.unusedSimpArgs false

set_option maxHeartbeats 12800000 in
set_option maxRecDepth 100000 in
theorem heapBegins_walk (a s : Int) (w : World) (HT : Tabs w) :
    Calls Tryd.prog 4 #[.int .i64 a, .int .i64 s] w fun e w' => e = .returned (.bool true) ∧ Below w.heap.size w w' := by
  have HAW := Lib.hid (awake_heap w HT)
  have HNW := Lib.hid (fun W => new_any a s W)
  have HHD := Lib.hid (fun (n : Int) (W : World) (hn : -1000 ≤ n ∧ n ≤ 1000000) => lhandle_any a s n W hn)
  have k00 := fun (W : World) => cell_of_block (i := 0) (alloc_block W (.cells #[.int .i64 a, .int .i64 s] 24)) rfl
  have k01 := fun (W : World) => cell_of_block (i := 1) (alloc_block W (.cells #[.int .i64 a, .int .i64 s] 24)) rfl
  simp only [List.getElem_toArray, List.getElem_cons_zero, List.getElem_cons_succ] at k00 k01
  clear HT
  go_enter Tryd.func4, Tryd.ntmps4
  go_upto_region 3 with (go_at_call 9; refine HAW.out.mono ?_; rintro e w0 ⟨rfl, hc0⟩)
  go_upto_region 4 with fail
  have k0 := k00 w0
  have k1 := k01 w0
  have hc3 := hc0.trans' (Chg.alloc (fun _ => False) w0 (.cells #[.int .i64 a, .int .i64 s] 24))
  have hb5 := alloc_block w0 (.cells #[.int .i64 a, .int .i64 s] 24)
  generalize w0.alloc (.cells #[.int .i64 a, .int .i64 s] 24) = w3 at *
  generalize w0.heap.size = b5 at *
  have HC3 := Lib.hid hc3
  have HB5 := Lib.hid hb5
  clear hc0 hc3 hb5 k00 k01 HAW
  go_upto_region 5 with (go_at_call 10; refine (HNW.out _).mono ?_; rintro e w1 ⟨cs, F, rfl, hown, hnd, hlo, hch⟩; have hown' := hown; obtain ⟨v1, v2, v3, F1, F2, F3, rfl, o1, o2, o3, -⟩ := hown'; obtain ⟨x1, y1, p1⟩ := Rep.opened o1; obtain ⟨n1, m1, rfl, -⟩ := p1.val; obtain ⟨x2, y2, p2⟩ := Rep.opened o2; obtain ⟨n2, m2, rfl, -⟩ := p2.val; obtain ⟨x3, y3, p3⟩ := Rep.opened o3; obtain ⟨n3, m3, rfl, -⟩ := p3.val; clear o1 o2 o3 p1 p2 p3)
  have hch' := HC3.out.trans' hch
  have HO := Lib.hid (show Own hpR w (w1.alloc (.cells _ 30)) w1.heap.size 0 (newM a s) F from ⟨Here.made w1 30 _ (newM a s) F hown hnd, hch'.allocR _, hch'.size, fun k hk => by have := hlo k hk; have := HC3.out.size; omega⟩)
  have HB5B := Lib.hid ((hch.allocR (.cells #[.int .i64 (newM a s).base, .int .i64 (newM a s).stride, .slice n1 (newM a s).slots.length m1, .slice n2 (newM a s).free.length m2, .int .i64 (newM a s).live, .int .i64 (newM a s).global, .int .i64 (newM a s).texts, .slice n3 (newM a s).protos.length m3] 30)).keep HB5.out (fun x => x))
  clear HNW hown hnd hlo hch hch' HB5 HC3 k0 k1
  generalize w1.alloc (.cells #[.int .i64 (newM a s).base, .int .i64 (newM a s).stride, .slice n1 (newM a s).slots.length m1, .slice n2 (newM a s).free.length m2, .int .i64 (newM a s).live, .int .i64 (newM a s).global, .int .i64 (newM a s).texts, .slice n3 (newM a s).protos.length m3] 30) = W2 at *
  generalize w1.heap.size = bh at *
  obtain ⟨-, -, -, -, c4, c5, c6, p7, k7, c7⟩ := hpCells HO.out.here
  obtain ⟨gp, op, kp, c7', hset⟩ := protoSet HO.out.here (by show 0 < 12; omega)
  rw [Nat.zero_add] at c5 c6 c7'
  change W2.cell? ⟨bh, 5, none⟩ = some (.int .i64 (handleM a s 11)) at c5
  change W2.cell? ⟨bh, 6, none⟩ = some (.int .i64 (handleM a s 10)) at c6
  change W2.cell? ⟨bh, 7, none⟩ = some (.slice (some ⟨gp, op, none⟩) 12 kp) at c7'
  have HPC : Hid (∀ k, k < 12 → W2.cell? ⟨gp, op + k, none⟩ = some (.int .i64 (handleL a s (protoN k)))) := Lib.hid (fun k hk => by
    obtain ⟨q, -, -⟩ := hset k hk
    have h1 := newM_proto a s k hk
    have h2 : (newM a s).protos[k]? = some ((newM a s).protos[k]'hk) := List.getElem?_eq_getElem (show k < (newM a s).protos.length from hk)
    have h3 : (newM a s).protos[k]'hk = handleL a s (protoN k) := Option.some.inj (h2.symm.trans h1)
    exact q.trans (congrArg (fun z => some (Value.int .i64 z)) h3))
  have m0 := cell_of_block (i := 0) HB5B.out rfl
  have m1 := cell_of_block (i := 1) HB5B.out rfl
  simp only [List.getElem_toArray, List.getElem_cons_zero, List.getElem_cons_succ] at m0 m1
  have e12 : handleL a s 12 = handleM a s 11 := rfl
  have e11 : handleL a s 11 = handleM a s 10 := rfl
  obtain ⟨hg, hge⟩ : ∃ hg, handleM a s 11 = hg := ⟨_, rfl⟩
  obtain ⟨ht, hte⟩ : ∃ ht, handleM a s 10 = ht := ⟨_, rfl⟩
  rw [hge] at c5 e12
  rw [hte] at c6 e11
  have HGE := Lib.hid hge
  have HS0 : Hid (W2.cell? ⟨bh, 7, none⟩ = some (.slice (some ⟨gp, op, none⟩) 12 kp) ∧ W2.cell? ⟨bh, 5, none⟩ = some (.int .i64 hg) ∧ W2.cell? ⟨bh, 6, none⟩ = some (.int .i64 ht) ∧ W2.cell? ⟨b5, 0, none⟩ = some (.int .i64 a) ∧ W2.cell? ⟨b5, 1, none⟩ = some (.int .i64 s)) := Lib.hid ⟨c7', c5, c6, m0, m1⟩
  have HSX := HS0
  have HHW := Lib.hid (fun W (hc : Chg (fun _ => False) W2 W) => HO.out.here.still hc)
  clear c4 c5 c6 c7 c7' hset m0 m1 hge hte
  refine wp_region_held_split 17 (fun w' => w'.cell? ⟨bh, 7, none⟩ = some (.slice (some ⟨gp, op, none⟩) 12 kp) ∧ w'.cell? ⟨bh, 5, none⟩ = some (.int .i64 hg) ∧ w'.cell? ⟨bh, 6, none⟩ = some (.int .i64 ht) ∧ w'.cell? ⟨b5, 0, none⟩ = some (.int .i64 a) ∧ w'.cell? ⟨b5, 1, none⟩ = some (.int .i64 s)) (by kernel_rfl) (by kernel_rfl) ?_ (fun hHeld => ?_)
  · (first | exact HS0.out | exact HKS.out _ HCC.out)
  simp only [List.take_succ_cons, List.take_zero]
  have HKS : Hid (∀ W, Chg (fun _ => False) W2.drew W → W.cell? ⟨bh, 7, none⟩ = some (.slice (some ⟨gp, op, none⟩) 12 kp) ∧ W.cell? ⟨bh, 5, none⟩ = some (.int .i64 hg) ∧ W.cell? ⟨bh, 6, none⟩ = some (.int .i64 ht) ∧ W.cell? ⟨b5, 0, none⟩ = some (.int .i64 a) ∧ W.cell? ⟨b5, 1, none⟩ = some (.int .i64 s)) := Lib.hid (fun W hc => ⟨hc.cell HS0.out.1, hc.cell HS0.out.2.1, hc.cell HS0.out.2.2.1, hc.cell HS0.out.2.2.2.1, hc.cell HS0.out.2.2.2.2⟩)
  have HWD : Hid (Chg (fun _ => False) W2 W2.drew) := Lib.hid (Chg.refl _ W2).drewR
  generalize W2.drew = wD at *
  have HCC := Lib.hid (Chg.refl (fun _ => False) wD)
  refine wpAnyH_take (i := 0) (v := ?_) rfl (by kernel_rfl) (by kernel_rfl) (by kernel_rfl) (fun _ _ _ h => h) (Or.inl ⟨by rfl, ?_⟩) (by assumption) ?_
  rotate_left
  · (intro wq hSw; (try dsimp only at hSw); go_simp; (try with_reducible rfl))
  simp only [Act.put, List.getElem_toArray, List.getElem_cons_zero, List.getElem_cons_succ, List.setIfInBounds_toArray, List.set_cons_zero, List.set_cons_succ]
  refine wpAnyH_take (i := 1) (v := ?_) rfl (by kernel_rfl) (by kernel_rfl) (by kernel_rfl) (fun _ _ _ h => h) (Or.inl ⟨by rfl, ?_⟩) (by assumption) ?_
  rotate_left
  · (intro wq hSw; (try dsimp only at hSw); go_simp; (try with_reducible rfl))
  simp only [Act.put, List.getElem_toArray, List.getElem_cons_zero, List.getElem_cons_succ, List.setIfInBounds_toArray, List.set_cons_zero, List.set_cons_succ]
  refine wpAnyH_take (i := 2) (v := ?_) rfl (by kernel_rfl) (by kernel_rfl) (by kernel_rfl) (fun _ _ _ h => h) (Or.inl ⟨by rfl, ?_⟩) (by assumption) ?_
  rotate_left
  · (intro wq hSw; (try dsimp only at hSw); go_simp; (try with_reducible rfl))
  simp only [Act.put, List.getElem_toArray, List.getElem_cons_zero, List.getElem_cons_succ, List.setIfInBounds_toArray, List.set_cons_zero, List.set_cons_succ]
  refine wpAnyH_take (i := 3) (v := ?_) rfl (by kernel_rfl) (by kernel_rfl) (by kernel_rfl) (fun _ _ _ h => h) (Or.inl ⟨by rfl, ?_⟩) (by assumption) ?_
  rotate_left
  · (intro wq hSw; (try dsimp only at hSw); go_simp; (try with_reducible rfl))
  simp only [Act.put, List.getElem_toArray, List.getElem_cons_zero, List.getElem_cons_succ, List.setIfInBounds_toArray, List.set_cons_zero, List.set_cons_succ]
  refine wpAnyH_take (i := 4) (v := ?_) rfl (by kernel_rfl) (by kernel_rfl) (by kernel_rfl) (fun _ _ _ h => h) (Or.inl ⟨by rfl, ?_⟩) (by assumption) ?_
  rotate_left
  · (intro wq hSw; (try dsimp only at hSw); go_simp; (try with_reducible rfl))
  simp only [Act.put, List.getElem_toArray, List.getElem_cons_zero, List.getElem_cons_succ, List.setIfInBounds_toArray, List.set_cons_zero, List.set_cons_succ]
  first
  | (refine wpAnyH_take (i := 5) (v := undef) rfl (by kernel_rfl) (by kernel_rfl) (by kernel_rfl) (fun _ _ _ h => h) (Or.inr ⟨by rfl, rfl⟩) (by assumption) ?_)
  | (refine wpAnyH_take (i := 5) (v := ?_) rfl (by kernel_rfl) (by kernel_rfl) (by kernel_rfl) (fun _ _ _ h => h) (Or.inl ⟨by rfl, ?_⟩) (by assumption) ?_; rotate_left; (focus (intro wq hSw; (try dsimp only at hSw); go_simp; (try with_reducible rfl))))
  simp only [Act.put, List.getElem_toArray, List.getElem_cons_zero, List.getElem_cons_succ, List.setIfInBounds_toArray, List.set_cons_zero, List.set_cons_succ]
  first
  | (refine wpAnyH_take (i := 6) (v := undef) rfl (by kernel_rfl) (by kernel_rfl) (by kernel_rfl) (fun _ _ _ h => h) (Or.inr ⟨by rfl, rfl⟩) (by assumption) ?_)
  | (refine wpAnyH_take (i := 6) (v := ?_) rfl (by kernel_rfl) (by kernel_rfl) (by kernel_rfl) (fun _ _ _ h => h) (Or.inl ⟨by rfl, ?_⟩) (by assumption) ?_; rotate_left; (focus (intro wq hSw; (try dsimp only at hSw); go_simp; (try with_reducible rfl))))
  simp only [Act.put, List.getElem_toArray, List.getElem_cons_zero, List.getElem_cons_succ, List.setIfInBounds_toArray, List.set_cons_zero, List.set_cons_succ]
  first
  | (refine wpAnyH_take (i := 7) (v := undef) rfl (by kernel_rfl) (by kernel_rfl) (by kernel_rfl) (fun _ _ _ h => h) (Or.inr ⟨by rfl, rfl⟩) (by assumption) ?_)
  | (refine wpAnyH_take (i := 7) (v := ?_) rfl (by kernel_rfl) (by kernel_rfl) (by kernel_rfl) (fun _ _ _ h => h) (Or.inl ⟨by rfl, ?_⟩) (by assumption) ?_; rotate_left; (focus (intro wq hSw; (try dsimp only at hSw); go_simp; (try with_reducible rfl))))
  simp only [Act.put, List.getElem_toArray, List.getElem_cons_zero, List.getElem_cons_succ, List.setIfInBounds_toArray, List.set_cons_zero, List.set_cons_succ]
  refine wpAnyH_ready (rs := [8]) (by kernel_rfl) (by simp) ?_
  refine AllReadyH.cons (by simp only [List.getElem?_toArray, List.getElem?_cons_succ, List.getElem?_cons_zero]; rfl) (fun K hK => ?_) AllReadyH.nil
  (go_simp; go_at_call 14; refine (HHD.out _ _ (by omega)).mono ?_; rintro _ wd ⟨rfl, hcd⟩; have HCC := Lib.hid (HCC.out.trans' hcd); clear hcd; go_simp)
  refine hK.out _ _ ?_ (fun hHeld => ?_)
  · (first | exact HS0.out | exact HKS.out _ HCC.out)
  clear hK K
  (try simp only [Act.put, List.getElem_toArray, List.getElem_cons_zero, List.getElem_cons_succ, List.setIfInBounds_toArray, List.set_cons_zero, List.set_cons_succ])
  first
  | (refine wpAnyH_take (i := 9) (v := undef) rfl (by kernel_rfl) (by kernel_rfl) (by kernel_rfl) (fun _ _ _ h => h) (Or.inr ⟨by rfl, rfl⟩) (by assumption) ?_)
  | (refine wpAnyH_take (i := 9) (v := ?_) rfl (by kernel_rfl) (by kernel_rfl) (by kernel_rfl) (fun _ _ _ h => h) (Or.inl ⟨by rfl, ?_⟩) (by assumption) ?_; rotate_left; (focus (intro wq hSw; (try dsimp only at hSw); go_simp; (try with_reducible rfl))))
  simp only [Act.put, List.getElem_toArray, List.getElem_cons_zero, List.getElem_cons_succ, List.setIfInBounds_toArray, List.set_cons_zero, List.set_cons_succ]
  refine wpAnyH_take (i := 10) (v := ?_) rfl (by kernel_rfl) (by kernel_rfl) (by kernel_rfl) (fun _ _ _ h => h) (Or.inl ⟨by rfl, ?_⟩) (by assumption) ?_
  rotate_left
  · (intro wq hSw; (try dsimp only at hSw); go_simp; (try with_reducible rfl))
  simp only [Act.put, List.getElem_toArray, List.getElem_cons_zero, List.getElem_cons_succ, List.setIfInBounds_toArray, List.set_cons_zero, List.set_cons_succ]
  refine wpAnyH_take (i := 11) (v := ?_) rfl (by kernel_rfl) (by kernel_rfl) (by kernel_rfl) (fun _ _ _ h => h) (Or.inl ⟨by rfl, ?_⟩) (by assumption) ?_
  rotate_left
  · (intro wq hSw; (try dsimp only at hSw); go_simp; (try with_reducible rfl))
  simp only [Act.put, List.getElem_toArray, List.getElem_cons_zero, List.getElem_cons_succ, List.setIfInBounds_toArray, List.set_cons_zero, List.set_cons_succ]
  first
  | (refine wpAnyH_take (i := 12) (v := undef) rfl (by kernel_rfl) (by kernel_rfl) (by kernel_rfl) (fun _ _ _ h => h) (Or.inr ⟨by rfl, rfl⟩) (by assumption) ?_)
  | (refine wpAnyH_take (i := 12) (v := ?_) rfl (by kernel_rfl) (by kernel_rfl) (by kernel_rfl) (fun _ _ _ h => h) (Or.inl ⟨by rfl, ?_⟩) (by assumption) ?_; rotate_left; (focus (intro wq hSw; (try dsimp only at hSw); go_simp; (try with_reducible rfl))))
  simp only [Act.put, List.getElem_toArray, List.getElem_cons_zero, List.getElem_cons_succ, List.setIfInBounds_toArray, List.set_cons_zero, List.set_cons_succ]
  first
  | (refine wpAnyH_take (i := 13) (v := undef) rfl (by kernel_rfl) (by kernel_rfl) (by kernel_rfl) (fun _ _ _ h => h) (Or.inr ⟨by rfl, rfl⟩) (by assumption) ?_)
  | (refine wpAnyH_take (i := 13) (v := ?_) rfl (by kernel_rfl) (by kernel_rfl) (by kernel_rfl) (fun _ _ _ h => h) (Or.inl ⟨by rfl, ?_⟩) (by assumption) ?_; rotate_left; (focus (intro wq hSw; (try dsimp only at hSw); go_simp; (try with_reducible rfl))))
  simp only [Act.put, List.getElem_toArray, List.getElem_cons_zero, List.getElem_cons_succ, List.setIfInBounds_toArray, List.set_cons_zero, List.set_cons_succ]
  first
  | (refine wpAnyH_take (i := 14) (v := undef) rfl (by kernel_rfl) (by kernel_rfl) (by kernel_rfl) (fun _ _ _ h => h) (Or.inr ⟨by rfl, rfl⟩) (by assumption) ?_)
  | (refine wpAnyH_take (i := 14) (v := ?_) rfl (by kernel_rfl) (by kernel_rfl) (by kernel_rfl) (fun _ _ _ h => h) (Or.inl ⟨by rfl, ?_⟩) (by assumption) ?_; rotate_left; (focus (intro wq hSw; (try dsimp only at hSw); go_simp; (try with_reducible rfl))))
  simp only [Act.put, List.getElem_toArray, List.getElem_cons_zero, List.getElem_cons_succ, List.setIfInBounds_toArray, List.set_cons_zero, List.set_cons_succ]
  refine wpAnyH_ready (rs := [15]) (by kernel_rfl) (by simp) ?_
  refine AllReadyH.cons (by simp only [List.getElem?_toArray, List.getElem?_cons_succ, List.getElem?_cons_zero]; rfl) (fun K hK => ?_) AllReadyH.nil
  (go_simp; go_at_call 14; refine (HHD.out _ _ (by omega)).mono ?_; rintro _ wd ⟨rfl, hcd⟩; have HCC := Lib.hid (HCC.out.trans' hcd); clear hcd; go_simp)
  refine hK.out _ _ ?_ (fun hHeld => ?_)
  · (first | exact HS0.out | exact HKS.out _ HCC.out)
  clear hK K
  (try simp only [Act.put, List.getElem_toArray, List.getElem_cons_zero, List.getElem_cons_succ, List.setIfInBounds_toArray, List.set_cons_zero, List.set_cons_succ])
  first
  | (refine wpAnyH_take (i := 16) (v := undef) rfl (by kernel_rfl) (by kernel_rfl) (by kernel_rfl) (fun _ _ _ h => h) (Or.inr ⟨by rfl, rfl⟩) (by assumption) ?_)
  | (refine wpAnyH_take (i := 16) (v := ?_) rfl (by kernel_rfl) (by kernel_rfl) (by kernel_rfl) (fun _ _ _ h => h) (Or.inl ⟨by rfl, ?_⟩) (by assumption) ?_; rotate_left; (focus (intro wq hSw; (try dsimp only at hSw); go_simp; (try with_reducible rfl))))
  simp only [Act.put, List.getElem_toArray, List.getElem_cons_zero, List.getElem_cons_succ, List.setIfInBounds_toArray, List.set_cons_zero, List.set_cons_succ]
  refine wpAnyH_done (by kernel_rfl) ?_ _
  change wpList _ _ _ _ _ _
  simp only [List.drop_succ_cons, List.drop_zero]
  have HCX := Lib.hid (HWD.out.trans' HCC.out)
  clear HS0 HKS HWD HCC hHeld
  go_wp2_with fail
  go_loopw [7] (fun u7 wr => ∃ k : Nat, k ≤ 12 ∧ u7 = .int .i64 k ∧ Hid (Chg (fun _ => False) W2 wr)) (fun u7 _ => 12 - (intOf u7).toNat)
  case atStart => exact ⟨0, by omega, rfl, HCX⟩
  case round =>
    clear HCX
    obtain ⟨k, hk, rfl, HCR⟩ := hrel
    by_cases hlt : k < 12
    · have k0 : (0 : Int) ≤ (k : Int) := by omega
      have k1 : (k : Int) < 12 := by omega
      have w64 : IntKind.i64.wrap ((k : Int) + 1) = ((k + 1 : Nat) : Int) := IntWalk.i64_in _ (by omega)
      have HLT := Lib.hid hlt
      have HPO := Lib.hid (fun W => rproto_any k W hlt)
      have HPI : Hid (-1000 ≤ protoN k ∧ protoN k ≤ 1000000) := Lib.hid (by have := protoN_in k hlt; omega)
      have HS0 : Hid (wr.cell? ⟨bh, 7, none⟩ = some (.slice (some ⟨gp, op, none⟩) 12 kp) ∧ wr.cell? ⟨gp, op + k, none⟩ = some (.int .i64 (handleL a s (protoN k))) ∧ wr.cell? ⟨b5, 0, none⟩ = some (.int .i64 a) ∧ wr.cell? ⟨b5, 1, none⟩ = some (.int .i64 s)) := Lib.hid ⟨HCR.out.cell HSX.out.1, HCR.out.cell (HPC.out k hlt), HCR.out.cell HSX.out.2.2.2.1, HCR.out.cell HSX.out.2.2.2.2⟩
      clear hk
      go_upto_region 10 with fail
      refine wp_region_held_split 9 (fun w' => w'.cell? ⟨bh, 7, none⟩ = some (.slice (some ⟨gp, op, none⟩) 12 kp) ∧ w'.cell? ⟨gp, op + k, none⟩ = some (.int .i64 (handleL a s (protoN k))) ∧ w'.cell? ⟨b5, 0, none⟩ = some (.int .i64 a) ∧ w'.cell? ⟨b5, 1, none⟩ = some (.int .i64 s)) (by kernel_rfl) (by kernel_rfl) ?_ (fun hHeld => ?_)
      · (first | exact HS0.out | exact HKS.out _ HCC.out)
      simp only [List.take_succ_cons, List.take_zero]
      have HKS : Hid (∀ W, Chg (fun _ => False) wr.drew W → W.cell? ⟨bh, 7, none⟩ = some (.slice (some ⟨gp, op, none⟩) 12 kp) ∧ W.cell? ⟨gp, op + k, none⟩ = some (.int .i64 (handleL a s (protoN k))) ∧ W.cell? ⟨b5, 0, none⟩ = some (.int .i64 a) ∧ W.cell? ⟨b5, 1, none⟩ = some (.int .i64 s)) := Lib.hid (fun W hc => ⟨hc.cell HS0.out.1, hc.cell HS0.out.2.1, hc.cell HS0.out.2.2.1, hc.cell HS0.out.2.2.2⟩)
      have HWD : Hid (Chg (fun _ => False) wr wr.drew) := Lib.hid (Chg.refl _ wr).drewR
      generalize wr.drew = wD at *
      have HCC := Lib.hid (Chg.refl (fun _ => False) wD)
      refine wpAnyH_take (i := 0) (v := ?_) rfl (by kernel_rfl) (by kernel_rfl) (by kernel_rfl) (fun _ _ _ h => h) (Or.inl ⟨by rfl, ?_⟩) (by assumption) ?_
      rotate_left
      · (intro wq hSw; (try dsimp only at hSw); go_simp; (try with_reducible rfl))
      simp only [Act.put, List.getElem_toArray, List.getElem_cons_zero, List.getElem_cons_succ, List.setIfInBounds_toArray, List.set_cons_zero, List.set_cons_succ]
      refine wpAnyH_take (i := 1) (v := ?_) rfl (by kernel_rfl) (by kernel_rfl) (by kernel_rfl) (fun _ _ _ h => h) (Or.inl ⟨by rfl, ?_⟩) (by assumption) ?_
      rotate_left
      · (intro wq hSw; (try dsimp only at hSw); go_simp; (try with_reducible rfl))
      simp only [Act.put, List.getElem_toArray, List.getElem_cons_zero, List.getElem_cons_succ, List.setIfInBounds_toArray, List.set_cons_zero, List.set_cons_succ]
      refine wpAnyH_take (i := 2) (v := ?_) rfl (by kernel_rfl) (by kernel_rfl) (by kernel_rfl) (fun _ _ _ h => h) (Or.inl ⟨by rfl, ?_⟩) (by assumption) ?_
      rotate_left
      · (intro wq hSw; (try dsimp only at hSw); go_simp; (try with_reducible rfl))
      simp only [Act.put, List.getElem_toArray, List.getElem_cons_zero, List.getElem_cons_succ, List.setIfInBounds_toArray, List.set_cons_zero, List.set_cons_succ]
      refine wpAnyH_take (i := 3) (v := ?_) rfl (by kernel_rfl) (by kernel_rfl) (by kernel_rfl) (fun _ _ _ h => h) (Or.inl ⟨by rfl, ?_⟩) (by assumption) ?_
      rotate_left
      · (intro wq hSw; (try dsimp only at hSw); go_simp; (try with_reducible rfl))
      simp only [Act.put, List.getElem_toArray, List.getElem_cons_zero, List.getElem_cons_succ, List.setIfInBounds_toArray, List.set_cons_zero, List.set_cons_succ]
      refine wpAnyH_take (i := 4) (v := ?_) rfl (by kernel_rfl) (by kernel_rfl) (by kernel_rfl) (fun _ _ _ h => h) (Or.inl ⟨by rfl, ?_⟩) (by assumption) ?_
      rotate_left
      · (intro wq hSw; (try dsimp only at hSw); go_simp; (try with_reducible rfl))
      simp only [Act.put, List.getElem_toArray, List.getElem_cons_zero, List.getElem_cons_succ, List.setIfInBounds_toArray, List.set_cons_zero, List.set_cons_succ]
      refine wpAnyH_take (i := 5) (v := ?_) rfl (by kernel_rfl) (by kernel_rfl) (by kernel_rfl) (fun _ _ _ h => h) (Or.inl ⟨by rfl, ?_⟩) (by assumption) ?_
      rotate_left
      · (intro wq hSw; (try dsimp only at hSw); go_simp; (try with_reducible rfl))
      simp only [Act.put, List.getElem_toArray, List.getElem_cons_zero, List.getElem_cons_succ, List.setIfInBounds_toArray, List.set_cons_zero, List.set_cons_succ]
      refine wpAnyH_take (i := 6) (v := ?_) rfl (by kernel_rfl) (by kernel_rfl) (by kernel_rfl) (fun _ _ _ h => h) (Or.inl ⟨by rfl, ?_⟩) (by assumption) ?_
      rotate_left
      · (intro wq hSw; (try dsimp only at hSw); go_simp; (try with_reducible rfl))
      simp only [Act.put, List.getElem_toArray, List.getElem_cons_zero, List.getElem_cons_succ, List.setIfInBounds_toArray, List.set_cons_zero, List.set_cons_succ]
      refine wpAnyH_ready (rs := [7]) (by kernel_rfl) (by simp) ?_
      refine AllReadyH.cons (by simp only [List.getElem?_toArray, List.getElem?_cons_succ, List.getElem?_cons_zero]; rfl) (fun K hK => ?_) AllReadyH.nil
      (first | (go_simp; go_at_call 14; refine (HHD.out _ _ HPI.out).mono ?_; rintro _ wd ⟨rfl, hcd⟩; have HCC := Lib.hid (HCC.out.trans' hcd); clear hcd; go_simp) | (go_simp; go_at_call 15; refine (HPO.out _).mono ?_; rintro _ wd ⟨rfl, hcd⟩; have HCC := Lib.hid (HCC.out.trans' hcd); clear hcd; go_simp))
      refine hK.out _ _ ?_ (fun hHeld => ?_)
      · (first | exact HS0.out | exact HKS.out _ HCC.out)
      clear hK K
      (try simp only [Act.put, List.getElem_toArray, List.getElem_cons_zero, List.getElem_cons_succ, List.setIfInBounds_toArray, List.set_cons_zero, List.set_cons_succ])
      refine wpAnyH_ready (rs := [8]) (by kernel_rfl) (by simp) ?_
      refine AllReadyH.cons (by simp only [List.getElem?_toArray, List.getElem?_cons_succ, List.getElem?_cons_zero]; rfl) (fun K hK => ?_) AllReadyH.nil
      (first | (go_simp; go_at_call 14; refine (HHD.out _ _ HPI.out).mono ?_; rintro _ wd ⟨rfl, hcd⟩; have HCC := Lib.hid (HCC.out.trans' hcd); clear hcd; go_simp) | (go_simp; go_at_call 15; refine (HPO.out _).mono ?_; rintro _ wd ⟨rfl, hcd⟩; have HCC := Lib.hid (HCC.out.trans' hcd); clear hcd; go_simp))
      refine hK.out _ _ ?_ (fun hHeld => ?_)
      · (first | exact HS0.out | exact HKS.out _ HCC.out)
      clear hK K
      (try simp only [Act.put, List.getElem_toArray, List.getElem_cons_zero, List.getElem_cons_succ, List.setIfInBounds_toArray, List.set_cons_zero, List.set_cons_succ])
      refine wpAnyH_done (by kernel_rfl) ?_ _
      change wpList _ _ _ _ _ _
      simp only [List.drop_succ_cons, List.drop_zero]
      have HCX := Lib.hid ((HCR.out.trans' HWD.out).trans' HCC.out)
      clear HS0 HKS HWD HCC hHeld HCR
      go_wp2_with fail
      go_roundw
      case rel => exact ⟨k + 1, by have := HLT.out; omega, rfl, HCX⟩
      case measure => have := HLT.out; simp [intOf, w64]; omega
    · have hie : k = 12 := by omega
      subst hie
      obtain ⟨h0, hh0⟩ : ∃ h0, handleM a s 0 = h0 := ⟨_, rfl⟩
      have hz0 : W2.cell? ⟨gp, op, none⟩ = some (.int .i64 h0) := by rw [← hh0]; exact HPC.out 0 (by omega)
      have HLN := Lib.hid (fun W (hc : Chg (fun _ => False) W2 W) => len_any W bh 0 (newM a s) F (HHW.out W hc))
      have hin := fun i (hi : i < 12) => handle_in a s (i := i) (by omega)
      have HWG := Lib.hid (fun W (hc : Chg (fun _ => False) W2 W) => within_any W bh (newM a s) F (handleM a s 11) (handleM a s 0) (HHW.out W hc) (by have := hin 11 (by omega); exact ⟨by show _ ≤ handleM a s ((11 : Nat) : Int); omega, this.2⟩) (newM_in a s))
      have HWZ := Lib.hid (fun W (hc : Chg (fun _ => False) W2 W) => within_any W bh (newM a s) F (handleM a s 0) (handleM a s 0) (HHW.out W hc) (by have := hin 0 (by omega); exact ⟨by show _ ≤ handleM a s ((0 : Nat) : Int); omega, this.2⟩) (newM_in a s))
      rw [within_g, HGE.out, hh0] at HWG
      rw [within_z, hh0] at HWZ
      rw [show (newM a s).live = 12 from rfl] at HLN
      have HS0 : Hid (wr.cell? ⟨bh, 7, none⟩ = some (.slice (some ⟨gp, op, none⟩) 12 kp) ∧ wr.cell? ⟨bh, 5, none⟩ = some (.int .i64 hg) ∧ wr.cell? ⟨gp, op, none⟩ = some (.int .i64 h0)) := Lib.hid ⟨HCR.out.cell HSX.out.1, HCR.out.cell HSX.out.2.1, HCR.out.cell hz0⟩
      clear hz0 hh0 hin hlt hk
      go_upto_region 12 with fail
      refine wp_region_held_split 24 (fun w' => w'.cell? ⟨bh, 7, none⟩ = some (.slice (some ⟨gp, op, none⟩) 12 kp) ∧ w'.cell? ⟨bh, 5, none⟩ = some (.int .i64 hg) ∧ w'.cell? ⟨gp, op, none⟩ = some (.int .i64 h0)) (by kernel_rfl) (by kernel_rfl) ?_ (fun hHeld => ?_)
      · (first | exact HS0.out | exact HKS.out _ HCC.out)
      simp only [List.take_succ_cons, List.take_zero]
      have HKS : Hid (∀ W, Chg (fun _ => False) wr.drew W → W.cell? ⟨bh, 7, none⟩ = some (.slice (some ⟨gp, op, none⟩) 12 kp) ∧ W.cell? ⟨bh, 5, none⟩ = some (.int .i64 hg) ∧ W.cell? ⟨gp, op, none⟩ = some (.int .i64 h0)) := Lib.hid (fun W hc => ⟨hc.cell HS0.out.1, hc.cell HS0.out.2.1, hc.cell HS0.out.2.2⟩)
      have HWD : Hid (Chg (fun _ => False) wr wr.drew) := Lib.hid (Chg.refl _ wr).drewR
      have HWQ : Hid (∀ W, Chg (fun _ => False) wr.drew W → Chg (fun _ => False) W2 W) := Lib.hid (fun W hc => (HCR.out.trans' (Chg.refl _ wr).drewR).trans' hc)
      generalize wr.drew = wD at *
      have HCC := Lib.hid (Chg.refl (fun _ => False) wD)
      refine wpAnyH_take (i := 0) (v := ?_) rfl (by kernel_rfl) (by kernel_rfl) (by kernel_rfl) (fun _ _ _ h => h) (Or.inl ⟨by rfl, ?_⟩) (by assumption) ?_
      rotate_left
      · (intro wq hSw; (try dsimp only at hSw); go_simp; (try with_reducible rfl))
      simp only [Act.put, List.getElem_toArray, List.getElem_cons_zero, List.getElem_cons_succ, List.setIfInBounds_toArray, List.set_cons_zero, List.set_cons_succ]
      refine wpAnyH_ready (rs := [1]) (by kernel_rfl) (by simp) ?_
      refine AllReadyH.cons (by simp only [List.getElem?_toArray, List.getElem?_cons_succ, List.getElem?_cons_zero]; rfl) (fun K hK => ?_) AllReadyH.nil
      (go_simp; go_at_call 16; refine (HLN.out _ (HWQ.out _ HCC.out)).mono ?_; rintro _ wd ⟨rfl, rfl⟩; go_simp)
      refine hK.out _ _ ?_ (fun hHeld => ?_)
      · (first | exact HS0.out | exact HKS.out _ HCC.out)
      clear hK K
      (try simp only [Act.put, List.getElem_toArray, List.getElem_cons_zero, List.getElem_cons_succ, List.setIfInBounds_toArray, List.set_cons_zero, List.set_cons_succ])
      refine wpAnyH_take (i := 2) (v := ?_) rfl (by kernel_rfl) (by kernel_rfl) (by kernel_rfl) (fun _ _ _ h => h) (Or.inl ⟨by rfl, ?_⟩) (by assumption) ?_
      rotate_left
      · (intro wq hSw; (try dsimp only at hSw); go_simp; (try with_reducible rfl))
      simp only [Act.put, List.getElem_toArray, List.getElem_cons_zero, List.getElem_cons_succ, List.setIfInBounds_toArray, List.set_cons_zero, List.set_cons_succ]
      refine wpAnyH_take (i := 3) (v := ?_) rfl (by kernel_rfl) (by kernel_rfl) (by kernel_rfl) (fun _ _ _ h => h) (Or.inl ⟨by rfl, ?_⟩) (by assumption) ?_
      rotate_left
      · (intro wq hSw; (try dsimp only at hSw); go_simp; (try with_reducible rfl))
      simp only [Act.put, List.getElem_toArray, List.getElem_cons_zero, List.getElem_cons_succ, List.setIfInBounds_toArray, List.set_cons_zero, List.set_cons_succ]
      first
      | (refine wpAnyH_take (i := 4) (v := undef) rfl (by kernel_rfl) (by kernel_rfl) (by kernel_rfl) (fun _ _ _ h => h) (Or.inr ⟨by rfl, rfl⟩) (by assumption) ?_)
      | (refine wpAnyH_take (i := 4) (v := ?_) rfl (by kernel_rfl) (by kernel_rfl) (by kernel_rfl) (fun _ _ _ h => h) (Or.inl ⟨by rfl, ?_⟩) (by assumption) ?_; rotate_left; (focus (intro wq hSw; (try dsimp only at hSw); go_simp; (try with_reducible rfl))))
      simp only [Act.put, List.getElem_toArray, List.getElem_cons_zero, List.getElem_cons_succ, List.setIfInBounds_toArray, List.set_cons_zero, List.set_cons_succ]
      first
      | (refine wpAnyH_take (i := 5) (v := undef) rfl (by kernel_rfl) (by kernel_rfl) (by kernel_rfl) (fun _ _ _ h => h) (Or.inr ⟨by rfl, rfl⟩) (by assumption) ?_)
      | (refine wpAnyH_take (i := 5) (v := ?_) rfl (by kernel_rfl) (by kernel_rfl) (by kernel_rfl) (fun _ _ _ h => h) (Or.inl ⟨by rfl, ?_⟩) (by assumption) ?_; rotate_left; (focus (intro wq hSw; (try dsimp only at hSw); go_simp; (try with_reducible rfl))))
      simp only [Act.put, List.getElem_toArray, List.getElem_cons_zero, List.getElem_cons_succ, List.setIfInBounds_toArray, List.set_cons_zero, List.set_cons_succ]
      first
      | (refine wpAnyH_take (i := 6) (v := undef) rfl (by kernel_rfl) (by kernel_rfl) (by kernel_rfl) (fun _ _ _ h => h) (Or.inr ⟨by rfl, rfl⟩) (by assumption) ?_)
      | (refine wpAnyH_take (i := 6) (v := ?_) rfl (by kernel_rfl) (by kernel_rfl) (by kernel_rfl) (fun _ _ _ h => h) (Or.inl ⟨by rfl, ?_⟩) (by assumption) ?_; rotate_left; (focus (intro wq hSw; (try dsimp only at hSw); go_simp; (try with_reducible rfl))))
      simp only [Act.put, List.getElem_toArray, List.getElem_cons_zero, List.getElem_cons_succ, List.setIfInBounds_toArray, List.set_cons_zero, List.set_cons_succ]
      first
      | (refine wpAnyH_take (i := 7) (v := undef) rfl (by kernel_rfl) (by kernel_rfl) (by kernel_rfl) (fun _ _ _ h => h) (Or.inr ⟨by rfl, rfl⟩) (by assumption) ?_)
      | (refine wpAnyH_take (i := 7) (v := ?_) rfl (by kernel_rfl) (by kernel_rfl) (by kernel_rfl) (fun _ _ _ h => h) (Or.inl ⟨by rfl, ?_⟩) (by assumption) ?_; rotate_left; (focus (intro wq hSw; (try dsimp only at hSw); go_simp; (try with_reducible rfl))))
      simp only [Act.put, List.getElem_toArray, List.getElem_cons_zero, List.getElem_cons_succ, List.setIfInBounds_toArray, List.set_cons_zero, List.set_cons_succ]
      first
      | (refine wpAnyH_take (i := 8) (v := undef) rfl (by kernel_rfl) (by kernel_rfl) (by kernel_rfl) (fun _ _ _ h => h) (Or.inr ⟨by rfl, rfl⟩) (by assumption) ?_)
      | (refine wpAnyH_take (i := 8) (v := ?_) rfl (by kernel_rfl) (by kernel_rfl) (by kernel_rfl) (fun _ _ _ h => h) (Or.inl ⟨by rfl, ?_⟩) (by assumption) ?_; rotate_left; (focus (intro wq hSw; (try dsimp only at hSw); go_simp; (try with_reducible rfl))))
      simp only [Act.put, List.getElem_toArray, List.getElem_cons_zero, List.getElem_cons_succ, List.setIfInBounds_toArray, List.set_cons_zero, List.set_cons_succ]
      first
      | (refine wpAnyH_take (i := 9) (v := undef) rfl (by kernel_rfl) (by kernel_rfl) (by kernel_rfl) (fun _ _ _ h => h) (Or.inr ⟨by rfl, rfl⟩) (by assumption) ?_)
      | (refine wpAnyH_take (i := 9) (v := ?_) rfl (by kernel_rfl) (by kernel_rfl) (by kernel_rfl) (fun _ _ _ h => h) (Or.inl ⟨by rfl, ?_⟩) (by assumption) ?_; rotate_left; (focus (intro wq hSw; (try dsimp only at hSw); go_simp; (try with_reducible rfl))))
      simp only [Act.put, List.getElem_toArray, List.getElem_cons_zero, List.getElem_cons_succ, List.setIfInBounds_toArray, List.set_cons_zero, List.set_cons_succ]
      refine wpAnyH_ready (rs := [10]) (by kernel_rfl) (by simp) ?_
      refine AllReadyH.cons (by simp only [List.getElem?_toArray, List.getElem?_cons_succ, List.getElem?_cons_zero]; rfl) (fun K hK => ?_) AllReadyH.nil
      (go_simp; go_at_call 17; refine (HWG.out _ (HWQ.out _ HCC.out)).mono ?_; rintro _ wd ⟨rfl, hcd⟩; have HCC := Lib.hid (HCC.out.trans' hcd); clear hcd; go_simp)
      refine hK.out _ _ ?_ (fun hHeld => ?_)
      · (first | exact HS0.out | exact HKS.out _ HCC.out)
      clear hK K
      (try simp only [Act.put, List.getElem_toArray, List.getElem_cons_zero, List.getElem_cons_succ, List.setIfInBounds_toArray, List.set_cons_zero, List.set_cons_succ])
      refine wpAnyH_take (i := 11) (v := ?_) rfl (by kernel_rfl) (by kernel_rfl) (by kernel_rfl) (fun _ _ _ h => h) (Or.inl ⟨by rfl, ?_⟩) (by assumption) ?_
      rotate_left
      · (intro wq hSw; (try dsimp only at hSw); go_simp; (try with_reducible rfl))
      simp only [Act.put, List.getElem_toArray, List.getElem_cons_zero, List.getElem_cons_succ, List.setIfInBounds_toArray, List.set_cons_zero, List.set_cons_succ]
      refine wpAnyH_take (i := 12) (v := ?_) rfl (by kernel_rfl) (by kernel_rfl) (by kernel_rfl) (fun _ _ _ h => h) (Or.inl ⟨by rfl, ?_⟩) (by assumption) ?_
      rotate_left
      · (intro wq hSw; (try dsimp only at hSw); go_simp; (try with_reducible rfl))
      simp only [Act.put, List.getElem_toArray, List.getElem_cons_zero, List.getElem_cons_succ, List.setIfInBounds_toArray, List.set_cons_zero, List.set_cons_succ]
      first
      | (refine wpAnyH_take (i := 13) (v := undef) rfl (by kernel_rfl) (by kernel_rfl) (by kernel_rfl) (fun _ _ _ h => h) (Or.inr ⟨by rfl, rfl⟩) (by assumption) ?_)
      | (refine wpAnyH_take (i := 13) (v := ?_) rfl (by kernel_rfl) (by kernel_rfl) (by kernel_rfl) (fun _ _ _ h => h) (Or.inl ⟨by rfl, ?_⟩) (by assumption) ?_; rotate_left; (focus (intro wq hSw; (try dsimp only at hSw); go_simp; (try with_reducible rfl))))
      simp only [Act.put, List.getElem_toArray, List.getElem_cons_zero, List.getElem_cons_succ, List.setIfInBounds_toArray, List.set_cons_zero, List.set_cons_succ]
      first
      | (refine wpAnyH_take (i := 14) (v := undef) rfl (by kernel_rfl) (by kernel_rfl) (by kernel_rfl) (fun _ _ _ h => h) (Or.inr ⟨by rfl, rfl⟩) (by assumption) ?_)
      | (refine wpAnyH_take (i := 14) (v := ?_) rfl (by kernel_rfl) (by kernel_rfl) (by kernel_rfl) (fun _ _ _ h => h) (Or.inl ⟨by rfl, ?_⟩) (by assumption) ?_; rotate_left; (focus (intro wq hSw; (try dsimp only at hSw); go_simp; (try with_reducible rfl))))
      simp only [Act.put, List.getElem_toArray, List.getElem_cons_zero, List.getElem_cons_succ, List.setIfInBounds_toArray, List.set_cons_zero, List.set_cons_succ]
      first
      | (refine wpAnyH_take (i := 15) (v := undef) rfl (by kernel_rfl) (by kernel_rfl) (by kernel_rfl) (fun _ _ _ h => h) (Or.inr ⟨by rfl, rfl⟩) (by assumption) ?_)
      | (refine wpAnyH_take (i := 15) (v := ?_) rfl (by kernel_rfl) (by kernel_rfl) (by kernel_rfl) (fun _ _ _ h => h) (Or.inl ⟨by rfl, ?_⟩) (by assumption) ?_; rotate_left; (focus (intro wq hSw; (try dsimp only at hSw); go_simp; (try with_reducible rfl))))
      simp only [Act.put, List.getElem_toArray, List.getElem_cons_zero, List.getElem_cons_succ, List.setIfInBounds_toArray, List.set_cons_zero, List.set_cons_succ]
      first
      | (refine wpAnyH_take (i := 16) (v := undef) rfl (by kernel_rfl) (by kernel_rfl) (by kernel_rfl) (fun _ _ _ h => h) (Or.inr ⟨by rfl, rfl⟩) (by assumption) ?_)
      | (refine wpAnyH_take (i := 16) (v := ?_) rfl (by kernel_rfl) (by kernel_rfl) (by kernel_rfl) (fun _ _ _ h => h) (Or.inl ⟨by rfl, ?_⟩) (by assumption) ?_; rotate_left; (focus (intro wq hSw; (try dsimp only at hSw); go_simp; (try with_reducible rfl))))
      simp only [Act.put, List.getElem_toArray, List.getElem_cons_zero, List.getElem_cons_succ, List.setIfInBounds_toArray, List.set_cons_zero, List.set_cons_succ]
      first
      | (refine wpAnyH_take (i := 17) (v := undef) rfl (by kernel_rfl) (by kernel_rfl) (by kernel_rfl) (fun _ _ _ h => h) (Or.inr ⟨by rfl, rfl⟩) (by assumption) ?_)
      | (refine wpAnyH_take (i := 17) (v := ?_) rfl (by kernel_rfl) (by kernel_rfl) (by kernel_rfl) (fun _ _ _ h => h) (Or.inl ⟨by rfl, ?_⟩) (by assumption) ?_; rotate_left; (focus (intro wq hSw; (try dsimp only at hSw); go_simp; (try with_reducible rfl))))
      simp only [Act.put, List.getElem_toArray, List.getElem_cons_zero, List.getElem_cons_succ, List.setIfInBounds_toArray, List.set_cons_zero, List.set_cons_succ]
      first
      | (refine wpAnyH_take (i := 18) (v := undef) rfl (by kernel_rfl) (by kernel_rfl) (by kernel_rfl) (fun _ _ _ h => h) (Or.inr ⟨by rfl, rfl⟩) (by assumption) ?_)
      | (refine wpAnyH_take (i := 18) (v := ?_) rfl (by kernel_rfl) (by kernel_rfl) (by kernel_rfl) (fun _ _ _ h => h) (Or.inl ⟨by rfl, ?_⟩) (by assumption) ?_; rotate_left; (focus (intro wq hSw; (try dsimp only at hSw); go_simp; (try with_reducible rfl))))
      simp only [Act.put, List.getElem_toArray, List.getElem_cons_zero, List.getElem_cons_succ, List.setIfInBounds_toArray, List.set_cons_zero, List.set_cons_succ]
      first
      | (refine wpAnyH_take (i := 19) (v := undef) rfl (by kernel_rfl) (by kernel_rfl) (by kernel_rfl) (fun _ _ _ h => h) (Or.inr ⟨by rfl, rfl⟩) (by assumption) ?_)
      | (refine wpAnyH_take (i := 19) (v := ?_) rfl (by kernel_rfl) (by kernel_rfl) (by kernel_rfl) (fun _ _ _ h => h) (Or.inl ⟨by rfl, ?_⟩) (by assumption) ?_; rotate_left; (focus (intro wq hSw; (try dsimp only at hSw); go_simp; (try with_reducible rfl))))
      simp only [Act.put, List.getElem_toArray, List.getElem_cons_zero, List.getElem_cons_succ, List.setIfInBounds_toArray, List.set_cons_zero, List.set_cons_succ]
      first
      | (refine wpAnyH_take (i := 20) (v := undef) rfl (by kernel_rfl) (by kernel_rfl) (by kernel_rfl) (fun _ _ _ h => h) (Or.inr ⟨by rfl, rfl⟩) (by assumption) ?_)
      | (refine wpAnyH_take (i := 20) (v := ?_) rfl (by kernel_rfl) (by kernel_rfl) (by kernel_rfl) (fun _ _ _ h => h) (Or.inl ⟨by rfl, ?_⟩) (by assumption) ?_; rotate_left; (focus (intro wq hSw; (try dsimp only at hSw); go_simp; (try with_reducible rfl))))
      simp only [Act.put, List.getElem_toArray, List.getElem_cons_zero, List.getElem_cons_succ, List.setIfInBounds_toArray, List.set_cons_zero, List.set_cons_succ]
      refine wpAnyH_ready (rs := [21]) (by kernel_rfl) (by simp) ?_
      refine AllReadyH.cons (by simp only [List.getElem?_toArray, List.getElem?_cons_succ, List.getElem?_cons_zero]; rfl) (fun K hK => ?_) AllReadyH.nil
      (go_simp; go_at_call 17; refine (HWZ.out _ (HWQ.out _ HCC.out)).mono ?_; rintro _ wd ⟨rfl, hcd⟩; have HCC := Lib.hid (HCC.out.trans' hcd); clear hcd; go_simp)
      refine hK.out _ _ ?_ (fun hHeld => ?_)
      · (first | exact HS0.out | exact HKS.out _ HCC.out)
      clear hK K
      (try simp only [Act.put, List.getElem_toArray, List.getElem_cons_zero, List.getElem_cons_succ, List.setIfInBounds_toArray, List.set_cons_zero, List.set_cons_succ])
      first
      | (refine wpAnyH_take (i := 22) (v := undef) rfl (by kernel_rfl) (by kernel_rfl) (by kernel_rfl) (fun _ _ _ h => h) (Or.inr ⟨by rfl, rfl⟩) (by assumption) ?_)
      | (refine wpAnyH_take (i := 22) (v := ?_) rfl (by kernel_rfl) (by kernel_rfl) (by kernel_rfl) (fun _ _ _ h => h) (Or.inl ⟨by rfl, ?_⟩) (by assumption) ?_; rotate_left; (focus (intro wq hSw; (try dsimp only at hSw); go_simp; (try with_reducible rfl))))
      simp only [Act.put, List.getElem_toArray, List.getElem_cons_zero, List.getElem_cons_succ, List.setIfInBounds_toArray, List.set_cons_zero, List.set_cons_succ]
      refine wpAnyH_take (i := 23) (v := ?_) rfl (by kernel_rfl) (by kernel_rfl) (by kernel_rfl) (fun _ _ _ h => h) (Or.inl ⟨by rfl, ?_⟩) (by assumption) ?_
      rotate_left
      · (intro wq hSw; (try dsimp only at hSw); go_simp; (try with_reducible rfl))
      simp only [Act.put, List.getElem_toArray, List.getElem_cons_zero, List.getElem_cons_succ, List.setIfInBounds_toArray, List.set_cons_zero, List.set_cons_succ]
      refine wpAnyH_done (by kernel_rfl) ?_ _
      change wpList _ _ _ _ _ _
      simp only [List.drop_succ_cons, List.drop_zero]
      go_wp2_with fail
      go_ret
      exact ⟨rfl, (((HO.out.chg.trans' HCR.out).trans' HWD.out).trans' HCC.out).below (Nat.le_refl _) (fun _ x => x.elim)⟩
end Go.Proofs.YtjianickjahdnaaDoor
namespace Go.Proofs.YtjianickjahdnaaDoor
open Go.RowKit Go.ChangeShapes
set_option linter.unusedVariables false
set_option linter.unusedSimpArgs false

theorem starE : "*" ++ "errors.errorString" = "*errors.errorString" := by decide
theorem rowE (u : TypeId) (h : Tryd.prog.typeName? 3 u = some "*errors.errorString") : u = 146 :=
  typeName_ptr_named (nm := "errors.errorString") (by rw [starE]; kernel_rfl) (by kernel_rfl) (by decide) u (by rw [starE]; exact h)
theorem pow_datum : (Rows.laid_internal_strconv_uint64pow10 : DataW Unit) = Lib.tabData .u64 Lib.pow10Tab := by kernel_rfl
set_option maxRecDepth 100000 in
theorem tabs_of_laid {W : World} (h : laidMetH Tryd.prog Rows.heapBeginsRow.laid W) : Tabs W := by
  rw [MakeChecks.laidMetH_plain _ _ _ (by kernel_rfl)] at h
  have h1 : laidMet Tryd.prog (("internal/strconv.uint64pow10", Rows.laid_internal_strconv_uint64pow10) :: _) W := h.tail.tail
  rw [pow_datum] at h1
  obtain ⟨a1, t1, hv1, -⟩ := laid_sentinel (g := (Tryd.prog.globalNamed "strconv.ErrRange").getD 0) h1.tail.tail (by kernel_rfl) (by kernel_rfl) Tryd.underlying97 rowE Tryd.underlying146 Tryd.underlying148 rfl rfl Tryd.underlying9 (by kernel_rfl) (by kernel_rfl)
  obtain ⟨a0, t0, hv0, -⟩ := laid_sentinel (g := (Tryd.prog.globalNamed "strconv.ErrSyntax").getD 0) h1.tail.tail.tail (by kernel_rfl) (by kernel_rfl) Tryd.underlying97 rowE Tryd.underlying146 Tryd.underlying148 rfl rfl Tryd.underlying9 (by kernel_rfl) (by kernel_rfl)
  exact ⟨Lib.tabIs_of_head (g := (Tryd.prog.globalNamed "internal/strconv.uint64pow10").getD 0) (by kernel_rfl) (by kernel_rfl) Tryd.underlying138 Tryd.underlying108 (by kernel_rfl) (by kernel_rfl) h1, ⟨_, _, hv0⟩, ⟨_, _, hv1⟩⟩
end Go.Proofs.YtjianickjahdnaaDoor
namespace Go.Proofs.YtjianickjahdnaaDoor
set_option linter.unusedVariables false
open Go.ChangeShapes Go.WideShapes Go.ChangeAt Go.RowKit

theorem Tryd.own : ownKnob Tryd.prog.godebug = none := by kernel_rfl
theorem Tryd.laidOut : laidOutB Tryd.prog = true := by kernel_rfl
/-- Each type can be read and is a row of the table. -/
def rowed (P : Program) (ts : List TypeId) : Bool := ts.all fun t => P.readableRec t && decide (t < P.types.size)

theorem trodAll_below {H : Type} {enc : TypeId × Value → H} {P : Program} (hl : laidOutB P = true) {W W' : World} (hb : Below W.heap.size W W') :
    ∀ {ts : List TypeId} {vs : List Value} {ds : List (DataW H)} {ps : List MemPlace}, rowed P ts = true → DataW.TrodAll enc P W 0 (fun _ => true) true ts vs ds ps → (∀ x ∈ ps, x.block < W.heap.size) →
      DataW.TrodAll enc P W' 0 (fun b => decide (b < W.heap.size)) true ts vs ds ps
  | [], [], [], _, _, h, _ => h
  | t :: ts, v :: vs, d :: ds, ps, hr, ⟨p, q, h1, h2, e⟩, hlt => by
    simp only [rowed, List.all_cons, Bool.and_eq_true, decide_eq_true_eq] at hr
    exact ⟨p, q, Below.trod hl hr.1.1 hr.1.2 h1 hb (fun x hx => hlt x (by rw [e]; exact List.mem_append_left _ hx)),
      trodAll_below hl hb (by simpa [rowed] using hr.2) h2 (fun x hx => hlt x (by rw [e]; exact List.mem_append_right _ hx)), e⟩
  | [], [], _ :: _, _, _, h, _ => h.elim
  | [], _ :: _, _, _, _, h, _ => h.elim
  | _ :: _, [], _, _, _, h, _ => h.elim
  | _ :: _, _ :: _, [], _, _, h, _ => h.elim

theorem law_post {P : Program} {H : Type} {enc : TypeId × Value → H} {f : Func} {s : ChangeSpec} {W W' : World} {args : Array Value} {ds gs : List (DataW H)} {before : List MemPlace} {tb : TypeId}
    (hl : laidOutB P = true) (hts : rowed P f.params.toList = true) (hres : f.resultTypes = #[tb]) (hbool : P.underlying tb = some .bool) (hvars : s.vars = [])
    (hW : DataW.Whole enc P f.params.toList s.vars false W args.toList ds gs before) (hfn : s.fn H (ds ++ gs) = { results := [.lit (.bool true)], args := ds })
    (hb : Below W.heap.size W W') : s.post enc P f false true false false W args (.bool true) W' := by
  have hW' := hW
  have hlt : ∀ x ∈ before, x.block < W.heap.size := fun x hx => hW.lt x hx
  obtain ⟨p, q, hA, hV, rfl, hfz, hnd⟩ := hW
  refine ⟨ds, gs, p ++ q, [], p, [], hW', ?_, ?_, ?_, hb.frame _, fun h => by cases h⟩
  · rw [hfn, hres]; exact trodAll_mk1 (shut_bool hbool _)
  · rw [hfn]; exact trodAll_below hl hb hts hA (fun x hx => hlt x (List.mem_append_left _ hx))
  · rw [hfn, hvars]; rfl

/-- A law's contract lifted to its row. -/
theorem law_lift {C : Checked} {os : Os} {f : FuncId} {fn : Func} {s : ChangeSpec} {H : Type} {enc : TypeId × Value → H} {tb : TypeId} (started : os.Started)
    (own : ownKnob C.prog.godebug = none) (hl : laidOutB C.prog = true) (noInit : C.prog.inits.idxOf? f = none) (hfn : C.prog.funcs[f]? = some fn) (hts : rowed C.prog fn.params.toList = true) (hres : fn.resultTypes = #[tb]) (hbool : C.prog.underlying tb = some .bool) (hvars : s.vars = [])
    (hargs : ∀ ds : List (DataW H), ds.length = fn.params.toList.length → s.fn H ds = { results := [.lit (.bool true)], args := ds })
    (witness : ∃ (w : World) (tape : Tape) (i : Input), w.os = os ∧ (w.forCall tape i).Shaped C.prog ∧ i.vars = [] ∧ Input.okWide C.prog (w.forCall tape i) .any w.heap.size f i ∧
      s.pre6 enc C.prog fn [] false (w.forCall tape i).memory i.args ∧ Assume.holds {} C.prog (lone (Frame.enter C.prog f i.args .normal) [] (w.forCall tape i)))
    (core : ∀ (W : World) (base : Nat) (vs : List Value) (ds : List (DataW H)) (ps : List MemPlace), (∀ (j : Nat) t v, fn.params.toList[j]? = some t → vs[j]? = some v → Value.okWide C.prog W .any base t v) →
      DataW.TrodAll enc C.prog W 0 (fun _ => true) true fn.params.toList vs ds ps → (DataW.weightsEach C.prog fn.params.toList ds).all (· ≤ reachBytes) = true →
      Calls C.prog f vs.toArray W fun e W' => e = .returned (.bool true) ∧ Below W.heap.size W W') :
    ReturnsInHanded {} C os f .any (s.pre6 enc C.prog fn [] false) (s.post enc C.prog fn false true false false) := by
  refine returnsInHanded_of_change_sized (C := C) own started noInit hfn witness ?_
  intro W base args ds gs before hval hW _ hsz _
  have hW' := hW
  obtain ⟨p, q, hA, hV, rfl, hfz, hnd⟩ := hW
  rw [hvars] at hV
  obtain ⟨rfl, rfl⟩ := trodVars_none hV
  simp only [List.append_nil] at hsz
  have hlen : ds.length = fn.params.toList.length := by
    have : ∀ (ts : List TypeId) (vs : List Value) (ds : List (DataW H)) (ps : List MemPlace), DataW.TrodAll enc C.prog W 0 (fun _ => true) true ts vs ds ps → ds.length = ts.length := by
      intro ts
      induction ts with
      | nil => intro vs ds ps h; cases vs <;> cases ds <;> first | rfl | exact h.elim
      | cons t ts ih => intro vs ds ps h; cases vs <;> cases ds <;> first | exact h.elim | (obtain ⟨_, _, _, h2, _⟩ := h; simp [ih _ _ _ h2])
    exact this _ _ _ _ hA
  have hvt : s.plain.varTypes C.prog = [] := by simp [DataSpec.varTypes, ChangeSpec.plain, hvars]
  rw [hvt, List.append_nil] at hsz
  have := core W base args.toList ds p (fun j t v h1 h2 => hval j t v (by simpa using h1) (by simpa using h2)) hA hsz
  rw [Array.toArray_toList] at this
  refine this.mono fun e W' ⟨he, hb⟩ => ⟨_, he, law_post hl hts hres hbool hvars hW' (by rw [List.append_nil]; exact hargs ds hlen) hb⟩

/-- A law's contract lifted to its second row (bulk at most 1048576). -/
theorem law_lift_upto {C : Checked} {os : Os} {f : FuncId} {fn : Func} {s : ChangeSpec} {H : Type} {enc : TypeId × Value → H} {tb : TypeId} {F : Stop.Interp} (started : os.Started)
    (own : ownKnob C.prog.godebug = none) (hl : laidOutB C.prog = true) (noInit : C.prog.inits.idxOf? f = none) (hfn : C.prog.funcs[f]? = some fn) (hts : rowed C.prog fn.params.toList = true) (hres : fn.resultTypes = #[tb]) (hbool : C.prog.underlying tb = some .bool) (hvars : s.vars = [])
    (hargs : ∀ ds : List (DataW H), ds.length = fn.params.toList.length → s.fn H ds = { results := [.lit (.bool true)], args := ds })
    (witness : ∃ (w : World) (tape : Tape) (i : Input), w.os = os ∧ (w.forCall tape i).Shaped C.prog ∧ i.vars = [] ∧ Input.okWide C.prog (w.forCall tape i) .any w.heap.size f i ∧
      (Rows.OpenSpec.upto s).pre6 enc C.prog fn [] false (w.forCall tape i).memory i.args ∧ Assume.holds {} C.prog (lone (Frame.enter C.prog f i.args .normal) [] (w.forCall tape i)))
    (core : ∀ (W : World) (base : Nat) (vs : List Value) (ds : List (DataW H)) (ps : List MemPlace), (∀ (j : Nat) t v, fn.params.toList[j]? = some t → vs[j]? = some v → Value.okWide C.prog W .any base t v) →
      DataW.TrodAll enc C.prog W 0 (fun _ => true) true fn.params.toList vs ds ps → Rows.uptoBulkAll ds ≤ 1048576 →
      Calls C.prog f vs.toArray W fun e W' => e = .returned (.bool true) ∧ Below W.heap.size W W') :
    ReturnsInHanded {} C os f .any ((Rows.OpenSpec.upto s).pre6 enc C.prog fn [] false) (((Rows.OpenSpec.upto s).at F).post enc C.prog fn false true false false) := by
  refine returnsInHanded_of_cond (C := C) (s := Rows.OpenSpec.upto s) (k := Rows.uptoSmall) rfl own started noInit hfn witness ?_
  intro W base args ds gs before hval hW _ hk _
  have hW' : DataW.Whole enc C.prog fn.params.toList s.vars false W args.toList ds gs before := hW
  obtain ⟨p, q, hA, hV, rfl, hfz, hnd⟩ := hW'
  have hV' : DataW.TrodVars enc C.prog W (fun _ => true) s.vars gs q := hV
  rw [hvars] at hV'
  obtain ⟨rfl, rfl⟩ := trodVars_none hV'
  simp only [List.append_nil] at hk
  have hlen : ds.length = fn.params.toList.length := by
    have : ∀ (ts : List TypeId) (vs : List Value) (ds : List (DataW H)) (ps : List MemPlace), DataW.TrodAll enc C.prog W 0 (fun _ => true) true ts vs ds ps → ds.length = ts.length := by
      intro ts
      induction ts with
      | nil => intro vs ds ps h; cases vs <;> cases ds <;> first | rfl | exact h.elim
      | cons t ts ih => intro vs ds ps h; cases vs <;> cases ds <;> first | exact h.elim | (obtain ⟨_, _, _, h2, _⟩ := h; simp [ih _ _ _ h2])
    exact this _ _ _ _ hA
  have := core W base args.toList ds p (fun j t v h1 h2 => hval j t v (by simpa using h1) (by simpa using h2)) hA (of_decide_eq_true hk)
  rw [Array.toArray_toList] at this
  refine this.mono fun e W' ⟨he, hb⟩ => ⟨_, he, ?_⟩
  exact (law_post (s := s) hl hts hres hbool hvars hW (by rw [List.append_nil]; exact hargs ds hlen) hb)
end Go.Proofs.YtjianickjahdnaaDoor
namespace Go.Proofs.YtjianickjahdnaaDoor
set_option linter.unusedVariables false
open Go.ChangeShapes Go.WideShapes Go.ChangeAt Go.RowKit

theorem trod_lengths {P : Program} {H : Type} {enc : TypeId × Value → H} {W : World} : ∀ (ts : List TypeId) (vs : List Value) (ds : List (DataW H)) (ps : List MemPlace), DataW.TrodAll enc P W 0 (fun _ => true) true ts vs ds ps → ds.length = ts.length := by
  intro ts
  induction ts with
  | nil => intro vs ds ps h; cases vs <;> cases ds <;> first | rfl | exact h.elim
  | cons t ts ih => intro vs ds ps h; cases vs <;> cases ds <;> first | exact h.elim | (obtain ⟨_, _, _, h2, _⟩ := h; simp [ih _ _ _ h2])

/-- A law's contract lifted to its row, over listed variables. -/
theorem law_liftD {C : Checked} {os : Os} {f : FuncId} {fn : Func} {s : ChangeSpec} {H : Type} {enc : TypeId × Value → H} {tb : TypeId} {F : Stop.Interp} {laid : List (String × DataW Unit)} (started : os.Started)
    (own : ownKnob C.prog.godebug = none) (hl : laidOutB C.prog = true) (noInit : C.prog.inits.idxOf? f = none) (hfn : C.prog.funcs[f]? = some fn) (hts : rowed C.prog fn.params.toList = true) (hres : fn.resultTypes = #[tb]) (hbool : C.prog.underlying tb = some .bool) (hvars : s.vars = [])
    (hargs : ∀ ds : List (DataW H), ds.length = fn.params.toList.length → s.fn H ds = { results := [.lit (.bool true)], args := ds })
    (witness : ∃ (w : World) (tape : Tape) (i : Input), w.os = os ∧ (w.forCall tape i).Shaped C.prog ∧ i.vars = [] ∧ Input.okWide C.prog (w.forCall tape i) .any w.heap.size f i ∧
      (OpenSpec.ofChange s).preRow enc C.prog fn [] false laid (w.forCall tape i).memory i.args ∧ Assume.holds {} C.prog (lone (Frame.enter C.prog f i.args .normal) [] (w.forCall tape i)))
    (core : ∀ (W : World) (base : Nat) (vs : List Value) (ds : List (DataW H)) (ps : List MemPlace), (∀ (j : Nat) t v, fn.params.toList[j]? = some t → vs[j]? = some v → Value.okWide C.prog W .any base t v) →
      DataW.TrodAll enc C.prog W 0 (fun _ => true) true fn.params.toList vs ds ps → (DataW.weightsEach C.prog fn.params.toList ds).all (· ≤ reachBytes) = true → laidMetH C.prog laid W →
      Calls C.prog f vs.toArray W fun e W' => e = .returned (.bool true) ∧ Below W.heap.size W W') :
    ReturnsInHanded {} C os f .any ((OpenSpec.ofChange s).preRow enc C.prog fn [] false laid) (((OpenSpec.ofChange s).at F).post enc C.prog fn false true false false) := by
  refine returnsInHanded_of_row (C := C) (s := OpenSpec.ofChange s) own started noInit hfn witness ?_
  intro W base args ds gs before hval hW _ _ hsz hL _ _
  have hW' : DataW.Whole enc C.prog fn.params.toList s.vars false W args.toList ds gs before := hW
  obtain ⟨p, q, hA, hV, rfl, hfz, hnd⟩ := hW'
  have hV' : DataW.TrodVars enc C.prog W (fun _ => true) s.vars gs q := hV
  rw [hvars] at hV'
  obtain ⟨rfl, rfl⟩ := trodVars_none hV'
  simp only [List.append_nil] at hsz
  have hlen : ds.length = fn.params.toList.length := trod_lengths _ _ _ _ hA
  have hvt : (OpenSpec.ofChange s).bare.plain.varTypes C.prog = [] := by simp [OpenSpec.ofChange, OpenSpec.bare, DataSpec.varTypes, ChangeSpec.plain, hvars]
  rw [hvt, List.append_nil] at hsz
  have := core W base args.toList ds p (fun j t v h1 h2 => hval j t v (by simpa using h1) (by simpa using h2)) hA hsz hL
  rw [Array.toArray_toList] at this
  refine this.mono fun e W' ⟨he, hb⟩ => ⟨_, he, ?_⟩
  exact (law_post (s := s) hl hts hres hbool hvars hW (by rw [List.append_nil]; exact hargs ds hlen) hb)

/-- The same for the second row (bulk at most 1048576). -/
theorem law_liftD_upto {C : Checked} {os : Os} {f : FuncId} {fn : Func} {s : ChangeSpec} {H : Type} {enc : TypeId × Value → H} {tb : TypeId} {F : Stop.Interp} {laid : List (String × DataW Unit)} (started : os.Started)
    (own : ownKnob C.prog.godebug = none) (hl : laidOutB C.prog = true) (noInit : C.prog.inits.idxOf? f = none) (hfn : C.prog.funcs[f]? = some fn) (hts : rowed C.prog fn.params.toList = true) (hres : fn.resultTypes = #[tb]) (hbool : C.prog.underlying tb = some .bool) (hvars : s.vars = [])
    (hargs : ∀ ds : List (DataW H), ds.length = fn.params.toList.length → s.fn H ds = { results := [.lit (.bool true)], args := ds })
    (witness : ∃ (w : World) (tape : Tape) (i : Input), w.os = os ∧ (w.forCall tape i).Shaped C.prog ∧ i.vars = [] ∧ Input.okWide C.prog (w.forCall tape i) .any w.heap.size f i ∧
      (Rows.OpenSpec.upto s).preRow enc C.prog fn [] false laid (w.forCall tape i).memory i.args ∧ Assume.holds {} C.prog (lone (Frame.enter C.prog f i.args .normal) [] (w.forCall tape i)))
    (core : ∀ (W : World) (base : Nat) (vs : List Value) (ds : List (DataW H)) (ps : List MemPlace), (∀ (j : Nat) t v, fn.params.toList[j]? = some t → vs[j]? = some v → Value.okWide C.prog W .any base t v) →
      DataW.TrodAll enc C.prog W 0 (fun _ => true) true fn.params.toList vs ds ps → Rows.uptoBulkAll ds ≤ 1048576 → laidMetH C.prog laid W →
      Calls C.prog f vs.toArray W fun e W' => e = .returned (.bool true) ∧ Below W.heap.size W W') :
    ReturnsInHanded {} C os f .any ((Rows.OpenSpec.upto s).preRow enc C.prog fn [] false laid) (((Rows.OpenSpec.upto s).at F).post enc C.prog fn false true false false) := by
  refine returnsInHanded_of_row (C := C) (s := Rows.OpenSpec.upto s) own started noInit hfn witness ?_
  intro W base args ds gs before hval hW _ hk _ hL _ _
  have hW' : DataW.Whole enc C.prog fn.params.toList s.vars false W args.toList ds gs before := hW
  obtain ⟨p, q, hA, hV, rfl, hfz, hnd⟩ := hW'
  have hV' : DataW.TrodVars enc C.prog W (fun _ => true) s.vars gs q := hV
  rw [hvars] at hV'
  obtain ⟨rfl, rfl⟩ := trodVars_none hV'
  have hk2 := hk Rows.uptoSmall rfl
  simp only [List.append_nil] at hk2
  have hlen : ds.length = fn.params.toList.length := trod_lengths _ _ _ _ hA
  have := core W base args.toList ds p (fun j t v h1 h2 => hval j t v (by simpa using h1) (by simpa using h2)) hA (of_decide_eq_true hk2) hL
  rw [Array.toArray_toList] at this
  refine this.mono fun e W' ⟨he, hb⟩ => ⟨_, he, ?_⟩
  exact (law_post (s := s) hl hts hres hbool hvars hW (by rw [List.append_nil]; exact hargs ds hlen) hb)
end Go.Proofs.YtjianickjahdnaaDoor
namespace Go.Proofs.YtjianickjahdnaaDoor
open Go.RowKit Go.ChangeShapes Go.WideShapes Go.ChangeAt
open Go.ChangeMaps (open_string shut_string)
set_option linter.unusedVariables false
set_option linter.unusedSimpArgs false

set_option maxRecDepth 100000 in
theorem heapBegins_laid (os : Os) : laidMetH Tryd.prog Rows.heapBeginsRow.laid ((World.laidAll Tryd.prog os Rows.heapBeginsRow.laid).forCall (fun _ _ => 0) ⟨#[], #[.int .i64 0, .int .i64 0], []⟩).memory := by
  rw [MakeChecks.laidMetH_plain _ _ _ (by kernel_rfl)]
  exact laidMet_laidAll _ (by kernel_rfl) (by kernel_rfl)
set_option maxRecDepth 100000 in
theorem heapBegins_lifted (os : Os) (started : os.Started) (H : Type) (enc : TypeId × Value → H) (F : Stop.Interp) :
    ReturnsInHanded {} Tryd.checked os 4 .any ((OpenSpec.ofChange Rows.heapBeginsSpec).preRow enc Tryd.prog Tryd.f4 [] false Rows.heapBeginsRow.laid) (((OpenSpec.ofChange Rows.heapBeginsSpec).at F).post enc Tryd.prog Tryd.f4 false true false false) := by
  obtain ⟨places, hx⟩ : ∃ places, DataW.whole enc Tryd.prog ((World.laidAll Tryd.prog os Rows.heapBeginsRow.laid).forCall (fun _ _ => 0) ⟨#[], #[.int .i64 0, .int .i64 0], []⟩).memory Tryd.f4.params.toList [] false (#[.int .i64 0, .int .i64 0] : Array Value).toList 8 = some ([.lit (.int .i64 0), .lit (.int .i64 0)], [], places) := ⟨[], by kernel_rfl⟩
  refine law_liftD (C := Tryd.checked) (s := Rows.heapBeginsSpec) (tb := 4) started Tryd.own Tryd.laidOut (by kernel_rfl) Tryd.func4 (by kernel_rfl) rfl Tryd.underlying4 rfl ?_
    (witness_row_at (enc := enc) (C := Tryd.checked) false (World.laidAll Tryd.prog os Rows.heapBeginsRow.laid) #[.int .i64 0, .int .i64 0] (World.laidAll_os _ _ _) (by kernel_rfl) (by kernel_rfl) (by kernel_rfl)
      (OpenSpec.preRow_of_cond 8 hx (by kernel_rfl) (fun k hk => by cases hk) (by kernel_rfl) (heapBegins_laid os))) ?_
  · intro ds h
    match ds, h with
    | [_, _], _ => rfl
  · intro W base vs ds ps hval hA hsz hL
    have hp : Tryd.f4.params.toList = [3, 3] := by rw [Tryd.params4]
    rw [hp] at hval hA hsz
    obtain ⟨v0, vs0, d0, ds0, p0, q0, rfl, rfl, rfl, h0, r0⟩ := trodAll_cons hA
    obtain ⟨v1, vs1, d1, ds1, p1, q1, rfl, rfl, rfl, h1, r1⟩ := trodAll_cons r0
    obtain ⟨rfl, rfl, rfl⟩ := trodAll_nil r1
    obtain ⟨a0, rfl, rfl, rfl, w0⟩ := open_int Tryd.underlying3 (hval 0 3 v0 rfl rfl) h0
    obtain ⟨a1, rfl, rfl, rfl, w1⟩ := open_int Tryd.underlying3 (hval 1 3 v1 rfl rfl) h1
    exact heapBegins_walk a0 a1 W (tabs_of_laid hL)

theorem heapBegins_said : Rows.HeapBeginsSaid :=
  OpenClaim.holds_of_cond 4 Tryd.f4 rfl rfl rfl rfl rfl rfl rfl ⟨rfl, rfl, rfl, rfl, rfl⟩ rfl rfl rfl rfl rfl (by kernel_rfl) Tryd.func4 (by kernel_rfl)
    (of_decide_eq_true (by kernel_rfl)) (by unfold Func.isWrapper; first | (rw [if_pos (by decide +kernel)]; kernel_rfl) | (rw [if_neg (by decide +kernel)]; exact ⟨rfl, rfl⟩))
    (fun os started H enc _ F => by rw [OpenClaim.pre_eq_preRow]; exact heapBegins_lifted os started H enc F)
theorem heapBegins_plain (f : FuncId) (fn : Func) (hf : Tryd.pinned.checked.prog.funcNamed "knapsack/knapsacklaw31.HeapBegins" = some f) (hfn : Tryd.pinned.checked.prog.funcs[f]? = some fn) :
    true = Tryd.pinned.checked.prog.looks [] ∧ ∀ (j : Nat) t, fn.params[j]? = some t → Tryd.pinned.checked.prog.wantsStandIn t = false := by
  obtain rfl : f = 4 := Option.some.inj ((show Tryd.prog.funcNamed "knapsack/knapsacklaw31.HeapBegins" = some 4 by kernel_rfl).symm.trans hf) |>.symm
  obtain rfl : fn = Tryd.f4 := (Option.some.inj (Tryd.func4.symm.trans hfn)).symm
  refine ⟨by kernel_rfl, fun j t ht => ?_⟩
  rw [Tryd.params4] at ht
  have hm : t ∈ [3, 3] := by simpa using Array.mem_of_getElem? ht
  have hall : ([3, 3].all fun u => !Tryd.prog.wantsStandIn u) = true := by kernel_rfl
  exact (show Tryd.prog.wantsStandIn t = false by simpa using List.all_eq_true.1 hall t hm)
/-- The tied card. -/
theorem heapBegins_holds : Rows.HeapBeginsCardSaid :=
  Claim7.holds_tied_plain_at .later [] _ _ _ _ heapBegins_said (fun _ h => by cases h) (by kernel_rfl) (fun _ h => by cases h) heapBegins_row_tie rfl ⟨rfl, rfl⟩ (by kernel_rfl) rfl heapBegins_plain (by kernel_rfl)
#print axioms heapBegins_holds
end Go.Proofs.YtjianickjahdnaaDoor
