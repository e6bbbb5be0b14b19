/-
  heap.resize.
  heap.Put of an array.
  heap.Put of an array's element.
  heap.Make.
  A heap and a list of numbers side by side, both made behind w0.
  Lists of strings that a function makes; a heap and such a list side by side.
  heap.Delete of a property (an object that is no array).
  heap.Keys of an object that is no array.
  A range over a function whose body looks for something and may leave: a law.
  The iterator heap.chain.
-/
import Derived.Test.YtjianickjahdnaaDoorPHeapArraysf
import Derived.Test.YtjianickjahdnaaDoorPHeapArraysd
import Derived.Test.YtjianickjahdnaaDoorPHeapArraysa
import Derived.Test.YtjianickjahdnaaDoorPHeapArraysb
import Derived.Test.YtjianickjahdnaaDoorPHeapArrayse
import Derived.RangeFuncNested
import Derived.RangeFuncBound
import Derived.RangeFuncCalls
import Derived.RangeFuncLeaves
import Derived.OwnWalkIn
import Derived.TacticsInMore
import Derived.LoopNIn
import Derived.LoopIn
namespace Go.Proofs.YtjianickjahdnaaDoor
open Go.RowKit
set_option linter.unusedVariables false
set_option linter.unusedSimpArgs false

def zeroV : Val := ⟨0, 0, ⟨#[]⟩, 0⟩
/-- A list of another length: cut, or with zeros behind it. -/
def resizeL (l : List Val) (n : Nat) : List Val := l.take n ++ List.replicate (n - l.length) zeroV
theorem resizeL_len (l : List Val) (n : Nat) : (resizeL l n).length = n := by
  unfold resizeL
  rw [List.length_append, List.length_take, List.length_replicate]; omega
theorem cells_one (l : List Val) : ∀ u ∈ l.flatMap Val.cells, u.oneCell' = true := fun u hu => by
  obtain ⟨v, -, h⟩ := List.mem_flatMap.1 hu
  unfold Val.cells at h
  simp only [List.mem_cons, List.not_mem_nil, or_false] at h
  rcases h with rfl | rfl | rfl | rfl <;> rfl
theorem flat_take : ∀ (l : List Val) (n : Nat), (l.flatMap Val.cells).take (n * 4) = (l.take n).flatMap Val.cells
  | [], n => by simp
  | a :: l, 0 => by simp
  | a :: l, n + 1 => by
    have ih := flat_take l n
    have hl : a.cells.length = 4 := Val.len a
    rw [List.flatMap_cons, List.take_succ_cons, List.flatMap_cons, show (n + 1) * 4 = a.cells.length + n * 4 by rw [hl]; omega, List.take_length_add_append, ih]
theorem rep_flat (m : Nat) : (List.replicate m zeroV.cells).flatten = (List.replicate m zeroV).flatMap Val.cells := by
  induction m with
  | zero => rfl
  | succ m ih => rw [List.replicate_succ, List.replicate_succ, List.flatten_cons, List.flatMap_cons, ih]
set_option maxHeartbeats 6400000 in
set_option maxRecDepth 100000 in
theorem resize_any (w : World) (g o : Nat) (x : Obj) (G : List Nat) (n : Nat) (H : Here objR w g o x G) (hl : x.elems.length ≤ 20000) (hn : n ≤ 20000) :
    Calls Tryd.prog 44 #[.pointer (some ⟨g, o, none⟩), .int .i64 (n : Int)] w fun e w' => e = .returned (.tuple #[]) ∧ Post objR w g o { x with elems := resizeL x.elems n } G w' := by
  obtain ⟨v, c3, hr, hin, hnb, hback⟩ := H.fieldFlat (f := Val.cells) (hf := Val.len) objR_elems (by show 0 < 10; decide)
  obtain ⟨a, cap, rfl, -⟩ := hr.slice
  obtain ⟨cB, TB, hbB⟩ := H.boxed
  generalize hle : x.elems = l at *
  have HBK := Lib.hid hback
  have HR := Lib.hid hr
  have HNB := Lib.hid hnb
  have HC1 := Lib.hid (cells_one l)
  have HL : Hid (l.length ≤ 1000000) := Lib.hid (by omega)
  have HS0 : Hid (w.cell? ⟨g, o + 3, none⟩ = some (.slice a l.length cap)) := Lib.hid c3
  have FRZ : Hid (∀ (w2 wD : World), Chg (fun _ => False) w wD → Chg (fun j => (Value.slice a l.length cap).ownBlock = some j) wD w2 → w2.frozen? ⟨g, o + 3, none⟩ = false) := Lib.hid (fun w2 wD h1 h2 => frozen_of_block (h2.keep (h1.keep hbB (fun x => x)) HNB.out))
  have n0 : (0 : Int) ≤ (n : Int) := by omega
  clear hback hr hnb hin hbB hle H
  by_cases hnl : n ≤ l.length
  · have HNL := Lib.hid hnl
    have hd : (n : Int) ≤ (l.length : Int) := by omega
    have HRL : Hid ((l.flatMap Val.cells).take (n * 4) ++ (l.flatMap Val.cells).drop (l.length * 4) = (resizeL l n).flatMap Val.cells) := Lib.hid (by
      have hll : (l.flatMap Val.cells).length = l.length * 4 := HR.out.1
      unfold resizeL
      rw [flat_take, List.drop_of_length_le (by omega), List.append_nil, show n - l.length = 0 by omega]
      simp)
    clear hnl hl hn
    go_enter Tryd.func44, Tryd.ntmps44
    go_upto_region 1 with fail
    clear c3
    refine wp_region_held_split 14 (fun w' => w'.cell? ⟨g, o + 3, none⟩ = some (.slice a l.length cap)) (by kernel_rfl) (by kernel_rfl) ?_ (fun hHeld => ?_)
    · (first | exact HS0.out | exact HKS.out _ (Chg.refl _ _) | exact cc2)
    simp only [List.take_succ_cons, List.take_zero]
    have HKS : Hid (∀ W, Chg (fun _ => False) w.drew W → W.cell? ⟨g, o + 3, none⟩ = some (.slice a l.length cap)) := Lib.hid (fun W hc => hc.cell HS0.out)
    have HWD : Hid (Chg (fun _ => False) w w.drew) := Lib.hid (Chg.refl _ w).drewR
    generalize w.drew = wD at *
    refine wpAnyH_take (i := 0) (v := ?_) rfl (by kernel_rfl) (by kernel_rfl) (by kernel_rfl) (fun _ _ _ h => h) (Or.inl ⟨by rfl, ?_⟩) (by assumption) ?_
    rotate_left
    · (intro wq hSw; (try dsimp only at hSw); go_simp; (try with_reducible rfl))
    simp only [Act.put, List.getElem_toArray, List.getElem_cons_zero, List.getElem_cons_succ, List.setIfInBounds_toArray, List.set_cons_zero, List.set_cons_succ]
    refine wpAnyH_take (i := 1) (v := ?_) rfl (by kernel_rfl) (by kernel_rfl) (by kernel_rfl) (fun _ _ _ h => h) (Or.inl ⟨by rfl, ?_⟩) (by assumption) ?_
    rotate_left
    · (intro wq hSw; (try dsimp only at hSw); go_simp; (try with_reducible rfl))
    simp only [Act.put, List.getElem_toArray, List.getElem_cons_zero, List.getElem_cons_succ, List.setIfInBounds_toArray, List.set_cons_zero, List.set_cons_succ]
    refine wpAnyH_take (i := 2) (v := ?_) rfl (by kernel_rfl) (by kernel_rfl) (by kernel_rfl) (fun _ _ _ h => h) (Or.inl ⟨by rfl, ?_⟩) (by assumption) ?_
    rotate_left
    · (intro wq hSw; (try dsimp only at hSw); go_simp; (try with_reducible rfl))
    simp only [Act.put, List.getElem_toArray, List.getElem_cons_zero, List.getElem_cons_succ, List.setIfInBounds_toArray, List.set_cons_zero, List.set_cons_succ]
    refine wpAnyH_take (i := 3) (v := ?_) rfl (by kernel_rfl) (by kernel_rfl) (by kernel_rfl) (fun _ _ _ h => h) (Or.inl ⟨by rfl, ?_⟩) (by assumption) ?_
    rotate_left
    · (intro wq hSw; (try dsimp only at hSw); go_simp; (try with_reducible rfl))
    simp only [Act.put, List.getElem_toArray, List.getElem_cons_zero, List.getElem_cons_succ, List.setIfInBounds_toArray, List.set_cons_zero, List.set_cons_succ]
    refine wpAnyH_take (i := 4) (v := ?_) rfl (by kernel_rfl) (by kernel_rfl) (by kernel_rfl) (fun _ _ _ h => h) (Or.inl ⟨by rfl, ?_⟩) (by assumption) ?_
    rotate_left
    · (intro wq hSw; (try dsimp only at hSw); go_simp; (try with_reducible rfl))
    simp only [Act.put, List.getElem_toArray, List.getElem_cons_zero, List.getElem_cons_succ, List.setIfInBounds_toArray, List.set_cons_zero, List.set_cons_succ]
    refine wpAnyH_take (i := 5) (v := ?_) rfl (by kernel_rfl) (by kernel_rfl) (by kernel_rfl) (fun _ _ _ h => h) (Or.inl ⟨by rfl, ?_⟩) (by assumption) ?_
    rotate_left
    · (intro wq hSw; (try dsimp only at hSw); go_simp; (try with_reducible rfl))
    simp only [Act.put, List.getElem_toArray, List.getElem_cons_zero, List.getElem_cons_succ, List.setIfInBounds_toArray, List.set_cons_zero, List.set_cons_succ]
    refine wpAnyH_take (i := 6) (v := ?_) rfl (by kernel_rfl) (by kernel_rfl) (by kernel_rfl) (fun _ _ _ h => h) (Or.inl ⟨by rfl, ?_⟩) (by assumption) ?_
    rotate_left
    · (intro wq hSw; (try dsimp only at hSw); go_simp; (try with_reducible rfl))
    simp only [Act.put, List.getElem_toArray, List.getElem_cons_zero, List.getElem_cons_succ, List.setIfInBounds_toArray, List.set_cons_zero, List.set_cons_succ]
    refine wpAnyH_take (i := 7) (v := ?_) rfl (by kernel_rfl) (by kernel_rfl) (by kernel_rfl) (fun _ _ _ h => h) (Or.inl ⟨by rfl, ?_⟩) (by assumption) ?_
    rotate_left
    · (intro wq hSw; (try dsimp only at hSw); go_simp; (try with_reducible rfl))
    simp only [Act.put, List.getElem_toArray, List.getElem_cons_zero, List.getElem_cons_succ, List.setIfInBounds_toArray, List.set_cons_zero, List.set_cons_succ]
    refine wpAnyH_take (i := 8) (v := ?_) rfl (by kernel_rfl) (by kernel_rfl) (by kernel_rfl) (fun _ _ _ h => h) (Or.inl ⟨by rfl, ?_⟩) (by assumption) ?_
    rotate_left
    · (intro wq hSw; (try dsimp only at hSw); go_simp; (try with_reducible rfl))
    simp only [Act.put, List.getElem_toArray, List.getElem_cons_zero, List.getElem_cons_succ, List.setIfInBounds_toArray, List.set_cons_zero, List.set_cons_succ]
    refine wpAnyH_take (i := 9) (v := ?_) rfl (by kernel_rfl) (by kernel_rfl) (by kernel_rfl) (fun _ _ _ h => h) (Or.inl ⟨by rfl, ?_⟩) (by assumption) ?_
    rotate_left
    · (intro wq hSw; (try dsimp only at hSw); go_simp; (try with_reducible rfl))
    simp only [Act.put, List.getElem_toArray, List.getElem_cons_zero, List.getElem_cons_succ, List.setIfInBounds_toArray, List.set_cons_zero, List.set_cons_succ]
    refine wpAnyH_take (i := 10) (v := ?_) rfl (by kernel_rfl) (by kernel_rfl) (by kernel_rfl) (fun _ _ _ h => h) (Or.inl ⟨by rfl, ?_⟩) (by assumption) ?_
    rotate_left
    · (intro wq hSw; (try dsimp only at hSw); go_simp; (try with_reducible rfl))
    simp only [Act.put, List.getElem_toArray, List.getElem_cons_zero, List.getElem_cons_succ, List.setIfInBounds_toArray, List.set_cons_zero, List.set_cons_succ]
    refine wpAnyH_ready (rs := [11]) (by kernel_rfl) (by simp) ?_
    refine AllReadyH.cons (by simp only [List.getElem?_toArray, List.getElem?_cons_succ, List.getElem?_cons_zero]; rfl) (fun K hK => ?_) AllReadyH.nil
    (go_simp; go_at_call 59; refine (delV_any wD (.slice a l.length cap) l.length n l.length (l.flatMap Val.cells) (HR.out.chg HWD.out (fun _ _ x => x)) HC1.out HNL.out (Nat.le_refl _) HL.out).mono ?_; rintro _ w2 ⟨v2, rfl, hrow2, hchg2, hold2⟩; have cc2 := hchg2.cellS (HKS.out _ (Chg.refl _ _)) HNB.out; obtain ⟨a2, c2_, rfl, -⟩ := hrow2.slice; have f2 : w2.frozen? ⟨g, o + 3, none⟩ = false := FRZ.out w2 _ HWD.out hchg2; go_simp)
    refine hK.out _ _ ?_ (fun hHeld => ?_)
    · (first | exact HS0.out | exact HKS.out _ (Chg.refl _ _) | exact cc2)
    clear hK K
    (try simp only [Act.put, List.getElem_toArray, List.getElem_cons_zero, List.getElem_cons_succ, List.setIfInBounds_toArray, List.set_cons_zero, List.set_cons_succ])
    refine wpAnyH_take (i := 12) (v := ?_) rfl (by kernel_rfl) (by kernel_rfl) (by kernel_rfl) (fun _ _ _ h => h) (Or.inl ⟨by rfl, ?_⟩) (by assumption) ?_
    rotate_left
    · (intro wq hSw; (try dsimp only at hSw); go_simp; (try with_reducible rfl))
    simp only [Act.put, List.getElem_toArray, List.getElem_cons_zero, List.getElem_cons_succ, List.setIfInBounds_toArray, List.set_cons_zero, List.set_cons_succ]
    refine wpAnyH_take (i := 13) (v := ?_) rfl (by kernel_rfl) (by kernel_rfl) (by kernel_rfl) (fun _ _ _ h => h) (Or.inl ⟨by rfl, ?_⟩) (by assumption) ?_
    rotate_left
    · (intro wq hSw; (try dsimp only at hSw); go_simp; (try with_reducible rfl))
    simp only [Act.put, List.getElem_toArray, List.getElem_cons_zero, List.getElem_cons_succ, List.setIfInBounds_toArray, List.set_cons_zero, List.set_cons_succ]
    refine wpAnyH_done (by kernel_rfl) ?_ _
    change wpList _ _ _ _ _ _
    simp only [List.drop_succ_cons, List.drop_zero]
    have hP := HBK.out w2 (.slice a2 (l.length - (l.length - n)) c2_) (resizeL l n) (HWD.out.trans hchg2 (fun _ _ x => x.elim) (fun _ _ x => x)) (by rw [← HRL.out, resizeL_len, show l.length - (l.length - n) = n by have := HNL.out; omega]; rwa [show l.length - (l.length - n) = n by have := HNL.out; omega] at hrow2) (fun j hj => .inl (hold2 j hj))
    have HP := Lib.hid hP
    clear hP hHeld hrow2 hchg2 hold2
    go_wp2_with fail
    refine bodyPost_ret (results_none rfl _ _ _) rfl ?_
    exact ⟨rfl, HP.out⟩
  · obtain ⟨m, hm⟩ : ∃ m, n = l.length + m := ⟨n - l.length, by omega⟩
    subst hm
    have hd : ¬ ((l.length + m : Nat) : Int) ≤ (l.length : Int) := by omega
    have hd2 : ¬ (l.length : Int) + (m : Int) ≤ (l.length : Int) := by omega
    have wm : IntKind.i64.wrap (((l.length + m : Nat) : Int) - (l.length : Int)) = (m : Int) := by rw [show (((l.length + m : Nat) : Int) - (l.length : Int)) = (m : Int) by omega]; exact IntWalk.i64_in _ (by omega)
    have wm2 : IntKind.i64.wrap ((l.length : Int) + (m : Int) - (l.length : Int)) = (m : Int) := by rw [show ((l.length : Int) + (m : Int) - (l.length : Int)) = (m : Int) by omega]; exact IntWalk.i64_in _ (by omega)
    have wm3 : IntKind.i64.wrap (m : Int) = (m : Int) := IntWalk.i64_in _ (by omega)
    have HM := Lib.hid hn
    obtain ⟨i0, z, hi, hz, hsz, hby, hzs, hzl⟩ := elemZ_val
    have HZO := Lib.hid (show ∀ u ∈ z.cells.toList, u.oneCell' = true from fun u hu => by rw [hzl] at hu; simp only [List.mem_cons, List.not_mem_nil, or_false] at hu; rcases hu with rfl | rfl | rfl | rfl <;> rfl)
    have HRL : Hid (l.flatMap Val.cells ++ (Builtin.zeroCells z.cells m).toList = (resizeL l (l.length + m)).flatMap Val.cells) := Lib.hid (by
      rw [zeroCells_rep hzl (by decide) m, show resizeL l (l.length + m) = l ++ List.replicate m zeroV by unfold resizeL; rw [List.take_of_length_le (by omega), Nat.add_sub_cancel_left], List.flatMap_append]; exact congrArg _ (rep_flat m))
    have HI := Lib.hid hi
    have HZ := Lib.hid hz
    have HSZ := Lib.hid hsz
    have HBY := Lib.hid hby
    have HZS := Lib.hid hzs
    clear hi hz hsz hby hzs hzl hnl hl hn
    go_enter Tryd.func44, Tryd.ntmps44
    go_upto_region 2 with fail
    clear c3
    refine wp_region_held_split 15 (fun w' => w'.cell? ⟨g, o + 3, none⟩ = some (.slice a l.length cap)) (by kernel_rfl) (by kernel_rfl) ?_ (fun hHeld => ?_)
    · (first | exact HS0.out | exact HKS.out _ (Chg.refl _ _) | exact cc2)
    simp only [List.take_succ_cons, List.take_zero]
    have HKS : Hid (∀ W, Chg (fun _ => False) w.drew W → W.cell? ⟨g, o + 3, none⟩ = some (.slice a l.length cap)) := Lib.hid (fun W hc => hc.cell HS0.out)
    have HWD : Hid (Chg (fun _ => False) w w.drew) := Lib.hid (Chg.refl _ w).drewR
    generalize w.drew = wD at *
    refine wpAnyH_take (i := 0) (v := ?_) rfl (by kernel_rfl) (by kernel_rfl) (by kernel_rfl) (fun _ _ _ h => h) (Or.inl ⟨by rfl, ?_⟩) (by assumption) ?_
    rotate_left
    · (intro wq hSw; (try dsimp only at hSw); go_simp; (try with_reducible rfl))
    simp only [Act.put, List.getElem_toArray, List.getElem_cons_zero, List.getElem_cons_succ, List.setIfInBounds_toArray, List.set_cons_zero, List.set_cons_succ]
    refine wpAnyH_take (i := 1) (v := ?_) rfl (by kernel_rfl) (by kernel_rfl) (by kernel_rfl) (fun _ _ _ h => h) (Or.inl ⟨by rfl, ?_⟩) (by assumption) ?_
    rotate_left
    · (intro wq hSw; (try dsimp only at hSw); go_simp; (try with_reducible rfl))
    simp only [Act.put, List.getElem_toArray, List.getElem_cons_zero, List.getElem_cons_succ, List.setIfInBounds_toArray, List.set_cons_zero, List.set_cons_succ]
    refine wpAnyH_take (i := 2) (v := ?_) rfl (by kernel_rfl) (by kernel_rfl) (by kernel_rfl) (fun _ _ _ h => h) (Or.inl ⟨by rfl, ?_⟩) (by assumption) ?_
    rotate_left
    · (intro wq hSw; (try dsimp only at hSw); go_simp; (try with_reducible rfl))
    simp only [Act.put, List.getElem_toArray, List.getElem_cons_zero, List.getElem_cons_succ, List.setIfInBounds_toArray, List.set_cons_zero, List.set_cons_succ]
    refine wpAnyH_take (i := 3) (v := ?_) rfl (by kernel_rfl) (by kernel_rfl) (by kernel_rfl) (fun _ _ _ h => h) (Or.inl ⟨by rfl, ?_⟩) (by assumption) ?_
    rotate_left
    · (intro wq hSw; (try dsimp only at hSw); go_simp; (try with_reducible rfl))
    simp only [Act.put, List.getElem_toArray, List.getElem_cons_zero, List.getElem_cons_succ, List.setIfInBounds_toArray, List.set_cons_zero, List.set_cons_succ]
    refine wpAnyH_take (i := 4) (v := ?_) rfl (by kernel_rfl) (by kernel_rfl) (by kernel_rfl) (fun _ _ _ h => h) (Or.inl ⟨by rfl, ?_⟩) (by assumption) ?_
    rotate_left
    · (intro wq hSw; (try dsimp only at hSw); go_simp; (try with_reducible rfl))
    simp only [Act.put, List.getElem_toArray, List.getElem_cons_zero, List.getElem_cons_succ, List.setIfInBounds_toArray, List.set_cons_zero, List.set_cons_succ]
    refine wpAnyH_take (i := 5) (v := ?_) rfl (by kernel_rfl) (by kernel_rfl) (by kernel_rfl) (fun _ _ _ h => h) (Or.inl ⟨by rfl, ?_⟩) (by assumption) ?_
    rotate_left
    · (intro wq hSw; (try dsimp only at hSw); go_simp; (try with_reducible rfl))
    simp only [Act.put, List.getElem_toArray, List.getElem_cons_zero, List.getElem_cons_succ, List.setIfInBounds_toArray, List.set_cons_zero, List.set_cons_succ]
    refine wpAnyH_take (i := 6) (v := ?_) rfl (by kernel_rfl) (by kernel_rfl) (by kernel_rfl) (fun _ _ _ h => h) (Or.inl ⟨by rfl, ?_⟩) (by assumption) ?_
    rotate_left
    · (intro wq hSw; (try dsimp only at hSw); go_simp; (try with_reducible rfl))
    simp only [Act.put, List.getElem_toArray, List.getElem_cons_zero, List.getElem_cons_succ, List.setIfInBounds_toArray, List.set_cons_zero, List.set_cons_succ]
    refine wpAnyH_take (i := 7) (v := ?_) rfl (by kernel_rfl) (by kernel_rfl) (by kernel_rfl) (fun _ _ _ h => h) (Or.inl ⟨by rfl, ?_⟩) (by assumption) ?_
    rotate_left
    · (intro wq hSw; (try dsimp only at hSw); go_simp; (try with_reducible rfl))
    simp only [Act.put, List.getElem_toArray, List.getElem_cons_zero, List.getElem_cons_succ, List.setIfInBounds_toArray, List.set_cons_zero, List.set_cons_succ]
    refine wpAnyH_take (i := 8) (v := ?_) rfl (by kernel_rfl) (by kernel_rfl) (by kernel_rfl) (fun _ _ _ h => h) (Or.inl ⟨by rfl, ?_⟩) (by assumption) ?_
    rotate_left
    · (intro wq hSw; (try dsimp only at hSw); go_simp; (try with_reducible rfl))
    simp only [Act.put, List.getElem_toArray, List.getElem_cons_zero, List.getElem_cons_succ, List.setIfInBounds_toArray, List.set_cons_zero, List.set_cons_succ]
    refine wpAnyH_take (i := 9) (v := ?_) rfl (by kernel_rfl) (by kernel_rfl) (by kernel_rfl) (fun _ _ _ h => h) (Or.inl ⟨by rfl, ?_⟩) (by assumption) ?_
    rotate_left
    · (intro wq hSw; (try dsimp only at hSw); go_simp; (try with_reducible rfl))
    simp only [Act.put, List.getElem_toArray, List.getElem_cons_zero, List.getElem_cons_succ, List.setIfInBounds_toArray, List.set_cons_zero, List.set_cons_succ]
    refine wpAnyH_take (i := 10) (v := ?_) rfl (by kernel_rfl) (by kernel_rfl) (by kernel_rfl) (fun _ _ _ h => h) (Or.inl ⟨by rfl, ?_⟩) (by assumption) ?_
    rotate_left
    · (intro wq hSw; (try dsimp only at hSw); go_simp; (try with_reducible rfl))
    simp only [Act.put, List.getElem_toArray, List.getElem_cons_zero, List.getElem_cons_succ, List.setIfInBounds_toArray, List.set_cons_zero, List.set_cons_succ]
    refine wpAnyH_take (i := 11) (v := ?_) rfl (by kernel_rfl) (by kernel_rfl) (by kernel_rfl) (fun _ _ _ h => h) (Or.inl ⟨by rfl, ?_⟩) (by assumption) ?_
    rotate_left
    · (intro wq hSw; (try dsimp only at hSw); go_simp; (try with_reducible rfl))
    simp only [Act.put, List.getElem_toArray, List.getElem_cons_zero, List.getElem_cons_succ, List.setIfInBounds_toArray, List.set_cons_zero, List.set_cons_succ]
    refine wpAnyH_ready (rs := [12]) (by kernel_rfl) (by simp) ?_
    refine AllReadyH.cons (by simp only [List.getElem?_toArray, List.getElem?_cons_succ, List.getElem?_cons_zero]; rfl) (fun K hK => ?_) AllReadyH.nil
    (refine step_append_zeros (by rfl) _ _ _ _ (by rfl) 36 i0 z 4 40 .i64 Tryd.underlying44 Tryd.underlying3 HI.out HZ.out HSZ.out HBY.out HZS.out (by decide) HZO.out _ l.length (l.flatMap Val.cells) (by rfl) (HR.out.chg HWD.out (fun _ _ x => x)) m (by rfl) (by have := HM.out; omega) (by have := HM.out; omega) ?_; intro a2 n2 c2_ w2 hrow2 hchg2 hold2; have cc2 := hchg2.cellS (HKS.out _ (Chg.refl _ _)) HNB.out; have f2 : w2.frozen? ⟨g, o + 3, none⟩ = false := FRZ.out w2 _ HWD.out hchg2)
    refine hK.out _ _ ?_ (fun hHeld => ?_)
    · (first | exact HS0.out | exact HKS.out _ (Chg.refl _ _) | exact cc2)
    clear hK K
    (try simp only [Act.put, List.getElem_toArray, List.getElem_cons_zero, List.getElem_cons_succ, List.setIfInBounds_toArray, List.set_cons_zero, List.set_cons_succ])
    refine wpAnyH_take (i := 13) (v := ?_) rfl (by kernel_rfl) (by kernel_rfl) (by kernel_rfl) (fun _ _ _ h => h) (Or.inl ⟨by rfl, ?_⟩) (by assumption) ?_
    rotate_left
    · (intro wq hSw; (try dsimp only at hSw); go_simp; (try with_reducible rfl))
    simp only [Act.put, List.getElem_toArray, List.getElem_cons_zero, List.getElem_cons_succ, List.setIfInBounds_toArray, List.set_cons_zero, List.set_cons_succ]
    refine wpAnyH_take (i := 14) (v := ?_) rfl (by kernel_rfl) (by kernel_rfl) (by kernel_rfl) (fun _ _ _ h => h) (Or.inl ⟨by rfl, ?_⟩) (by assumption) ?_
    rotate_left
    · (intro wq hSw; (try dsimp only at hSw); go_simp; (try with_reducible rfl))
    simp only [Act.put, List.getElem_toArray, List.getElem_cons_zero, List.getElem_cons_succ, List.setIfInBounds_toArray, List.set_cons_zero, List.set_cons_succ]
    refine wpAnyH_done (by kernel_rfl) ?_ _
    change wpList _ _ _ _ _ _
    simp only [List.drop_succ_cons, List.drop_zero]
    have hP := HBK.out w2 (.slice a2 n2 c2_) (resizeL l (l.length + m)) (HWD.out.trans hchg2 (fun _ _ x => x.elim) (fun _ _ x => x)) (by rw [← HRL.out, resizeL_len]; exact hrow2) (fun j hj => (hold2 j hj).imp id (fun x => by have := HWD.out.size; omega))
    have HP := Lib.hid hP
    clear hP hHeld hrow2 hchg2 hold2
    go_wp2_with fail
    go_end0
    exact ⟨rfl, HP.out⟩
end Go.Proofs.YtjianickjahdnaaDoor
namespace Go.Proofs.YtjianickjahdnaaDoor
open Go.RowKit
set_option linter.unusedVariables false
set_option linter.unusedSimpArgs false

set_option maxHeartbeats 6400000 in
set_option maxRecDepth 100000 in
theorem put_len (w : World) (b : Nat) (hp : Hp) (F : List Nat) (h : Int) (i : Nat) (x y : Val) (H : Here hpR w b 0 hp F) (hi : -9223372036854775808 ≤ h ∧ h ≤ 9223372036854775807) (hs : slotOf hp h = some i) (hl : i < hp.slots.length) (hk : hp.slots[i].obj.kind = 1) (hle : hp.slots[i].obj.elems.length ≤ 20000)
    (HN : ∀ W, Chg (fun _ => False) w W → Calls Tryd.prog 37 #[.agg #[.int .i64 x.kind, .int .i64 x.int, .string x.str, .int .i64 x.ref]] W fun e w' => e = .returned (.agg #[.int .i64 y.kind, .int .i64 y.int, .string y.str, .int .i64 y.ref]) ∧ Chg (fun _ => False) W w') (n : Nat) (hy : y.kind = 3 ∧ y.int = (n : Int)) (hn : n ≤ 10000) :
    Calls Tryd.prog 24 #[.pointer (some ⟨b, 0, none⟩), .int .i64 h, .string ⟨#[108, 101, 110, 103, 116, 104]⟩, .agg #[.int .i64 x.kind, .int .i64 x.int, .string x.str, .int .i64 x.ref]] w fun e w' => e = .returned (.int .i64 0) ∧ Post hpR w b 0 (putO hp i { hp.slots[i].obj with elems := resizeL hp.slots[i].obj.elems n }) F w' := by
  have HYY := Lib.hid hy
  have HNL := Lib.hid hn
  clear hy hn
  have hca := Chg.alloc (fun _ => False) w (.cells #[.int .i64 x.kind, .int .i64 x.int, .string x.str, .int .i64 x.ref] 36)
  have kb := alloc_block w (.cells #[.int .i64 x.kind, .int .i64 x.int, .string x.str, .int .i64 x.ref] 36)
  have HKB := Lib.hid kb
  have H2 := H.still hca
  obtain ⟨gh, oh, kh, c2, G, HOBJ0, hGF, hput⟩ := hpPut H hl
  obtain ⟨vp, ve, vd, vs, HOC⟩ := objOpen HOBJ0
  obtain ⟨ae, cape, rfl, -⟩ := HOC.re.slice
  have k0 := HOC.c0
  rw [hk] at k0
  have HC0 := Lib.hid k0
  have HC3 := Lib.hid HOC.c3
  have hat := hat_any _ b 0 hp F h _ H2 (by rw [Nat.zero_add]; exact hca.cell c2) hi
  rw [hs, show objPtr (.slice (some ⟨gh, oh, none⟩) hp.slots.length kh) (some i) = some ⟨gh, oh + i * 11 + 1, none⟩ from rfl] at hat
  have HAT := Lib.hid hat
  have HNN := Lib.hid HN
  generalize hx : hp.slots[i].obj = o_ at *
  have HX := Lib.hid hx
  have HCA := Lib.hid hca
  have HOB := Lib.hid HOBJ0
  have HPT := Lib.hid hput
  have HLT := Lib.hid HOBJ0.lt
  have HLE := Lib.hid hle
  clear kb hca H2 c2 HOBJ0 hGF hput HOC k0 hi hs H hx hk hat HN hle
  go_enter Tryd.func24, Tryd.ntmps24
  go_upto_region 1 with fail
  generalize hw2 : w.alloc (.cells #[.int .i64 x.kind, .int .i64 x.int, .string x.str, .int .i64 x.ref] 36) = w1 at *
  generalize hb7 : w.heap.size = b7 at *
  have HB7E := Lib.hid hb7
  clear hw2 hb7
  go_upto_region 4 with (go_at_call 35; refine HAT.out.mono ?_; rintro e wa ⟨rfl, hca⟩)
  have HC1 := Lib.hid (HCA.out.trans' hca)
  have HKB2 := Lib.hid (hca.keep HKB.out (fun x => x))
  have k0 := cell_of_block (i := 0) HKB2.out rfl
  have k1 := cell_of_block (i := 1) HKB2.out rfl
  have k2 := cell_of_block (i := 2) HKB2.out rfl
  have k3 := cell_of_block (i := 3) HKB2.out rfl
  simp only [List.getElem_toArray, List.getElem_cons_zero, List.getElem_cons_succ] at k0 k1 k2 k3
  clear hca HAT HKB
  go_upto_region 5 with (go_at_call 37; refine (HNN.out _ HC1.out).mono ?_; rintro e wn ⟨rfl, hcn⟩; have hbn := hcn.keep HKB2.out (fun x => x); obtain ⟨z10, q0, z11, q1, z12, q2, z13, q3, hbf, hcs⟩ := store4 hbn (.int .i64 y.kind) (.int .i64 y.int) (.string y.str) (.int .i64 y.ref))
  have HB7 := Lib.hid hbf
  have hc4 : Chg (fun _ => False) w (((((wn.setCell ⟨b7, 0, none⟩ (.int .i64 y.kind)).setCell ⟨b7, 1, none⟩ (.int .i64 y.int)).setCell ⟨b7, 2, none⟩ (.string y.str)).setCell ⟨b7, 3, none⟩ (.int .i64 y.ref))) := (HC1.out.trans' hcn).trans hcs (fun _ _ x => x) (fun k hk e => by have := HB7E.out; omega)
  clear hbf hcs hcn hbn z10 q0 z11 q1 z12 q2 z13 q3 k0 k1 k2 k3
  generalize ((((wn.setCell ⟨b7, 0, none⟩ (.int .i64 y.kind)).setCell ⟨b7, 1, none⟩ (.int .i64 y.int)).setCell ⟨b7, 2, none⟩ (.string y.str)).setCell ⟨b7, 3, none⟩ (.int .i64 y.ref)) = w4 at *
  have c0 := hc4.cell HC0.out
  have HC4 := Lib.hid hc4
  clear hc4 HNN HKB2 HC1 HCA
  have n0 := cell_of_block (i := 0) HB7.out rfl
  have n1 := cell_of_block (i := 1) HB7.out rfl
  simp only [List.getElem_toArray, List.getElem_cons_zero, List.getElem_cons_succ] at n0 n1
  rw [HYY.out.1] at n0
  rw [HYY.out.2] at n1
  have g0 : ¬ (n : Int) < 0 := by omega
  have g1 : ¬ (10000 : Int) < (n : Int) := by have := HNL.out; omega
  have HRS := Lib.hid (resize_any w4 gh (oh + i * 11 + 1) o_ G n (HOB.out.still HC4.out) HLE.out (by have := HNL.out; omega))
  go_wp2_with (go_at_call 44; refine HRS.out.mono ?_; rintro e w5 ⟨rfl, hp5⟩)
  go_ret
  exact ⟨rfl, HPT.out _ _ (Post.pre HC4.out hp5)⟩
set_option maxHeartbeats 6400000 in
set_option maxRecDepth 100000 in
theorem put_range (w : World) (b : Nat) (hp : Hp) (F : List Nat) (h : Int) (i : Nat) (x y : Val) (H : Here hpR w b 0 hp F) (hi : -9223372036854775808 ≤ h ∧ h ≤ 9223372036854775807) (hs : slotOf hp h = some i) (hl : i < hp.slots.length) (hk : hp.slots[i].obj.kind = 1) (hle : hp.slots[i].obj.elems.length ≤ 20000)
    (HN : ∀ W, Chg (fun _ => False) w W → Calls Tryd.prog 37 #[.agg #[.int .i64 x.kind, .int .i64 x.int, .string x.str, .int .i64 x.ref]] W fun e w' => e = .returned (.agg #[.int .i64 y.kind, .int .i64 y.int, .string y.str, .int .i64 y.ref]) ∧ Chg (fun _ => False) W w') (hy : y.kind ≠ 3 ∨ y.int < 0 ∨ 10000 < y.int) :
    Calls Tryd.prog 24 #[.pointer (some ⟨b, 0, none⟩), .int .i64 h, .string ⟨#[108, 101, 110, 103, 116, 104]⟩, .agg #[.int .i64 x.kind, .int .i64 x.int, .string x.str, .int .i64 x.ref]] w fun e w' => e = .returned (.int .i64 2) ∧ Chg (fun _ => False) w w' := by
  have HYY := Lib.hid hy
  clear hy
  have hca := Chg.alloc (fun _ => False) w (.cells #[.int .i64 x.kind, .int .i64 x.int, .string x.str, .int .i64 x.ref] 36)
  have kb := alloc_block w (.cells #[.int .i64 x.kind, .int .i64 x.int, .string x.str, .int .i64 x.ref] 36)
  have HKB := Lib.hid kb
  have H2 := H.still hca
  obtain ⟨gh, oh, kh, c2, G, HOBJ0, hGF, hput⟩ := hpPut H hl
  obtain ⟨vp, ve, vd, vs, HOC⟩ := objOpen HOBJ0
  obtain ⟨ae, cape, rfl, -⟩ := HOC.re.slice
  have k0 := HOC.c0
  rw [hk] at k0
  have HC0 := Lib.hid k0
  have HC3 := Lib.hid HOC.c3
  have hat := hat_any _ b 0 hp F h _ H2 (by rw [Nat.zero_add]; exact hca.cell c2) hi
  rw [hs, show objPtr (.slice (some ⟨gh, oh, none⟩) hp.slots.length kh) (some i) = some ⟨gh, oh + i * 11 + 1, none⟩ from rfl] at hat
  have HAT := Lib.hid hat
  have HNN := Lib.hid HN
  generalize hx : hp.slots[i].obj = o_ at *
  have HX := Lib.hid hx
  have HCA := Lib.hid hca
  have HOB := Lib.hid HOBJ0
  have HPT := Lib.hid hput
  have HLT := Lib.hid HOBJ0.lt
  have HLE := Lib.hid hle
  clear kb hca H2 c2 HOBJ0 hGF hput HOC k0 hi hs H hx hk hat HN hle
  go_enter Tryd.func24, Tryd.ntmps24
  go_upto_region 1 with fail
  generalize hw2 : w.alloc (.cells #[.int .i64 x.kind, .int .i64 x.int, .string x.str, .int .i64 x.ref] 36) = w1 at *
  generalize hb7 : w.heap.size = b7 at *
  have HB7E := Lib.hid hb7
  clear hw2 hb7
  go_upto_region 4 with (go_at_call 35; refine HAT.out.mono ?_; rintro e wa ⟨rfl, hca⟩)
  have HC1 := Lib.hid (HCA.out.trans' hca)
  have HKB2 := Lib.hid (hca.keep HKB.out (fun x => x))
  have k0 := cell_of_block (i := 0) HKB2.out rfl
  have k1 := cell_of_block (i := 1) HKB2.out rfl
  have k2 := cell_of_block (i := 2) HKB2.out rfl
  have k3 := cell_of_block (i := 3) HKB2.out rfl
  simp only [List.getElem_toArray, List.getElem_cons_zero, List.getElem_cons_succ] at k0 k1 k2 k3
  clear hca HAT HKB
  go_upto_region 5 with (go_at_call 37; refine (HNN.out _ HC1.out).mono ?_; rintro e wn ⟨rfl, hcn⟩; have hbn := hcn.keep HKB2.out (fun x => x); obtain ⟨z10, q0, z11, q1, z12, q2, z13, q3, hbf, hcs⟩ := store4 hbn (.int .i64 y.kind) (.int .i64 y.int) (.string y.str) (.int .i64 y.ref))
  have HB7 := Lib.hid hbf
  have hc4 : Chg (fun _ => False) w (((((wn.setCell ⟨b7, 0, none⟩ (.int .i64 y.kind)).setCell ⟨b7, 1, none⟩ (.int .i64 y.int)).setCell ⟨b7, 2, none⟩ (.string y.str)).setCell ⟨b7, 3, none⟩ (.int .i64 y.ref))) := (HC1.out.trans' hcn).trans hcs (fun _ _ x => x) (fun k hk e => by have := HB7E.out; omega)
  clear hbf hcs hcn hbn z10 q0 z11 q1 z12 q2 z13 q3 k0 k1 k2 k3
  generalize ((((wn.setCell ⟨b7, 0, none⟩ (.int .i64 y.kind)).setCell ⟨b7, 1, none⟩ (.int .i64 y.int)).setCell ⟨b7, 2, none⟩ (.string y.str)).setCell ⟨b7, 3, none⟩ (.int .i64 y.ref)) = w4 at *
  have c0 := hc4.cell HC0.out
  have HC4 := Lib.hid hc4
  clear hc4 HNN HKB2 HC1 HCA
  have n0 := cell_of_block (i := 0) HB7.out rfl
  have n1 := cell_of_block (i := 1) HB7.out rfl
  simp only [List.getElem_toArray, List.getElem_cons_zero, List.getElem_cons_succ] at n0 n1
  by_cases h3 : y.kind = 3
  · rw [h3] at n0
    by_cases h4 : y.int < 0
    · go_wp2_with fail
      go_ret
      exact ⟨rfl, HC4.out⟩
    · have g1 : (10000 : Int) < y.int := by have := HYY.out; omega
      go_wp2_with fail
      go_ret
      exact ⟨rfl, HC4.out⟩
  · have g1 : (y.kind != 3) = true := bne_iff_ne.2 h3
    have g2 : (y.kind == 3) = false := beq_false_of_ne h3
    go_wp2_with fail
    go_ret
    exact ⟨rfl, HC4.out⟩
end Go.Proofs.YtjianickjahdnaaDoor
namespace Go.Proofs.YtjianickjahdnaaDoor
open Go.RowKit
set_option linter.unusedVariables false
set_option linter.unusedSimpArgs false

set_option maxHeartbeats 1600000 in
set_option maxRecDepth 100000 in
theorem put_elem (w : World) (b : Nat) (hp : Hp) (F : List Nat) (h : Int) (i : Nat) (key : ByteArray) (x y : Val) (H : Here hpR w b 0 hp F) (hi : -9223372036854775808 ≤ h ∧ h ≤ 9223372036854775807) (hs : slotOf hp h = some i) (hl : i < hp.slots.length) (hk : hp.slots[i].obj.kind = 1) (hle : hp.slots[i].obj.elems.length ≤ 20000)
    (HN : ∀ W, Chg (fun _ => False) w W → Calls Tryd.prog 37 #[.agg #[.int .i64 x.kind, .int .i64 x.int, .string x.str, .int .i64 x.ref]] W fun e w' => e = .returned (.agg #[.int .i64 y.kind, .int .i64 y.int, .string y.str, .int .i64 y.ref]) ∧ Chg (fun _ => False) W w') (hkl : ¬ key.toList = [108, 101, 110, 103, 116, 104]) (hks : key.size ≤ 1000000) (HT : Tabs w) (j : Nat) (hpz : posM key = (j : Int)) (hj : j < hp.slots[i].obj.elems.length) :
    Calls Tryd.prog 24 #[.pointer (some ⟨b, 0, none⟩), .int .i64 h, .string key, .agg #[.int .i64 x.kind, .int .i64 x.int, .string x.str, .int .i64 x.ref]] w fun e w' => e = .returned (.int .i64 0) ∧ Post hpR w b 0 (putO hp i { hp.slots[i].obj with elems := hp.slots[i].obj.elems.set j y }) F w' := by
  have HPS := Lib.hid (fun W (hc : Chg (fun _ => False) w W) => position_any key W hks (HT.still hc))
  have s1 : (key.toList == [108, 101, 110, 103, 116, 104]) = false := beq_false_of_ne hkl
  clear HT hks
  rw [hpz] at HPS
  clear hpz
  have hca := Chg.alloc (fun _ => False) w (.cells #[.int .i64 x.kind, .int .i64 x.int, .string x.str, .int .i64 x.ref] 36)
  have kb := alloc_block w (.cells #[.int .i64 x.kind, .int .i64 x.int, .string x.str, .int .i64 x.ref] 36)
  have HKB := Lib.hid kb
  have H2 := H.still hca
  obtain ⟨gh, oh, kh, c2, G, HOBJ0, hGF, hput⟩ := hpPut H hl
  obtain ⟨vp, ve, vd, vs, HOC⟩ := objOpen HOBJ0
  obtain ⟨ae, cape, rfl, -⟩ := HOC.re.slice
  have k0 := HOC.c0
  rw [hk] at k0
  have HC0 := Lib.hid k0
  have HC3 := Lib.hid HOC.c3
  have hat := hat_any _ b 0 hp F h _ H2 (by rw [Nat.zero_add]; exact hca.cell c2) hi
  rw [hs, show objPtr (.slice (some ⟨gh, oh, none⟩) hp.slots.length kh) (some i) = some ⟨gh, oh + i * 11 + 1, none⟩ from rfl] at hat
  have HAT := Lib.hid hat
  have HNN := Lib.hid HN
  generalize hx : hp.slots[i].obj = o_ at *
  have HX := Lib.hid hx
  have HCA := Lib.hid hca
  have HOB := Lib.hid HOBJ0
  have HPT := Lib.hid hput
  have HLT := Lib.hid HOBJ0.lt
  have HLE := Lib.hid hle
  clear kb hca H2 c2 HOBJ0 hGF hput HOC k0 hi hs H hx hk hat HN hle
  have HJ0 := Lib.hid hj
  clear hj
  go_enter Tryd.func24, Tryd.ntmps24
  go_upto_region 1 with fail
  generalize hw2 : w.alloc (.cells #[.int .i64 x.kind, .int .i64 x.int, .string x.str, .int .i64 x.ref] 36) = w1 at *
  generalize hb7 : w.heap.size = b7 at *
  have HB7E := Lib.hid hb7
  clear hw2 hb7
  go_upto_region 4 with (go_at_call 35; refine HAT.out.mono ?_; rintro e wa ⟨rfl, hca⟩)
  have HC1 := Lib.hid (HCA.out.trans' hca)
  have HKB2 := Lib.hid (hca.keep HKB.out (fun x => x))
  have k0 := cell_of_block (i := 0) HKB2.out rfl
  have k1 := cell_of_block (i := 1) HKB2.out rfl
  have k2 := cell_of_block (i := 2) HKB2.out rfl
  have k3 := cell_of_block (i := 3) HKB2.out rfl
  simp only [List.getElem_toArray, List.getElem_cons_zero, List.getElem_cons_succ] at k0 k1 k2 k3
  clear hca HAT HKB
  go_upto_region 5 with (go_at_call 37; refine (HNN.out _ HC1.out).mono ?_; rintro e wn ⟨rfl, hcn⟩; have hbn := hcn.keep HKB2.out (fun x => x); obtain ⟨z10, q0, z11, q1, z12, q2, z13, q3, hbf, hcs⟩ := store4 hbn (.int .i64 y.kind) (.int .i64 y.int) (.string y.str) (.int .i64 y.ref))
  have HB7 := Lib.hid hbf
  have hc4 : Chg (fun _ => False) w (((((wn.setCell ⟨b7, 0, none⟩ (.int .i64 y.kind)).setCell ⟨b7, 1, none⟩ (.int .i64 y.int)).setCell ⟨b7, 2, none⟩ (.string y.str)).setCell ⟨b7, 3, none⟩ (.int .i64 y.ref))) := (HC1.out.trans' hcn).trans hcs (fun _ _ x => x) (fun k hk e => by have := HB7E.out; omega)
  clear hbf hcs hcn hbn z10 q0 z11 q1 z12 q2 z13 q3 k0 k1 k2 k3
  generalize ((((wn.setCell ⟨b7, 0, none⟩ (.int .i64 y.kind)).setCell ⟨b7, 1, none⟩ (.int .i64 y.int)).setCell ⟨b7, 2, none⟩ (.string y.str)).setCell ⟨b7, 3, none⟩ (.int .i64 y.ref)) = w4 at *
  have c0 := hc4.cell HC0.out
  have HC4 := Lib.hid hc4
  clear hc4 HNN HKB2 HC1 HCA
  go_upto_region 12 with (go_at_call 21; refine (HPS.out _ HC4.out).mono ?_; rintro e w5 ⟨rfl, hc5⟩)
  have HC5 := Lib.hid (HC4.out.trans' hc5)
  have HY7 := Lib.hid (hc5.keep HB7.out (fun x => x))
  have HOB5 := Lib.hid (HOB.out.still HC5.out)
  clear hc5 HPS c0 HB7 HC4 HOB
  have j0 : (0 : Int) ≤ (j : Int) := by omega
  have j1 : (j : Int) < (o_.elems.length : Int) := by have := HJ0.out; omega
  have j2 : ¬ (o_.elems.length : Int) ≤ (j : Int) := by omega
  have HJ := HJ0
  have HOB6 := HOB5
  have HY6 := HY7
  have jn := HJ0.out
  obtain ⟨gp, opp, cp, hcv⟩ := HOB6.out.rowAt objR_elems (by show 0 < 10; decide) (by have := HJ.out; omega)
  have jn := HJ.out
  obtain ⟨G2, HEL, -, -, -, hwb⟩ := (HOB6.out.drew).rowElem objR_elems (by show 0 < 10; decide) (show w5.drew.cell? _ = _ from hcv) HJ.out
  have n0 := cell_of_block (i := 0) HY6.out rfl
  have n1 := cell_of_block (i := 1) HY6.out rfl
  have n2 := cell_of_block (i := 2) HY6.out rfl
  have n3 := cell_of_block (i := 3) HY6.out rfl
  simp only [List.getElem_toArray, List.getElem_cons_zero, List.getElem_cons_succ] at n0 n1 n2 n3
  have HS0 : Hid (w5.cell? ⟨gh, oh + i * 11 + 1 + 3, none⟩ = some (.slice (some ⟨gp, opp, none⟩) o_.elems.length cp) ∧ w5.cell? ⟨b7, 0, none⟩ = some (.int .i64 y.kind) ∧ w5.cell? ⟨b7, 1, none⟩ = some (.int .i64 y.int) ∧ w5.cell? ⟨b7, 2, none⟩ = some (.string y.str) ∧ w5.cell? ⟨b7, 3, none⟩ = some (.int .i64 y.ref)) := Lib.hid ⟨hcv, n0, n1, n2, n3⟩
  clear n0 n1 n2 n3
  have HWB := Lib.hid hwb
  have HELH := Lib.hid HEL
  clear hwb HEL
  go_upto_region 15 with fail
  clear hcv
  refine wp_region_held_split 7 (fun w' => w'.cell? ⟨gh, oh + i * 11 + 1 + 3, none⟩ = some (.slice (some ⟨gp, opp, none⟩) o_.elems.length cp) ∧ w'.cell? ⟨b7, 0, none⟩ = some (.int .i64 y.kind) ∧ w'.cell? ⟨b7, 1, none⟩ = some (.int .i64 y.int) ∧ w'.cell? ⟨b7, 2, none⟩ = some (.string y.str) ∧ w'.cell? ⟨b7, 3, none⟩ = some (.int .i64 y.ref)) (by kernel_rfl) (by kernel_rfl) ?_ (fun hHeld => ?_)
  · (first | exact HS0.out | exact HKS.out _ (Chg.refl _ _))
  simp only [List.take_succ_cons, List.take_zero]
  have HKS : Hid (∀ W, Chg (fun _ => False) w5.drew W → W.cell? ⟨gh, oh + i * 11 + 1 + 3, none⟩ = some (.slice (some ⟨gp, opp, none⟩) o_.elems.length cp) ∧ W.cell? ⟨b7, 0, none⟩ = some (.int .i64 y.kind) ∧ W.cell? ⟨b7, 1, none⟩ = some (.int .i64 y.int) ∧ W.cell? ⟨b7, 2, none⟩ = some (.string y.str) ∧ W.cell? ⟨b7, 3, none⟩ = some (.int .i64 y.ref)) := Lib.hid (fun W hc => ⟨hc.cell HS0.out.1, hc.cell HS0.out.2.1, hc.cell HS0.out.2.2.1, hc.cell HS0.out.2.2.2.1, hc.cell HS0.out.2.2.2.2⟩)
  have HWD : Hid (Chg (fun _ => False) w5 w5.drew) := Lib.hid (Chg.refl _ w5).drewR
  generalize w5.drew = wD at *
  refine wpAnyH_take (i := 0) (v := ?_) rfl (by kernel_rfl) (by kernel_rfl) (by kernel_rfl) (fun _ _ _ h => h) (Or.inl ⟨by rfl, ?_⟩) (by assumption) ?_
  rotate_left
  · (intro wq hSw; (try dsimp only at hSw); go_simp; (try with_reducible rfl))
  simp only [Act.put, List.getElem_toArray, List.getElem_cons_zero, List.getElem_cons_succ, List.setIfInBounds_toArray, List.set_cons_zero, List.set_cons_succ]
  refine wpAnyH_take (i := 1) (v := ?_) rfl (by kernel_rfl) (by kernel_rfl) (by kernel_rfl) (fun _ _ _ h => h) (Or.inl ⟨by rfl, ?_⟩) (by assumption) ?_
  rotate_left
  · (intro wq hSw; (try dsimp only at hSw); go_simp; (try with_reducible rfl))
  simp only [Act.put, List.getElem_toArray, List.getElem_cons_zero, List.getElem_cons_succ, List.setIfInBounds_toArray, List.set_cons_zero, List.set_cons_succ]
  refine wpAnyH_take (i := 2) (v := ?_) rfl (by kernel_rfl) (by kernel_rfl) (by kernel_rfl) (fun _ _ _ h => h) (Or.inl ⟨by rfl, ?_⟩) (by assumption) ?_
  rotate_left
  · (intro wq hSw; (try dsimp only at hSw); go_simp; (try with_reducible rfl))
  simp only [Act.put, List.getElem_toArray, List.getElem_cons_zero, List.getElem_cons_succ, List.setIfInBounds_toArray, List.set_cons_zero, List.set_cons_succ]
  refine wpAnyH_take (i := 3) (v := ?_) rfl (by kernel_rfl) (by kernel_rfl) (by kernel_rfl) (fun _ _ _ h => h) (Or.inl ⟨by rfl, ?_⟩) (by assumption) ?_
  rotate_left
  · (intro wq hSw; (try dsimp only at hSw); go_simp; (try with_reducible rfl))
  simp only [Act.put, List.getElem_toArray, List.getElem_cons_zero, List.getElem_cons_succ, List.setIfInBounds_toArray, List.set_cons_zero, List.set_cons_succ]
  refine wpAnyH_take (i := 4) (v := ?_) rfl (by kernel_rfl) (by kernel_rfl) (by kernel_rfl) (fun _ _ _ h => h) (Or.inl ⟨by rfl, ?_⟩) (by assumption) ?_
  rotate_left
  · (intro wq hSw; (try dsimp only at hSw); go_simp; (try with_reducible rfl))
  simp only [Act.put, List.getElem_toArray, List.getElem_cons_zero, List.getElem_cons_succ, List.setIfInBounds_toArray, List.set_cons_zero, List.set_cons_succ]
  refine wpAnyH_take (i := 5) (v := ?_) rfl (by kernel_rfl) (by kernel_rfl) (by kernel_rfl) (fun _ _ _ h => h) (Or.inl ⟨by rfl, ?_⟩) (by assumption) ?_
  rotate_left
  · (intro wq hSw; (try dsimp only at hSw); go_simp; (try with_reducible rfl))
  simp only [Act.put, List.getElem_toArray, List.getElem_cons_zero, List.getElem_cons_succ, List.setIfInBounds_toArray, List.set_cons_zero, List.set_cons_succ]
  refine wpAnyH_take (i := 6) (v := ?_) rfl (by kernel_rfl) (by kernel_rfl) (by kernel_rfl) (fun _ _ _ h => h) (Or.inl ⟨by rfl, ?_⟩) (by assumption) ?_
  rotate_left
  · (intro wq hSw; (try dsimp only at hSw); go_simp; (try with_reducible rfl))
  simp only [Act.put, List.getElem_toArray, List.getElem_cons_zero, List.getElem_cons_succ, List.setIfInBounds_toArray, List.set_cons_zero, List.set_cons_succ]
  refine wpAnyH_done (by kernel_rfl) ?_ _
  change wpList _ _ _ _ _ _
  simp only [List.drop_succ_cons, List.drop_zero]
  have P1 := HELH.out.setPost valR_kind (y := y.kind) (v := .int .i64 y.kind) rfl
  have P2 := P1.then (fun F' H' => H'.setPost valR_int (y := y.int) (v := .int .i64 y.int) rfl)
  have P3 := P2.then (fun F' H' => H'.setPost valR_str (y := y.str) (v := .string y.str) rfl)
  have P4 := P3.then (fun F' H' => H'.setPost valR_ref (y := y.ref) (v := .int .i64 y.ref) rfl)
  obtain ⟨cB, TB, hbB, hszB⟩ : ∃ c T, wD.heap[gp]? = some (.cells c T (0, 0)) ∧ opp + j * 4 + 4 ≤ c.size := by
    obtain ⟨c, T, hh⟩ := HELH.out.size
    rcases hh with hh | hh
    · exact ⟨c, T, hh.1, by have := hh.2.2; show opp + j * 4 + 4 ≤ _; exact this⟩
    · exact absurd hh (by decide)
  obtain ⟨u0, u1, u2, u3, ⟨e0, f0⟩, ⟨e1, f1⟩, ⟨e2, f2⟩, e3, f3⟩ := store4At (o := opp + j * 4) hbB hszB (.int .i64 y.kind) (.int .i64 y.int) (.string y.str) (.int .i64 y.ref)
  have HP4 := Lib.hid P4
  clear P1 P2 P3 P4
  go_wp2_with fail
  go_ret
  obtain ⟨F4, h1, h2⟩ := HP4.out
  have hpl := (HWB.out _ _ F4 h1 h2).1
  exact ⟨rfl, HPT.out _ _ (Post.pre (HC5.out.trans' HWD.out) hpl)⟩
set_option maxHeartbeats 1600000 in
set_option maxRecDepth 100000 in
theorem put_grow (w : World) (b : Nat) (hp : Hp) (F : List Nat) (h : Int) (i : Nat) (key : ByteArray) (x y : Val) (H : Here hpR w b 0 hp F) (hi : -9223372036854775808 ≤ h ∧ h ≤ 9223372036854775807) (hs : slotOf hp h = some i) (hl : i < hp.slots.length) (hk : hp.slots[i].obj.kind = 1) (hle : hp.slots[i].obj.elems.length ≤ 20000)
    (HN : ∀ W, Chg (fun _ => False) w W → Calls Tryd.prog 37 #[.agg #[.int .i64 x.kind, .int .i64 x.int, .string x.str, .int .i64 x.ref]] W fun e w' => e = .returned (.agg #[.int .i64 y.kind, .int .i64 y.int, .string y.str, .int .i64 y.ref]) ∧ Chg (fun _ => False) W w') (hkl : ¬ key.toList = [108, 101, 110, 103, 116, 104]) (hks : key.size ≤ 1000000) (HT : Tabs w) (j : Nat) (hpz : posM key = (j : Int)) (hj : hp.slots[i].obj.elems.length ≤ j) (hj2 : j < 10000) :
    Calls Tryd.prog 24 #[.pointer (some ⟨b, 0, none⟩), .int .i64 h, .string key, .agg #[.int .i64 x.kind, .int .i64 x.int, .string x.str, .int .i64 x.ref]] w fun e w' => e = .returned (.int .i64 0) ∧ Post hpR w b 0 (putO hp i { hp.slots[i].obj with elems := (resizeL hp.slots[i].obj.elems (j + 1)).set j y }) F w' := by
  have HPS := Lib.hid (fun W (hc : Chg (fun _ => False) w W) => position_any key W hks (HT.still hc))
  have s1 : (key.toList == [108, 101, 110, 103, 116, 104]) = false := beq_false_of_ne hkl
  clear HT hks
  rw [hpz] at HPS
  clear hpz
  have hca := Chg.alloc (fun _ => False) w (.cells #[.int .i64 x.kind, .int .i64 x.int, .string x.str, .int .i64 x.ref] 36)
  have kb := alloc_block w (.cells #[.int .i64 x.kind, .int .i64 x.int, .string x.str, .int .i64 x.ref] 36)
  have HKB := Lib.hid kb
  have H2 := H.still hca
  obtain ⟨gh, oh, kh, c2, G, HOBJ0, hGF, hput⟩ := hpPut H hl
  obtain ⟨vp, ve, vd, vs, HOC⟩ := objOpen HOBJ0
  obtain ⟨ae, cape, rfl, -⟩ := HOC.re.slice
  have k0 := HOC.c0
  rw [hk] at k0
  have HC0 := Lib.hid k0
  have HC3 := Lib.hid HOC.c3
  have hat := hat_any _ b 0 hp F h _ H2 (by rw [Nat.zero_add]; exact hca.cell c2) hi
  rw [hs, show objPtr (.slice (some ⟨gh, oh, none⟩) hp.slots.length kh) (some i) = some ⟨gh, oh + i * 11 + 1, none⟩ from rfl] at hat
  have HAT := Lib.hid hat
  have HNN := Lib.hid HN
  generalize hx : hp.slots[i].obj = o_ at *
  have HX := Lib.hid hx
  have HCA := Lib.hid hca
  have HOB := Lib.hid HOBJ0
  have HPT := Lib.hid hput
  have HLT := Lib.hid HOBJ0.lt
  have HLE := Lib.hid hle
  clear kb hca H2 c2 HOBJ0 hGF hput HOC k0 hi hs H hx hk hat HN hle
  have HJ0 := Lib.hid hj
  have HJ2 := Lib.hid hj2
  clear hj hj2
  go_enter Tryd.func24, Tryd.ntmps24
  go_upto_region 1 with fail
  generalize hw2 : w.alloc (.cells #[.int .i64 x.kind, .int .i64 x.int, .string x.str, .int .i64 x.ref] 36) = w1 at *
  generalize hb7 : w.heap.size = b7 at *
  have HB7E := Lib.hid hb7
  clear hw2 hb7
  go_upto_region 4 with (go_at_call 35; refine HAT.out.mono ?_; rintro e wa ⟨rfl, hca⟩)
  have HC1 := Lib.hid (HCA.out.trans' hca)
  have HKB2 := Lib.hid (hca.keep HKB.out (fun x => x))
  have k0 := cell_of_block (i := 0) HKB2.out rfl
  have k1 := cell_of_block (i := 1) HKB2.out rfl
  have k2 := cell_of_block (i := 2) HKB2.out rfl
  have k3 := cell_of_block (i := 3) HKB2.out rfl
  simp only [List.getElem_toArray, List.getElem_cons_zero, List.getElem_cons_succ] at k0 k1 k2 k3
  clear hca HAT HKB
  go_upto_region 5 with (go_at_call 37; refine (HNN.out _ HC1.out).mono ?_; rintro e wn ⟨rfl, hcn⟩; have hbn := hcn.keep HKB2.out (fun x => x); obtain ⟨z10, q0, z11, q1, z12, q2, z13, q3, hbf, hcs⟩ := store4 hbn (.int .i64 y.kind) (.int .i64 y.int) (.string y.str) (.int .i64 y.ref))
  have HB7 := Lib.hid hbf
  have hc4 : Chg (fun _ => False) w (((((wn.setCell ⟨b7, 0, none⟩ (.int .i64 y.kind)).setCell ⟨b7, 1, none⟩ (.int .i64 y.int)).setCell ⟨b7, 2, none⟩ (.string y.str)).setCell ⟨b7, 3, none⟩ (.int .i64 y.ref))) := (HC1.out.trans' hcn).trans hcs (fun _ _ x => x) (fun k hk e => by have := HB7E.out; omega)
  clear hbf hcs hcn hbn z10 q0 z11 q1 z12 q2 z13 q3 k0 k1 k2 k3
  generalize ((((wn.setCell ⟨b7, 0, none⟩ (.int .i64 y.kind)).setCell ⟨b7, 1, none⟩ (.int .i64 y.int)).setCell ⟨b7, 2, none⟩ (.string y.str)).setCell ⟨b7, 3, none⟩ (.int .i64 y.ref)) = w4 at *
  have c0 := hc4.cell HC0.out
  have HC4 := Lib.hid hc4
  clear hc4 HNN HKB2 HC1 HCA
  go_upto_region 12 with (go_at_call 21; refine (HPS.out _ HC4.out).mono ?_; rintro e w5 ⟨rfl, hc5⟩)
  have HC5 := Lib.hid (HC4.out.trans' hc5)
  have HY7 := Lib.hid (hc5.keep HB7.out (fun x => x))
  have HOB5 := Lib.hid (HOB.out.still HC5.out)
  clear hc5 HPS c0 HB7 HC4 HOB
  have j0 : (0 : Int) ≤ (j : Int) := by omega
  have j1 : ¬ (j : Int) < (o_.elems.length : Int) := by have := HJ0.out; omega
  have j2 : (o_.elems.length : Int) ≤ (j : Int) := by have := HJ0.out; omega
  have wj : IntKind.i64.wrap ((j : Int) + 1) = (j : Int) + 1 := IntWalk.i64_in _ (by have := HJ2.out; omega)
  have c3 := HC5.out.cell HC3.out
  have HRS := Lib.hid (show Calls Tryd.prog 44 #[.pointer (some ⟨gh, oh + i * 11 + 1, none⟩), .int .i64 ((j : Int) + 1)] w5 _ from resize_any w5 gh (oh + i * 11 + 1) o_ G (j + 1) HOB5.out HLE.out (by have := HJ2.out; omega))
  go_upto_region 14 with fail
  go_upto_region 15 with (go_at_call 44; refine HRS.out.mono ?_; rintro e w6 ⟨rfl, hp6⟩)
  obtain ⟨G6, HOBJ6, hst6⟩ := hp6
  have HY6 := Lib.hid (hst6.chg.keep HY7.out (fun hk => by
    have h1 := HLT.out
    have h2 := HB7E.out
    rcases hk with rfl | hk
    · omega
    · have := h1.2 _ hk; omega))
  have HST6 := Lib.hid hst6
  clear hst6 HRS c3 j1 j2
  obtain ⟨o2, ho2⟩ : ∃ o2, o2 = { o_ with elems := resizeL o_.elems (j + 1) } := ⟨_, rfl⟩
  have HO2 := Lib.hid ho2
  rw [← ho2] at HOBJ6
  have HOB6 := Lib.hid HOBJ6
  have hl2 : o2.elems.length = j + 1 := by rw [ho2]; exact resizeL_len _ _
  have HJ : Hid (j < o2.elems.length) := Lib.hid (by omega)
  have j1 : (j : Int) < (o2.elems.length : Int) := by omega
  clear hl2 HOBJ6 ho2
  obtain ⟨gp, opp, cp, hcv⟩ := HOB6.out.rowAt objR_elems (by show 0 < 10; decide) (by have := HJ.out; omega)
  have jn := HJ.out
  obtain ⟨G2, HEL, -, -, -, hwb⟩ := (HOB6.out.drew).rowElem objR_elems (by show 0 < 10; decide) (show w6.drew.cell? _ = _ from hcv) HJ.out
  have n0 := cell_of_block (i := 0) HY6.out rfl
  have n1 := cell_of_block (i := 1) HY6.out rfl
  have n2 := cell_of_block (i := 2) HY6.out rfl
  have n3 := cell_of_block (i := 3) HY6.out rfl
  simp only [List.getElem_toArray, List.getElem_cons_zero, List.getElem_cons_succ] at n0 n1 n2 n3
  have HS0 : Hid (w6.cell? ⟨gh, oh + i * 11 + 1 + 3, none⟩ = some (.slice (some ⟨gp, opp, none⟩) o2.elems.length cp) ∧ w6.cell? ⟨b7, 0, none⟩ = some (.int .i64 y.kind) ∧ w6.cell? ⟨b7, 1, none⟩ = some (.int .i64 y.int) ∧ w6.cell? ⟨b7, 2, none⟩ = some (.string y.str) ∧ w6.cell? ⟨b7, 3, none⟩ = some (.int .i64 y.ref)) := Lib.hid ⟨hcv, n0, n1, n2, n3⟩
  clear n0 n1 n2 n3
  have HWB := Lib.hid hwb
  have HELH := Lib.hid HEL
  clear hwb HEL
  go_upto_region 15 with fail
  clear hcv
  refine wp_region_held_split 7 (fun w' => w'.cell? ⟨gh, oh + i * 11 + 1 + 3, none⟩ = some (.slice (some ⟨gp, opp, none⟩) o2.elems.length cp) ∧ w'.cell? ⟨b7, 0, none⟩ = some (.int .i64 y.kind) ∧ w'.cell? ⟨b7, 1, none⟩ = some (.int .i64 y.int) ∧ w'.cell? ⟨b7, 2, none⟩ = some (.string y.str) ∧ w'.cell? ⟨b7, 3, none⟩ = some (.int .i64 y.ref)) (by kernel_rfl) (by kernel_rfl) ?_ (fun hHeld => ?_)
  · (first | exact HS0.out | exact HKS.out _ (Chg.refl _ _))
  simp only [List.take_succ_cons, List.take_zero]
  have HKS : Hid (∀ W, Chg (fun _ => False) w6.drew W → W.cell? ⟨gh, oh + i * 11 + 1 + 3, none⟩ = some (.slice (some ⟨gp, opp, none⟩) o2.elems.length cp) ∧ W.cell? ⟨b7, 0, none⟩ = some (.int .i64 y.kind) ∧ W.cell? ⟨b7, 1, none⟩ = some (.int .i64 y.int) ∧ W.cell? ⟨b7, 2, none⟩ = some (.string y.str) ∧ W.cell? ⟨b7, 3, none⟩ = some (.int .i64 y.ref)) := Lib.hid (fun W hc => ⟨hc.cell HS0.out.1, hc.cell HS0.out.2.1, hc.cell HS0.out.2.2.1, hc.cell HS0.out.2.2.2.1, hc.cell HS0.out.2.2.2.2⟩)
  have HWD : Hid (Chg (fun _ => False) w6 w6.drew) := Lib.hid (Chg.refl _ w6).drewR
  generalize w6.drew = wD at *
  refine wpAnyH_take (i := 0) (v := ?_) rfl (by kernel_rfl) (by kernel_rfl) (by kernel_rfl) (fun _ _ _ h => h) (Or.inl ⟨by rfl, ?_⟩) (by assumption) ?_
  rotate_left
  · (intro wq hSw; (try dsimp only at hSw); go_simp; (try with_reducible rfl))
  simp only [Act.put, List.getElem_toArray, List.getElem_cons_zero, List.getElem_cons_succ, List.setIfInBounds_toArray, List.set_cons_zero, List.set_cons_succ]
  refine wpAnyH_take (i := 1) (v := ?_) rfl (by kernel_rfl) (by kernel_rfl) (by kernel_rfl) (fun _ _ _ h => h) (Or.inl ⟨by rfl, ?_⟩) (by assumption) ?_
  rotate_left
  · (intro wq hSw; (try dsimp only at hSw); go_simp; (try with_reducible rfl))
  simp only [Act.put, List.getElem_toArray, List.getElem_cons_zero, List.getElem_cons_succ, List.setIfInBounds_toArray, List.set_cons_zero, List.set_cons_succ]
  refine wpAnyH_take (i := 2) (v := ?_) rfl (by kernel_rfl) (by kernel_rfl) (by kernel_rfl) (fun _ _ _ h => h) (Or.inl ⟨by rfl, ?_⟩) (by assumption) ?_
  rotate_left
  · (intro wq hSw; (try dsimp only at hSw); go_simp; (try with_reducible rfl))
  simp only [Act.put, List.getElem_toArray, List.getElem_cons_zero, List.getElem_cons_succ, List.setIfInBounds_toArray, List.set_cons_zero, List.set_cons_succ]
  refine wpAnyH_take (i := 3) (v := ?_) rfl (by kernel_rfl) (by kernel_rfl) (by kernel_rfl) (fun _ _ _ h => h) (Or.inl ⟨by rfl, ?_⟩) (by assumption) ?_
  rotate_left
  · (intro wq hSw; (try dsimp only at hSw); go_simp; (try with_reducible rfl))
  simp only [Act.put, List.getElem_toArray, List.getElem_cons_zero, List.getElem_cons_succ, List.setIfInBounds_toArray, List.set_cons_zero, List.set_cons_succ]
  refine wpAnyH_take (i := 4) (v := ?_) rfl (by kernel_rfl) (by kernel_rfl) (by kernel_rfl) (fun _ _ _ h => h) (Or.inl ⟨by rfl, ?_⟩) (by assumption) ?_
  rotate_left
  · (intro wq hSw; (try dsimp only at hSw); go_simp; (try with_reducible rfl))
  simp only [Act.put, List.getElem_toArray, List.getElem_cons_zero, List.getElem_cons_succ, List.setIfInBounds_toArray, List.set_cons_zero, List.set_cons_succ]
  refine wpAnyH_take (i := 5) (v := ?_) rfl (by kernel_rfl) (by kernel_rfl) (by kernel_rfl) (fun _ _ _ h => h) (Or.inl ⟨by rfl, ?_⟩) (by assumption) ?_
  rotate_left
  · (intro wq hSw; (try dsimp only at hSw); go_simp; (try with_reducible rfl))
  simp only [Act.put, List.getElem_toArray, List.getElem_cons_zero, List.getElem_cons_succ, List.setIfInBounds_toArray, List.set_cons_zero, List.set_cons_succ]
  refine wpAnyH_take (i := 6) (v := ?_) rfl (by kernel_rfl) (by kernel_rfl) (by kernel_rfl) (fun _ _ _ h => h) (Or.inl ⟨by rfl, ?_⟩) (by assumption) ?_
  rotate_left
  · (intro wq hSw; (try dsimp only at hSw); go_simp; (try with_reducible rfl))
  simp only [Act.put, List.getElem_toArray, List.getElem_cons_zero, List.getElem_cons_succ, List.setIfInBounds_toArray, List.set_cons_zero, List.set_cons_succ]
  refine wpAnyH_done (by kernel_rfl) ?_ _
  change wpList _ _ _ _ _ _
  simp only [List.drop_succ_cons, List.drop_zero]
  have P1 := HELH.out.setPost valR_kind (y := y.kind) (v := .int .i64 y.kind) rfl
  have P2 := P1.then (fun F' H' => H'.setPost valR_int (y := y.int) (v := .int .i64 y.int) rfl)
  have P3 := P2.then (fun F' H' => H'.setPost valR_str (y := y.str) (v := .string y.str) rfl)
  have P4 := P3.then (fun F' H' => H'.setPost valR_ref (y := y.ref) (v := .int .i64 y.ref) rfl)
  obtain ⟨cB, TB, hbB, hszB⟩ : ∃ c T, wD.heap[gp]? = some (.cells c T (0, 0)) ∧ opp + j * 4 + 4 ≤ c.size := by
    obtain ⟨c, T, hh⟩ := HELH.out.size
    rcases hh with hh | hh
    · exact ⟨c, T, hh.1, by have := hh.2.2; show opp + j * 4 + 4 ≤ _; exact this⟩
    · exact absurd hh (by decide)
  obtain ⟨u0, u1, u2, u3, ⟨e0, f0⟩, ⟨e1, f1⟩, ⟨e2, f2⟩, e3, f3⟩ := store4At (o := opp + j * 4) hbB hszB (.int .i64 y.kind) (.int .i64 y.int) (.string y.str) (.int .i64 y.ref)
  have HP4 := Lib.hid P4
  clear P1 P2 P3 P4
  go_wp2_with fail
  go_ret
  obtain ⟨F4, h1, h2⟩ := HP4.out
  have hpl := (HWB.out _ _ F4 h1 h2).1
  obtain ⟨F5, h5, h6⟩ := Post.pre HWD.out hpl
  have hfin : Post objR w gh (oh + i * 11 + 1) _ G _ := Post.pre HC5.out ⟨F5, h5, HST6.out.trans h6⟩
  rw [HO2.out] at hfin
  exact ⟨rfl, HPT.out _ _ hfin⟩
end Go.Proofs.YtjianickjahdnaaDoor
namespace Go.Proofs.YtjianickjahdnaaDoor
open Go.RowKit
set_option linter.unusedVariables false
set_option linter.unusedSimpArgs false

set_option maxHeartbeats 3200000 in
set_option maxRecDepth 100000 in
theorem make_any (w : World) (b : Nat) (hp : Hp) (F : List Nat) (k : Nat) (H : Here hpR w b 0 hp F) (hfree : hp.free = []) (hlive : hp.live = hp.slots.length) (hl : hp.slots.length < 100000) (hp12 : hp.protos.length = 12) (hk : k < 12) :
    Calls Tryd.prog 11 #[.pointer (some ⟨b, 0, none⟩), .int .i64 (k : Int)] w
      fun e w' => e = .returned (.tuple #[.int .i64 (handleM hp.base hp.stride hp.slots.length), .int .i64 0]) ∧ Added w b 0 (addedM hp ⟨true, newObj k (hp.protos.getD k 0)⟩) F w' := by
  have HL := Lib.hid (len_any w b 0 hp F H)
  obtain ⟨g, off, cap, c7, hset⟩ := protoSet H (by omega)
  obtain ⟨q1, -, -⟩ := hset k (by omega)
  have hgd : hp.protos.getD k 0 = hp.protos[k]'(by omega) := by rw [List.getD_eq_getElem?_getD, List.getElem?_eq_getElem (by omega)]; rfl
  rw [← hgd] at q1
  rw [hp12, Nat.zero_add] at c7
  generalize hp.protos.getD k 0 = pr at *
  have h0 : (0 : Int) ≤ (k : Int) := by omega
  have h1 : (k : Int) < 12 := by omega
  have h2 : ¬ ((12 : Int) ≤ (k : Int)) := by omega
  have h3 : ¬ (100000 : Int) ≤ hp.live := by omega
  have C7 := Lib.hid c7
  have Q1 := Lib.hid q1
  have HH := Lib.hid H
  have HFR := Lib.hid hfree
  have HLV := Lib.hid hlive
  have HSL := Lib.hid hl
  clear hset hgd H hfree hlive hl hp12 hk
  go_enter Tryd.func11, Tryd.ntmps11
  go_upto_region 5 with (go_at_call 16; refine HL.out.mono ?_; rintro e w2 ⟨rfl, rfl⟩)
  have hc := Chg.alloc (fun _ => False) w2 (.cells #[.int .i64 (k : Int), .int .i64 0, .slice none 0 0, .slice none 0 0, .slice none 0 0, .int .i64 0, .int .i64 0, .int .i64 0, .int .i64 0, .slice none 0 0] 47)
  have d7 := hc.cell C7.out
  have d1 := hc.cell Q1.out
  clear c7 q1
  go_upto_region 8 with fail
  have hb : (w2.alloc (.cells #[.int .i64 (k : Int), .int .i64 pr, .slice none 0 0, .slice none 0 0, .slice none 0 0, .int .i64 0, .int .i64 0, .int .i64 0, .int .i64 0, .slice none 0 0] 47)).heap[w2.heap.size]? = some (.cells #[.int .i64 (k : Int), .int .i64 pr, .slice none 0 0, .slice none 0 0, .slice none 0 0, .int .i64 0, .int .i64 0, .int .i64 0, .int .i64 0, .slice none 0 0] 47 (0, 0)) := alloc_block _ _
  have hcW : Chg (fun _ => False) w2 (w2.alloc (.cells #[.int .i64 (k : Int), .int .i64 pr, .slice none 0 0, .slice none 0 0, .slice none 0 0, .int .i64 0, .int .i64 0, .int .i64 0, .int .i64 0, .slice none 0 0] 47)) := Chg.alloc _ _ _
  have HCW := Lib.hid hcW
  clear hc d7 d1 hcW
  generalize w2.alloc (.cells #[.int .i64 (k : Int), .int .i64 pr, .slice none 0 0, .slice none 0 0, .slice none 0 0, .int .i64 0, .int .i64 0, .int .i64 0, .int .i64 0, .slice none 0 0] 47) = W3 at *
  generalize w2.heap.size = nb at *
  have m0 : W3.cell? ⟨nb, 0, none⟩ = some (.int .i64 (k : Int)) := cell_of_block hb rfl
  have m1 : W3.cell? ⟨nb, 1, none⟩ = some (.int .i64 pr) := cell_of_block hb rfl
  have m2 : W3.cell? ⟨nb, 2, none⟩ = some (.slice none 0 0) := cell_of_block hb rfl
  have m3 : W3.cell? ⟨nb, 3, none⟩ = some (.slice none 0 0) := cell_of_block hb rfl
  have m4 : W3.cell? ⟨nb, 4, none⟩ = some (.slice none 0 0) := cell_of_block hb rfl
  have m5 : W3.cell? ⟨nb, 5, none⟩ = some (.int .i64 0) := cell_of_block hb rfl
  have m6 : W3.cell? ⟨nb, 6, none⟩ = some (.int .i64 0) := cell_of_block hb rfl
  have m7 : W3.cell? ⟨nb, 7, none⟩ = some (.int .i64 0) := cell_of_block hb rfl
  have m8 : W3.cell? ⟨nb, 8, none⟩ = some (.int .i64 0) := cell_of_block hb rfl
  have m9 : W3.cell? ⟨nb, 9, none⟩ = some (.slice none 0 0) := cell_of_block hb rfl
  have HC := Lib.hid (add_any W3.drew b 0 hp F k pr (HH.out.still (HCW.out.drewR)) HFR.out ⟨by have := HSL.out; omega⟩ HLV.out)
  clear hb
  go_region_law (go_simp; go_at_call 31; refine HC.out.mono ?_; rintro e w4 ⟨rfl, hA⟩)
  all_goals (
    go_wp2_with fail
    go_ret2
    exact ⟨rfl, ⟨Post.pre (HCW.out.drewR) hA.post, fun j u hj hu => hA.rest j u hj ((HCW.out.drewR).cell hu)⟩⟩)
end Go.Proofs.YtjianickjahdnaaDoor
namespace Go.Proofs.YtjianickjahdnaaDoor
open Go.RowKit
set_option linter.unusedVariables false
set_option linter.unusedSimpArgs false

section
variable {α : Type} {A : Rep α} {w W W' : World} {b o : Nat} {a : α} {F : List Nat}
theorem Own.beside {S : Nat → Prop} (h : Own A w W b o a F) (hc : Chg S W W') (hd : ∀ k ∈ b :: F, ¬ S k) (hlo : ∀ k, S k → w.heap.size ≤ k) : Own A w W' b o a F :=
  ⟨h.here.chg hc (hd b (List.mem_cons_self ..)) (fun k hk => hd k (List.mem_cons_of_mem _ hk)), h.chg.trans hc (fun _ _ x => x) (fun i hi x => by have := hlo i x; omega), h.lo, h.los⟩
theorem Own.allLt (h : Own A w W b o a F) : ∀ k ∈ b :: F, k < W.heap.size := fun k hk => by
  rcases List.mem_cons.1 hk with rfl | hk
  · exact h.here.lt.1
  · exact h.here.lt.2 k hk
theorem Own.allLo (h : Own A w W b o a F) : ∀ k ∈ b :: F, w.heap.size ≤ k := fun k hk => by
  rcases List.mem_cons.1 hk with rfl | hk
  · exact h.lo
  · exact h.los k hk
end
theorem apart_grow {b N : Nat} {F F' X : List Nat} (h : ∀ k ∈ b :: F, k ∉ X) (hn : ∀ k ∈ F', k ∈ F ∨ N ≤ k) (hx : ∀ k ∈ X, k < N) : ∀ k ∈ b :: F', k ∉ X := fun k hk x => by
  rcases List.mem_cons.1 hk with rfl | hk
  · exact h _ (List.mem_cons_self ..) x
  · rcases hn k hk with y | y
    · exact h k (List.mem_cons_of_mem _ y) x
    · have := hx k x; omega
structure HL (w W : World) (bh : Nat) (hp : Hp) (v : Value) (L : List Int) (F : List Nat) : Prop where
  heap : Own hpR w W bh 0 hp F
  li : OutI w W v L
  d : ∀ k ∈ bh :: F, k ∉ ownL v
section
variable {w W W' : World} {bh : Nat} {hp hp' : Hp} {v v' : Value} {L L' : List Int} {F : List Nat}
theorem HL.still (h : HL w W bh hp v L F) (hc : Chg (fun _ => False) W W') : HL w W' bh hp v L F := ⟨h.heap.still hc, h.li.still hc, h.d⟩
theorem HL.heapS (h : HL w W bh hp v L F) (hp1 : Post hpR W bh 0 hp' F W') : ∃ F', HL w W' bh hp' v L F' := by
  obtain ⟨F', h1, h2⟩ := hp1
  have hS : ∀ k, (k = bh ∨ k ∈ F) → k ∈ bh :: F := fun k x => x.elim (fun e => e ▸ List.mem_cons_self ..) (List.mem_cons_of_mem _)
  have hlo : ∀ k, (k = bh ∨ k ∈ F) → w.heap.size ≤ k := fun k x => h.heap.allLo k (hS k x)
  exact ⟨F', h.heap.step h1 h2, h.li.other h2.chg (fun k hk x => h.d k (hS k x) (mem_ownL.2 hk)) (fun k hk x => by have := hlo k x; omega),
    apart_grow h.d h2.new (fun k hk => h.li.row.lt k (mem_ownL.1 hk))⟩
theorem HL.liS (h : HL w W bh hp v L F) (hc : Chg (fun k => v.ownBlock = some k) W W') (ho : OutI w W' v' L') (hold : ∀ k, v'.ownBlock = some k → v.ownBlock = some k ∨ W.heap.size ≤ k) : HL w W' bh hp v' L' F :=
  ⟨h.heap.beside hc (fun k hk x => h.d k hk (mem_ownL.2 x)) h.li.lo, ho, fun k hk x => by
    rcases hold k (mem_ownL.1 x) with y | y
    · exact h.d k hk (mem_ownL.2 y)
    · have := h.heap.allLt k hk; omega⟩
theorem HL.of (h : Own hpR w W bh 0 hp F) : HL w W bh hp (.slice none 0 0) [] F :=
  ⟨h, ⟨RowAt.nil _ _ _, fun k hk => by simp [Value.ownBlock] at hk, h.chg⟩, fun k hk x => by simp [ownL, Value.ownBlock] at x⟩
end
end Go.Proofs.YtjianickjahdnaaDoor
namespace Go.Proofs.YtjianickjahdnaaDoor
open Go.RowKit
set_option linter.unusedVariables false
set_option linter.unusedSimpArgs false

theorem elem_str : Elem Tryd.prog 9 1 16 := elem_of (by kernel_rfl)
def strC (l : List ByteArray) : List Value := l.map (Value.string)
theorem strC_ones (l : List ByteArray) : Ones (strC l) := fun u hu => by
  obtain ⟨x, -, rfl⟩ := List.mem_map.1 hu
  rfl
theorem strC_len (l : List ByteArray) : (strC l).length = l.length := List.length_map ..
/-- A list of strings, made behind w0. -/
structure OutS (w0 w : World) (v : Value) (l : List ByteArray) : Prop where
  row : RowAt w 9 1 v l.length (strC l)
  lo : ∀ k, v.ownBlock = some k → w0.heap.size ≤ k
  chg : Chg (fun _ => False) w0 w
section
variable {w0 w w1 w2 : World} {v : Value} {l m : List ByteArray}
theorem OutS.nil (w : World) : OutS w w (.slice none 0 0) [] := ⟨RowAt.nil _ _ _, fun k hk => by simp [Value.ownBlock] at hk, Chg.refl _ _⟩
theorem OutS.still (h : OutS w0 w v l) (hc : Chg (fun _ => False) w w1) : OutS w0 w1 v l := ⟨h.row.chg hc (fun _ _ x => x), h.lo, h.chg.trans' hc⟩
theorem OutS.drew (h : OutS w0 w v l) : OutS w0 w.drew v l := h.still ((Chg.refl _ w).drewR)
theorem OutS.alloc (h : OutS w0 w v l) (o : _root_.Go.Obj) : OutS w0 (w.alloc o) v l := h.still (Chg.alloc _ w o)
theorem OutS.val (h : OutS w0 w v l) : ∃ a cap, v = .slice a l.length cap ∧ l.length ≤ cap ∧ cap ≤ maxLen := h.row.slice
theorem OutS.at (h : OutS w0 w v l) {k : Nat} (hk : k < l.length) : ∃ g off cap, v = .slice (some ⟨g, off, none⟩) l.length cap ∧ w.cell? ⟨g, off + k, none⟩ = some (.string l[k]) := by
  obtain ⟨g, off, cap, rfl, -, -⟩ := h.row.addr (by omega)
  exact ⟨g, off, cap, rfl, h.row.cellAt k _ (by simp [strC, hk])⟩
/-- Kept by what changes other blocks alone. -/
theorem OutS.other {S : Nat → Prop} (h : OutS w0 w v l) (hc : Chg S w w1) (hn : ∀ k, v.ownBlock = some k → ¬ S k) (hS : ∀ k, k < w0.heap.size → ¬ S k) : OutS w0 w1 v l :=
  ⟨h.row.chg hc hn, h.lo, h.chg.trans hc (fun _ _ x => x) (fun i hi x => hS i hi x)⟩
theorem OutS.lt (h : OutS w0 w v l) : ∀ k, v.ownBlock = some k → k < w.heap.size := h.row.lt
end
theorem OutS.from {w0 wa w : World} {v : Value} {l : List ByteArray} (h : OutS wa w v l) (hc : Chg (fun _ => False) w0 wa) : OutS w0 w v l := ⟨h.row, fun k hk => Nat.le_trans hc.size (h.lo k hk), hc.trans' h.chg⟩
/-- append in a region that draws. -/
theorem step_outS {W w0 : World} {ops : Array Oper} {o : Oper} {a : Act} {K : Act → World → Prop} {Q : Exit → Act → World → Prop} {E : Prop} (hgd : o.guard = none) (s x : Operand)
    (ho : o.op = .call { callee := .builtin .append, args := #[s, x], argTypes := #[56, 56] })
    (v : Value) (l : List ByteArray) (hsv : a.eval s = v) (H : OutS w0 W v l) (xv : Value) (m : List ByteArray) (hx : a.eval x = xv) (hxr : RowAt W 9 1 xv m.length (strC m)) (hf : Few (l.length + m.length))
    (h : ∀ a1 n1 c1 w', OutS w0 w' (.slice a1 n1 c1) (l ++ m) → Chg (fun k => v.ownBlock = some k) W w' → (∀ k, (Value.slice a1 n1 c1).ownBlock = some k → v.ownBlock = some k ∨ W.heap.size ≤ k) → K (a.put o.dst (.slice a1 n1 c1)) w') :
    if Region.wanted o (yielded ops a.tmps) = true then Oper.wp Tryd.prog o a W K Q else E := by
  refine step_append_rows hgd s x 56 ho 9 1 16 Tryd.underlying56 elem_str (by decide) v l.length (strC l) hsv H.row xv m.length (strC m) hx hxr (strC_ones m) (by have := hf.lt; unfold maxLen; omega) (by have := hf.lt; omega) ?_
  intro a1 n1 c1 w' hrow hchg hold
  refine h a1 n1 c1 w' ⟨?_, fun k hk => ?_, ?_⟩ hchg hold
  · have : strC l ++ strC m = strC (l ++ m) := by simp [strC]
    rw [List.length_append, ← this]; exact hrow
  · rcases hold k hk with x | x
    · exact H.lo k x
    · exact Nat.le_trans H.chg.size x
  · exact H.chg.trans hchg (fun _ _ x => x) (fun i hi x => by have := H.lo i x; omega)
/-- append to such a list. -/
theorem wpList_outS {W w0 : World} {ops : Array Oper} {rest : List Oper} {o : Oper} {a : Act} {Q : Exit → Act → World → Prop} (hgd : o.guard = none) (s x : Operand)
    (ho : o.op = .call { callee := .builtin .append, args := #[s, x], argTypes := #[56, 56] })
    (v : Value) (l : List ByteArray) (hsv : a.eval s = v) (H : OutS w0 W v l) (xv : Value) (m : List ByteArray) (hx : a.eval x = xv) (hxr : RowAt W 9 1 xv m.length (strC m)) (hf : Few (l.length + m.length))
    (h : ∀ a1 n1 c1 w', OutS w0 w' (.slice a1 n1 c1) (l ++ m) → Chg (fun k => v.ownBlock = some k) W w' → (∀ k, (Value.slice a1 n1 c1).ownBlock = some k → v.ownBlock = some k ∨ W.heap.size ≤ k) → wpList Tryd.prog ops Q rest (a.put o.dst (.slice a1 n1 c1)) w') :
    wpList Tryd.prog ops Q (o :: rest) a W := by
  refine list_append_rows hgd s x 56 ho 9 1 16 Tryd.underlying56 elem_str (by decide) v l.length (strC l) hsv H.row xv m.length (strC m) hx hxr (strC_ones m) (by have := hf.lt; unfold maxLen; omega) (by have := hf.lt; omega) ?_
  intro a1 n1 c1 w' hrow hchg hold
  refine h a1 n1 c1 w' ⟨?_, fun k hk => ?_, ?_⟩ hchg hold
  · have : strC l ++ strC m = strC (l ++ m) := by simp [strC]
    rw [List.length_append, ← this]; exact hrow
  · rcases hold k hk with x | x
    · exact H.lo k x
    · exact Nat.le_trans H.chg.size x
  · exact H.chg.trans hchg (fun _ _ x => x) (fun i hi x => by have := H.lo i x; omega)

structure HS (w W : World) (bh : Nat) (hp : Hp) (v : Value) (L : List ByteArray) (F : List Nat) : Prop where
  heap : Own hpR w W bh 0 hp F
  li : OutS w W v L
  d : ∀ k ∈ bh :: F, k ∉ ownL v
section
variable {w W W' : World} {bh : Nat} {hp hp' : Hp} {v v' : Value} {L L' : List ByteArray} {F : List Nat}
theorem HS.still (h : HS w W bh hp v L F) (hc : Chg (fun _ => False) W W') : HS w W' bh hp v L F := ⟨h.heap.still hc, h.li.still hc, h.d⟩
theorem HS.heapS (h : HS w W bh hp v L F) (hp1 : Post hpR W bh 0 hp' F W') : ∃ F', HS w W' bh hp' v L F' := by
  obtain ⟨F', h1, h2⟩ := hp1
  have hS : ∀ k, (k = bh ∨ k ∈ F) → k ∈ bh :: F := fun k x => x.elim (fun e => e ▸ List.mem_cons_self ..) (List.mem_cons_of_mem _)
  have hlo : ∀ k, (k = bh ∨ k ∈ F) → w.heap.size ≤ k := fun k x => h.heap.allLo k (hS k x)
  exact ⟨F', h.heap.step h1 h2, h.li.other h2.chg (fun k hk x => h.d k (hS k x) (mem_ownL.2 hk)) (fun k hk x => by have := hlo k x; omega),
    apart_grow h.d h2.new (fun k hk => h.li.row.lt k (mem_ownL.1 hk))⟩
theorem HS.liS (h : HS w W bh hp v L F) (hc : Chg (fun k => v.ownBlock = some k) W W') (ho : OutS w W' v' L') (hold : ∀ k, v'.ownBlock = some k → v.ownBlock = some k ∨ W.heap.size ≤ k) : HS w W' bh hp v' L' F :=
  ⟨h.heap.beside hc (fun k hk x => h.d k hk (mem_ownL.2 x)) h.li.lo, ho, fun k hk x => by
    rcases hold k (mem_ownL.1 x) with y | y
    · exact h.d k hk (mem_ownL.2 y)
    · have := h.heap.allLt k hk; omega⟩
theorem HS.of (h : Own hpR w W bh 0 hp F) : HS w W bh hp (.slice none 0 0) [] F :=
  ⟨h, ⟨RowAt.nil _ _ _, fun k hk => by simp [Value.ownBlock] at hk, h.chg⟩, fun k hk x => by simp [ownL, Value.ownBlock] at x⟩
end
/-- A heap, a list under construction, and rows that stay. -/
structure HK (w W : World) (bh : Nat) (hp : Hp) (F : List Nat) (v : Value) (L : List ByteArray) (R : List (Value × List ByteArray)) : Prop where
  heap : Own hpR w W bh 0 hp F
  li : OutS w W v L
  d : ∀ k ∈ bh :: F, k ∉ ownL v
  rows : ∀ r ∈ R, RowAt W 9 1 r.1 r.2.length (strC r.2) ∧ ∀ k, v.ownBlock = some k → r.1.ownBlock ≠ some k
section
variable {w W W' : World} {bh : Nat} {hp : Hp} {F : List Nat} {v v' : Value} {L L' : List ByteArray} {R : List (Value × List ByteArray)}
theorem HK.start (h : HS w W bh hp v L F) : HK w W bh hp F (.slice none 0 0) [] [(v, L)] :=
  ⟨h.heap, ⟨RowAt.nil _ _ _, fun k hk => by simp [Value.ownBlock] at hk, h.heap.chg⟩, fun k hk x => by simp [ownL, Value.ownBlock] at x, fun r hr => by
    rw [List.mem_singleton] at hr
    subst hr
    exact ⟨h.li.row, fun k hk => by simp [Value.ownBlock] at hk⟩⟩
theorem HK.still (h : HK w W bh hp F v L R) (hc : Chg (fun _ => False) W W') : HK w W' bh hp F v L R :=
  ⟨h.heap.still hc, h.li.still hc, h.d, fun r hr => ⟨(h.rows r hr).1.chg hc (fun _ _ x => x), (h.rows r hr).2⟩⟩
theorem HK.fresh (h : HK w W bh hp F (.slice none 0 0) [] R) : HK w (W.alloc (.cells #[] 9)) bh hp F (.slice (some ⟨W.heap.size, 0, none⟩) 0 0) [] R := by
  have hc := Chg.alloc (fun _ => False) W (.cells #[] 9)
  have hob : ∀ k, (Value.slice (some ⟨W.heap.size, 0, none⟩) 0 0).ownBlock = some k → k = W.heap.size := fun k hk => by simpa [Value.ownBlock, eq_comm] using hk
  refine ⟨h.heap.still hc, ⟨RowAt.fresh W _ 1 _ rfl, fun k hk => by rw [hob k hk]; exact h.heap.chg.size, h.li.chg.trans' hc⟩, fun k hk x => ?_, fun r hr => ⟨(h.rows r hr).1.chg hc (fun _ _ x => x), fun k hk e => ?_⟩⟩
  · have := hob k (mem_ownL.1 x)
    have := h.heap.allLt k hk
    omega
  · have := hob k hk
    have := (h.rows r hr).1.lt k e
    omega
theorem HK.lit (h : HK w W bh hp F v L R) (key : ByteArray) : HK w (W.alloc (.cells #[.string key] 9)) bh hp F v L ((.slice (some ⟨W.heap.size, 0, none⟩) 1 1, [key]) :: R) := by
  have hc := Chg.alloc (fun _ => False) W (.cells #[.string key] 9)
  refine ⟨h.heap.still hc, h.li.still hc, h.d, fun r hr => ?_⟩
  rcases List.mem_cons.1 hr with rfl | hr
  · refine ⟨RowAt.lit [.string key] rfl (by simp [maxLen]), fun k hk e => ?_⟩
    have h1 : W.heap.size = k := by simpa [Value.ownBlock] using e
    have := h.li.lt k hk
    omega
  · exact ⟨(h.rows r hr).1.chg hc (fun _ _ x => x), (h.rows r hr).2⟩
theorem HK.app (h : HK w W bh hp F v L R) (hc : Chg (fun k => v.ownBlock = some k) W W') (ho : OutS w W' v' L') (hold : ∀ k, v'.ownBlock = some k → v.ownBlock = some k ∨ W.heap.size ≤ k) : HK w W' bh hp F v' L' R := by
  refine ⟨h.heap.beside hc (fun k hk x => h.d k hk (mem_ownL.2 x)) h.li.lo, ho, fun k hk x => ?_, fun r hr => ⟨(h.rows r hr).1.chg hc (fun k hk x => (h.rows r hr).2 k x hk), fun k hk e => ?_⟩⟩
  · rcases hold k (mem_ownL.1 x) with y | y
    · exact h.d k hk (mem_ownL.2 y)
    · have := h.heap.allLt k hk; omega
  · rcases hold k hk with y | y
    · exact (h.rows r hr).2 k y e
    · have := (h.rows r hr).1.lt k e; omega
theorem HK.done (h : HK w W bh hp F v L R) : HS w W bh hp v L F := ⟨h.heap, h.li, h.d⟩
end
theorem strC_take (L : List ByteArray) (k : Nat) : (strC L).take k = strC (L.take k) := by unfold strC; rw [List.map_take]
theorem strC_drop (L : List ByteArray) (k : Nat) : (strC L).drop k = strC (L.drop k) := by unfold strC; rw [List.map_drop]
theorem RowAt.preS {W : World} {p : Option Addr} {n c k : Nat} {L : List ByteArray} (h : RowAt W 9 1 (.slice p n c) L.length (strC L)) (hk : k ≤ L.length) (hn : n = L.length) : RowAt W 9 1 (.slice p k c) (L.take k).length (strC (L.take k)) := by
  subst hn
  have := h.prefix hk
  rw [Nat.mul_one, strC_take] at this
  rwa [show (L.take k).length = k by rw [List.length_take]; omega]
theorem RowAt.sufS {W : World} {g off n c k : Nat} {L : List ByteArray} (h : RowAt W 9 1 (.slice (some ⟨g, off, none⟩) n c) L.length (strC L)) (hk : k ≤ L.length) (hn : n = L.length) : RowAt W 9 1 (.slice (if c = k then some ⟨g, off, none⟩ else some ⟨g, off + k, none⟩) (n - k) (c - k)) (L.drop k).length (strC (L.drop k)) := by
  subst hn
  have := h.suffix hk
  unfold reslS at this
  rw [Nat.mul_one, strC_drop, Option.map_some, show (⟨g, off, none⟩ : Addr).add k = ⟨g, off + k, none⟩ from by unfold Addr.add; split <;> simp_all] at this
  rwa [show (L.drop k).length = L.length - k by rw [List.length_drop]]
end Go.Proofs.YtjianickjahdnaaDoor
namespace Go.Proofs.YtjianickjahdnaaDoor
open Go.RowKit
set_option linter.unusedVariables false
set_option linter.unusedSimpArgs false

theorem cells_oneP (l : List Prp) : ∀ u ∈ l.flatMap Prp.cells, u.oneCell' = true := fun u hu => by
  obtain ⟨v, -, h⟩ := List.mem_flatMap.1 hu
  unfold Prp.cells at h
  simp only [List.mem_cons, List.not_mem_nil, or_false] at h
  rcases h with rfl | rfl | rfl | rfl | rfl <;> rfl
theorem flatP_take : ∀ (l : List Prp) (n : Nat), (l.flatMap Prp.cells).take (n * 5) = (l.take n).flatMap Prp.cells
  | [], n => by simp
  | a :: l, 0 => by simp
  | a :: l, n + 1 => by
    have ih := flatP_take l n
    have hl : a.cells.length = 5 := Prp.len a
    rw [List.flatMap_cons, List.take_succ_cons, List.flatMap_cons, show (n + 1) * 5 = a.cells.length + n * 5 by rw [hl]; omega, List.take_length_add_append, ih]
theorem flatP_drop : ∀ (l : List Prp) (n : Nat), (l.flatMap Prp.cells).drop (n * 5) = (l.drop n).flatMap Prp.cells
  | [], n => by simp
  | a :: l, 0 => by simp
  | a :: l, n + 1 => by
    have ih := flatP_drop l n
    have hl : a.cells.length = 5 := Prp.len a
    rw [List.flatMap_cons, List.drop_succ_cons, show (n + 1) * 5 = a.cells.length + n * 5 by rw [hl]; omega, List.drop_length_add_append, ih]
set_option maxHeartbeats 6400000 in
set_option maxRecDepth 100000 in
theorem del_not (w : World) (b : Nat) (hp : Hp) (F : List Nat) (h : Int) (i : Nat) (key : ByteArray) (H : Here hpR w b 0 hp F) (hi : -9223372036854775808 ≤ h ∧ h ≤ 9223372036854775807) (hs : slotOf hp h = some i) (hl : i < hp.slots.length) (hk : hp.slots[i].obj.kind ≠ 1)
    (hf : findP key hp.slots[i].obj.props 0 = none) :
    Calls Tryd.prog 26 #[.pointer (some ⟨b, 0, none⟩), .int .i64 h, .string key] w fun e w' => e = .returned (.bool true) ∧ Chg (fun _ => False) w w' := by
  obtain ⟨gh, oh, kh, c2, G, HOBJ0, hGF, hput⟩ := hpPut H hl
  obtain ⟨vp, ve, vd, vs, HOC⟩ := objOpen HOBJ0
  have z1 : (hp.slots[i].obj.kind == 1) = false := beq_false_of_ne hk
  have hat := hat_any _ b 0 hp F h _ H (by rw [Nat.zero_add]; exact c2) hi
  rw [hs, show objPtr (.slice (some ⟨gh, oh, none⟩) hp.slots.length kh) (some i) = some ⟨gh, oh + i * 11 + 1, none⟩ from rfl] at hat
  have HAT := Lib.hid hat
  have HC0 := Lib.hid HOC.c0
  have HC2 := Lib.hid HOC.c2
  have HRP := Lib.hid HOC.rp
  generalize hp.slots[i].obj = x at *
  have HF := Lib.hid hf
  clear HOBJ0 hGF hput HOC c2 hi hs H hk hat hf
  go_enter Tryd.func26, Tryd.ntmps26
  go_upto_region 4 with (go_at_call 35; refine HAT.out.mono ?_; rintro e wa ⟨rfl, hca⟩)
  have HC1 := Lib.hid hca
  have c0 := HC1.out.cell HC0.out
  have HPL := Lib.hid (place_any wa gh (oh + i * 11 + 1) _ x.props key (HC1.out.cell HC2.out) (HRP.out.chg HC1.out (fun _ _ x => x)))
  rw [HF.out] at HPL
  clear hca HAT
  go_upto_region 14 with (go_at_call 43; refine HPL.out.mono ?_; rintro e w5 ⟨rfl, hc5⟩)
  have HC5 := Lib.hid (HC1.out.trans' hc5)
  clear hc5 HPL c0 z1
  rw [show idxP none = -1 from rfl]
  go_wp2_with fail
  go_ret
  exact ⟨rfl, HC5.out⟩
set_option maxHeartbeats 6400000 in
set_option maxRecDepth 100000 in
theorem del_has (w : World) (b : Nat) (hp : Hp) (F : List Nat) (h : Int) (i : Nat) (key : ByteArray) (j : Nat) (H : Here hpR w b 0 hp F) (hi : -9223372036854775808 ≤ h ∧ h ≤ 9223372036854775807) (hs : slotOf hp h = some i) (hl : i < hp.slots.length) (hk : hp.slots[i].obj.kind ≠ 1)
    (hf : findP key hp.slots[i].obj.props 0 = some j) (hj : j < hp.slots[i].obj.props.length) (hlp : hp.slots[i].obj.props.length ≤ 10000) :
    Calls Tryd.prog 26 #[.pointer (some ⟨b, 0, none⟩), .int .i64 h, .string key] w fun e w' => e = .returned (.bool true) ∧ Post hpR w b 0 (putO hp i { hp.slots[i].obj with props := hp.slots[i].obj.props.take j ++ hp.slots[i].obj.props.drop (j + 1) }) F w' := by
  obtain ⟨gh, oh, kh, c2, G, HOBJ0, hGF, hput⟩ := hpPut H hl
  obtain ⟨vp, ve, vd, vs, HOC⟩ := objOpen HOBJ0
  have z1 : (hp.slots[i].obj.kind == 1) = false := beq_false_of_ne hk
  have hat := hat_any _ b 0 hp F h _ H (by rw [Nat.zero_add]; exact c2) hi
  rw [hs, show objPtr (.slice (some ⟨gh, oh, none⟩) hp.slots.length kh) (some i) = some ⟨gh, oh + i * 11 + 1, none⟩ from rfl] at hat
  have HAT := Lib.hid hat
  have HC0 := Lib.hid HOC.c0
  have HC2 := Lib.hid HOC.c2
  have HRP := Lib.hid HOC.rp
  generalize hx : hp.slots[i].obj = x at *
  have HX := Lib.hid hx
  have HF := Lib.hid hf
  have HOB := Lib.hid HOBJ0
  have HPT := Lib.hid hput
  have HBS : Hid (∀ k ∈ G, k < w.heap.size) := Lib.hid (fun k hk => H.lt.2 k (hGF k hk))
  have HJ := Lib.hid hj
  have HLE := Lib.hid hlp
  clear HOBJ0 hGF hput HOC c2 hi hs H hx hk hat hf hj hlp
  go_enter Tryd.func26, Tryd.ntmps26
  go_upto_region 4 with (go_at_call 35; refine HAT.out.mono ?_; rintro e wa ⟨rfl, hca⟩)
  have HC1 := Lib.hid hca
  have c0 := HC1.out.cell HC0.out
  have HPL := Lib.hid (place_any wa gh (oh + i * 11 + 1) _ x.props key (HC1.out.cell HC2.out) (HRP.out.chg HC1.out (fun _ _ x => x)))
  rw [HF.out] at HPL
  clear hca HAT
  go_upto_region 14 with (go_at_call 43; refine HPL.out.mono ?_; rintro e w5 ⟨rfl, hc5⟩)
  have HC5 := Lib.hid (HC1.out.trans' hc5)
  clear hc5 HPL c0 z1
  rw [show idxP (some j) = (j : Int) from rfl]
  have HOB5 := HOB.out.still HC5.out
  obtain ⟨v, c2, hr, hin, hnb, hback⟩ := HOB5.fieldFlat (f := Prp.cells) (hf := Prp.len) objR_props (by show 0 < 10; decide)
  obtain ⟨a, cap, rfl, -⟩ := hr.slice
  obtain ⟨cB, TB, hbB⟩ := HOB5.boxed
  have HD := Lib.hid (delP_any w5 _ x.props.length j (j + 1) _ hr (cells_oneP _) (by omega) HJ.out (by have := HLE.out; omega))
  rw [flatP_take, flatP_drop, ← List.flatMap_append, show x.props.length - (j + 1 - j) = x.props.length - 1 by omega] at HD
  have HBK := Lib.hid hback
  have FRZ : Hid (∀ (w2 : World), Chg (fun j => (Value.slice a x.props.length cap).ownBlock = some j) w5 w2 → w2.frozen? ⟨gh, oh + i * 11 + 1 + 2, none⟩ = false) := Lib.hid (fun w2 h1 => frozen_of_block (h1.keep hbB hnb))
  have CEL : Hid (∀ (w2 : World), Chg (fun j => (Value.slice a x.props.length cap).ownBlock = some j) w5 w2 → w2.cell? ⟨gh, oh + i * 11 + 1 + 2, none⟩ = some (.slice a x.props.length cap)) := Lib.hid (fun w2 h1 => by
    exact h1.cellS c2 hnb)
  have j0 : (0 : Int) ≤ (j : Int) := by omega
  have w64 : IntKind.i64.wrap ((j : Int) + 1) = ((j + 1 : Nat) : Int) := IntWalk.i64_in _ (by have := HLE.out; have := HJ.out; omega)
  clear hr hin hnb hback hbB HOB5
  go_upto_region 16 with (go_at_call 45; refine HD.out.mono ?_; rintro e w2 ⟨v2, rfl, hrow2, hchg2, hold2⟩; obtain ⟨a2, c2_, rfl, -⟩ := hrow2.slice; have z2 := FRZ.out _ hchg2; have z3 := CEL.out _ hchg2)
  have hP := HBK.out w2 _ (x.props.take j ++ x.props.drop (j + 1)) hchg2 (by rw [show (x.props.take j ++ x.props.drop (j + 1)).length = x.props.length - 1 by simp only [List.length_append, List.length_take, List.length_drop]; have := HJ.out; omega]; exact hrow2) (fun k hk => .inl (hold2 k hk))
  have HP := Lib.hid (HPT.out _ _ (Post.pre HC5.out hP))
  clear hP hrow2 hchg2 hold2 z2 z3
  go_wp2_with fail
  go_ret
  exact ⟨rfl, HP.out⟩
end Go.Proofs.YtjianickjahdnaaDoor
namespace Go.Proofs.YtjianickjahdnaaDoor
open Go.RowKit
set_option linter.unusedVariables false
set_option linter.unusedSimpArgs false

set_option maxHeartbeats 6400000 in
set_option maxRecDepth 100000 in
theorem keys_not (w : World) (b : Nat) (hp : Hp) (F : List Nat) (h : Int) (i : Nat) (H : Here hpR w b 0 hp F) (hi : -9223372036854775808 ≤ h ∧ h ≤ 9223372036854775807) (hs : slotOf hp h = some i) (hl : i < hp.slots.length) (hk : hp.slots[i].obj.kind ≠ 1) (hlp : hp.slots[i].obj.props.length ≤ 10000) :
    Calls Tryd.prog 27 #[.pointer (some ⟨b, 0, none⟩), .int .i64 h] w fun e w' => ∃ v', e = .returned v' ∧ OutS w w' v' (hp.slots[i].obj.props.map (·.key)) := by
  obtain ⟨gh, oh, kh, c2, G, HOBJ0, hGF, hput⟩ := hpPut H hl
  obtain ⟨vp, ve, vd, vs, HOC⟩ := objOpen HOBJ0
  have z1 : (hp.slots[i].obj.kind == 1) = false := beq_false_of_ne hk
  have hat := hat_any _ b 0 hp F h _ H (by rw [Nat.zero_add]; exact c2) hi
  rw [hs, show objPtr (.slice (some ⟨gh, oh, none⟩) hp.slots.length kh) (some i) = some ⟨gh, oh + i * 11 + 1, none⟩ from rfl] at hat
  have HAT := Lib.hid hat
  have HC0 := Lib.hid HOC.c0
  have HC2 := Lib.hid HOC.c2
  have hr := HOC.rp
  generalize hp.slots[i].obj = x at *
  obtain ⟨ad, cap, rfl, -, -⟩ := hr.slice
  have HR := Lib.hid hr
  generalize x.props = l at *
  have HL := Lib.hid hlp
  have hln : (l.length : Int) ≤ 9223372036854775807 := by omega
  clear HOBJ0 hGF hput HOC c2 hi hs H hk hat hr hlp
  go_enter Tryd.func27, Tryd.ntmps27
  go_upto_region 4 with (go_at_call 35; refine HAT.out.mono ?_; rintro e wa ⟨rfl, hca⟩)
  have HC1 := Lib.hid hca
  have c0 := HC1.out.cell HC0.out
  have c2 := HC1.out.cell HC2.out
  clear hca HAT
  go_upto_region 12 with fail
  go_loopw [6, 9, 39] (fun u6 _ u39 wr => ∃ (k : Nat) (a : Option Addr) (n c : Nat), k ≤ l.length ∧ u39 = .int .i64 k ∧ u6 = .slice a n c ∧ OutS wa wr (.slice a n c) ((l.take k).map (·.key))) (fun _ _ u _ => l.length - (intOf u).toNat)
  case atStart => exact ⟨0, none, 0, 0, by omega, rfl, rfl, OutS.nil wa⟩
  case round =>
    obtain ⟨k, a, n, c, hk, rfl, rfl, HO⟩ := hrel
    by_cases hlt : k < l.length
    · have h0 : (0 : Int) ≤ (k : Int) := by omega
      have h1 : (k : Int) < (l.length : Int) := by omega
      have hr2 := HR.out.chg (HC1.out.trans' HO.chg) (fun _ _ x => x)
      obtain ⟨g, off, cap', hv, -, -⟩ := hr2.addr (by omega)
      cases hv
      have hcell : ∀ j u, l[k].cells[j]? = some u → j < 5 → wr.cell? ⟨g, off + k * 5 + j, none⟩ = some u := fun j u hu hj => by
        rw [Nat.add_assoc]
        exact hr2.cellAt (k * 5 + j) u (by rw [flat_get _ 5 Prp.len l k j hlt hj]; exact hu)
      have e0 := hcell 0 _ rfl (by omega)
      have e1 := hcell 1 _ rfl (by omega)
      have e2 := hcell 2 _ rfl (by omega)
      have e3 := hcell 3 _ rfl (by omega)
      have e4 := hcell 4 _ rfl (by omega)
      rw [Nat.add_zero] at e0
      have w64 : IntKind.i64.wrap ((k : Int) + 1) = ((k + 1 : Nat) : Int) := IntWalk.i64_in _ (by omega)
      have HT : Hid ((l.take (k + 1)).map (·.key) = (l.take k).map (·.key) ++ [l[k].key]) := Lib.hid (by rw [List.take_succ_eq_append_getElem hlt, List.map_append]; rfl)
      have HLT := Lib.hid hlt
      have HFW : Hid (Few (((l.take k).map (·.key)).length + 1)) := Lib.hid (⟨by rw [List.length_map, List.length_take]; have := HL.out; omega⟩ : Few _)
      clear hcell hr2 hk
      generalize l[k] = z at *
      have HO1 := Lib.hid ((HO.alloc (.cells #[.string z.key, .int .i64 z.vkind, .int .i64 z.vint, .string z.vstr, .int .i64 z.vref] 86)).alloc (.cells #[.string z.key] 9))
      clear HO hlt
      go_wp2_with (first
        | (at_builtin; refine wpList_outS rfl (.tmp 43) (.tmp 46) rfl _ ((l.take k).map (·.key)) rfl HO1.out _ [z.key] rfl (RowAt.lit2 [.string z.key] rfl (by simp [maxLen])) HFW.out ?_; intro a2 n2 c2 w2 HO2 hch2 _))
      go_roundw
      case rel => exact ⟨k + 1, a2, n2, c2, HLT.out, rfl, rfl, by rw [HT.out]; exact HO2⟩
      case measure => have := HLT.out; simp [intOf, w64]; omega
    · have hk2 : k = l.length := by omega
      subst hk2
      rw [List.take_length] at HO
      have HO1 := Lib.hid HO
      clear HO hlt hk
      go_wp2_with fail
      go_ret
      exact ⟨_, rfl, HO1.out.from HC1.out⟩
end Go.Proofs.YtjianickjahdnaaDoor
namespace Go.Proofs.YtjianickjahdnaaDoor
open Go.RowKit
attribute [local go_sem] Oper.semAt_some
set_option linter.unusedVariables false
set_option linter.unusedSimpArgs false

theorem Chg.putL {S : Nat → Prop} {a b : World} (h : Chg S a b) (l : Nat) (o : _root_.Go.Obj) (hl : l < a.heap.size → S l) : Chg S a (b.putObj l o) :=
  h.trans (Chg.grown (grownBy_putObj' b l o)) (fun _ _ x => x) (fun i hi e => by cases e; exact hl hi)
/-- The contract of an iterator over a list, with one box of its own that it writes; a round may leave. -/
def SeqFind {α : Type} (F : Fence) (n : Nat) (P : Program) (g : Nat) (lb : Array Value) (encs : α → Array Value) (xs : List α) (bo : Nat) (w : World) : Prop :=
  ∀ (l : Nat) (J Jx : List α → World → Prop) (W : World), Chg (fun _ => False) w W →
    (∀ pre A B, J pre A → Chg (fun k => k = bo) A B → J pre B) →
    (∀ pre x W1, J pre W1 → (pre ++ [x]) <+: xs → Chg (fun k => k = bo) w W1 → YieldAt F (n - 1) P l (encs x) W1 fun e W' =>
      (e = .returned (.bool true) ∧ J (pre ++ [x]) W' ∧ Chg (fun k => w.heap.size ≤ k) W1 W') ∨ (e = .returned (.bool false) ∧ Jx (pre ++ [x]) W')) →
    J [] W →
    CallsIn F n P g (#[.func (.yield l) #[] #[]] ++ lb) W fun e W' => (∃ v, e = .returned v) ∧ (J xs W' ∨ ∃ pre, Jx pre W')

theorem wpIn_rangeFunc_find {F : Fence} {n : Nat} {P : Program} {α : Type} {g : Operand} {ps : Array Tmp} {assign body : Code} {Q : Exit → Act → World → Prop} {a : Act} {w : World}
    (hro : F.round = none) (h1 : 1 ≤ n) {gf : Nat} {lb : Array Value} (hg : a.eval g = .func (.func gf) #[] lb) (hFg : F.fn gf) (eg : ∀ args w, (callFunc gf args).run P w = .ok (.enter gf args) w)
    {encs : α → Array Value} {xs : List α} {bo : Nat} (hbo : bo < w.heap.size) (hseq : SeqFind F (n - 1) P gf lb encs xs bo w) (hps : ∀ x, (encs x).size = ps.size)
    (Ip : List α → Prop) (R : List α → World → Prop) (T : Nat → Prop) (hT : ∀ k, T k → k < w.heap.size)
    (hR : ∀ pre A B, R pre A → Chg (fun k => w.heap.size ≤ k) A B → R pre B)
    (h0 : Ip []) (a₁ : α → Act)
    (hassign : ∀ (l : Nat) (x : α) (W : World) (K : Act → World → Prop), K (a₁ x) W →
      assign.wpIn (F.inRound l) (n - 1 - 1) P (Exit.then K (fun _ _ _ => False)) { tmps := (ps.zip (encs x)).foldl (fun t (p, v) => t.setIfInBounds p v) a.tmps, defers := [] } W)
    (hbody : ∀ (l : Nat) (pre : List α) (x : α) (W : World), Ip pre → (pre ++ [x]) <+: xs → Chg (fun k => k = bo) w W →
      body.wpIn (F.inRound l) (n - 1 - 1) P (fun e _ W' => (e = .normal ∧ Ip (pre ++ [x]) ∧ Chg (fun _ => False) W W') ∨ (e = .ret ∧ R (pre ++ [x]) W' ∧ Chg T W W')) (a₁ x) W)
    (hdone : ∀ (D : Nat) (W : World), w.heap.size ≤ D → Ip xs → Chg (fun k => k = bo) w W → W.heap[D]? = some (.deferred (some [])) → Q .normal { a with defers := { target := .collected D, args := #[] } :: a.defers } W)
    (hstop : ∀ (D : Nat) (pre : List α) (W : World), w.heap.size ≤ D → R pre W → Chg (fun k => T k ∨ k = bo) w W → W.heap[D]? = some (.deferred (some [])) → Code.ret.wpIn F n P Q { a with defers := { target := .collected D, args := #[] } :: a.defers } W) :
    (Code.rangeFunc g ps assign body).wpIn F n P Q a w := by
  refine wpIn_rangeFunc ?_
  intro fn hfn
  rw [hro]
  obtain ⟨rec, hrec⟩ : ∃ rec : LoopState → Option Code → Loop, rec = fun st pe => { state := st, pending := pe, fn, tmps := a.tmps, params := ps, assign, body, defers := w.heap.size } := ⟨_, rfl⟩
  obtain ⟨W1, hW1⟩ : ∃ W1, (w.alloc (.deferred (some []))).alloc (.loop (rec .ready none)) = W1 := ⟨_, rfl⟩
  have hc1 : Chg (fun _ => False) w W1 := by rw [← hW1]; exact (Chg.alloc _ _ _).allocR _
  have hL1 : W1.heap[w.heap.size + 1]? = some (.loop (rec .ready none)) := by
    rw [← hW1]; have := World.alloc_heap_new (w.alloc (.deferred (some []))) (.loop (rec .ready none)); rwa [World.size_alloc] at this
  have hK1 : W1.heap[w.heap.size]? = some (.deferred (some [])) := by
    rw [← hW1]; exact (Below.heap_alloc _ _ _ (by simp)).trans (World.alloc_heap_new w _)
  refine ⟨w.heap.size + 1, [{ target := .collected w.heap.size, args := #[] }], W1, { target := .fn (.func gf) lb, args := #[.func (.yield (w.heap.size + 1)) #[] #[]] }, W1, gf,
    #[.func (.yield (w.heap.size + 1)) #[] #[]] ++ lb, W1, ?_, ?_, ?_, ?_, fun _ => h1, ?_⟩
  · rw [← hW1, hrec]; exact run_enterLoop_outer _ _ _ _ _
  · simp only [resolve, hg]
    simp [go_sem]
  · intro f' hf'; simp [Target.leads] at hf'; subst hf'; exact hFg
  · simp [invoke, go_sem, eg]
  · refine (hseq (w.heap.size + 1)
      (fun pre W => Ip pre ∧ Chg (fun k => k = bo) w W ∧ W.heap[w.heap.size + 1]? = some (.loop (rec .ready none)) ∧ W.heap[w.heap.size]? = some (.deferred (some [])))
      (fun pre W => R pre W ∧ Chg (fun k => T k ∨ k = bo) w W ∧ W.heap[w.heap.size + 1]? = some (.loop (rec .done (some .ret))) ∧ W.heap[w.heap.size]? = some (.deferred (some [])))
      W1 hc1 (fun pre A B hj hc => ⟨hj.1, hj.2.1.trans' hc, hc.keep hj.2.2.1 (by omega), hc.keep hj.2.2.2 (by omega)⟩) ?_ ⟨h0, hc1.mono (fun _ _ x => x.elim), hL1, hK1⟩).mono ?_
    · rintro pre x W ⟨hi, hcw, hl, hk⟩ hpre -
      have hlt : w.heap.size + 1 < W.heap.size := (Array.getElem?_eq_some_iff.1 hl).1
      have hy := run_yield (P := P) (args := encs x) hl (by rw [hrec]; exact hps x)
      rw [hrec] at hy
      refine ⟨fn, _, assign, body, hy, roundIn_of_wpIn hfn (hassign _ x W _ ⟨_, run_beginRound hl (by rw [hrec]), ?_⟩)⟩
      have hl2 : (W.putObj (w.heap.size + 1) (.loop { rec .ready none with state := .busy })).heap[w.heap.size + 1]? = some (.loop { rec .ready none with state := .busy }) := World.putObj_heap_same hlt
      have hk2 : (W.putObj (w.heap.size + 1) (.loop { rec .ready none with state := .busy })).heap[w.heap.size]? = some (.deferred (some [])) := (World.putObj_heap_other (by omega)).trans hk
      have hcb : Chg (fun k => w.heap.size ≤ k) W (W.putObj (w.heap.size + 1) (.loop { rec .ready none with state := .busy })) := (Chg.refl _ W).putL _ _ (fun _ => by omega)
      have hcb2 : Chg (fun k => k = bo) w (W.putObj (w.heap.size + 1) (.loop { rec .ready none with state := .busy })) := hcw.putL _ _ (fun h => by omega)
      refine wpIn_mono (hbody _ pre x _ hi hpre hcb2) ?_
      rintro e a3 W3 (⟨rfl, hi3, hc3⟩ | ⟨rfl, hr3, hc3⟩)
      · have hl3 := hc3.keep hl2 (fun x => x)
        have hk3 := hc3.keep hk2 (fun x => x)
        have hr := run_endRound (P := P) none hl3
        have hlt3 := (Array.getElem?_eq_some_iff.1 hl3).1
        rw [hrec] at hr
        refine ⟨_, _, hr, .inl ⟨rfl, ⟨hi3, (hcb2.trans hc3 (fun _ _ x => x) (fun _ _ x => x.elim)).putL _ _ (fun h => by omega), ?_, (World.putObj_heap_other (by omega)).trans hk3⟩, (hcb.trans hc3 (fun _ _ x => x) (fun _ _ x => x.elim)).putL _ _ (fun _ => by omega)⟩⟩
        rw [hrec]; exact World.putObj_heap_same hlt3
      · have hl3 := hc3.keep hl2 (fun x => by have := hT _ x; omega)
        have hk3 := hc3.keep hk2 (fun x => by have := hT _ x; omega)
        have hr := run_endRound (P := P) (some .ret) hl3
        have hlt3 := (Array.getElem?_eq_some_iff.1 hl3).1
        rw [hrec] at hr
        refine ⟨_, _, hr, .inr ⟨rfl, hR _ _ _ hr3 ((Chg.refl _ W3).putL _ _ (fun _ => by omega)), (hcb2.trans hc3 (fun _ _ x => .inr x) (fun _ _ x => .inl x)).putL _ _ (fun h => by omega), ?_, (World.putObj_heap_other (by omega)).trans hk3⟩⟩
        rw [hrec]; exact World.putObj_heap_same hlt3
    · rintro e W2 ⟨⟨v, rfl⟩, (⟨hi, hc, hl, hk⟩ | ⟨pre, hi, hc, hl, hk⟩)⟩
      · exact ⟨none, _, by have := run_endLoop (P := P) hl (by rw [hrec]; simp); rw [hrec] at this; exact this, hdone _ _ (Nat.le_refl _) hi (hc.putL _ _ (fun h => by omega)) ((World.putObj_heap_other (by omega)).trans hk)⟩
      · exact ⟨some .ret, _, by have := run_endLoop (P := P) hl (by rw [hrec]; simp); rw [hrec] at this; exact this, hstop _ pre _ (Nat.le_refl _) (hR _ _ _ hi ((Chg.refl _ W2).putL _ _ (fun _ => by omega))) (hc.putL _ _ (fun h => by omega)) ((World.putObj_heap_other (by omega)).trans hk)⟩
end Go.Proofs.YtjianickjahdnaaDoor
namespace Go.Proofs.YtjianickjahdnaaDoor
open Go.RowKit
set_option linter.unusedVariables false
set_option linter.unusedSimpArgs false

/-- The handles of a prototype chain. -/
def chainM (hp : Hp) : Nat → Int → List Int
  | 0, _ => []
  | n + 1, o => match slotOf hp o with
    | none => []
    | some i => o :: chainM hp n (hp.slots.getD i noSlt).obj.proto
theorem chainM_none {hp : Hp} {o : Int} (h : slotOf hp o = none) : ∀ n, chainM hp n o = []
  | 0 => rfl
  | n + 1 => by unfold chainM; rw [h]
theorem chainM_some {hp : Hp} {o : Int} {i : Nat} (h : slotOf hp o = some i) (hi : i < hp.slots.length) (n : Nat) : chainM hp (n + 1) o = o :: chainM hp n hp.slots[i].obj.proto := by
  conv => lhs; unfold chainM
  rw [h]
  simp only
  rw [List.getD_eq_getElem?_getD, List.getElem?_eq_getElem hi]
  rfl
def InJ (h : Int) : Prop := -9223372036854775808 ≤ h ∧ h ≤ 9223372036854775807

set_option maxHeartbeats 800000 in
set_option maxRecDepth 100000 in
theorem chain_any (w : World) (p : Option Addr) (o : Int) :
    Calls Tryd.prog 36 #[.pointer p, .int .i64 o] w fun e w' => e = .returned (.func (.func 52) #[] #[.pointer (some ⟨w.heap.size, 0, none⟩), .pointer (some ⟨w.heap.size + 1, 0, none⟩)]) ∧ w' = (w.alloc (.cells #[.pointer p] 73)).alloc (.cells #[.int .i64 o] 3) := by
  go_enter Tryd.func36, Tryd.ntmps36
  go_wp2_with fail
  go_ret
  exact ⟨rfl, rfl⟩

set_option maxHeartbeats 6400000 in
set_option maxRecDepth 100000 in
theorem chain1_find (nf : Nat) (w : World) (bh : Nat) (hp : Hp) (F : List Nat) (b1 bo T1 : Nat) (o : Int) (H : Here hpR w bh 0 hp F) (hb1 : w.heap[b1]? = some (.cells #[.pointer (some ⟨bh, 0, none⟩)] T1 (0, 0)))
    (hb2 : w.heap[bo]? = some (.cells #[.int .i64 o] 3 (0, 0))) (h12 : b1 ≠ bo) (hbF : bo ∉ F) (hbb : bh ≠ bo) (ho : InJ o) (hpr : ∀ s (hs : s < hp.slots.length), InJ hp.slots[s].obj.proto) :
    SeqFind Fence.wide nf Tryd.prog 52 #[.pointer (some ⟨b1, 0, none⟩), .pointer (some ⟨bo, 0, none⟩)] (fun h : Int => #[.int .i64 h]) (chainM hp 100001 o) bo w := by
  intro l J Jx W0 hc0 hJ hY hJ0
  refine callsIn_wide.2 ?_
  have HH := Lib.hid H
  have HB1 := Lib.hid hb1
  have HB2 := Lib.hid (hc0.keep hb2 (fun x => x))
  have HNE := Lib.hid (show bo ∉ F ∧ bh ≠ bo ∧ b1 ≠ bo from ⟨hbF, hbb, h12⟩)
  have HPR := Lib.hid hpr
  have HYY := Lib.hid hY
  have HJJ := Lib.hid hJ
  have HJ0 := Lib.hid hJ0
  have HO := Lib.hid ho
  have HLB := Lib.hid (lt_of_block hb2)
  have HC0 : Hid (Chg (fun k => k = bo) w W0) := Lib.hid (hc0.mono (fun _ _ x => x.elim))
  obtain ⟨xs, hxs⟩ : ∃ xs, chainM hp 100001 o = xs := ⟨_, rfl⟩
  rw [hxs] at HYY
  rw [hxs]
  have HXS := Lib.hid hxs
  clear H hb1 hb2 h12 hbF hbb ho hpr hY hJ hJ0 hc0 hxs
  show Calls Tryd.prog 52 #[.func (.yield l) #[] #[], .pointer (some ⟨b1, 0, none⟩), .pointer (some ⟨bo, 0, none⟩)] W0 _
  go_enter Tryd.func52, Tryd.ntmps52
  go_wp2_with fail
  go_loopw [4, 5] (fun _ u5 wr => ∃ (i : Nat) (pre : List Int) (cur : Int), i ≤ 100001 ∧ u5 = .int .i64 i ∧ Hid (InJ cur) ∧ Hid (pre ++ chainM hp (100001 - i) cur = xs) ∧ Hid (J pre wr) ∧ Hid (Chg (fun k => k = bo) w wr) ∧ Hid (wr.heap[bo]? = some (.cells #[.int .i64 cur] 3 (0, 0)))) (fun _ u5 _ => 100001 - (intOf u5).toNat)
  case atStart => exact ⟨0, [], o, by omega, rfl, HO, HXS, HJ0, HC0, HB2⟩
  case round =>
    obtain ⟨i, pre, cur, hi, rfl, HCI, HPX, HJP, HCW, HBO⟩ := hrel
    clear HJ0 HC0 HB2 HXS
    by_cases hlt : i < 100001
    · have i0 : (0 : Int) ≤ (i : Int) := by omega
      have i1 : (i : Int) < 100001 := by omega
      have w64 : IntKind.i64.wrap ((i : Int) + 1) = ((i + 1 : Nat) : Int) := IntWalk.i64_in _ (by omega)
      have HLT := Lib.hid hlt
      have HR : Hid (Here hpR wr bh 0 hp F) := Lib.hid (HH.out.chg HCW.out HNE.out.2.1 (fun k hk e => HNE.out.1 (e ▸ hk)))
      have hb1r := HCW.out.keep HB1.out HNE.out.2.2
      have k1 := cell_of_block (i := 0) hb1r rfl
      have k2 := cell_of_block (i := 0) HBO.out rfl
      simp only [List.getElem_toArray, List.getElem_cons_zero] at k1 k2
      obtain ⟨-, -, ⟨as_, cs_, c2⟩, -⟩ := hpCells HR.out
      obtain ⟨q, hq⟩ : ∃ q, 100001 - i = q + 1 := ⟨100000 - i, by omega⟩
      rw [hq] at HPX
      have HQ := Lib.hid hq
      clear hi hlt hb1r hq
      cases hs : slotOf hp cur with
      | none =>
        have hat := hat_any wr bh 0 hp F cur _ HR.out c2 HCI.out
        rw [hs, objPtr_none] at hat
        have HAT := Lib.hid hat
        rw [chainM_none hs, List.append_nil] at HPX
        clear hat hs c2
        go_wp2_with (go_at_call 35; refine HAT.out.mono ?_; rintro e wa ⟨rfl, hca⟩)
        refine bodyPost_ret (results_none rfl _ _ _) rfl ?_
        have hj := HJJ.out _ _ _ HJP.out (hca.mono (fun _ _ x => x.elim))
        rw [HPX.out] at hj
        exact ⟨⟨_, rfl⟩, .inl hj⟩
      | some s =>
        obtain ⟨hsl, -, -⟩ := slotOf_lt hs
        rw [chainM_some hs hsl] at HPX
        obtain ⟨gh, oh, kh, chw, G, HOBJ0, -, -⟩ := hpPut HH.out hsl
        have ch := HCW.out.cellS chw HNE.out.2.1
        have hat := hat_any wr bh 0 hp F cur _ HR.out (by rw [Nat.zero_add]; exact ch) HCI.out
        rw [hs, show objPtr (.slice (some ⟨gh, oh, none⟩) hp.slots.length kh) (some s) = some ⟨gh, oh + s * 11 + 1, none⟩ from rfl] at hat
        have HAT := Lib.hid hat
        have HCH := Lib.hid chw
        have HIN := Lib.hid (HPR.out s hsl)
        have HSL := Lib.hid hsl
        clear hat hs ch chw HOBJ0 c2
        go_upto_region 3 with (go_at_call 35; refine HAT.out.mono ?_; rintro e wa ⟨rfl, hca⟩)
        have HJA := Lib.hid (HJJ.out _ _ _ HJP.out (hca.mono (fun _ _ x => x.elim)))
        have HCA := Lib.hid (HCW.out.trans hca (fun _ _ x => x) (fun _ _ x => x.elim))
        have HBA := Lib.hid (hca.keep HBO.out (fun x => x))
        have k1 := hca.cell k1
        have k2 := hca.cell k2
        clear hca HAT HJP HCW HBO HR
        obtain ⟨fn, tmps, assign, body, hy, hR⟩ := HYY.out pre cur wa HJA.out ⟨chainM hp q hp.slots[s].obj.proto, by rw [List.append_assoc]; exact HPX.out⟩ HCA.out
        refine (wpIn_wide (n := nf) (P := Tryd.prog)).1 ?_
        gi_wp2
        refine ⟨fun h => (by cases h), ?_⟩
        refine hR.mono ?_
        rintro e Wr (⟨rfl, hJr, hcr⟩ | ⟨rfl, hxr⟩)
        · have HJR := Lib.hid hJr
          have HCR := Lib.hid (HCA.out.trans hcr (fun _ _ x => x) (fun i hi x => by omega))
          have hlbo := HLB.out
          have HBR := Lib.hid (hcr.keep HBA.out (by omega))
          have HRR : Hid (Here hpR Wr bh 0 hp F) := Lib.hid (HH.out.chg HCR.out HNE.out.2.1 (fun k hk e => HNE.out.1 (e ▸ hk)))
          obtain ⟨gh', oh', kh', ch', G, HOBJ, -, -⟩ := hpPut HRR.out HSL.out
          rw [HCR.out.cellS HCH.out HNE.out.2.1] at ch'
          cases ch'
          obtain ⟨vp, ve, vd, vs, HOC⟩ := objOpen HOBJ
          have p1 := HOC.c1
          have kb := cell_of_block (i := 0) HBR.out rfl
          have fb := frozen_of_block (i := 0) HBR.out
          simp only [List.getElem_toArray, List.getElem_cons_zero] at kb
          have hbs := setCell_block (i := 0) (.int .i64 hp.slots[s].obj.proto) HBR.out
          have HBS := Lib.hid hbs
          clear hJr hcr hlbo HOBJ HOC k1 k2 hbs
          gi_wp2
          go_wp2_with fail
          go_roundw
          case rel => exact ⟨i + 1, pre ++ [cur], hp.slots[s].obj.proto, by have := HLT.out; omega, rfl, HIN, Lib.hid (by rw [show 100001 - (i + 1) = q by have := HQ.out; omega, List.append_assoc]; exact HPX.out), Lib.hid (HJJ.out _ _ _ HJR.out (Chg.setCell Wr ⟨bo, 0, none⟩ _)), Lib.hid (HCR.out.setCellR _ _ (fun _ => rfl)), HBS⟩
          case measure => have := HLT.out; simp [intOf, w64]; omega
        · gi_wp2
          go_wp2_with fail
          refine bodyPost_ret (results_none rfl _ _ _) rfl ?_
          exact ⟨⟨_, rfl⟩, .inr ⟨_, hxr⟩⟩
    · have hie : i = 100001 := by omega
      subst hie
      rw [show 100001 - 100001 = 0 from rfl, show chainM hp 0 cur = [] from rfl, List.append_nil] at HPX
      clear hlt hi
      go_wp2_with fail
      go_end0
      have hj := HJP.out
      rw [HPX.out] at hj
      exact ⟨⟨_, rfl⟩, .inl hj⟩
end Go.Proofs.YtjianickjahdnaaDoor
