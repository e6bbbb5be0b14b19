/-
  heap.resize.
  heap.Put of an array.
  heap.Lookup over objects that are no arrays.
  heap.Link.
  heap.Put of an array's element.
-/
import Derived.Test.YtjianickjahdnaaDoorPHeapKeysg
import Derived.Test.YtjianickjahdnaaDoorPHeapKeysd
import Derived.Test.YtjianickjahdnaaDoorPHeapKeysf
import Derived.Test.YtjianickjahdnaaDoorPHeapKeysa
import Derived.Test.YtjianickjahdnaaDoorPHeapKeyse
namespace Go.Proofs.YtjianickjahdnaaDoor
open Go.RowKit
set_option linter.unusedVariables false
set_option linter.unusedSimpArgs false

def zeroV : Val := ⟨0, 0, ⟨#[]⟩, 0⟩
/-- A list of another length: cut, or with zeros behind it. -/
def resizeL (l : List Val) (n : Nat) : List Val := l.take n ++ List.replicate (n - l.length) zeroV
theorem resizeL_len (l : List Val) (n : Nat) : (resizeL l n).length = n := by
  unfold resizeL
  rw [List.length_append, List.length_take, List.length_replicate]; omega
theorem cells_one (l : List Val) : ∀ u ∈ l.flatMap Val.cells, u.oneCell' = true := fun u hu => by
  obtain ⟨v, -, h⟩ := List.mem_flatMap.1 hu
  unfold Val.cells at h
  simp only [List.mem_cons, List.not_mem_nil, or_false] at h
  rcases h with rfl | rfl | rfl | rfl <;> rfl
theorem flat_take : ∀ (l : List Val) (n : Nat), (l.flatMap Val.cells).take (n * 4) = (l.take n).flatMap Val.cells
  | [], n => by simp
  | a :: l, 0 => by simp
  | a :: l, n + 1 => by
    have ih := flat_take l n
    have hl : a.cells.length = 4 := Val.len a
    rw [List.flatMap_cons, List.take_succ_cons, List.flatMap_cons, show (n + 1) * 4 = a.cells.length + n * 4 by rw [hl]; omega, List.take_length_add_append, ih]
theorem rep_flat (m : Nat) : (List.replicate m zeroV.cells).flatten = (List.replicate m zeroV).flatMap Val.cells := by
  induction m with
  | zero => rfl
  | succ m ih => rw [List.replicate_succ, List.replicate_succ, List.flatten_cons, List.flatMap_cons, ih]
set_option maxHeartbeats 6400000 in
set_option maxRecDepth 100000 in
theorem resize_any (w : World) (g o : Nat) (x : Obj) (G : List Nat) (n : Nat) (H : Here objR w g o x G) (hl : x.elems.length ≤ 20000) (hn : n ≤ 20000) :
    Calls Tryd.prog 44 #[.pointer (some ⟨g, o, none⟩), .int .i64 (n : Int)] w fun e w' => e = .returned (.tuple #[]) ∧ Post objR w g o { x with elems := resizeL x.elems n } G w' := by
  obtain ⟨v, c3, hr, hin, hnb, hback⟩ := H.fieldFlat (f := Val.cells) (hf := Val.len) objR_elems (by show 0 < 10; decide)
  obtain ⟨a, cap, rfl, -⟩ := hr.slice
  obtain ⟨cB, TB, hbB⟩ := H.boxed
  generalize hle : x.elems = l at *
  have HBK := Lib.hid hback
  have HR := Lib.hid hr
  have HNB := Lib.hid hnb
  have HC1 := Lib.hid (cells_one l)
  have HL : Hid (l.length ≤ 1000000) := Lib.hid (by omega)
  have HS0 : Hid (w.cell? ⟨g, o + 3, none⟩ = some (.slice a l.length cap)) := Lib.hid c3
  have FRZ : Hid (∀ (w2 wD : World), Chg (fun _ => False) w wD → Chg (fun j => (Value.slice a l.length cap).ownBlock = some j) wD w2 → w2.frozen? ⟨g, o + 3, none⟩ = false) := Lib.hid (fun w2 wD h1 h2 => frozen_of_block (h2.keep (h1.keep hbB (fun x => x)) HNB.out))
  have n0 : (0 : Int) ≤ (n : Int) := by omega
  clear hback hr hnb hin hbB hle H
  by_cases hnl : n ≤ l.length
  · have HNL := Lib.hid hnl
    have hd : (n : Int) ≤ (l.length : Int) := by omega
    have HRL : Hid ((l.flatMap Val.cells).take (n * 4) ++ (l.flatMap Val.cells).drop (l.length * 4) = (resizeL l n).flatMap Val.cells) := Lib.hid (by
      have hll : (l.flatMap Val.cells).length = l.length * 4 := HR.out.1
      unfold resizeL
      rw [flat_take, List.drop_of_length_le (by omega), List.append_nil, show n - l.length = 0 by omega]
      simp)
    clear hnl hl hn
    go_enter Tryd.func44, Tryd.ntmps44
    go_upto_region 1 with fail
    clear c3
    refine wp_region_held_split 14 (fun w' => w'.cell? ⟨g, o + 3, none⟩ = some (.slice a l.length cap)) (by kernel_rfl) (by kernel_rfl) ?_ (fun hHeld => ?_)
    · (first | exact HS0.out | exact HKS.out _ (Chg.refl _ _) | exact cc2)
    simp only [List.take_succ_cons, List.take_zero]
    have HKS : Hid (∀ W, Chg (fun _ => False) w.drew W → W.cell? ⟨g, o + 3, none⟩ = some (.slice a l.length cap)) := Lib.hid (fun W hc => hc.cell HS0.out)
    have HWD : Hid (Chg (fun _ => False) w w.drew) := Lib.hid (Chg.refl _ w).drewR
    generalize w.drew = wD at *
    refine wpAnyH_take (i := 0) (v := ?_) rfl (by kernel_rfl) (by kernel_rfl) (by kernel_rfl) (fun _ _ _ h => h) (Or.inl ⟨by rfl, ?_⟩) (by assumption) ?_
    rotate_left
    · (intro wq hSw; (try dsimp only at hSw); go_simp; (try with_reducible rfl))
    simp only [Act.put, List.getElem_toArray, List.getElem_cons_zero, List.getElem_cons_succ, List.setIfInBounds_toArray, List.set_cons_zero, List.set_cons_succ]
    refine wpAnyH_take (i := 1) (v := ?_) rfl (by kernel_rfl) (by kernel_rfl) (by kernel_rfl) (fun _ _ _ h => h) (Or.inl ⟨by rfl, ?_⟩) (by assumption) ?_
    rotate_left
    · (intro wq hSw; (try dsimp only at hSw); go_simp; (try with_reducible rfl))
    simp only [Act.put, List.getElem_toArray, List.getElem_cons_zero, List.getElem_cons_succ, List.setIfInBounds_toArray, List.set_cons_zero, List.set_cons_succ]
    refine wpAnyH_take (i := 2) (v := ?_) rfl (by kernel_rfl) (by kernel_rfl) (by kernel_rfl) (fun _ _ _ h => h) (Or.inl ⟨by rfl, ?_⟩) (by assumption) ?_
    rotate_left
    · (intro wq hSw; (try dsimp only at hSw); go_simp; (try with_reducible rfl))
    simp only [Act.put, List.getElem_toArray, List.getElem_cons_zero, List.getElem_cons_succ, List.setIfInBounds_toArray, List.set_cons_zero, List.set_cons_succ]
    refine wpAnyH_take (i := 3) (v := ?_) rfl (by kernel_rfl) (by kernel_rfl) (by kernel_rfl) (fun _ _ _ h => h) (Or.inl ⟨by rfl, ?_⟩) (by assumption) ?_
    rotate_left
    · (intro wq hSw; (try dsimp only at hSw); go_simp; (try with_reducible rfl))
    simp only [Act.put, List.getElem_toArray, List.getElem_cons_zero, List.getElem_cons_succ, List.setIfInBounds_toArray, List.set_cons_zero, List.set_cons_succ]
    refine wpAnyH_take (i := 4) (v := ?_) rfl (by kernel_rfl) (by kernel_rfl) (by kernel_rfl) (fun _ _ _ h => h) (Or.inl ⟨by rfl, ?_⟩) (by assumption) ?_
    rotate_left
    · (intro wq hSw; (try dsimp only at hSw); go_simp; (try with_reducible rfl))
    simp only [Act.put, List.getElem_toArray, List.getElem_cons_zero, List.getElem_cons_succ, List.setIfInBounds_toArray, List.set_cons_zero, List.set_cons_succ]
    refine wpAnyH_take (i := 5) (v := ?_) rfl (by kernel_rfl) (by kernel_rfl) (by kernel_rfl) (fun _ _ _ h => h) (Or.inl ⟨by rfl, ?_⟩) (by assumption) ?_
    rotate_left
    · (intro wq hSw; (try dsimp only at hSw); go_simp; (try with_reducible rfl))
    simp only [Act.put, List.getElem_toArray, List.getElem_cons_zero, List.getElem_cons_succ, List.setIfInBounds_toArray, List.set_cons_zero, List.set_cons_succ]
    refine wpAnyH_take (i := 6) (v := ?_) rfl (by kernel_rfl) (by kernel_rfl) (by kernel_rfl) (fun _ _ _ h => h) (Or.inl ⟨by rfl, ?_⟩) (by assumption) ?_
    rotate_left
    · (intro wq hSw; (try dsimp only at hSw); go_simp; (try with_reducible rfl))
    simp only [Act.put, List.getElem_toArray, List.getElem_cons_zero, List.getElem_cons_succ, List.setIfInBounds_toArray, List.set_cons_zero, List.set_cons_succ]
    refine wpAnyH_take (i := 7) (v := ?_) rfl (by kernel_rfl) (by kernel_rfl) (by kernel_rfl) (fun _ _ _ h => h) (Or.inl ⟨by rfl, ?_⟩) (by assumption) ?_
    rotate_left
    · (intro wq hSw; (try dsimp only at hSw); go_simp; (try with_reducible rfl))
    simp only [Act.put, List.getElem_toArray, List.getElem_cons_zero, List.getElem_cons_succ, List.setIfInBounds_toArray, List.set_cons_zero, List.set_cons_succ]
    refine wpAnyH_take (i := 8) (v := ?_) rfl (by kernel_rfl) (by kernel_rfl) (by kernel_rfl) (fun _ _ _ h => h) (Or.inl ⟨by rfl, ?_⟩) (by assumption) ?_
    rotate_left
    · (intro wq hSw; (try dsimp only at hSw); go_simp; (try with_reducible rfl))
    simp only [Act.put, List.getElem_toArray, List.getElem_cons_zero, List.getElem_cons_succ, List.setIfInBounds_toArray, List.set_cons_zero, List.set_cons_succ]
    refine wpAnyH_take (i := 9) (v := ?_) rfl (by kernel_rfl) (by kernel_rfl) (by kernel_rfl) (fun _ _ _ h => h) (Or.inl ⟨by rfl, ?_⟩) (by assumption) ?_
    rotate_left
    · (intro wq hSw; (try dsimp only at hSw); go_simp; (try with_reducible rfl))
    simp only [Act.put, List.getElem_toArray, List.getElem_cons_zero, List.getElem_cons_succ, List.setIfInBounds_toArray, List.set_cons_zero, List.set_cons_succ]
    refine wpAnyH_take (i := 10) (v := ?_) rfl (by kernel_rfl) (by kernel_rfl) (by kernel_rfl) (fun _ _ _ h => h) (Or.inl ⟨by rfl, ?_⟩) (by assumption) ?_
    rotate_left
    · (intro wq hSw; (try dsimp only at hSw); go_simp; (try with_reducible rfl))
    simp only [Act.put, List.getElem_toArray, List.getElem_cons_zero, List.getElem_cons_succ, List.setIfInBounds_toArray, List.set_cons_zero, List.set_cons_succ]
    refine wpAnyH_ready (rs := [11]) (by kernel_rfl) (by simp) ?_
    refine AllReadyH.cons (by simp only [List.getElem?_toArray, List.getElem?_cons_succ, List.getElem?_cons_zero]; rfl) (fun K hK => ?_) AllReadyH.nil
    (go_simp; go_at_call 59; refine (delV_any wD (.slice a l.length cap) l.length n l.length (l.flatMap Val.cells) (HR.out.chg HWD.out (fun _ _ x => x)) HC1.out HNL.out (Nat.le_refl _) HL.out).mono ?_; rintro _ w2 ⟨v2, rfl, hrow2, hchg2, hold2⟩; have cc2 := hchg2.cellS (HKS.out _ (Chg.refl _ _)) HNB.out; obtain ⟨a2, c2_, rfl, -⟩ := hrow2.slice; have f2 : w2.frozen? ⟨g, o + 3, none⟩ = false := FRZ.out w2 _ HWD.out hchg2; go_simp)
    refine hK.out _ _ ?_ (fun hHeld => ?_)
    · (first | exact HS0.out | exact HKS.out _ (Chg.refl _ _) | exact cc2)
    clear hK K
    (try simp only [Act.put, List.getElem_toArray, List.getElem_cons_zero, List.getElem_cons_succ, List.setIfInBounds_toArray, List.set_cons_zero, List.set_cons_succ])
    refine wpAnyH_take (i := 12) (v := ?_) rfl (by kernel_rfl) (by kernel_rfl) (by kernel_rfl) (fun _ _ _ h => h) (Or.inl ⟨by rfl, ?_⟩) (by assumption) ?_
    rotate_left
    · (intro wq hSw; (try dsimp only at hSw); go_simp; (try with_reducible rfl))
    simp only [Act.put, List.getElem_toArray, List.getElem_cons_zero, List.getElem_cons_succ, List.setIfInBounds_toArray, List.set_cons_zero, List.set_cons_succ]
    refine wpAnyH_take (i := 13) (v := ?_) rfl (by kernel_rfl) (by kernel_rfl) (by kernel_rfl) (fun _ _ _ h => h) (Or.inl ⟨by rfl, ?_⟩) (by assumption) ?_
    rotate_left
    · (intro wq hSw; (try dsimp only at hSw); go_simp; (try with_reducible rfl))
    simp only [Act.put, List.getElem_toArray, List.getElem_cons_zero, List.getElem_cons_succ, List.setIfInBounds_toArray, List.set_cons_zero, List.set_cons_succ]
    refine wpAnyH_done (by kernel_rfl) ?_ _
    change wpList _ _ _ _ _ _
    simp only [List.drop_succ_cons, List.drop_zero]
    have hP := HBK.out w2 (.slice a2 (l.length - (l.length - n)) c2_) (resizeL l n) (HWD.out.trans hchg2 (fun _ _ x => x.elim) (fun _ _ x => x)) (by rw [← HRL.out, resizeL_len, show l.length - (l.length - n) = n by have := HNL.out; omega]; rwa [show l.length - (l.length - n) = n by have := HNL.out; omega] at hrow2) (fun j hj => .inl (hold2 j hj))
    have HP := Lib.hid hP
    clear hP hHeld hrow2 hchg2 hold2
    go_wp2_with fail
    refine bodyPost_ret (results_none rfl _ _ _) rfl ?_
    exact ⟨rfl, HP.out⟩
  · obtain ⟨m, hm⟩ : ∃ m, n = l.length + m := ⟨n - l.length, by omega⟩
    subst hm
    have hd : ¬ ((l.length + m : Nat) : Int) ≤ (l.length : Int) := by omega
    have hd2 : ¬ (l.length : Int) + (m : Int) ≤ (l.length : Int) := by omega
    have wm : IntKind.i64.wrap (((l.length + m : Nat) : Int) - (l.length : Int)) = (m : Int) := by rw [show (((l.length + m : Nat) : Int) - (l.length : Int)) = (m : Int) by omega]; exact IntWalk.i64_in _ (by omega)
    have wm2 : IntKind.i64.wrap ((l.length : Int) + (m : Int) - (l.length : Int)) = (m : Int) := by rw [show ((l.length : Int) + (m : Int) - (l.length : Int)) = (m : Int) by omega]; exact IntWalk.i64_in _ (by omega)
    have wm3 : IntKind.i64.wrap (m : Int) = (m : Int) := IntWalk.i64_in _ (by omega)
    have HM := Lib.hid hn
    obtain ⟨i0, z, hi, hz, hsz, hby, hzs, hzl⟩ := elemZ_val
    have HZO := Lib.hid (show ∀ u ∈ z.cells.toList, u.oneCell' = true from fun u hu => by rw [hzl] at hu; simp only [List.mem_cons, List.not_mem_nil, or_false] at hu; rcases hu with rfl | rfl | rfl | rfl <;> rfl)
    have HRL : Hid (l.flatMap Val.cells ++ (Builtin.zeroCells z.cells m).toList = (resizeL l (l.length + m)).flatMap Val.cells) := Lib.hid (by
      rw [zeroCells_rep hzl (by decide) m, show resizeL l (l.length + m) = l ++ List.replicate m zeroV by unfold resizeL; rw [List.take_of_length_le (by omega), Nat.add_sub_cancel_left], List.flatMap_append]; exact congrArg _ (rep_flat m))
    have HI := Lib.hid hi
    have HZ := Lib.hid hz
    have HSZ := Lib.hid hsz
    have HBY := Lib.hid hby
    have HZS := Lib.hid hzs
    clear hi hz hsz hby hzs hzl hnl hl hn
    go_enter Tryd.func44, Tryd.ntmps44
    go_upto_region 2 with fail
    clear c3
    refine wp_region_held_split 15 (fun w' => w'.cell? ⟨g, o + 3, none⟩ = some (.slice a l.length cap)) (by kernel_rfl) (by kernel_rfl) ?_ (fun hHeld => ?_)
    · (first | exact HS0.out | exact HKS.out _ (Chg.refl _ _) | exact cc2)
    simp only [List.take_succ_cons, List.take_zero]
    have HKS : Hid (∀ W, Chg (fun _ => False) w.drew W → W.cell? ⟨g, o + 3, none⟩ = some (.slice a l.length cap)) := Lib.hid (fun W hc => hc.cell HS0.out)
    have HWD : Hid (Chg (fun _ => False) w w.drew) := Lib.hid (Chg.refl _ w).drewR
    generalize w.drew = wD at *
    refine wpAnyH_take (i := 0) (v := ?_) rfl (by kernel_rfl) (by kernel_rfl) (by kernel_rfl) (fun _ _ _ h => h) (Or.inl ⟨by rfl, ?_⟩) (by assumption) ?_
    rotate_left
    · (intro wq hSw; (try dsimp only at hSw); go_simp; (try with_reducible rfl))
    simp only [Act.put, List.getElem_toArray, List.getElem_cons_zero, List.getElem_cons_succ, List.setIfInBounds_toArray, List.set_cons_zero, List.set_cons_succ]
    refine wpAnyH_take (i := 1) (v := ?_) rfl (by kernel_rfl) (by kernel_rfl) (by kernel_rfl) (fun _ _ _ h => h) (Or.inl ⟨by rfl, ?_⟩) (by assumption) ?_
    rotate_left
    · (intro wq hSw; (try dsimp only at hSw); go_simp; (try with_reducible rfl))
    simp only [Act.put, List.getElem_toArray, List.getElem_cons_zero, List.getElem_cons_succ, List.setIfInBounds_toArray, List.set_cons_zero, List.set_cons_succ]
    refine wpAnyH_take (i := 2) (v := ?_) rfl (by kernel_rfl) (by kernel_rfl) (by kernel_rfl) (fun _ _ _ h => h) (Or.inl ⟨by rfl, ?_⟩) (by assumption) ?_
    rotate_left
    · (intro wq hSw; (try dsimp only at hSw); go_simp; (try with_reducible rfl))
    simp only [Act.put, List.getElem_toArray, List.getElem_cons_zero, List.getElem_cons_succ, List.setIfInBounds_toArray, List.set_cons_zero, List.set_cons_succ]
    refine wpAnyH_take (i := 3) (v := ?_) rfl (by kernel_rfl) (by kernel_rfl) (by kernel_rfl) (fun _ _ _ h => h) (Or.inl ⟨by rfl, ?_⟩) (by assumption) ?_
    rotate_left
    · (intro wq hSw; (try dsimp only at hSw); go_simp; (try with_reducible rfl))
    simp only [Act.put, List.getElem_toArray, List.getElem_cons_zero, List.getElem_cons_succ, List.setIfInBounds_toArray, List.set_cons_zero, List.set_cons_succ]
    refine wpAnyH_take (i := 4) (v := ?_) rfl (by kernel_rfl) (by kernel_rfl) (by kernel_rfl) (fun _ _ _ h => h) (Or.inl ⟨by rfl, ?_⟩) (by assumption) ?_
    rotate_left
    · (intro wq hSw; (try dsimp only at hSw); go_simp; (try with_reducible rfl))
    simp only [Act.put, List.getElem_toArray, List.getElem_cons_zero, List.getElem_cons_succ, List.setIfInBounds_toArray, List.set_cons_zero, List.set_cons_succ]
    refine wpAnyH_take (i := 5) (v := ?_) rfl (by kernel_rfl) (by kernel_rfl) (by kernel_rfl) (fun _ _ _ h => h) (Or.inl ⟨by rfl, ?_⟩) (by assumption) ?_
    rotate_left
    · (intro wq hSw; (try dsimp only at hSw); go_simp; (try with_reducible rfl))
    simp only [Act.put, List.getElem_toArray, List.getElem_cons_zero, List.getElem_cons_succ, List.setIfInBounds_toArray, List.set_cons_zero, List.set_cons_succ]
    refine wpAnyH_take (i := 6) (v := ?_) rfl (by kernel_rfl) (by kernel_rfl) (by kernel_rfl) (fun _ _ _ h => h) (Or.inl ⟨by rfl, ?_⟩) (by assumption) ?_
    rotate_left
    · (intro wq hSw; (try dsimp only at hSw); go_simp; (try with_reducible rfl))
    simp only [Act.put, List.getElem_toArray, List.getElem_cons_zero, List.getElem_cons_succ, List.setIfInBounds_toArray, List.set_cons_zero, List.set_cons_succ]
    refine wpAnyH_take (i := 7) (v := ?_) rfl (by kernel_rfl) (by kernel_rfl) (by kernel_rfl) (fun _ _ _ h => h) (Or.inl ⟨by rfl, ?_⟩) (by assumption) ?_
    rotate_left
    · (intro wq hSw; (try dsimp only at hSw); go_simp; (try with_reducible rfl))
    simp only [Act.put, List.getElem_toArray, List.getElem_cons_zero, List.getElem_cons_succ, List.setIfInBounds_toArray, List.set_cons_zero, List.set_cons_succ]
    refine wpAnyH_take (i := 8) (v := ?_) rfl (by kernel_rfl) (by kernel_rfl) (by kernel_rfl) (fun _ _ _ h => h) (Or.inl ⟨by rfl, ?_⟩) (by assumption) ?_
    rotate_left
    · (intro wq hSw; (try dsimp only at hSw); go_simp; (try with_reducible rfl))
    simp only [Act.put, List.getElem_toArray, List.getElem_cons_zero, List.getElem_cons_succ, List.setIfInBounds_toArray, List.set_cons_zero, List.set_cons_succ]
    refine wpAnyH_take (i := 9) (v := ?_) rfl (by kernel_rfl) (by kernel_rfl) (by kernel_rfl) (fun _ _ _ h => h) (Or.inl ⟨by rfl, ?_⟩) (by assumption) ?_
    rotate_left
    · (intro wq hSw; (try dsimp only at hSw); go_simp; (try with_reducible rfl))
    simp only [Act.put, List.getElem_toArray, List.getElem_cons_zero, List.getElem_cons_succ, List.setIfInBounds_toArray, List.set_cons_zero, List.set_cons_succ]
    refine wpAnyH_take (i := 10) (v := ?_) rfl (by kernel_rfl) (by kernel_rfl) (by kernel_rfl) (fun _ _ _ h => h) (Or.inl ⟨by rfl, ?_⟩) (by assumption) ?_
    rotate_left
    · (intro wq hSw; (try dsimp only at hSw); go_simp; (try with_reducible rfl))
    simp only [Act.put, List.getElem_toArray, List.getElem_cons_zero, List.getElem_cons_succ, List.setIfInBounds_toArray, List.set_cons_zero, List.set_cons_succ]
    refine wpAnyH_take (i := 11) (v := ?_) rfl (by kernel_rfl) (by kernel_rfl) (by kernel_rfl) (fun _ _ _ h => h) (Or.inl ⟨by rfl, ?_⟩) (by assumption) ?_
    rotate_left
    · (intro wq hSw; (try dsimp only at hSw); go_simp; (try with_reducible rfl))
    simp only [Act.put, List.getElem_toArray, List.getElem_cons_zero, List.getElem_cons_succ, List.setIfInBounds_toArray, List.set_cons_zero, List.set_cons_succ]
    refine wpAnyH_ready (rs := [12]) (by kernel_rfl) (by simp) ?_
    refine AllReadyH.cons (by simp only [List.getElem?_toArray, List.getElem?_cons_succ, List.getElem?_cons_zero]; rfl) (fun K hK => ?_) AllReadyH.nil
    (refine step_append_zeros (by rfl) _ _ _ _ (by rfl) 36 i0 z 4 40 .i64 Tryd.underlying44 Tryd.underlying3 HI.out HZ.out HSZ.out HBY.out HZS.out (by decide) HZO.out _ l.length (l.flatMap Val.cells) (by rfl) (HR.out.chg HWD.out (fun _ _ x => x)) m (by rfl) (by have := HM.out; omega) (by have := HM.out; omega) ?_; intro a2 n2 c2_ w2 hrow2 hchg2 hold2; have cc2 := hchg2.cellS (HKS.out _ (Chg.refl _ _)) HNB.out; have f2 : w2.frozen? ⟨g, o + 3, none⟩ = false := FRZ.out w2 _ HWD.out hchg2)
    refine hK.out _ _ ?_ (fun hHeld => ?_)
    · (first | exact HS0.out | exact HKS.out _ (Chg.refl _ _) | exact cc2)
    clear hK K
    (try simp only [Act.put, List.getElem_toArray, List.getElem_cons_zero, List.getElem_cons_succ, List.setIfInBounds_toArray, List.set_cons_zero, List.set_cons_succ])
    refine wpAnyH_take (i := 13) (v := ?_) rfl (by kernel_rfl) (by kernel_rfl) (by kernel_rfl) (fun _ _ _ h => h) (Or.inl ⟨by rfl, ?_⟩) (by assumption) ?_
    rotate_left
    · (intro wq hSw; (try dsimp only at hSw); go_simp; (try with_reducible rfl))
    simp only [Act.put, List.getElem_toArray, List.getElem_cons_zero, List.getElem_cons_succ, List.setIfInBounds_toArray, List.set_cons_zero, List.set_cons_succ]
    refine wpAnyH_take (i := 14) (v := ?_) rfl (by kernel_rfl) (by kernel_rfl) (by kernel_rfl) (fun _ _ _ h => h) (Or.inl ⟨by rfl, ?_⟩) (by assumption) ?_
    rotate_left
    · (intro wq hSw; (try dsimp only at hSw); go_simp; (try with_reducible rfl))
    simp only [Act.put, List.getElem_toArray, List.getElem_cons_zero, List.getElem_cons_succ, List.setIfInBounds_toArray, List.set_cons_zero, List.set_cons_succ]
    refine wpAnyH_done (by kernel_rfl) ?_ _
    change wpList _ _ _ _ _ _
    simp only [List.drop_succ_cons, List.drop_zero]
    have hP := HBK.out w2 (.slice a2 n2 c2_) (resizeL l (l.length + m)) (HWD.out.trans hchg2 (fun _ _ x => x.elim) (fun _ _ x => x)) (by rw [← HRL.out, resizeL_len]; exact hrow2) (fun j hj => (hold2 j hj).imp id (fun x => by have := HWD.out.size; omega))
    have HP := Lib.hid hP
    clear hP hHeld hrow2 hchg2 hold2
    go_wp2_with fail
    go_end0
    exact ⟨rfl, HP.out⟩
end Go.Proofs.YtjianickjahdnaaDoor
namespace Go.Proofs.YtjianickjahdnaaDoor
open Go.RowKit
set_option linter.unusedVariables false
set_option linter.unusedSimpArgs false

set_option maxHeartbeats 6400000 in
set_option maxRecDepth 100000 in
theorem put_len (w : World) (b : Nat) (hp : Hp) (F : List Nat) (h : Int) (i : Nat) (x y : Val) (H : Here hpR w b 0 hp F) (hi : -9223372036854775808 ≤ h ∧ h ≤ 9223372036854775807) (hs : slotOf hp h = some i) (hl : i < hp.slots.length) (hk : hp.slots[i].obj.kind = 1) (hle : hp.slots[i].obj.elems.length ≤ 20000)
    (HN : ∀ W, Chg (fun _ => False) w W → Calls Tryd.prog 37 #[.agg #[.int .i64 x.kind, .int .i64 x.int, .string x.str, .int .i64 x.ref]] W fun e w' => e = .returned (.agg #[.int .i64 y.kind, .int .i64 y.int, .string y.str, .int .i64 y.ref]) ∧ Chg (fun _ => False) W w') (n : Nat) (hy : y.kind = 3 ∧ y.int = (n : Int)) (hn : n ≤ 10000) :
    Calls Tryd.prog 24 #[.pointer (some ⟨b, 0, none⟩), .int .i64 h, .string ⟨#[108, 101, 110, 103, 116, 104]⟩, .agg #[.int .i64 x.kind, .int .i64 x.int, .string x.str, .int .i64 x.ref]] w fun e w' => e = .returned (.int .i64 0) ∧ Post hpR w b 0 (putO hp i { hp.slots[i].obj with elems := resizeL hp.slots[i].obj.elems n }) F w' := by
  have HYY := Lib.hid hy
  have HNL := Lib.hid hn
  clear hy hn
  have hca := Chg.alloc (fun _ => False) w (.cells #[.int .i64 x.kind, .int .i64 x.int, .string x.str, .int .i64 x.ref] 36)
  have kb := alloc_block w (.cells #[.int .i64 x.kind, .int .i64 x.int, .string x.str, .int .i64 x.ref] 36)
  have HKB := Lib.hid kb
  have H2 := H.still hca
  obtain ⟨gh, oh, kh, c2, G, HOBJ0, hGF, hput⟩ := hpPut H hl
  obtain ⟨vp, ve, vd, vs, HOC⟩ := objOpen HOBJ0
  obtain ⟨ae, cape, rfl, -⟩ := HOC.re.slice
  have k0 := HOC.c0
  rw [hk] at k0
  have HC0 := Lib.hid k0
  have HC3 := Lib.hid HOC.c3
  have hat := hat_any _ b 0 hp F h _ H2 (by rw [Nat.zero_add]; exact hca.cell c2) hi
  rw [hs, show objPtr (.slice (some ⟨gh, oh, none⟩) hp.slots.length kh) (some i) = some ⟨gh, oh + i * 11 + 1, none⟩ from rfl] at hat
  have HAT := Lib.hid hat
  have HNN := Lib.hid HN
  generalize hx : hp.slots[i].obj = o_ at *
  have HX := Lib.hid hx
  have HCA := Lib.hid hca
  have HOB := Lib.hid HOBJ0
  have HPT := Lib.hid hput
  have HLT := Lib.hid HOBJ0.lt
  have HLE := Lib.hid hle
  clear kb hca H2 c2 HOBJ0 hGF hput HOC k0 hi hs H hx hk hat HN hle
  go_enter Tryd.func24, Tryd.ntmps24
  go_upto_region 1 with fail
  generalize hw2 : w.alloc (.cells #[.int .i64 x.kind, .int .i64 x.int, .string x.str, .int .i64 x.ref] 36) = w1 at *
  generalize hb7 : w.heap.size = b7 at *
  have HB7E := Lib.hid hb7
  clear hw2 hb7
  go_upto_region 4 with (go_at_call 35; refine HAT.out.mono ?_; rintro e wa ⟨rfl, hca⟩)
  have HC1 := Lib.hid (HCA.out.trans' hca)
  have HKB2 := Lib.hid (hca.keep HKB.out (fun x => x))
  have k0 := cell_of_block (i := 0) HKB2.out rfl
  have k1 := cell_of_block (i := 1) HKB2.out rfl
  have k2 := cell_of_block (i := 2) HKB2.out rfl
  have k3 := cell_of_block (i := 3) HKB2.out rfl
  simp only [List.getElem_toArray, List.getElem_cons_zero, List.getElem_cons_succ] at k0 k1 k2 k3
  clear hca HAT HKB
  go_upto_region 5 with (go_at_call 37; refine (HNN.out _ HC1.out).mono ?_; rintro e wn ⟨rfl, hcn⟩; have hbn := hcn.keep HKB2.out (fun x => x); obtain ⟨z10, q0, z11, q1, z12, q2, z13, q3, hbf, hcs⟩ := store4 hbn (.int .i64 y.kind) (.int .i64 y.int) (.string y.str) (.int .i64 y.ref))
  have HB7 := Lib.hid hbf
  have hc4 : Chg (fun _ => False) w (((((wn.setCell ⟨b7, 0, none⟩ (.int .i64 y.kind)).setCell ⟨b7, 1, none⟩ (.int .i64 y.int)).setCell ⟨b7, 2, none⟩ (.string y.str)).setCell ⟨b7, 3, none⟩ (.int .i64 y.ref))) := (HC1.out.trans' hcn).trans hcs (fun _ _ x => x) (fun k hk e => by have := HB7E.out; omega)
  clear hbf hcs hcn hbn z10 q0 z11 q1 z12 q2 z13 q3 k0 k1 k2 k3
  generalize ((((wn.setCell ⟨b7, 0, none⟩ (.int .i64 y.kind)).setCell ⟨b7, 1, none⟩ (.int .i64 y.int)).setCell ⟨b7, 2, none⟩ (.string y.str)).setCell ⟨b7, 3, none⟩ (.int .i64 y.ref)) = w4 at *
  have c0 := hc4.cell HC0.out
  have HC4 := Lib.hid hc4
  clear hc4 HNN HKB2 HC1 HCA
  have n0 := cell_of_block (i := 0) HB7.out rfl
  have n1 := cell_of_block (i := 1) HB7.out rfl
  simp only [List.getElem_toArray, List.getElem_cons_zero, List.getElem_cons_succ] at n0 n1
  rw [HYY.out.1] at n0
  rw [HYY.out.2] at n1
  have g0 : ¬ (n : Int) < 0 := by omega
  have g1 : ¬ (10000 : Int) < (n : Int) := by have := HNL.out; omega
  have HRS := Lib.hid (resize_any w4 gh (oh + i * 11 + 1) o_ G n (HOB.out.still HC4.out) HLE.out (by have := HNL.out; omega))
  go_wp2_with (go_at_call 44; refine HRS.out.mono ?_; rintro e w5 ⟨rfl, hp5⟩)
  go_ret
  exact ⟨rfl, HPT.out _ _ (Post.pre HC4.out hp5)⟩
set_option maxHeartbeats 6400000 in
set_option maxRecDepth 100000 in
theorem put_range (w : World) (b : Nat) (hp : Hp) (F : List Nat) (h : Int) (i : Nat) (x y : Val) (H : Here hpR w b 0 hp F) (hi : -9223372036854775808 ≤ h ∧ h ≤ 9223372036854775807) (hs : slotOf hp h = some i) (hl : i < hp.slots.length) (hk : hp.slots[i].obj.kind = 1) (hle : hp.slots[i].obj.elems.length ≤ 20000)
    (HN : ∀ W, Chg (fun _ => False) w W → Calls Tryd.prog 37 #[.agg #[.int .i64 x.kind, .int .i64 x.int, .string x.str, .int .i64 x.ref]] W fun e w' => e = .returned (.agg #[.int .i64 y.kind, .int .i64 y.int, .string y.str, .int .i64 y.ref]) ∧ Chg (fun _ => False) W w') (hy : y.kind ≠ 3 ∨ y.int < 0 ∨ 10000 < y.int) :
    Calls Tryd.prog 24 #[.pointer (some ⟨b, 0, none⟩), .int .i64 h, .string ⟨#[108, 101, 110, 103, 116, 104]⟩, .agg #[.int .i64 x.kind, .int .i64 x.int, .string x.str, .int .i64 x.ref]] w fun e w' => e = .returned (.int .i64 2) ∧ Chg (fun _ => False) w w' := by
  have HYY := Lib.hid hy
  clear hy
  have hca := Chg.alloc (fun _ => False) w (.cells #[.int .i64 x.kind, .int .i64 x.int, .string x.str, .int .i64 x.ref] 36)
  have kb := alloc_block w (.cells #[.int .i64 x.kind, .int .i64 x.int, .string x.str, .int .i64 x.ref] 36)
  have HKB := Lib.hid kb
  have H2 := H.still hca
  obtain ⟨gh, oh, kh, c2, G, HOBJ0, hGF, hput⟩ := hpPut H hl
  obtain ⟨vp, ve, vd, vs, HOC⟩ := objOpen HOBJ0
  obtain ⟨ae, cape, rfl, -⟩ := HOC.re.slice
  have k0 := HOC.c0
  rw [hk] at k0
  have HC0 := Lib.hid k0
  have HC3 := Lib.hid HOC.c3
  have hat := hat_any _ b 0 hp F h _ H2 (by rw [Nat.zero_add]; exact hca.cell c2) hi
  rw [hs, show objPtr (.slice (some ⟨gh, oh, none⟩) hp.slots.length kh) (some i) = some ⟨gh, oh + i * 11 + 1, none⟩ from rfl] at hat
  have HAT := Lib.hid hat
  have HNN := Lib.hid HN
  generalize hx : hp.slots[i].obj = o_ at *
  have HX := Lib.hid hx
  have HCA := Lib.hid hca
  have HOB := Lib.hid HOBJ0
  have HPT := Lib.hid hput
  have HLT := Lib.hid HOBJ0.lt
  have HLE := Lib.hid hle
  clear kb hca H2 c2 HOBJ0 hGF hput HOC k0 hi hs H hx hk hat HN hle
  go_enter Tryd.func24, Tryd.ntmps24
  go_upto_region 1 with fail
  generalize hw2 : w.alloc (.cells #[.int .i64 x.kind, .int .i64 x.int, .string x.str, .int .i64 x.ref] 36) = w1 at *
  generalize hb7 : w.heap.size = b7 at *
  have HB7E := Lib.hid hb7
  clear hw2 hb7
  go_upto_region 4 with (go_at_call 35; refine HAT.out.mono ?_; rintro e wa ⟨rfl, hca⟩)
  have HC1 := Lib.hid (HCA.out.trans' hca)
  have HKB2 := Lib.hid (hca.keep HKB.out (fun x => x))
  have k0 := cell_of_block (i := 0) HKB2.out rfl
  have k1 := cell_of_block (i := 1) HKB2.out rfl
  have k2 := cell_of_block (i := 2) HKB2.out rfl
  have k3 := cell_of_block (i := 3) HKB2.out rfl
  simp only [List.getElem_toArray, List.getElem_cons_zero, List.getElem_cons_succ] at k0 k1 k2 k3
  clear hca HAT HKB
  go_upto_region 5 with (go_at_call 37; refine (HNN.out _ HC1.out).mono ?_; rintro e wn ⟨rfl, hcn⟩; have hbn := hcn.keep HKB2.out (fun x => x); obtain ⟨z10, q0, z11, q1, z12, q2, z13, q3, hbf, hcs⟩ := store4 hbn (.int .i64 y.kind) (.int .i64 y.int) (.string y.str) (.int .i64 y.ref))
  have HB7 := Lib.hid hbf
  have hc4 : Chg (fun _ => False) w (((((wn.setCell ⟨b7, 0, none⟩ (.int .i64 y.kind)).setCell ⟨b7, 1, none⟩ (.int .i64 y.int)).setCell ⟨b7, 2, none⟩ (.string y.str)).setCell ⟨b7, 3, none⟩ (.int .i64 y.ref))) := (HC1.out.trans' hcn).trans hcs (fun _ _ x => x) (fun k hk e => by have := HB7E.out; omega)
  clear hbf hcs hcn hbn z10 q0 z11 q1 z12 q2 z13 q3 k0 k1 k2 k3
  generalize ((((wn.setCell ⟨b7, 0, none⟩ (.int .i64 y.kind)).setCell ⟨b7, 1, none⟩ (.int .i64 y.int)).setCell ⟨b7, 2, none⟩ (.string y.str)).setCell ⟨b7, 3, none⟩ (.int .i64 y.ref)) = w4 at *
  have c0 := hc4.cell HC0.out
  have HC4 := Lib.hid hc4
  clear hc4 HNN HKB2 HC1 HCA
  have n0 := cell_of_block (i := 0) HB7.out rfl
  have n1 := cell_of_block (i := 1) HB7.out rfl
  simp only [List.getElem_toArray, List.getElem_cons_zero, List.getElem_cons_succ] at n0 n1
  by_cases h3 : y.kind = 3
  · rw [h3] at n0
    by_cases h4 : y.int < 0
    · go_wp2_with fail
      go_ret
      exact ⟨rfl, HC4.out⟩
    · have g1 : (10000 : Int) < y.int := by have := HYY.out; omega
      go_wp2_with fail
      go_ret
      exact ⟨rfl, HC4.out⟩
  · have g1 : (y.kind != 3) = true := bne_iff_ne.2 h3
    have g2 : (y.kind == 3) = false := beq_false_of_ne h3
    go_wp2_with fail
    go_ret
    exact ⟨rfl, HC4.out⟩
end Go.Proofs.YtjianickjahdnaaDoor
namespace Go.Proofs.YtjianickjahdnaaDoor
open Go.RowKit
set_option linter.unusedVariables false
set_option linter.unusedSimpArgs false

theorem results_cell_cell {fn : Func} {p q : Tmp} {ty ty2 : TypeId} {P : Program} (h : fn.results = #[.cell p ty, .cell q ty2]) (tmps : Array Value) (w : World) (g g2 : Nat) (v v2 : Value) (hp : tmps.getD p undef = .pointer (some ⟨g, 0, none⟩)) (hq : tmps.getD q undef = .pointer (some ⟨g2, 0, none⟩)) (hl : (loadVar ty ⟨g, 0, none⟩).run P w = .ok v w) (hl2 : (loadVar ty2 ⟨g2, 0, none⟩).run P w = .ok v2 w) :
    (results fn tmps).run P w = .ok (.tuple #[v, v2]) w := by
  have hp' : tmps[p]?.getD undef = .pointer (some ⟨g, 0, none⟩) := by simpa using hp
  have hq' : tmps[q]?.getD undef = .pointer (some ⟨g2, 0, none⟩) := by simpa using hq
  simp [results, h, Sem.run_bind, Result.andThen, hp', hq', asAddr, hl, hl2]
def prpVal (p : Prp) : Val := ⟨p.vkind, p.vint, p.vstr, p.vref⟩
/-- An object's own property. -/
def ownR (hp : Hp) (key : ByteArray) (x : Int) : Val × Bool := match slotOf hp x with
  | none => (zeroV, false)
  | some i => match findP key (hp.slots.getD i noSlt).obj.props 0 with
    | none => (zeroV, false)
    | some j => match (hp.slots.getD i noSlt).obj.props[j]? with
      | none => (zeroV, false)
      | some p => (prpVal p, true)
/-- No arrays, and no more properties than the machine can count. -/
def Plain (hp : Hp) : Prop := ∀ s (hs : s < hp.slots.length), hp.slots[s].obj.kind ≠ 1 ∧ hp.slots[s].obj.props.length ≤ 1000000
theorem own_rec (w : World) (b : Nat) (hp : Hp) (F : List Nat) (h : Int) (key : ByteArray) (H : Here hpR w b 0 hp F) (hi : InJ h) (hpl : Plain hp) (hfl : ∀ (l : List Prp) (j : Nat), findP key l 0 = some j → j < l.length) :
    Calls Tryd.prog 23 #[.pointer (some ⟨b, 0, none⟩), .int .i64 h, .string key] w fun e w' => e = .returned (.tuple #[.agg #[.int .i64 (ownR hp key h).1.kind, .int .i64 (ownR hp key h).1.int, .string (ownR hp key h).1.str, .int .i64 (ownR hp key h).1.ref], .bool (ownR hp key h).2]) ∧ Chg (fun _ => False) w w' := by
  cases hs : slotOf hp h with
  | none =>
    have e : ownR hp key h = (zeroV, false) := by unfold ownR; rw [hs]
    rw [e]
    exact own_nil w b hp F h key H hi hs
  | some i =>
    obtain ⟨hsl, -, -⟩ := slotOf_lt hs
    have eg : hp.slots.getD i noSlt = hp.slots[i] := by rw [List.getD_eq_getElem?_getD, List.getElem?_eq_getElem hsl]; rfl
    obtain ⟨hk, hlp⟩ := hpl i hsl
    cases hf : findP key hp.slots[i].obj.props 0 with
    | none =>
      have e : ownR hp key h = (zeroV, false) := by unfold ownR; rw [hs]; simp only; rw [eg, hf]
      rw [e]
      exact own_not w b hp F h i key H hi hs hsl hk hf
    | some j =>
      have hj := hfl _ _ hf
      have e : ownR hp key h = (prpVal hp.slots[i].obj.props[j], true) := by unfold ownR; rw [hs]; simp only; rw [eg, hf]; simp only; rw [List.getElem?_eq_getElem hj]
      rw [e]
      exact own_has w b hp F h i key j H hi hs hsl hk hf hj hlp
def lookupR (hp : Hp) (key : ByteArray) (xs : List Int) : Val × Bool := match xs.find? (fun x => (ownR hp key x).2) with
  | none => (zeroV, false)
  | some x => ((ownR hp key x).1, true)
theorem find_stop {α : Type} (p : α → Bool) : ∀ (xs pre : List α) (x : α), (pre ++ [x]) <+: xs → (∀ y ∈ pre, p y = false) → p x = true → xs.find? p = some x
  | xs, [], x, ⟨t, ht⟩, _, hx => by subst ht; simp [hx]
  | xs, a :: pre, x, ⟨t, ht⟩, hn, hx => by
    subst ht
    have ih := find_stop p (pre ++ [x] ++ t) pre x ⟨t, rfl⟩ (fun y hy => hn y (by simp [hy])) hx
    show (a :: (pre ++ [x] ++ t)).find? p = some x
    rw [List.find?_cons_of_neg (by simp [hn a (by simp)]), ih]
theorem find_none {α : Type} (p : α → Bool) (xs : List α) (h : ∀ y ∈ xs, p y = false) : xs.find? p = none := by
  rw [List.find?_eq_none]
  intro y hy
  simp [h y hy]
theorem lookup_of_stop {hp : Hp} {key : ByteArray} {xs pre : List Int} {x : Int} (h : (pre ++ [x]) <+: xs) (hn : ∀ y ∈ pre, (ownR hp key y).2 = false) (hx : (ownR hp key x).2 = true) : lookupR hp key xs = ((ownR hp key x).1, true) := by
  unfold lookupR
  rw [find_stop _ xs pre x h hn hx]
theorem lookup_of_none {hp : Hp} {key : ByteArray} {xs : List Int} (hn : ∀ y ∈ xs, (ownR hp key y).2 = false) : lookupR hp key xs = (zeroV, false) := by
  unfold lookupR
  rw [find_none _ xs hn]
theorem chainM_in {hp : Hp} (hpr : ∀ s (hs : s < hp.slots.length), InJ hp.slots[s].obj.proto) : ∀ (n : Nat) (o : Int), InJ o → ∀ x ∈ chainM hp n o, InJ x
  | 0, o, _, x, hx => by simp [chainM] at hx
  | n + 1, o, ho, x, hx => by
    cases hs : slotOf hp o with
    | none => rw [chainM_none hs] at hx; simp at hx
    | some i =>
      obtain ⟨hsl, -, -⟩ := slotOf_lt hs
      rw [chainM_some hs hsl] at hx
      rcases List.mem_cons.1 hx with rfl | hx
      · exact ho
      · exact chainM_in hpr n _ (hpr i hsl) x hx

set_option maxHeartbeats 6400000 in
set_option maxRecDepth 100000 in
theorem lookup_any (w : World) (bh : Nat) (hp : Hp) (F : List Nat) (o : Int) (key : ByteArray) (H : Here hpR w bh 0 hp F) (ho : InJ o) (hpr : ∀ s (hs : s < hp.slots.length), InJ hp.slots[s].obj.proto) (hpl : Plain hp) (hfl : ∀ (l : List Prp) (j : Nat), findP key l 0 = some j → j < l.length) :
    Calls Tryd.prog 29 #[.pointer (some ⟨bh, 0, none⟩), .int .i64 o, .string key] w fun e w' => e = .returned (.tuple #[.agg #[.int .i64 (lookupR hp key (chainM hp 100001 o)).1.kind, .int .i64 (lookupR hp key (chainM hp 100001 o)).1.int, .string (lookupR hp key (chainM hp 100001 o)).1.str, .int .i64 (lookupR hp key (chainM hp 100001 o)).1.ref], .bool (lookupR hp key (chainM hp 100001 o)).2]) ∧ Chg (fun _ => False) w w' := by
  refine (callsIn_wide (n := 9)).1 (callsIn_of_wp_marks Tryd.func29 rfl trivial ?_)
  refine (wpIn_wide (n := 9) (P := Tryd.prog)).2 ?_
  have HOW := Lib.hid (fun W x (hc : Here hpR W bh 0 hp F) (hx : InJ x) => own_rec W bh hp F x key hc hx hpl hfl)
  have HCI := Lib.hid (chainM_in hpr 100001 o ho)
  have HIN := Lib.hid ho
  have HPR := Lib.hid hpr
  have HH := Lib.hid H
  have q0 := alloc_block w (.cells #[.pointer (some ⟨bh, 0, none⟩)] 73)
  have q1 := alloc_block (w.alloc (.cells #[.pointer (some ⟨bh, 0, none⟩)] 73)) (.cells #[.string key] 9)
  have z1 : (w.alloc (.cells #[.pointer (some ⟨bh, 0, none⟩)] 73)).heap.size = w.heap.size + 1 := by simp
  rw [z1] at q1
  have q2 := alloc_block ((w.alloc (.cells #[.pointer (some ⟨bh, 0, none⟩)] 73)).alloc (.cells #[.string key] 9)) (.cells #[.int .i64 0, .int .i64 0, .string ⟨#[]⟩, .int .i64 0] 36)
  have z2 : ((w.alloc (.cells #[.pointer (some ⟨bh, 0, none⟩)] 73)).alloc (.cells #[.string key] 9)).heap.size = w.heap.size + 2 := by simp
  rw [z2] at q2
  have q3 := alloc_block (((w.alloc (.cells #[.pointer (some ⟨bh, 0, none⟩)] 73)).alloc (.cells #[.string key] 9)).alloc (.cells #[.int .i64 0, .int .i64 0, .string ⟨#[]⟩, .int .i64 0] 36)) (.cells #[.bool false] 4)
  have z3 : (((w.alloc (.cells #[.pointer (some ⟨bh, 0, none⟩)] 73)).alloc (.cells #[.string key] 9)).alloc (.cells #[.int .i64 0, .int .i64 0, .string ⟨#[]⟩, .int .i64 0] 36)).heap.size = w.heap.size + 3 := by simp
  rw [z3] at q3
  replace q0 := (Chg.alloc (fun _ => False) (w.alloc (.cells #[.pointer (some ⟨bh, 0, none⟩)] 73)) (.cells #[.string key] 9)).keep q0 (fun x => x)
  replace q0 := (Chg.alloc (fun _ => False) ((w.alloc (.cells #[.pointer (some ⟨bh, 0, none⟩)] 73)).alloc (.cells #[.string key] 9)) (.cells #[.int .i64 0, .int .i64 0, .string ⟨#[]⟩, .int .i64 0] 36)).keep q0 (fun x => x)
  replace q0 := (Chg.alloc (fun _ => False) (((w.alloc (.cells #[.pointer (some ⟨bh, 0, none⟩)] 73)).alloc (.cells #[.string key] 9)).alloc (.cells #[.int .i64 0, .int .i64 0, .string ⟨#[]⟩, .int .i64 0] 36)) (.cells #[.bool false] 4)).keep q0 (fun x => x)
  replace q1 := (Chg.alloc (fun _ => False) ((w.alloc (.cells #[.pointer (some ⟨bh, 0, none⟩)] 73)).alloc (.cells #[.string key] 9)) (.cells #[.int .i64 0, .int .i64 0, .string ⟨#[]⟩, .int .i64 0] 36)).keep q1 (fun x => x)
  replace q1 := (Chg.alloc (fun _ => False) (((w.alloc (.cells #[.pointer (some ⟨bh, 0, none⟩)] 73)).alloc (.cells #[.string key] 9)).alloc (.cells #[.int .i64 0, .int .i64 0, .string ⟨#[]⟩, .int .i64 0] 36)) (.cells #[.bool false] 4)).keep q1 (fun x => x)
  replace q2 := (Chg.alloc (fun _ => False) (((w.alloc (.cells #[.pointer (some ⟨bh, 0, none⟩)] 73)).alloc (.cells #[.string key] 9)).alloc (.cells #[.int .i64 0, .int .i64 0, .string ⟨#[]⟩, .int .i64 0] 36)) (.cells #[.bool false] 4)).keep q2 (fun x => x)
  have hcA : Chg (fun _ => False) w ((((w.alloc (.cells #[.pointer (some ⟨bh, 0, none⟩)] 73)).alloc (.cells #[.string key] 9)).alloc (.cells #[.int .i64 0, .int .i64 0, .string ⟨#[]⟩, .int .i64 0] 36)).alloc (.cells #[.bool false] 4)) := (((Chg.alloc (fun _ => False) w (.cells #[.pointer (some ⟨bh, 0, none⟩)] 73)).allocR _).allocR _).allocR _
  have HCA := Lib.hid hcA
  have HQ0 := Lib.hid q0
  have HQ1 := Lib.hid q1
  have HQ2 := Lib.hid q2
  have HQ3 := Lib.hid q3
  have k0 := cell_of_block (i := 0) q0 rfl
  simp only [List.getElem_toArray, List.getElem_cons_zero] at k0
  clear q0 q1 q2 q3 z1 z2 z3 hcA H ho hpr hpl hfl
  simp only [Tryd.ntmps29, List.size_toArray, List.length_cons, List.length_nil, Nat.reduceAdd, Nat.reduceSub, Array.replicate_succ, Array.replicate_zero, List.push_toArray, List.append_toArray, List.nil_append, List.cons_append]
  go_upto_region 1 with fail
  generalize ((((w.alloc (.cells #[.pointer (some ⟨bh, 0, none⟩)] 73)).alloc (.cells #[.string key] 9)).alloc (.cells #[.int .i64 0, .int .i64 0, .string ⟨#[]⟩, .int .i64 0] 36)).alloc (.cells #[.bool false] 4)) = w1 at *
  generalize hb7 : w.heap.size + 3 = b7 at *
  generalize hb6 : w.heap.size + 2 = b6 at *
  generalize hb5 : w.heap.size + 1 = b5 at *
  generalize hb3 : w.heap.size = b3 at *
  have HB := Lib.hid (show w.heap.size = b3 ∧ b3 + 1 = b5 ∧ b3 + 2 = b6 ∧ b3 + 3 = b7 from ⟨hb3, hb5, hb6, hb7⟩)
  clear hb7 hb6 hb5 hb3
  have HCE := Lib.hid (chain_any w1 (some ⟨bh, 0, none⟩) o)
  go_wp2_with (go_at_call 36; refine HCE.out.mono ?_; rintro e wc ⟨rfl, rfl⟩)
  have hk1 := (Chg.alloc (fun _ => False) (w1.alloc (.cells #[.pointer (some ⟨bh, 0, none⟩)] 73)) (.cells #[.int .i64 o] 3)).keep (alloc_block w1 (.cells #[.pointer (some ⟨bh, 0, none⟩)] 73)) (fun x => x)
  have hk2 := alloc_block (w1.alloc (.cells #[.pointer (some ⟨bh, 0, none⟩)] 73)) (.cells #[.int .i64 o] 3)
  have hs2 : (w1.alloc (.cells #[.pointer (some ⟨bh, 0, none⟩)] 73)).heap.size = w1.heap.size + 1 := Array.size_push ..
  rw [hs2] at hk2
  have hcc := (Chg.alloc (fun _ => False) w1 (.cells #[.pointer (some ⟨bh, 0, none⟩)] 73)).allocR (.cells #[.int .i64 o] 3)
  have HCC := Lib.hid (HCA.out.trans' hcc)
  have hl7 := lt_of_block HQ3.out
  have HK0 := Lib.hid (hcc.keep HQ0.out (fun x => x))
  have HK5 := Lib.hid (hcc.keep HQ1.out (fun x => x))
  have HK6 := Lib.hid (hcc.keep HQ2.out (fun x => x))
  have HK7 := Lib.hid (hcc.keep HQ3.out (fun x => x))
  generalize (w1.alloc (.cells #[.pointer (some ⟨bh, 0, none⟩)] 73)).alloc (.cells #[.int .i64 o] 3) = wc at *
  generalize hb1e : w1.heap.size = b1 at *
  have hlt2 := lt_of_block hk2
  have HF := Lib.hid (HH.out.still HCC.out)
  have HK1 := Lib.hid hk1
  have HK2 := Lib.hid hk2
  have hb := HB.out
  have hbl := HH.out.lt
  have HN : Hid (b3 ≠ b1 + 1 ∧ b5 ≠ b1 + 1 ∧ b6 ≠ b1 + 1 ∧ b7 ≠ b1 + 1 ∧ b1 + 1 < wc.heap.size ∧ b6 < wc.heap.size ∧ b7 < wc.heap.size ∧ w.heap.size ≤ b6 ∧ w.heap.size ≤ b7 ∧ b6 ≠ b7 ∧ w.heap.size ≤ b1 + 1) := Lib.hid ⟨by omega, by omega, by omega, by omega, by omega, by omega, by omega, by omega, by omega, by omega, by omega⟩
  have HN2 : Hid (bh ≠ b1 + 1 ∧ b1 + 1 ∉ F) := Lib.hid ⟨by have := hbl.1; omega, fun hx => by have := hbl.2 _ hx; omega⟩
  clear hk1 hk2 hs2 hcc hl7 hb1e hlt2 hb hbl HCA HQ0 HQ1 HQ2 HQ3 k0 HCE HB
  refine (wpIn_wide (n := 9) (P := Tryd.prog)).1 (wpIn_rangeFunc_find (F := Fence.wide) (n := 9) rfl (by omega) (gf := 52) (lb := #[.pointer (some ⟨b1, 0, none⟩), .pointer (some ⟨b1 + 1, 0, none⟩)]) rfl trivial (enters_of Tryd.func52 (by kernel_rfl) rfl) (encs := fun h : Int => #[.int .i64 h]) (xs := chainM hp 100001 o) (bo := b1 + 1) HN.out.2.2.2.2.1 ?seq (fun _ => rfl)
    (fun pre => ∀ y ∈ pre, (ownR hp key y).2 = false) (fun pre W => ∃ v, lookupR hp key (chainM hp 100001 o) = (v, true) ∧ W.heap[b6]? = some (.cells #[.int .i64 v.kind, .int .i64 v.int, .string v.str, .int .i64 v.ref] 36 (0, 0)) ∧ W.heap[b7]? = some (.cells #[.bool true] 4 (0, 0))) (fun k => k = b6 ∨ k = b7) ?hT ?hR (by simp) (fun y => { tmps := #[.pointer (some ⟨bh, 0, none⟩), .int .i64 o, .string key, .pointer (some ⟨b3, 0, none⟩), undef, .pointer (some ⟨b5, 0, none⟩), .pointer (some ⟨b6, 0, none⟩), .pointer (some ⟨b7, 0, none⟩), .int .i64 y, undef, undef, .pointer (some ⟨bh, 0, none⟩), .int .i64 o, .func (.func 52) #[] #[.pointer (some ⟨b1, 0, none⟩), .pointer (some ⟨b1 + 1, 0, none⟩)], .int .i64 y, undef, undef, undef, undef, undef, undef, undef, undef, undef, undef], defers := [] }) ?assign ?body ?done ?stop)
  case seq => exact chain1_find _ wc bh hp F b1 (b1 + 1) _ o HF.out HK1.out HK2.out (by omega) HN2.out.2 HN2.out.1 HIN.out HPR.out
  case hT => rintro k (rfl | rfl); exact HN.out.2.2.2.2.2.1; exact HN.out.2.2.2.2.2.2.1
  case hR => rintro pre A B ⟨v, h1, h2, h3⟩ hc; exact ⟨v, h1, hc.keep h2 (by have := HN.out; omega), hc.keep h3 (by have := HN.out; omega)⟩
  case assign =>
    intro l y W K hK
    have hsem := @Oper.semAt_some
    gi_wp2
    exact hK
  case body =>
    rintro l pre y W hpre hpx hcw
    have hq0 := hcw.keep HK0.out HN.out.1
    have hq5 := hcw.keep HK5.out HN.out.2.1
    have k3 := cell_of_block (i := 0) hq0 rfl
    have k5 := cell_of_block (i := 0) hq5 rfl
    simp only [List.getElem_toArray, List.getElem_cons_zero] at k3 k5
    have HC6 := Lib.hid (hcw.keep HK6.out HN.out.2.2.1)
    have HC7 := Lib.hid (hcw.keep HK7.out HN.out.2.2.2.1)
    have HWH : Hid (Here hpR W bh 0 hp F) := Lib.hid (HF.out.chg hcw HN2.out.1 (fun k hk e => HN2.out.2 (e ▸ hk)))
    have hown := HOW.out W y HWH.out (HCI.out y (hpx.subset (by simp)))
    have HPRE := Lib.hid hpre
    have HPX := Lib.hid hpx
    have h1n : 1 ≤ 9 - 1 - 1 := by omega
    clear hq0 hq5 hcw hpre hpx
    have hsem := @Oper.semAt_some
    obtain ⟨v, ok, hvo⟩ : ∃ v ok, ownR hp key y = (v, ok) := ⟨_, _, rfl⟩
    rw [hvo] at hown
    have HVO := Lib.hid hvo
    have HOWN := Lib.hid hown
    clear hown hvo
    cases ok with
    | false =>
      gi_wp2_with (first | (refine ⟨trivial, ?_⟩; gi_at_call 23; refine (CallsIn.inRound l (callsIn_wide.2 HOWN.out)).mono ?_; rintro e wa ⟨rfl, hca⟩))
      exact ⟨fun z hz => by
        rcases hz with hz | rfl
        · exact HPRE.out z hz
        · rw [HVO.out], hca.allocR _⟩
    | true =>
      have HLK := Lib.hid (lookup_of_stop HPX.out HPRE.out (by rw [HVO.out]))
      gi_wp2_with (first | (refine ⟨trivial, ?_⟩; gi_at_call 23; refine (CallsIn.inRound l (callsIn_wide.2 HOWN.out)).mono ?_; rintro e wa ⟨rfl, hca⟩; have HCA2 := Lib.hid (hca.allocR (.cells #[.int .i64 v.kind, .int .i64 v.int, .string v.str, .int .i64 v.ref] 36)); have hbx := alloc_block wa (.cells #[.int .i64 v.kind, .int .i64 v.int, .string v.str, .int .i64 v.ref] 36); have m0 := cell_of_block (i := 0) hbx rfl; have m1 := cell_of_block (i := 1) hbx rfl; have m2 := cell_of_block (i := 2) hbx rfl; have m3 := cell_of_block (i := 3) hbx rfl; simp only [List.getElem_toArray, List.getElem_cons_zero, List.getElem_cons_succ] at m0 m1 m2 m3; have hq6 := HCA2.out.keep HC6.out (fun x => x); have hq7 := HCA2.out.keep HC7.out (fun x => x); obtain ⟨z10, q0, z11, q1, z12, q2, z13, q3, hbf, hcs⟩ := store4 hq6 (.int .i64 v.kind) (.int .i64 v.int) (.string v.str) (.int .i64 v.ref); have hq7' := hcs.keep hq7 (show ¬ b7 = b6 by have := HN.out; omega); have k7 := cell_of_block (i := 0) hq7' rfl; have f7 := frozen_of_block (i := 0) hq7'; simp only [List.getElem_toArray, List.getElem_cons_zero] at k7; have HS7 := Lib.hid (setCell_block (i := 0) (.bool true) hq7'); have HS6 := Lib.hid ((Chg.setCell _ ⟨b7, 0, none⟩ (.bool true)).keep hbf (show ¬ b6 = b7 by have := HN.out; omega)); have HCS := Lib.hid hcs; clear hca hbx hq6 hq7 hq7' hbf hcs))
      refine ⟨⟨v, ?_, HS6.out, HS7.out⟩, ?_⟩
      · rw [HLK.out, HVO.out]
      · exact (HCA2.out.trans (HCS.out.trans (Chg.setCell _ ⟨b7, 0, none⟩ (.bool true)) (S'' := fun k => k = b6 ∨ k = b7) (fun _ _ x => .inl x) (fun _ _ x => .inr x)) (fun _ _ x => x.elim) (fun _ _ x => x))
  case done =>
    intro D W hD hi hcw hk
    have hn := HN.out
    have hlk := lookup_of_none hi
    have HLK := Lib.hid hlk
    have hq6 := hcw.keep HK6.out HN.out.2.2.1
    have hq7 := hcw.keep HK7.out HN.out.2.2.2.1
    obtain ⟨z10, q0, z11, q1, z12, q2, z13, q3, hbf, hcs⟩ := store4 hq6 (.int .i64 0) (.int .i64 0) (.string ⟨#[]⟩) (.int .i64 0)
    have hq7' := hcs.keep hq7 (show ¬ b7 = b6 by omega)
    have k7 := cell_of_block (i := 0) hq7' rfl
    have f7 := frozen_of_block (i := 0) hq7'
    simp only [List.getElem_toArray, List.getElem_cons_zero] at k7
    have HS7 := Lib.hid (setCell_block (i := 0) (.bool false) hq7')
    have HS6 := Lib.hid ((Chg.setCell _ ⟨b7, 0, none⟩ (.bool false)).keep hbf (show ¬ b6 = b7 by omega))
    have HCS := Lib.hid (hcs.trans (Chg.setCell _ ⟨b7, 0, none⟩ (.bool false)) (S'' := fun k => k = b6 ∨ k = b7) (fun _ _ x => .inl x) (fun _ _ x => .inr x))
    have HKD := Lib.hid (HCS.out.keep hk (show ¬ (D = b6 ∨ D = b7) by omega))
    have HDL := Lib.hid hD
    have HCWW := Lib.hid hcw
    clear hq6 hq7 hq7' hbf hcs hcw hk hi hD hlk hn
    dsimp only
    go_wp2_with fail
    rw [bodyM_eq]
    refine ⟨by simp, .inl ⟨_, _, rfl, run_takeDeferred HKD.out, ?_⟩⟩
    have hn := HN.out
    have hdl := HDL.out
    have hb6' := ((Chg.refl (fun k => k = D) _).putL D (.deferred none) (fun _ => rfl)).keep HS6.out (by omega)
    have hb7' := ((Chg.refl (fun k => k = D) _).putL D (.deferred none) (fun _ => rfl)).keep HS7.out (by omega)
    have k7' := cell_of_block (i := 0) hb7' rfl
    refine ⟨_, results_cell_cell rfl _ _ b6 b7 _ (.bool false) (by rfl) (by rfl) (run_loadVar_row _ b6 36 36 _ _ _ hb6' Tryd.underlying36 rfl (by kernel_rfl)) (run_loadVar1 _ _ _ 0 k7'), ?_⟩
    rw [HLK.out]
    refine ⟨rfl, ?_⟩
    exact (((HCC.out.trans HCWW.out (fun _ _ x => x) (fun i hi x => by omega)).trans HCS.out (fun _ _ x => x) (fun i hi x => by omega)).putL _ _ (fun h => by omega))
  case stop =>
    rintro D pre W hD ⟨v, hlk, hb6, hb7⟩ hcw hk
    have hn := HN.out
    gi_wp2
    rw [bodyM_eq]
    refine ⟨by simp, .inl ⟨_, _, rfl, run_takeDeferred hk, ?_⟩⟩
    have hb6' := ((Chg.refl (fun k => k = D) W).putL D (.deferred none) (fun _ => rfl)).keep hb6 (by omega)
    have hb7' := ((Chg.refl (fun k => k = D) W).putL D (.deferred none) (fun _ => rfl)).keep hb7 (by omega)
    have k7' := cell_of_block (i := 0) hb7' rfl
    refine ⟨_, results_cell_cell rfl _ _ b6 b7 _ (.bool true) (by rfl) (by rfl) (run_loadVar_row _ b6 36 36 _ _ _ hb6' Tryd.underlying36 rfl (by kernel_rfl)) (run_loadVar1 _ _ _ 0 k7'), ?_⟩
    rw [hlk]
    refine ⟨rfl, ?_⟩
    exact ((HCC.out.trans hcw (fun _ _ x => x) (fun i hi x => by omega)).putL _ _ (fun h => by omega))
end Go.Proofs.YtjianickjahdnaaDoor
namespace Go.Proofs.YtjianickjahdnaaDoor
open Go.RowKit
set_option linter.unusedVariables false
set_option linter.unusedSimpArgs false

theorem run_loadVarE (w : World) (g : Nat) (v : Value) (hc : w.cell? ⟨g, 0, none⟩ = some v) : (loadVar 32 ⟨g, 0, none⟩).run Tryd.prog w = .ok v w := by
  have hu := Tryd.underlying32
  simp [loadVar, isAgg, go_sem, hu, hc]
theorem Post.late {α : Type} {A : Rep α} {S : Nat → Prop} {w0 w w' w2 : World} {b o : Nat} {a' : α} {F : List Nat} (h0 : Chg (fun k => w0.heap.size ≤ k) w0 w) (hp : Post A w b o a' F w') (hb : b < w0.heap.size) (hF : ∀ k ∈ F, k < w0.heap.size) (hc : Chg S w' w2) (hS : ∀ k, S k → w0.heap.size ≤ k ∧ k < w.heap.size) : Post A w0 b o a' F w2 := by
  obtain ⟨F', h1, h2⟩ := hp
  have hs := h0.size
  have hnb : ¬ S b := fun x => by have := hS _ x; omega
  have hnF : ∀ k ∈ F', ¬ S k := fun k hk x => by
    have h3 := hS _ x
    rcases h2.new k hk with y | y
    · have := hF _ y; omega
    · omega
  refine ⟨F', h1.chg hc hnb hnF, ?_, fun k hk => (h2.new k hk).imp id (fun y => by omega), fun c T hcb => ?_⟩
  · exact (h0.trans h2.chg (fun i hi x => by omega) (fun _ _ x => x)).trans hc (fun _ _ x => x) (fun i hi x => by have := hS _ x; omega)
  · obtain ⟨c', k1, k2, k3⟩ := h2.rest c T (h0.keep hcb (by omega))
    exact ⟨c', hc.keep k1 hnb, k2, k3⟩
def LinkPost (w : World) (bh : Nat) (hp : Hp) (F : List Nat) (o proto : Int) (x : Obj) (i : Nat) (e : Ending) (w' : World) : Prop :=
  if (chainM hp 100001 proto).contains o = true then e = .returned (.int .i64 16) ∧ Chg (fun _ => False) w w' else e = .returned (.int .i64 0) ∧ Post hpR w bh 0 (putO hp i x) F w'
set_option maxHeartbeats 6400000 in
set_option maxRecDepth 100000 in
theorem link_any (w : World) (bh : Nat) (hp : Hp) (F : List Nat) (o proto : Int) (i : Nat) (H : Here hpR w bh 0 hp F) (ho : InJ o) (hpi : InJ proto) (hs : slotOf hp o = some i) (hpr : ∀ s (hs : s < hp.slots.length), InJ hp.slots[s].obj.proto) (hsl : i < hp.slots.length)
    (hlive : proto = 0 ∨ (slotOf hp proto).isSome = true) :
    Calls Tryd.prog 28 #[.pointer (some ⟨bh, 0, none⟩), .int .i64 o, .int .i64 proto] w (LinkPost w bh hp F o proto { hp.slots[i].obj with proto := proto } i) := by
  refine (callsIn_wide (n := 9)).1 (callsIn_of_wp_marks Tryd.func28 rfl trivial ?_)
  refine (wpIn_wide (n := 9) (P := Tryd.prog)).2 ?_
  obtain ⟨gh, oh, kh, ch, G, HOBJ0, hGF, hput⟩ := hpPut H hsl
  have HAT := Lib.hid (fun W (hc : Chg (fun _ => False) w W) => hat_any W bh 0 hp F o _ (H.still hc) (hc.cell (by rw [Nat.zero_add]; exact ch)) ho)
  rw [hs, show objPtr (.slice (some ⟨gh, oh, none⟩) hp.slots.length kh) (some i) = some ⟨gh, oh + i * 11 + 1, none⟩ from rfl] at HAT
  have HAP := Lib.hid (fun W (hc : Chg (fun _ => False) w W) => hat_any W bh 0 hp F proto _ (H.still hc) (hc.cell (by rw [Nat.zero_add]; exact ch)) hpi)
  have HPT := Lib.hid hput
  have HOB := Lib.hid HOBJ0
  have HIN := Lib.hid hpi
  have HPR := Lib.hid hpr
  have HH := Lib.hid H
  have HLV := Lib.hid hlive
  have hcA := (Chg.alloc (fun _ => False) w (.cells #[.int .i64 o] 3)).allocR (.cells #[.int .i64 0] 32)
  have HCA := Lib.hid hcA
  have hb5 := (Chg.alloc (fun _ => False) (w.alloc (.cells #[.int .i64 o] 3)) (.cells #[.int .i64 0] 32)).keep (alloc_block w (.cells #[.int .i64 o] 3)) (fun x => x)
  have hb6 := alloc_block (w.alloc (.cells #[.int .i64 o] 3)) (.cells #[.int .i64 0] 32)
  have hs1 : (w.alloc (.cells #[.int .i64 o] 3)).heap.size = w.heap.size + 1 := Array.size_push ..
  rw [hs1] at hb6
  have HB6 := Lib.hid hb6
  have HB5 := Lib.hid hb5
  clear hcA hb6 hb5 hs1 ch H ho hs hpi hpr HOBJ0 hlive hGF hput
  simp only [Tryd.ntmps28, List.size_toArray, List.length_cons, List.length_nil, Nat.reduceAdd, Nat.reduceSub, Array.replicate_succ, Array.replicate_zero, List.push_toArray, List.append_toArray, List.nil_append, List.cons_append]
  go_upto_region 1 with fail
  generalize (w.alloc (.cells #[.int .i64 o] 3)).alloc (.cells #[.int .i64 0] 32) = w1 at *
  generalize hbe : w.heap.size + 1 = b6 at *
  generalize hbe5 : w.heap.size = b4 at *
  have HBE := Lib.hid hbe
  have HBE5 := Lib.hid hbe5
  clear hbe hbe5
  have k4 := cell_of_block (i := 0) HB5.out rfl
  simp only [List.getElem_toArray, List.getElem_cons_zero] at k4
  go_upto_region 2 with (go_at_call 35; refine (HAT.out _ HCA.out).mono ?_; rintro e wa ⟨rfl, hca⟩)
  have HCW := Lib.hid (HCA.out.trans' hca)
  have HBA := Lib.hid (hca.keep HB6.out (fun x => x))
  have HB5A := Lib.hid (hca.keep HB5.out (fun x => x))
  have k4 := cell_of_block (i := 0) HB5A.out rfl
  simp only [List.getElem_toArray, List.getElem_cons_zero] at k4
  clear hca HAT HCA HB6 HB5
  by_cases hz : proto = 0
  · subst hz
    have hce := fun W => chain_any W (some ⟨bh, 0, none⟩) 0
    have HCE := Lib.hid hce
    clear hce
    go_wp2_with (go_at_call 36; refine (HCE.out _).mono ?_; rintro e wc ⟨rfl, rfl⟩)
    have hk1 := (Chg.alloc (fun _ => False) (wa.alloc (.cells #[.pointer (some ⟨bh, 0, none⟩)] 73)) (.cells #[.int .i64 0] 3)).keep (alloc_block wa (.cells #[.pointer (some ⟨bh, 0, none⟩)] 73)) (fun x => x)
    have hk2 := alloc_block (wa.alloc (.cells #[.pointer (some ⟨bh, 0, none⟩)] 73)) (.cells #[.int .i64 0] 3)
    have hs2 : (wa.alloc (.cells #[.pointer (some ⟨bh, 0, none⟩)] 73)).heap.size = wa.heap.size + 1 := Array.size_push ..
    rw [hs2] at hk2
    have hcc := (Chg.alloc (fun _ => False) wa (.cells #[.pointer (some ⟨bh, 0, none⟩)] 73)).allocR (.cells #[.int .i64 0] 3)
    have HCC := Lib.hid (HCW.out.trans' hcc)
    have hk6 := hcc.keep HBA.out (fun x => x)
    have hk5 := hcc.keep HB5A.out (fun x => x)
    have hsz := HCW.out.size
    have hl6 := lt_of_block HBA.out
    generalize (wa.alloc (.cells #[.pointer (some ⟨bh, 0, none⟩)] 73)).alloc (.cells #[.int .i64 0] 3) = wc at *
    generalize hb1e : wa.heap.size = b1 at *
    have hlt2 := lt_of_block hk2
    have HF := Lib.hid (HH.out.still HCC.out)
    have HK1 := Lib.hid hk1
    have HK2 := Lib.hid hk2
    have HK5 := Lib.hid hk5
    have HK6 := Lib.hid hk6
    have hbne := HBE.out
    have hb5e := HBE5.out
    have hbl := HH.out.lt
    have hol : gh < w.heap.size ∧ ∀ k ∈ G, k < w.heap.size := HOB.out.lt
    have HN : Hid (b4 ≠ b1 + 1 ∧ b6 ≠ b1 + 1 ∧ b1 + 1 < wc.heap.size ∧ b6 < wc.heap.size ∧ w.heap.size ≤ b6 ∧ w.heap.size ≤ b1 + 1 ∧ bh ≠ b1 + 1 ∧ b1 + 1 ∉ F) := Lib.hid ⟨by omega, by omega, by omega, by omega, by omega, by omega, by have := hbl.1; omega, fun hx => by have := hbl.2 _ hx; omega⟩
    have HOL : Hid (gh < w.heap.size ∧ ∀ k ∈ G, k < w.heap.size) := Lib.hid hol
    clear hk1 hk2 hs2 hcc hk6 hk5 hsz hl6 hb1e hlt2 hbne hb5e hbl hol HBA HB5A HCE HCW HBE HBE5 k4
    refine (wpIn_wide (n := 9) (P := Tryd.prog)).1 (wpIn_rangeFunc_find (F := Fence.wide) (n := 9) rfl (by omega) (gf := 52) (lb := #[.pointer (some ⟨b1, 0, none⟩), .pointer (some ⟨b1 + 1, 0, none⟩)]) rfl trivial (enters_of Tryd.func52 (by kernel_rfl) rfl) (encs := fun h : Int => #[.int .i64 h]) (xs := chainM hp 100001 0) (bo := b1 + 1) HN.out.2.2.1 ?seq (fun _ => rfl)
      (fun pre => o ∉ pre) (fun pre W => o ∈ chainM hp 100001 0 ∧ W.heap[b6]? = some (.cells #[.int .i64 16] 32 (0, 0))) (fun k => k = b6) ?hT ?hR (by simp) (fun y => { tmps := #[.pointer (some ⟨bh, 0, none⟩), .int .i64 o, .int .i64 0, undef, .pointer (some ⟨b4, 0, none⟩), undef, .pointer (some ⟨b6, 0, none⟩), .pointer (some ⟨gh, oh + i * 11 + 1, none⟩), .int .i64 y, .pointer (some ⟨bh, 0, none⟩), .int .i64 o, .pointer (some ⟨gh, oh + i * 11 + 1, none⟩), .pointer (some ⟨gh, oh + i * 11 + 1, none⟩), .bool false, .bool false, .int .i64 0, .bool false, .bool false, undef, undef, undef, undef, .bool false, .bool false, .pointer (some ⟨bh, 0, none⟩), .int .i64 0, .func (.func 52) #[] #[.pointer (some ⟨b1, 0, none⟩), .pointer (some ⟨b1 + 1, 0, none⟩)], .int .i64 y, undef, undef, undef, undef, undef, undef, undef], defers := [] }) ?assign ?body ?done ?stop)
    case seq => exact chain1_find _ wc bh hp F b1 (b1 + 1) _ 0 HF.out HK1.out HK2.out (by omega) HN.out.2.2.2.2.2.2.2 HN.out.2.2.2.2.2.2.1 HIN.out HPR.out
    case hT => rintro k rfl; exact HN.out.2.2.2.1
    case hR => rintro pre A B ⟨h1, h2⟩ hc; exact ⟨h1, hc.keep h2 (by have := HN.out.2.2.2.1; omega)⟩
    case assign =>
      intro l y W K hK
      have hsem := @Oper.semAt_some
      gi_wp2
      exact hK
    case body =>
      rintro l pre y W hpre hpx hcw
      have hb5 := hcw.keep HK5.out HN.out.1
      have hb6 := hcw.keep HK6.out HN.out.2.1
      have k5 := cell_of_block (i := 0) hb5 rfl
      have k6 := cell_of_block (i := 0) hb6 rfl
      have f6 := frozen_of_block (i := 0) hb6
      simp only [List.getElem_toArray, List.getElem_cons_zero] at k5 k6
      have HS6 := Lib.hid (setCell_block (i := 0) (.int .i64 16) hb6)
      have HPR2 := Lib.hid hpre
      have HPX := Lib.hid hpx
      have hsem := @Oper.semAt_some
      clear hb5 hb6 hcw hpre hpx
      by_cases hyp : y = o
      · subst hyp
        gi_wp2
        exact ⟨⟨HPX.out.subset (by simp), HS6.out⟩, Chg.setCell W ⟨b6, 0, none⟩ _⟩
      · have z9 : (y == o) = false := beq_false_of_ne hyp
        gi_wp2
        exact ⟨⟨HPR2.out, Ne.symm hyp⟩, Chg.refl _ _⟩
    case done =>
      intro D W hD hi hcw hk
      have hb6 := hcw.keep HK6.out HN.out.2.1
      have hn := HN.out
      have hol := HOL.out
      have hg6 : gh ≠ b6 := by omega
      have hb6g := (Chg.setCell W ⟨gh, oh + i * 11 + 1 + 1, none⟩ (.int .i64 0)).keep hb6 (show ¬ b6 = gh by omega)
      have k6 := cell_of_block (i := 0) hb6g rfl
      have f6 := frozen_of_block (i := 0) hb6g
      simp only [List.getElem_toArray, List.getElem_cons_zero] at k6
      have HS6 := Lib.hid (setCell_block (i := 0) (.int .i64 0) hb6g)
      have hoW : Here objR W gh (oh + i * 11 + 1) hp.slots[i].obj G := (HOB.out.still HCC.out).chg hcw (show ¬ gh = b1 + 1 by omega) (fun k hk e => by have := hol.2 k hk; omega)
      obtain ⟨vp, ve, vd, vs, HOC⟩ := objOpen hoW
      have p1 := HOC.c1
      have fp1 := hoW.frozen (oh + i * 11 + 1 + 1)
      have HP1 := Lib.hid (hoW.setPost objR_proto (y := 0) (v := .int .i64 0) rfl)
      have hcW : Chg (fun k => w.heap.size ≤ k) w W := (HCC.out.trans hcw (fun _ _ x => x.elim) (fun i hi x => by omega))
      have HCWW := Lib.hid hcW
      have hDW := lt_of_block hk
      have hkD := ((Chg.setCell W ⟨gh, oh + i * 11 + 1 + 1, none⟩ (.int .i64 0)).keep hk (show ¬ D = gh by omega))
      have HKD := Lib.hid (show ((W.setCell ⟨gh, oh + i * 11 + 1 + 1, none⟩ (.int .i64 0)).setCell ⟨b6, 0, none⟩ (.int .i64 0)).heap[D]? = some (.deferred (some [])) from (Chg.setCell _ ⟨b6, 0, none⟩ _).keep hkD (show ¬ D = b6 by omega))
      have HDL := Lib.hid (show wc.heap.size ≤ D ∧ D < W.heap.size ∧ wc.heap.size ≤ W.heap.size from ⟨hD, hDW, hcw.size⟩)
      have hcf : ¬ (chainM hp 100001 0).contains o = true := by simpa using hi
      have HNF := Lib.hid hcf
      clear hb6 hb6g hcw hk hkD hi hD hoW HOC hcf hn hol hcW hDW
      dsimp only
      go_wp2_with fail
      rw [bodyM_eq]
      refine ⟨by simp, .inl ⟨_, _, rfl, run_takeDeferred HKD.out, ?_⟩⟩
      have hn := HN.out
      have hdl := HDL.out
      have hol := HOL.out
      have hb6' := ((Chg.refl (fun k => k = D) ((W.setCell ⟨gh, oh + i * 11 + 1 + 1, none⟩ (.int .i64 0)).setCell ⟨b6, 0, none⟩ (.int .i64 0))).putL D (.deferred none) (fun _ => rfl)).keep HS6.out (by omega)
      have k7 := cell_of_block (i := 0) hb6' rfl
      refine ⟨_, results_cell1 rfl _ _ b6 (.int .i64 0) (by rfl) (run_loadVarE _ _ _ k7), ?_⟩
      unfold LinkPost
      rw [if_neg HNF.out]
      refine ⟨rfl, HPT.out _ _ ?_⟩
      exact Post.late (S := fun k => k = b6 ∨ k = D) HCWW.out HP1.out hol.1 hol.2 (((Chg.setCell _ ⟨b6, 0, none⟩ _).mono (fun _ _ x => .inl x)).putL _ _ (fun _ => .inr rfl)) (fun k hk => by rcases hk with rfl | rfl <;> omega)
    case stop =>
      rintro D pre W hD ⟨hin, hb6⟩ hcw hk
      have hn := HN.out
      have hcf : (chainM hp 100001 0).contains o = true := by simpa using hin
      gi_wp2
      rw [bodyM_eq]
      refine ⟨by simp, .inl ⟨_, _, rfl, run_takeDeferred hk, ?_⟩⟩
      have hb6' := ((Chg.refl (fun k => k = D) W).putL D (.deferred none) (fun _ => rfl)).keep hb6 (by omega)
      have k7 := cell_of_block (i := 0) hb6' rfl
      refine ⟨_, results_cell1 rfl _ _ b6 (.int .i64 16) (by rfl) (run_loadVarE _ _ _ k7), ?_⟩
      unfold LinkPost
      rw [if_pos hcf]
      refine ⟨rfl, ?_⟩
      exact ((HCC.out.trans hcw (fun _ _ x => x) (fun i hi x => by omega)).putL _ _ (fun h => by omega))
  · have z1 : (proto == 0) = false := beq_false_of_ne hz
    have z2 : (proto != 0) = true := bne_iff_ne.2 hz
    have hce := fun W => chain_any W (some ⟨bh, 0, none⟩) proto
    have HCE := Lib.hid hce
    obtain ⟨j, hj⟩ : ∃ j, slotOf hp proto = some j := by
      rcases HLV.out with h | h
      · exact absurd h hz
      · exact Option.isSome_iff_exists.1 h
    rw [hj, show objPtr (.slice (some ⟨gh, oh, none⟩) hp.slots.length kh) (some j) = some ⟨gh, oh + j * 11 + 1, none⟩ from rfl] at HAP
    clear hce hj
    go_wp2_with (first | (go_at_call 35; refine (HAP.out _ HCW.out).mono ?_; rintro e wb ⟨rfl, hcb⟩; have HCW := Lib.hid (HCW.out.trans' hcb); have HBA := Lib.hid (hcb.keep HBA.out (fun x => x)); have HB5A := Lib.hid (hcb.keep HB5A.out (fun x => x)); clear hcb) | (go_at_call 36; refine (HCE.out _).mono ?_; rintro e wc ⟨rfl, rfl⟩))
    have hk1 := (Chg.alloc (fun _ => False) (wb.alloc (.cells #[.pointer (some ⟨bh, 0, none⟩)] 73)) (.cells #[.int .i64 proto] 3)).keep (alloc_block wb (.cells #[.pointer (some ⟨bh, 0, none⟩)] 73)) (fun x => x)
    have hk2 := alloc_block (wb.alloc (.cells #[.pointer (some ⟨bh, 0, none⟩)] 73)) (.cells #[.int .i64 proto] 3)
    have hs2 : (wb.alloc (.cells #[.pointer (some ⟨bh, 0, none⟩)] 73)).heap.size = wb.heap.size + 1 := Array.size_push ..
    rw [hs2] at hk2
    have hcc := (Chg.alloc (fun _ => False) wb (.cells #[.pointer (some ⟨bh, 0, none⟩)] 73)).allocR (.cells #[.int .i64 proto] 3)
    have HCC := Lib.hid (HCW.out.trans' hcc)
    have hk6 := hcc.keep HBA.out (fun x => x)
    have hk5 := hcc.keep HB5A.out (fun x => x)
    have hsz := HCW.out.size
    have hl6 := lt_of_block HBA.out
    generalize (wb.alloc (.cells #[.pointer (some ⟨bh, 0, none⟩)] 73)).alloc (.cells #[.int .i64 proto] 3) = wc at *
    generalize hb1e : wb.heap.size = b1 at *
    have hlt2 := lt_of_block hk2
    have HF := Lib.hid (HH.out.still HCC.out)
    have HK1 := Lib.hid hk1
    have HK2 := Lib.hid hk2
    have HK5 := Lib.hid hk5
    have HK6 := Lib.hid hk6
    have hbne := HBE.out
    have hb5e := HBE5.out
    have hbl := HH.out.lt
    have hol : gh < w.heap.size ∧ ∀ k ∈ G, k < w.heap.size := HOB.out.lt
    have HN : Hid (b4 ≠ b1 + 1 ∧ b6 ≠ b1 + 1 ∧ b1 + 1 < wc.heap.size ∧ b6 < wc.heap.size ∧ w.heap.size ≤ b6 ∧ w.heap.size ≤ b1 + 1 ∧ bh ≠ b1 + 1 ∧ b1 + 1 ∉ F) := Lib.hid ⟨by omega, by omega, by omega, by omega, by omega, by omega, by have := hbl.1; omega, fun hx => by have := hbl.2 _ hx; omega⟩
    have HOL : Hid (gh < w.heap.size ∧ ∀ k ∈ G, k < w.heap.size) := Lib.hid hol
    clear hk1 hk2 hs2 hcc hk6 hk5 hsz hl6 hb1e hlt2 hbne hb5e hbl hol HBA HB5A HCE HCW HBE HBE5 k4
    refine (wpIn_wide (n := 9) (P := Tryd.prog)).1 (wpIn_rangeFunc_find (F := Fence.wide) (n := 9) rfl (by omega) (gf := 52) (lb := #[.pointer (some ⟨b1, 0, none⟩), .pointer (some ⟨b1 + 1, 0, none⟩)]) rfl trivial (enters_of Tryd.func52 (by kernel_rfl) rfl) (encs := fun h : Int => #[.int .i64 h]) (xs := chainM hp 100001 proto) (bo := b1 + 1) HN.out.2.2.1 ?seq (fun _ => rfl)
      (fun pre => o ∉ pre) (fun pre W => o ∈ chainM hp 100001 proto ∧ W.heap[b6]? = some (.cells #[.int .i64 16] 32 (0, 0))) (fun k => k = b6) ?hT ?hR (by simp) (fun y => { tmps := #[.pointer (some ⟨bh, 0, none⟩), .int .i64 o, .int .i64 proto, undef, .pointer (some ⟨b4, 0, none⟩), undef, .pointer (some ⟨b6, 0, none⟩), .pointer (some ⟨gh, oh + i * 11 + 1, none⟩), .int .i64 y, .pointer (some ⟨bh, 0, none⟩), .int .i64 o, .pointer (some ⟨gh, oh + i * 11 + 1, none⟩), .pointer (some ⟨gh, oh + i * 11 + 1, none⟩), .bool false, .bool false, .int .i64 proto, .bool true, .bool true, .pointer (some ⟨bh, 0, none⟩), .int .i64 proto, .pointer (some ⟨gh, oh + j * 11 + 1, none⟩), .bool false, .bool false, .bool false, .pointer (some ⟨bh, 0, none⟩), .int .i64 proto, .func (.func 52) #[] #[.pointer (some ⟨b1, 0, none⟩), .pointer (some ⟨b1 + 1, 0, none⟩)], .int .i64 y, undef, undef, undef, undef, undef, undef, undef], defers := [] }) ?assign ?body ?done ?stop)
    case seq => exact chain1_find _ wc bh hp F b1 (b1 + 1) _ proto HF.out HK1.out HK2.out (by omega) HN.out.2.2.2.2.2.2.2 HN.out.2.2.2.2.2.2.1 HIN.out HPR.out
    case hT => rintro k rfl; exact HN.out.2.2.2.1
    case hR => rintro pre A B ⟨h1, h2⟩ hc; exact ⟨h1, hc.keep h2 (by have := HN.out.2.2.2.1; omega)⟩
    case assign =>
      intro l y W K hK
      have hsem := @Oper.semAt_some
      gi_wp2
      exact hK
    case body =>
      rintro l pre y W hpre hpx hcw
      have hb5 := hcw.keep HK5.out HN.out.1
      have hb6 := hcw.keep HK6.out HN.out.2.1
      have k5 := cell_of_block (i := 0) hb5 rfl
      have k6 := cell_of_block (i := 0) hb6 rfl
      have f6 := frozen_of_block (i := 0) hb6
      simp only [List.getElem_toArray, List.getElem_cons_zero] at k5 k6
      have HS6 := Lib.hid (setCell_block (i := 0) (.int .i64 16) hb6)
      have HPR2 := Lib.hid hpre
      have HPX := Lib.hid hpx
      have hsem := @Oper.semAt_some
      clear hb5 hb6 hcw hpre hpx
      by_cases hyp : y = o
      · subst hyp
        gi_wp2
        exact ⟨⟨HPX.out.subset (by simp), HS6.out⟩, Chg.setCell W ⟨b6, 0, none⟩ _⟩
      · have z9 : (y == o) = false := beq_false_of_ne hyp
        gi_wp2
        exact ⟨⟨HPR2.out, Ne.symm hyp⟩, Chg.refl _ _⟩
    case done =>
      intro D W hD hi hcw hk
      have hb6 := hcw.keep HK6.out HN.out.2.1
      have hn := HN.out
      have hol := HOL.out
      have hg6 : gh ≠ b6 := by omega
      have hb6g := (Chg.setCell W ⟨gh, oh + i * 11 + 1 + 1, none⟩ (.int .i64 proto)).keep hb6 (show ¬ b6 = gh by omega)
      have k6 := cell_of_block (i := 0) hb6g rfl
      have f6 := frozen_of_block (i := 0) hb6g
      simp only [List.getElem_toArray, List.getElem_cons_zero] at k6
      have HS6 := Lib.hid (setCell_block (i := 0) (.int .i64 0) hb6g)
      have hoW : Here objR W gh (oh + i * 11 + 1) hp.slots[i].obj G := (HOB.out.still HCC.out).chg hcw (show ¬ gh = b1 + 1 by omega) (fun k hk e => by have := hol.2 k hk; omega)
      obtain ⟨vp, ve, vd, vs, HOC⟩ := objOpen hoW
      have p1 := HOC.c1
      have fp1 := hoW.frozen (oh + i * 11 + 1 + 1)
      have HP1 := Lib.hid (hoW.setPost objR_proto (y := proto) (v := .int .i64 proto) rfl)
      have hcW : Chg (fun k => w.heap.size ≤ k) w W := (HCC.out.trans hcw (fun _ _ x => x.elim) (fun i hi x => by omega))
      have HCWW := Lib.hid hcW
      have hDW := lt_of_block hk
      have hkD := ((Chg.setCell W ⟨gh, oh + i * 11 + 1 + 1, none⟩ (.int .i64 proto)).keep hk (show ¬ D = gh by omega))
      have HKD := Lib.hid (show ((W.setCell ⟨gh, oh + i * 11 + 1 + 1, none⟩ (.int .i64 proto)).setCell ⟨b6, 0, none⟩ (.int .i64 0)).heap[D]? = some (.deferred (some [])) from (Chg.setCell _ ⟨b6, 0, none⟩ _).keep hkD (show ¬ D = b6 by omega))
      have HDL := Lib.hid (show wc.heap.size ≤ D ∧ D < W.heap.size ∧ wc.heap.size ≤ W.heap.size from ⟨hD, hDW, hcw.size⟩)
      have hcf : ¬ (chainM hp 100001 proto).contains o = true := by simpa using hi
      have HNF := Lib.hid hcf
      clear hb6 hb6g hcw hk hkD hi hD hoW HOC hcf hn hol hcW hDW
      dsimp only
      go_wp2_with fail
      rw [bodyM_eq]
      refine ⟨by simp, .inl ⟨_, _, rfl, run_takeDeferred HKD.out, ?_⟩⟩
      have hn := HN.out
      have hdl := HDL.out
      have hol := HOL.out
      have hb6' := ((Chg.refl (fun k => k = D) ((W.setCell ⟨gh, oh + i * 11 + 1 + 1, none⟩ (.int .i64 proto)).setCell ⟨b6, 0, none⟩ (.int .i64 0))).putL D (.deferred none) (fun _ => rfl)).keep HS6.out (by omega)
      have k7 := cell_of_block (i := 0) hb6' rfl
      refine ⟨_, results_cell1 rfl _ _ b6 (.int .i64 0) (by rfl) (run_loadVarE _ _ _ k7), ?_⟩
      unfold LinkPost
      rw [if_neg HNF.out]
      refine ⟨rfl, HPT.out _ _ ?_⟩
      exact Post.late (S := fun k => k = b6 ∨ k = D) HCWW.out HP1.out hol.1 hol.2 (((Chg.setCell _ ⟨b6, 0, none⟩ _).mono (fun _ _ x => .inl x)).putL _ _ (fun _ => .inr rfl)) (fun k hk => by rcases hk with rfl | rfl <;> omega)
    case stop =>
      rintro D pre W hD ⟨hin, hb6⟩ hcw hk
      have hn := HN.out
      have hcf : (chainM hp 100001 proto).contains o = true := by simpa using hin
      gi_wp2
      rw [bodyM_eq]
      refine ⟨by simp, .inl ⟨_, _, rfl, run_takeDeferred hk, ?_⟩⟩
      have hb6' := ((Chg.refl (fun k => k = D) W).putL D (.deferred none) (fun _ => rfl)).keep hb6 (by omega)
      have k7 := cell_of_block (i := 0) hb6' rfl
      refine ⟨_, results_cell1 rfl _ _ b6 (.int .i64 16) (by rfl) (run_loadVarE _ _ _ k7), ?_⟩
      unfold LinkPost
      rw [if_pos hcf]
      refine ⟨rfl, ?_⟩
      exact ((HCC.out.trans hcw (fun _ _ x => x) (fun i hi x => by omega)).putL _ _ (fun h => by omega))
end Go.Proofs.YtjianickjahdnaaDoor
namespace Go.Proofs.YtjianickjahdnaaDoor
open Go.RowKit
set_option linter.unusedVariables false
set_option linter.unusedSimpArgs false

set_option maxHeartbeats 1600000 in
set_option maxRecDepth 100000 in
theorem put_elem (w : World) (b : Nat) (hp : Hp) (F : List Nat) (h : Int) (i : Nat) (key : ByteArray) (x y : Val) (H : Here hpR w b 0 hp F) (hi : -9223372036854775808 ≤ h ∧ h ≤ 9223372036854775807) (hs : slotOf hp h = some i) (hl : i < hp.slots.length) (hk : hp.slots[i].obj.kind = 1) (hle : hp.slots[i].obj.elems.length ≤ 20000)
    (HN : ∀ W, Chg (fun _ => False) w W → Calls Tryd.prog 37 #[.agg #[.int .i64 x.kind, .int .i64 x.int, .string x.str, .int .i64 x.ref]] W fun e w' => e = .returned (.agg #[.int .i64 y.kind, .int .i64 y.int, .string y.str, .int .i64 y.ref]) ∧ Chg (fun _ => False) W w') (hkl : ¬ key.toList = [108, 101, 110, 103, 116, 104]) (hks : key.size ≤ 1000000) (HT : Tabs w) (j : Nat) (hpz : posM key = (j : Int)) (hj : j < hp.slots[i].obj.elems.length) :
    Calls Tryd.prog 24 #[.pointer (some ⟨b, 0, none⟩), .int .i64 h, .string key, .agg #[.int .i64 x.kind, .int .i64 x.int, .string x.str, .int .i64 x.ref]] w fun e w' => e = .returned (.int .i64 0) ∧ Post hpR w b 0 (putO hp i { hp.slots[i].obj with elems := hp.slots[i].obj.elems.set j y }) F w' := by
  have HPS := Lib.hid (fun W (hc : Chg (fun _ => False) w W) => position_any key W hks (HT.still hc))
  have s1 : (key.toList == [108, 101, 110, 103, 116, 104]) = false := beq_false_of_ne hkl
  clear HT hks
  rw [hpz] at HPS
  clear hpz
  have hca := Chg.alloc (fun _ => False) w (.cells #[.int .i64 x.kind, .int .i64 x.int, .string x.str, .int .i64 x.ref] 36)
  have kb := alloc_block w (.cells #[.int .i64 x.kind, .int .i64 x.int, .string x.str, .int .i64 x.ref] 36)
  have HKB := Lib.hid kb
  have H2 := H.still hca
  obtain ⟨gh, oh, kh, c2, G, HOBJ0, hGF, hput⟩ := hpPut H hl
  obtain ⟨vp, ve, vd, vs, HOC⟩ := objOpen HOBJ0
  obtain ⟨ae, cape, rfl, -⟩ := HOC.re.slice
  have k0 := HOC.c0
  rw [hk] at k0
  have HC0 := Lib.hid k0
  have HC3 := Lib.hid HOC.c3
  have hat := hat_any _ b 0 hp F h _ H2 (by rw [Nat.zero_add]; exact hca.cell c2) hi
  rw [hs, show objPtr (.slice (some ⟨gh, oh, none⟩) hp.slots.length kh) (some i) = some ⟨gh, oh + i * 11 + 1, none⟩ from rfl] at hat
  have HAT := Lib.hid hat
  have HNN := Lib.hid HN
  generalize hx : hp.slots[i].obj = o_ at *
  have HX := Lib.hid hx
  have HCA := Lib.hid hca
  have HOB := Lib.hid HOBJ0
  have HPT := Lib.hid hput
  have HLT := Lib.hid HOBJ0.lt
  have HLE := Lib.hid hle
  clear kb hca H2 c2 HOBJ0 hGF hput HOC k0 hi hs H hx hk hat HN hle
  have HJ0 := Lib.hid hj
  clear hj
  go_enter Tryd.func24, Tryd.ntmps24
  go_upto_region 1 with fail
  generalize hw2 : w.alloc (.cells #[.int .i64 x.kind, .int .i64 x.int, .string x.str, .int .i64 x.ref] 36) = w1 at *
  generalize hb7 : w.heap.size = b7 at *
  have HB7E := Lib.hid hb7
  clear hw2 hb7
  go_upto_region 4 with (go_at_call 35; refine HAT.out.mono ?_; rintro e wa ⟨rfl, hca⟩)
  have HC1 := Lib.hid (HCA.out.trans' hca)
  have HKB2 := Lib.hid (hca.keep HKB.out (fun x => x))
  have k0 := cell_of_block (i := 0) HKB2.out rfl
  have k1 := cell_of_block (i := 1) HKB2.out rfl
  have k2 := cell_of_block (i := 2) HKB2.out rfl
  have k3 := cell_of_block (i := 3) HKB2.out rfl
  simp only [List.getElem_toArray, List.getElem_cons_zero, List.getElem_cons_succ] at k0 k1 k2 k3
  clear hca HAT HKB
  go_upto_region 5 with (go_at_call 37; refine (HNN.out _ HC1.out).mono ?_; rintro e wn ⟨rfl, hcn⟩; have hbn := hcn.keep HKB2.out (fun x => x); obtain ⟨z10, q0, z11, q1, z12, q2, z13, q3, hbf, hcs⟩ := store4 hbn (.int .i64 y.kind) (.int .i64 y.int) (.string y.str) (.int .i64 y.ref))
  have HB7 := Lib.hid hbf
  have hc4 : Chg (fun _ => False) w (((((wn.setCell ⟨b7, 0, none⟩ (.int .i64 y.kind)).setCell ⟨b7, 1, none⟩ (.int .i64 y.int)).setCell ⟨b7, 2, none⟩ (.string y.str)).setCell ⟨b7, 3, none⟩ (.int .i64 y.ref))) := (HC1.out.trans' hcn).trans hcs (fun _ _ x => x) (fun k hk e => by have := HB7E.out; omega)
  clear hbf hcs hcn hbn z10 q0 z11 q1 z12 q2 z13 q3 k0 k1 k2 k3
  generalize ((((wn.setCell ⟨b7, 0, none⟩ (.int .i64 y.kind)).setCell ⟨b7, 1, none⟩ (.int .i64 y.int)).setCell ⟨b7, 2, none⟩ (.string y.str)).setCell ⟨b7, 3, none⟩ (.int .i64 y.ref)) = w4 at *
  have c0 := hc4.cell HC0.out
  have HC4 := Lib.hid hc4
  clear hc4 HNN HKB2 HC1 HCA
  go_upto_region 12 with (go_at_call 21; refine (HPS.out _ HC4.out).mono ?_; rintro e w5 ⟨rfl, hc5⟩)
  have HC5 := Lib.hid (HC4.out.trans' hc5)
  have HY7 := Lib.hid (hc5.keep HB7.out (fun x => x))
  have HOB5 := Lib.hid (HOB.out.still HC5.out)
  clear hc5 HPS c0 HB7 HC4 HOB
  have j0 : (0 : Int) ≤ (j : Int) := by omega
  have j1 : (j : Int) < (o_.elems.length : Int) := by have := HJ0.out; omega
  have j2 : ¬ (o_.elems.length : Int) ≤ (j : Int) := by omega
  have HJ := HJ0
  have HOB6 := HOB5
  have HY6 := HY7
  have jn := HJ0.out
  obtain ⟨gp, opp, cp, hcv⟩ := HOB6.out.rowAt objR_elems (by show 0 < 10; decide) (by have := HJ.out; omega)
  have jn := HJ.out
  obtain ⟨G2, HEL, -, -, -, hwb⟩ := (HOB6.out.drew).rowElem objR_elems (by show 0 < 10; decide) (show w5.drew.cell? _ = _ from hcv) HJ.out
  have n0 := cell_of_block (i := 0) HY6.out rfl
  have n1 := cell_of_block (i := 1) HY6.out rfl
  have n2 := cell_of_block (i := 2) HY6.out rfl
  have n3 := cell_of_block (i := 3) HY6.out rfl
  simp only [List.getElem_toArray, List.getElem_cons_zero, List.getElem_cons_succ] at n0 n1 n2 n3
  have HS0 : Hid (w5.cell? ⟨gh, oh + i * 11 + 1 + 3, none⟩ = some (.slice (some ⟨gp, opp, none⟩) o_.elems.length cp) ∧ w5.cell? ⟨b7, 0, none⟩ = some (.int .i64 y.kind) ∧ w5.cell? ⟨b7, 1, none⟩ = some (.int .i64 y.int) ∧ w5.cell? ⟨b7, 2, none⟩ = some (.string y.str) ∧ w5.cell? ⟨b7, 3, none⟩ = some (.int .i64 y.ref)) := Lib.hid ⟨hcv, n0, n1, n2, n3⟩
  clear n0 n1 n2 n3
  have HWB := Lib.hid hwb
  have HELH := Lib.hid HEL
  clear hwb HEL
  go_upto_region 15 with fail
  clear hcv
  refine wp_region_held_split 7 (fun w' => w'.cell? ⟨gh, oh + i * 11 + 1 + 3, none⟩ = some (.slice (some ⟨gp, opp, none⟩) o_.elems.length cp) ∧ w'.cell? ⟨b7, 0, none⟩ = some (.int .i64 y.kind) ∧ w'.cell? ⟨b7, 1, none⟩ = some (.int .i64 y.int) ∧ w'.cell? ⟨b7, 2, none⟩ = some (.string y.str) ∧ w'.cell? ⟨b7, 3, none⟩ = some (.int .i64 y.ref)) (by kernel_rfl) (by kernel_rfl) ?_ (fun hHeld => ?_)
  · (first | exact HS0.out | exact HKS.out _ (Chg.refl _ _))
  simp only [List.take_succ_cons, List.take_zero]
  have HKS : Hid (∀ W, Chg (fun _ => False) w5.drew W → W.cell? ⟨gh, oh + i * 11 + 1 + 3, none⟩ = some (.slice (some ⟨gp, opp, none⟩) o_.elems.length cp) ∧ W.cell? ⟨b7, 0, none⟩ = some (.int .i64 y.kind) ∧ W.cell? ⟨b7, 1, none⟩ = some (.int .i64 y.int) ∧ W.cell? ⟨b7, 2, none⟩ = some (.string y.str) ∧ W.cell? ⟨b7, 3, none⟩ = some (.int .i64 y.ref)) := Lib.hid (fun W hc => ⟨hc.cell HS0.out.1, hc.cell HS0.out.2.1, hc.cell HS0.out.2.2.1, hc.cell HS0.out.2.2.2.1, hc.cell HS0.out.2.2.2.2⟩)
  have HWD : Hid (Chg (fun _ => False) w5 w5.drew) := Lib.hid (Chg.refl _ w5).drewR
  generalize w5.drew = wD at *
  refine wpAnyH_take (i := 0) (v := ?_) rfl (by kernel_rfl) (by kernel_rfl) (by kernel_rfl) (fun _ _ _ h => h) (Or.inl ⟨by rfl, ?_⟩) (by assumption) ?_
  rotate_left
  · (intro wq hSw; (try dsimp only at hSw); go_simp; (try with_reducible rfl))
  simp only [Act.put, List.getElem_toArray, List.getElem_cons_zero, List.getElem_cons_succ, List.setIfInBounds_toArray, List.set_cons_zero, List.set_cons_succ]
  refine wpAnyH_take (i := 1) (v := ?_) rfl (by kernel_rfl) (by kernel_rfl) (by kernel_rfl) (fun _ _ _ h => h) (Or.inl ⟨by rfl, ?_⟩) (by assumption) ?_
  rotate_left
  · (intro wq hSw; (try dsimp only at hSw); go_simp; (try with_reducible rfl))
  simp only [Act.put, List.getElem_toArray, List.getElem_cons_zero, List.getElem_cons_succ, List.setIfInBounds_toArray, List.set_cons_zero, List.set_cons_succ]
  refine wpAnyH_take (i := 2) (v := ?_) rfl (by kernel_rfl) (by kernel_rfl) (by kernel_rfl) (fun _ _ _ h => h) (Or.inl ⟨by rfl, ?_⟩) (by assumption) ?_
  rotate_left
  · (intro wq hSw; (try dsimp only at hSw); go_simp; (try with_reducible rfl))
  simp only [Act.put, List.getElem_toArray, List.getElem_cons_zero, List.getElem_cons_succ, List.setIfInBounds_toArray, List.set_cons_zero, List.set_cons_succ]
  refine wpAnyH_take (i := 3) (v := ?_) rfl (by kernel_rfl) (by kernel_rfl) (by kernel_rfl) (fun _ _ _ h => h) (Or.inl ⟨by rfl, ?_⟩) (by assumption) ?_
  rotate_left
  · (intro wq hSw; (try dsimp only at hSw); go_simp; (try with_reducible rfl))
  simp only [Act.put, List.getElem_toArray, List.getElem_cons_zero, List.getElem_cons_succ, List.setIfInBounds_toArray, List.set_cons_zero, List.set_cons_succ]
  refine wpAnyH_take (i := 4) (v := ?_) rfl (by kernel_rfl) (by kernel_rfl) (by kernel_rfl) (fun _ _ _ h => h) (Or.inl ⟨by rfl, ?_⟩) (by assumption) ?_
  rotate_left
  · (intro wq hSw; (try dsimp only at hSw); go_simp; (try with_reducible rfl))
  simp only [Act.put, List.getElem_toArray, List.getElem_cons_zero, List.getElem_cons_succ, List.setIfInBounds_toArray, List.set_cons_zero, List.set_cons_succ]
  refine wpAnyH_take (i := 5) (v := ?_) rfl (by kernel_rfl) (by kernel_rfl) (by kernel_rfl) (fun _ _ _ h => h) (Or.inl ⟨by rfl, ?_⟩) (by assumption) ?_
  rotate_left
  · (intro wq hSw; (try dsimp only at hSw); go_simp; (try with_reducible rfl))
  simp only [Act.put, List.getElem_toArray, List.getElem_cons_zero, List.getElem_cons_succ, List.setIfInBounds_toArray, List.set_cons_zero, List.set_cons_succ]
  refine wpAnyH_take (i := 6) (v := ?_) rfl (by kernel_rfl) (by kernel_rfl) (by kernel_rfl) (fun _ _ _ h => h) (Or.inl ⟨by rfl, ?_⟩) (by assumption) ?_
  rotate_left
  · (intro wq hSw; (try dsimp only at hSw); go_simp; (try with_reducible rfl))
  simp only [Act.put, List.getElem_toArray, List.getElem_cons_zero, List.getElem_cons_succ, List.setIfInBounds_toArray, List.set_cons_zero, List.set_cons_succ]
  refine wpAnyH_done (by kernel_rfl) ?_ _
  change wpList _ _ _ _ _ _
  simp only [List.drop_succ_cons, List.drop_zero]
  have P1 := HELH.out.setPost valR_kind (y := y.kind) (v := .int .i64 y.kind) rfl
  have P2 := P1.then (fun F' H' => H'.setPost valR_int (y := y.int) (v := .int .i64 y.int) rfl)
  have P3 := P2.then (fun F' H' => H'.setPost valR_str (y := y.str) (v := .string y.str) rfl)
  have P4 := P3.then (fun F' H' => H'.setPost valR_ref (y := y.ref) (v := .int .i64 y.ref) rfl)
  obtain ⟨cB, TB, hbB, hszB⟩ : ∃ c T, wD.heap[gp]? = some (.cells c T (0, 0)) ∧ opp + j * 4 + 4 ≤ c.size := by
    obtain ⟨c, T, hh⟩ := HELH.out.size
    rcases hh with hh | hh
    · exact ⟨c, T, hh.1, by have := hh.2.2; show opp + j * 4 + 4 ≤ _; exact this⟩
    · exact absurd hh (by decide)
  obtain ⟨u0, u1, u2, u3, ⟨e0, f0⟩, ⟨e1, f1⟩, ⟨e2, f2⟩, e3, f3⟩ := store4At (o := opp + j * 4) hbB hszB (.int .i64 y.kind) (.int .i64 y.int) (.string y.str) (.int .i64 y.ref)
  have HP4 := Lib.hid P4
  clear P1 P2 P3 P4
  go_wp2_with fail
  go_ret
  obtain ⟨F4, h1, h2⟩ := HP4.out
  have hpl := (HWB.out _ _ F4 h1 h2).1
  exact ⟨rfl, HPT.out _ _ (Post.pre (HC5.out.trans' HWD.out) hpl)⟩
set_option maxHeartbeats 1600000 in
set_option maxRecDepth 100000 in
theorem put_grow (w : World) (b : Nat) (hp : Hp) (F : List Nat) (h : Int) (i : Nat) (key : ByteArray) (x y : Val) (H : Here hpR w b 0 hp F) (hi : -9223372036854775808 ≤ h ∧ h ≤ 9223372036854775807) (hs : slotOf hp h = some i) (hl : i < hp.slots.length) (hk : hp.slots[i].obj.kind = 1) (hle : hp.slots[i].obj.elems.length ≤ 20000)
    (HN : ∀ W, Chg (fun _ => False) w W → Calls Tryd.prog 37 #[.agg #[.int .i64 x.kind, .int .i64 x.int, .string x.str, .int .i64 x.ref]] W fun e w' => e = .returned (.agg #[.int .i64 y.kind, .int .i64 y.int, .string y.str, .int .i64 y.ref]) ∧ Chg (fun _ => False) W w') (hkl : ¬ key.toList = [108, 101, 110, 103, 116, 104]) (hks : key.size ≤ 1000000) (HT : Tabs w) (j : Nat) (hpz : posM key = (j : Int)) (hj : hp.slots[i].obj.elems.length ≤ j) (hj2 : j < 10000) :
    Calls Tryd.prog 24 #[.pointer (some ⟨b, 0, none⟩), .int .i64 h, .string key, .agg #[.int .i64 x.kind, .int .i64 x.int, .string x.str, .int .i64 x.ref]] w fun e w' => e = .returned (.int .i64 0) ∧ Post hpR w b 0 (putO hp i { hp.slots[i].obj with elems := (resizeL hp.slots[i].obj.elems (j + 1)).set j y }) F w' := by
  have HPS := Lib.hid (fun W (hc : Chg (fun _ => False) w W) => position_any key W hks (HT.still hc))
  have s1 : (key.toList == [108, 101, 110, 103, 116, 104]) = false := beq_false_of_ne hkl
  clear HT hks
  rw [hpz] at HPS
  clear hpz
  have hca := Chg.alloc (fun _ => False) w (.cells #[.int .i64 x.kind, .int .i64 x.int, .string x.str, .int .i64 x.ref] 36)
  have kb := alloc_block w (.cells #[.int .i64 x.kind, .int .i64 x.int, .string x.str, .int .i64 x.ref] 36)
  have HKB := Lib.hid kb
  have H2 := H.still hca
  obtain ⟨gh, oh, kh, c2, G, HOBJ0, hGF, hput⟩ := hpPut H hl
  obtain ⟨vp, ve, vd, vs, HOC⟩ := objOpen HOBJ0
  obtain ⟨ae, cape, rfl, -⟩ := HOC.re.slice
  have k0 := HOC.c0
  rw [hk] at k0
  have HC0 := Lib.hid k0
  have HC3 := Lib.hid HOC.c3
  have hat := hat_any _ b 0 hp F h _ H2 (by rw [Nat.zero_add]; exact hca.cell c2) hi
  rw [hs, show objPtr (.slice (some ⟨gh, oh, none⟩) hp.slots.length kh) (some i) = some ⟨gh, oh + i * 11 + 1, none⟩ from rfl] at hat
  have HAT := Lib.hid hat
  have HNN := Lib.hid HN
  generalize hx : hp.slots[i].obj = o_ at *
  have HX := Lib.hid hx
  have HCA := Lib.hid hca
  have HOB := Lib.hid HOBJ0
  have HPT := Lib.hid hput
  have HLT := Lib.hid HOBJ0.lt
  have HLE := Lib.hid hle
  clear kb hca H2 c2 HOBJ0 hGF hput HOC k0 hi hs H hx hk hat HN hle
  have HJ0 := Lib.hid hj
  have HJ2 := Lib.hid hj2
  clear hj hj2
  go_enter Tryd.func24, Tryd.ntmps24
  go_upto_region 1 with fail
  generalize hw2 : w.alloc (.cells #[.int .i64 x.kind, .int .i64 x.int, .string x.str, .int .i64 x.ref] 36) = w1 at *
  generalize hb7 : w.heap.size = b7 at *
  have HB7E := Lib.hid hb7
  clear hw2 hb7
  go_upto_region 4 with (go_at_call 35; refine HAT.out.mono ?_; rintro e wa ⟨rfl, hca⟩)
  have HC1 := Lib.hid (HCA.out.trans' hca)
  have HKB2 := Lib.hid (hca.keep HKB.out (fun x => x))
  have k0 := cell_of_block (i := 0) HKB2.out rfl
  have k1 := cell_of_block (i := 1) HKB2.out rfl
  have k2 := cell_of_block (i := 2) HKB2.out rfl
  have k3 := cell_of_block (i := 3) HKB2.out rfl
  simp only [List.getElem_toArray, List.getElem_cons_zero, List.getElem_cons_succ] at k0 k1 k2 k3
  clear hca HAT HKB
  go_upto_region 5 with (go_at_call 37; refine (HNN.out _ HC1.out).mono ?_; rintro e wn ⟨rfl, hcn⟩; have hbn := hcn.keep HKB2.out (fun x => x); obtain ⟨z10, q0, z11, q1, z12, q2, z13, q3, hbf, hcs⟩ := store4 hbn (.int .i64 y.kind) (.int .i64 y.int) (.string y.str) (.int .i64 y.ref))
  have HB7 := Lib.hid hbf
  have hc4 : Chg (fun _ => False) w (((((wn.setCell ⟨b7, 0, none⟩ (.int .i64 y.kind)).setCell ⟨b7, 1, none⟩ (.int .i64 y.int)).setCell ⟨b7, 2, none⟩ (.string y.str)).setCell ⟨b7, 3, none⟩ (.int .i64 y.ref))) := (HC1.out.trans' hcn).trans hcs (fun _ _ x => x) (fun k hk e => by have := HB7E.out; omega)
  clear hbf hcs hcn hbn z10 q0 z11 q1 z12 q2 z13 q3 k0 k1 k2 k3
  generalize ((((wn.setCell ⟨b7, 0, none⟩ (.int .i64 y.kind)).setCell ⟨b7, 1, none⟩ (.int .i64 y.int)).setCell ⟨b7, 2, none⟩ (.string y.str)).setCell ⟨b7, 3, none⟩ (.int .i64 y.ref)) = w4 at *
  have c0 := hc4.cell HC0.out
  have HC4 := Lib.hid hc4
  clear hc4 HNN HKB2 HC1 HCA
  go_upto_region 12 with (go_at_call 21; refine (HPS.out _ HC4.out).mono ?_; rintro e w5 ⟨rfl, hc5⟩)
  have HC5 := Lib.hid (HC4.out.trans' hc5)
  have HY7 := Lib.hid (hc5.keep HB7.out (fun x => x))
  have HOB5 := Lib.hid (HOB.out.still HC5.out)
  clear hc5 HPS c0 HB7 HC4 HOB
  have j0 : (0 : Int) ≤ (j : Int) := by omega
  have j1 : ¬ (j : Int) < (o_.elems.length : Int) := by have := HJ0.out; omega
  have j2 : (o_.elems.length : Int) ≤ (j : Int) := by have := HJ0.out; omega
  have wj : IntKind.i64.wrap ((j : Int) + 1) = (j : Int) + 1 := IntWalk.i64_in _ (by have := HJ2.out; omega)
  have c3 := HC5.out.cell HC3.out
  have HRS := Lib.hid (show Calls Tryd.prog 44 #[.pointer (some ⟨gh, oh + i * 11 + 1, none⟩), .int .i64 ((j : Int) + 1)] w5 _ from resize_any w5 gh (oh + i * 11 + 1) o_ G (j + 1) HOB5.out HLE.out (by have := HJ2.out; omega))
  go_upto_region 14 with fail
  go_upto_region 15 with (go_at_call 44; refine HRS.out.mono ?_; rintro e w6 ⟨rfl, hp6⟩)
  obtain ⟨G6, HOBJ6, hst6⟩ := hp6
  have HY6 := Lib.hid (hst6.chg.keep HY7.out (fun hk => by
    have h1 := HLT.out
    have h2 := HB7E.out
    rcases hk with rfl | hk
    · omega
    · have := h1.2 _ hk; omega))
  have HST6 := Lib.hid hst6
  clear hst6 HRS c3 j1 j2
  obtain ⟨o2, ho2⟩ : ∃ o2, o2 = { o_ with elems := resizeL o_.elems (j + 1) } := ⟨_, rfl⟩
  have HO2 := Lib.hid ho2
  rw [← ho2] at HOBJ6
  have HOB6 := Lib.hid HOBJ6
  have hl2 : o2.elems.length = j + 1 := by rw [ho2]; exact resizeL_len _ _
  have HJ : Hid (j < o2.elems.length) := Lib.hid (by omega)
  have j1 : (j : Int) < (o2.elems.length : Int) := by omega
  clear hl2 HOBJ6 ho2
  obtain ⟨gp, opp, cp, hcv⟩ := HOB6.out.rowAt objR_elems (by show 0 < 10; decide) (by have := HJ.out; omega)
  have jn := HJ.out
  obtain ⟨G2, HEL, -, -, -, hwb⟩ := (HOB6.out.drew).rowElem objR_elems (by show 0 < 10; decide) (show w6.drew.cell? _ = _ from hcv) HJ.out
  have n0 := cell_of_block (i := 0) HY6.out rfl
  have n1 := cell_of_block (i := 1) HY6.out rfl
  have n2 := cell_of_block (i := 2) HY6.out rfl
  have n3 := cell_of_block (i := 3) HY6.out rfl
  simp only [List.getElem_toArray, List.getElem_cons_zero, List.getElem_cons_succ] at n0 n1 n2 n3
  have HS0 : Hid (w6.cell? ⟨gh, oh + i * 11 + 1 + 3, none⟩ = some (.slice (some ⟨gp, opp, none⟩) o2.elems.length cp) ∧ w6.cell? ⟨b7, 0, none⟩ = some (.int .i64 y.kind) ∧ w6.cell? ⟨b7, 1, none⟩ = some (.int .i64 y.int) ∧ w6.cell? ⟨b7, 2, none⟩ = some (.string y.str) ∧ w6.cell? ⟨b7, 3, none⟩ = some (.int .i64 y.ref)) := Lib.hid ⟨hcv, n0, n1, n2, n3⟩
  clear n0 n1 n2 n3
  have HWB := Lib.hid hwb
  have HELH := Lib.hid HEL
  clear hwb HEL
  go_upto_region 15 with fail
  clear hcv
  refine wp_region_held_split 7 (fun w' => w'.cell? ⟨gh, oh + i * 11 + 1 + 3, none⟩ = some (.slice (some ⟨gp, opp, none⟩) o2.elems.length cp) ∧ w'.cell? ⟨b7, 0, none⟩ = some (.int .i64 y.kind) ∧ w'.cell? ⟨b7, 1, none⟩ = some (.int .i64 y.int) ∧ w'.cell? ⟨b7, 2, none⟩ = some (.string y.str) ∧ w'.cell? ⟨b7, 3, none⟩ = some (.int .i64 y.ref)) (by kernel_rfl) (by kernel_rfl) ?_ (fun hHeld => ?_)
  · (first | exact HS0.out | exact HKS.out _ (Chg.refl _ _))
  simp only [List.take_succ_cons, List.take_zero]
  have HKS : Hid (∀ W, Chg (fun _ => False) w6.drew W → W.cell? ⟨gh, oh + i * 11 + 1 + 3, none⟩ = some (.slice (some ⟨gp, opp, none⟩) o2.elems.length cp) ∧ W.cell? ⟨b7, 0, none⟩ = some (.int .i64 y.kind) ∧ W.cell? ⟨b7, 1, none⟩ = some (.int .i64 y.int) ∧ W.cell? ⟨b7, 2, none⟩ = some (.string y.str) ∧ W.cell? ⟨b7, 3, none⟩ = some (.int .i64 y.ref)) := Lib.hid (fun W hc => ⟨hc.cell HS0.out.1, hc.cell HS0.out.2.1, hc.cell HS0.out.2.2.1, hc.cell HS0.out.2.2.2.1, hc.cell HS0.out.2.2.2.2⟩)
  have HWD : Hid (Chg (fun _ => False) w6 w6.drew) := Lib.hid (Chg.refl _ w6).drewR
  generalize w6.drew = wD at *
  refine wpAnyH_take (i := 0) (v := ?_) rfl (by kernel_rfl) (by kernel_rfl) (by kernel_rfl) (fun _ _ _ h => h) (Or.inl ⟨by rfl, ?_⟩) (by assumption) ?_
  rotate_left
  · (intro wq hSw; (try dsimp only at hSw); go_simp; (try with_reducible rfl))
  simp only [Act.put, List.getElem_toArray, List.getElem_cons_zero, List.getElem_cons_succ, List.setIfInBounds_toArray, List.set_cons_zero, List.set_cons_succ]
  refine wpAnyH_take (i := 1) (v := ?_) rfl (by kernel_rfl) (by kernel_rfl) (by kernel_rfl) (fun _ _ _ h => h) (Or.inl ⟨by rfl, ?_⟩) (by assumption) ?_
  rotate_left
  · (intro wq hSw; (try dsimp only at hSw); go_simp; (try with_reducible rfl))
  simp only [Act.put, List.getElem_toArray, List.getElem_cons_zero, List.getElem_cons_succ, List.setIfInBounds_toArray, List.set_cons_zero, List.set_cons_succ]
  refine wpAnyH_take (i := 2) (v := ?_) rfl (by kernel_rfl) (by kernel_rfl) (by kernel_rfl) (fun _ _ _ h => h) (Or.inl ⟨by rfl, ?_⟩) (by assumption) ?_
  rotate_left
  · (intro wq hSw; (try dsimp only at hSw); go_simp; (try with_reducible rfl))
  simp only [Act.put, List.getElem_toArray, List.getElem_cons_zero, List.getElem_cons_succ, List.setIfInBounds_toArray, List.set_cons_zero, List.set_cons_succ]
  refine wpAnyH_take (i := 3) (v := ?_) rfl (by kernel_rfl) (by kernel_rfl) (by kernel_rfl) (fun _ _ _ h => h) (Or.inl ⟨by rfl, ?_⟩) (by assumption) ?_
  rotate_left
  · (intro wq hSw; (try dsimp only at hSw); go_simp; (try with_reducible rfl))
  simp only [Act.put, List.getElem_toArray, List.getElem_cons_zero, List.getElem_cons_succ, List.setIfInBounds_toArray, List.set_cons_zero, List.set_cons_succ]
  refine wpAnyH_take (i := 4) (v := ?_) rfl (by kernel_rfl) (by kernel_rfl) (by kernel_rfl) (fun _ _ _ h => h) (Or.inl ⟨by rfl, ?_⟩) (by assumption) ?_
  rotate_left
  · (intro wq hSw; (try dsimp only at hSw); go_simp; (try with_reducible rfl))
  simp only [Act.put, List.getElem_toArray, List.getElem_cons_zero, List.getElem_cons_succ, List.setIfInBounds_toArray, List.set_cons_zero, List.set_cons_succ]
  refine wpAnyH_take (i := 5) (v := ?_) rfl (by kernel_rfl) (by kernel_rfl) (by kernel_rfl) (fun _ _ _ h => h) (Or.inl ⟨by rfl, ?_⟩) (by assumption) ?_
  rotate_left
  · (intro wq hSw; (try dsimp only at hSw); go_simp; (try with_reducible rfl))
  simp only [Act.put, List.getElem_toArray, List.getElem_cons_zero, List.getElem_cons_succ, List.setIfInBounds_toArray, List.set_cons_zero, List.set_cons_succ]
  refine wpAnyH_take (i := 6) (v := ?_) rfl (by kernel_rfl) (by kernel_rfl) (by kernel_rfl) (fun _ _ _ h => h) (Or.inl ⟨by rfl, ?_⟩) (by assumption) ?_
  rotate_left
  · (intro wq hSw; (try dsimp only at hSw); go_simp; (try with_reducible rfl))
  simp only [Act.put, List.getElem_toArray, List.getElem_cons_zero, List.getElem_cons_succ, List.setIfInBounds_toArray, List.set_cons_zero, List.set_cons_succ]
  refine wpAnyH_done (by kernel_rfl) ?_ _
  change wpList _ _ _ _ _ _
  simp only [List.drop_succ_cons, List.drop_zero]
  have P1 := HELH.out.setPost valR_kind (y := y.kind) (v := .int .i64 y.kind) rfl
  have P2 := P1.then (fun F' H' => H'.setPost valR_int (y := y.int) (v := .int .i64 y.int) rfl)
  have P3 := P2.then (fun F' H' => H'.setPost valR_str (y := y.str) (v := .string y.str) rfl)
  have P4 := P3.then (fun F' H' => H'.setPost valR_ref (y := y.ref) (v := .int .i64 y.ref) rfl)
  obtain ⟨cB, TB, hbB, hszB⟩ : ∃ c T, wD.heap[gp]? = some (.cells c T (0, 0)) ∧ opp + j * 4 + 4 ≤ c.size := by
    obtain ⟨c, T, hh⟩ := HELH.out.size
    rcases hh with hh | hh
    · exact ⟨c, T, hh.1, by have := hh.2.2; show opp + j * 4 + 4 ≤ _; exact this⟩
    · exact absurd hh (by decide)
  obtain ⟨u0, u1, u2, u3, ⟨e0, f0⟩, ⟨e1, f1⟩, ⟨e2, f2⟩, e3, f3⟩ := store4At (o := opp + j * 4) hbB hszB (.int .i64 y.kind) (.int .i64 y.int) (.string y.str) (.int .i64 y.ref)
  have HP4 := Lib.hid P4
  clear P1 P2 P3 P4
  go_wp2_with fail
  go_ret
  obtain ⟨F4, h1, h2⟩ := HP4.out
  have hpl := (HWB.out _ _ F4 h1 h2).1
  obtain ⟨F5, h5, h6⟩ := Post.pre HWD.out hpl
  have hfin : Post objR w gh (oh + i * 11 + 1) _ G _ := Post.pre HC5.out ⟨F5, h5, HST6.out.trans h6⟩
  rw [HO2.out] at hfin
  exact ⟨rfl, HPT.out _ _ hfin⟩
end Go.Proofs.YtjianickjahdnaaDoor
