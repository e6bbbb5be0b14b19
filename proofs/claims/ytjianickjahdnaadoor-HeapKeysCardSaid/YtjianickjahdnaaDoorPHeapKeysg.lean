/-
  slices.Delete of values, of properties.
  Lists of strings that a function makes; a heap and such a list side by side.
  heap.Delete of a property (an object that is no array).
  heap.Keys of an object that is no array.
  A range over a function whose body looks for something and may leave: a law.
  The iterator heap.chain.
  heap.Within.
-/
import Derived.Test.YtjianickjahdnaaDoorPHeapKeysf
import Derived.Test.YtjianickjahdnaaDoorPHeapKeysd
import Derived.Deep.RegionLaw
import Derived.Test.YtjianickjahdnaaDoorPHeapKeyse
import Derived.Test.YtjianickjahdnaaDoorPHeapKeysb
import Derived.RangeFuncNested
import Derived.RangeFuncBound
import Derived.RangeFuncCalls
import Derived.RangeFuncLeaves
import Derived.OwnWalkIn
import Derived.TacticsInMore
import Derived.LoopNIn
import Derived.LoopIn
import Derived.Shelf.Abstract
namespace Go.Proofs.YtjianickjahdnaaDoor
open Go.RowKit
set_option linter.unusedVariables false
set_option linter.unusedSimpArgs false

theorem add_none4 (g off j q : Nat) : (⟨g, off + j, none⟩ : Addr).add q = ⟨g, off + (j + q), none⟩ := by
  rw [← Nat.add_assoc]; unfold Addr.add; split <;> simp_all
/-- The zero of an element's type, its cells. -/
def ElemZ (P : Program) (e : TypeId) (size bytes : Nat) (cs : List Value) : Prop := ∃ i z, P.info? e = some i ∧ i.zero = some z ∧ i.size = size ∧ i.bytes = bytes ∧ z.cells.size = size ∧ z.cells.toList = cs
theorem elemZ_of {P : Program} {e : TypeId} {size bytes : Nat} {cs : List Value} (h : (P.info? e).map (fun i => (i.zero.map (fun z => z.cells.toList), i.size, i.bytes)) = some (some cs, size, bytes)) (hc : cs.length = size) : ElemZ P e size bytes cs := by
  unfold ElemZ
  match hm : P.info? e, h with
  | some i, h =>
    simp only [Option.map_some, Option.some.injEq, Prod.mk.injEq] at h
    obtain ⟨h1, h2, h3⟩ := h
    match hz : i.zero, h1 with
    | some z, h1 =>
      have h4 : z.cells.toList = cs := by simpa using h1
      exact ⟨i, z, rfl, hz, h2, h3, by rw [← Array.length_toList, h4]; exact hc, h4⟩
theorem elemZ_val : ElemZ Tryd.prog 36 4 40 [.int .i64 0, .int .i64 0, .string ⟨#[]⟩, .int .i64 0] := elemZ_of (by kernel_rfl) rfl
theorem elemZ_prop : ElemZ Tryd.prog 86 5 56 [.string ⟨#[]⟩, .int .i64 0, .int .i64 0, .string ⟨#[]⟩, .int .i64 0] := elemZ_of (by kernel_rfl) rfl
/-- What lies there when the rest has been moved and cleared. -/
theorem del_row {w5 : World} {g off i j m cap e size : Nat} {cur : Array Value} {xs zs : List Value} (hb5 : w5.heap[g]? = some (.cells (putAt cur (off + i * size) (xs.drop (j * size))) e (0, 0))) (hx : (cur.toList.drop off).take ((j + m) * size) = xs) (hxl : xs.length = (j + m) * size)
    (hnl : (xs.drop (j * size)).length = m * size) (hij : i < j) (hc : j + m ≤ cap) (hcm : cap ≤ maxLen) (hsz : off + cap * size ≤ cur.size) (hzl : off + (i + m) * size + zs.length ≤ cur.size) :
    RowAt (w5.setCells g (off + (i + m) * size) zs) e size (.slice (some ⟨g, off, none⟩) (i + m) cap) (i + m) (xs.take (i * size) ++ xs.drop (j * size)) := by
  have hi1 : i * size ≤ (j + m) * size := Nat.mul_le_mul_right _ (by omega)
  have hadd : (i + m) * size = i * size + m * size := Nat.add_mul ..
  have hle : (i + m) * size ≤ cap * size := Nat.mul_le_mul_right _ (by omega)
  have hli : (xs.take (i * size)).length = i * size := by rw [List.length_take]; omega
  refine ⟨by rw [List.length_append, hli, hnl, hadd], .inr ⟨g, off, cap, _, rfl, setCells_block zs _ hb5, by omega, hcm, by rw [putAt_size, putAt_size]; exact hsz, ?_⟩⟩
  have hs1 : (putAt cur (off + i * size) (xs.drop (j * size))).size = cur.size := putAt_size ..
  rw [putAt_toList _ _ _ (by rw [hs1]; exact hzl), putAt_toList _ _ _ (by rw [hnl]; omega)]
  have e1 : (cur.toList.take (off + i * size)).drop off = xs.take (i * size) := by
    rw [← hx, List.take_take, Nat.min_eq_left hi1, List.drop_take]
    congr 1; omega
  have hcl : cur.toList.length = cur.size := Array.length_toList
  have hA : (cur.toList.take (off + i * size) ++ xs.drop (j * size)).length = off + (i + m) * size := by
    rw [List.length_append, hnl, List.length_take, hcl, hadd]; omega
  have e2 : (cur.toList.take (off + i * size) ++ xs.drop (j * size) ++ cur.toList.drop (off + i * size + (xs.drop (j * size)).length)).take (off + (i + m) * size) = cur.toList.take (off + i * size) ++ xs.drop (j * size) := by
    rw [← hA]; exact List.take_left
  rw [e2, List.append_assoc, List.append_assoc, List.drop_append_of_le_length (by rw [List.length_take, hcl]; omega), e1]
  rw [← List.append_assoc]
  have hB : (xs.take (i * size) ++ xs.drop (j * size)).length = (i + m) * size := by rw [List.length_append, hli, hnl, hadd]
  rw [← hB]; exact List.take_left
/-- clear of a part of a row. -/
theorem run_clear_row {P : Program} (w : World) (t e ty : TypeId) (i : TypeInfo) (z : Value) (size : Nat) (cur : Array Value) (ht : P.underlying t = some (.slice e)) (hi : P.info? e = some i) (hz : i.zero = some z) (hsz : i.size = size) (hzs : z.cells.size = size) (h1 : ∀ u ∈ z.cells.toList, u.oneCell' = true)
    (g o n c : Nat) (hg : w.heap[g]? = some (.cells cur e (0, 0))) (hs : o + n * size ≤ cur.size) (hn : 0 < n) :
    (Builtin.clear_ #[t] ty #[.slice (some ⟨g, o, none⟩) n c]).run P w = .ok (.tuple #[]) (w.setCells g o (Builtin.zeroCells z.cells n).toList) := by
  have hzl : (Builtin.zeroCells z.cells n).toList.length = n * size := by rw [Array.length_toList, size_zeroCells, hzs]
  have hone : ∀ u ∈ (Builtin.zeroCells z.cells n).toList, u.oneCell' = true := by
    intro u hu
    unfold Builtin.zeroCells at hu
    rw [Array.toList_map, List.mem_map] at hu
    obtain ⟨j, hj, rfl⟩ := hu
    have hjr : j < n * z.cells.size := by simpa using hj
    have hpos : 0 < z.cells.size := by
      apply Nat.pos_of_ne_zero
      intro e0
      rw [e0] at hjr
      omega
    have hj2 : j % z.cells.size < z.cells.size := Nat.mod_lt _ hpos
    rw [getElem!_pos z.cells (j % z.cells.size) hj2]
    exact h1 _ (Array.getElem_mem_toList hj2)
  have hst := run_storeCells_cells (P := P) g o (Builtin.zeroCells z.cells n).toList 0 w (fun j hj => by rw [Nat.add_zero, cell_of_block hg (Array.getElem?_eq_getElem (by omega))]; rfl) (fun j _ => frozen_of_block hg) hone
  simp only [Nat.add_zero] at hst
  have hn0 : n ≠ 0 := by omega
  obtain ⟨n', rfl⟩ : ∃ n', n = n' + 1 := ⟨n - 1, by omega⟩
  simp [Builtin.clear_, run_underlying ht, zeroValue, typeInfo, hi, hz, hst]

set_option maxHeartbeats 6400000 in
set_option maxRecDepth 100000 in
theorem delV_any (w : World) (v : Value) (n i j : Nat) (xs : List Value) (hr : RowAt w 36 4 v n xs) (h1c : ∀ u ∈ xs, u.oneCell' = true) (hij : i ≤ j) (hj : j ≤ n) (hl : n ≤ 1000000) :
    Calls Tryd.prog 59 #[v, .int .i64 (i : Int), .int .i64 (j : Int)] w fun e w' => ∃ v', e = .returned v' ∧ RowAt w' 36 4 v' (n - (j - i)) (xs.take (i * 4) ++ xs.drop (j * 4)) ∧ Chg (fun k => v.ownBlock = some k) w w' ∧ (∀ k, v'.ownBlock = some k → v.ownBlock = some k) := by
  obtain ⟨m, hm⟩ : ∃ m, n = j + m := ⟨n - j, by omega⟩
  subst hm
  have i0' : (0 : Int) ≤ (i : Int) := by omega
  have j0' : (0 : Int) ≤ (j : Int) := by omega
  have ij' : (i : Int) ≤ (j : Int) := by omega
  have jn' : (j : Int) ≤ ((j + m : Nat) : Int) := by omega
  obtain ⟨a, cap, rfl, hnc, hcm⟩ := hr.slice
  by_cases he : i = j
  · subst he
    have HR := Lib.hid hr
    clear hr hij hj hl h1c
    have fin : ∀ W, W = w → RowAt W 36 4 (.slice a (i + m) cap) (i + m - (i - i)) (xs.take (i * 4) ++ xs.drop (i * 4)) := fun W e => by
      rw [e, Nat.sub_self, Nat.sub_zero, List.take_append_drop]; exact HR.out
    have FIN := Lib.hid fin
    clear fin
    rcases Nat.eq_zero_or_pos m with rfl | hmp
    · go_enter Tryd.func59, Tryd.ntmps59
      go_wp2_with fail
      go_ret
      exact ⟨_, rfl, by first | exact FIN.out _ rfl | simpa using FIN.out w rfl, Chg.refl _ _, fun k h => h⟩
    · have ne1 : ¬ i + m = i := by omega
      have ne2 : ¬ m = 0 := by omega
      go_enter Tryd.func59, Tryd.ntmps59
      go_wp2_with fail
      go_ret
      exact ⟨_, rfl, by first | exact FIN.out _ rfl | simpa using FIN.out w rfl, Chg.refl _ _, fun k h => h⟩
  · obtain ⟨g, off, cap', hv, hblk⟩ := hr.addr (by omega)
    cases hv
    obtain ⟨i0, z, hi, hz, hsz, hby, hzs, hzl⟩ := elemZ_val
    have HZO := Lib.hid (show ∀ u ∈ z.cells.toList, u.oneCell' = true from fun u hu => by rw [hzl] at hu; simp only [List.mem_cons, List.not_mem_nil, or_false] at hu; rcases hu with rfl | rfl | rfl | rfl <;> rfl)
    have hxl := hr.1
    obtain ⟨g', off', cap'', cur, hv, hg, h1, h2, h3, h4⟩ : ∃ g' off' cap'' cur, Value.slice (some ⟨g, off, none⟩) (j + m) cap = .slice (some ⟨g', off', none⟩) (j + m) cap'' ∧ w.heap[g']? = some (.cells cur 36 (0, 0)) ∧ j + m ≤ cap'' ∧ cap'' ≤ maxLen ∧ off' + cap'' * 4 ≤ cur.size ∧ (cur.toList.drop off').take ((j + m) * 4) = xs := by
      rcases hr.2 with ⟨hv, -⟩ | h
      · cases hv
      · exact h
    cases hv
    have HG := Lib.hid hg
    have HB := Lib.hid (show j + m ≤ cap ∧ i < j ∧ j + m ≤ 1000000 from ⟨h1, by omega, hl⟩)
    have HBC := Lib.hid h3
    have HXS := Lib.hid h4
    have HI := Lib.hid hi
    have HZ := Lib.hid hz
    have HSZ := Lib.hid hsz
    have HZS := Lib.hid hzs
    have HR := Lib.hid hr
    have HXL := Lib.hid hxl
    have HCM := Lib.hid hcm
    have H1 := Lib.hid h1c
    have ne1 : ¬ j + m = i := by omega
    have ne2 : ¬ cap = 0 := by omega
    have ne3 : ¬ cap = i + m := by omega
    have ne4 : (i : Int) ≠ (j : Int) := by omega
    have ne5 : ((i : Int) == (j : Int)) = false := beq_false_of_ne ne4
    have c1 : (i : Int) ≤ (cap : Int) := by omega
    have c3 : (j : Int) ≤ (j : Int) + (m : Int) := by omega
    have c2 : ((j + m : Nat) : Int) ≤ (cap : Int) := by omega
    clear hg h1 h2 h3 h4 h1c hi hz hsz hzs hby hzl hr hxl hij hj hl hnc hcm hblk
    have HNL : Hid ((xs.drop (j * 4)).length = m * 4) := Lib.hid (by rw [List.length_drop, HXL.out]; omega)
    have HNO : Hid (∀ u ∈ xs.drop (j * 4), u.oneCell' = true) := Lib.hid (fun u hu => H1.out u (List.mem_of_mem_drop hu))
    have HSP : Hid (∀ W, Chg (fun _ => False) w W → ∀ q, q < (xs.drop (j * 4)).length → (W.cell? ⟨g, off + i * 4 + q, none⟩).isSome = true ∧ W.frozen? ⟨g, off + i * 4 + q, none⟩ = false) := Lib.hid (fun W hc q hq => by
      have hb := hc.keep HG.out (fun x => x)
      rw [HNL.out] at hq
      exact ⟨by rw [cell_of_block hb (Array.getElem?_eq_getElem (by have := HB.out; have := HBC.out; omega))]; rfl, frozen_of_block hb⟩)
    have HFIN : Hid (∀ (w5 : World), w5.heap[g]? = some (.cells (putAt cur (off + i * 4) (xs.drop (j * 4))) 36 (0, 0)) → RowAt (w5.setCells g (off + (i + m) * 4) (Builtin.zeroCells z.cells (j - i)).toList) 36 4 (.slice (some ⟨g, off, none⟩) (i + m) cap) (i + m) (xs.take (i * 4) ++ xs.drop (j * 4))) := Lib.hid (fun w5 hb5 =>
      del_row hb5 HXS.out HXL.out HNL.out (by have := HB.out; omega) (by have := HB.out; omega) HCM.out HBC.out (by rw [Array.length_toList, size_zeroCells, HZS.out]; have := HB.out; have := HBC.out; omega))
    by_cases hcj : j = cap
    · subst hcj
      have hm0 : m = 0 := by have := HB.out; omega
      subst hm0
      simp only [Nat.add_zero, Nat.zero_mul] at HXS HXL ne1 HNL HB HR ne3 c2 HFIN jn'
      go_enter Tryd.func59, Tryd.ntmps59
      go_upto_region 5 with fail

      refine wp_region_held_split 7 (fun _ => True) (by kernel_rfl) (by kernel_rfl) ?_ (fun hHeld => ?_)
      · trivial
      simp only [List.take_succ_cons, List.take_zero]
      have HWD : Hid (Chg (fun _ => False) w w.drew) := Lib.hid (Chg.refl _ w).drewR
      generalize w.drew = wD at *
      refine wpAnyH_take (i := 0) (v := ?_) rfl (by kernel_rfl) (by kernel_rfl) (by kernel_rfl) (fun _ _ _ h => h) (Or.inl ⟨by rfl, ?_⟩) (by assumption) ?_
      rotate_left
      · (intro wq hSw; (try dsimp only at hSw); go_simp; (try with_reducible rfl))
      simp only [Act.put, List.getElem_toArray, List.getElem_cons_zero, List.getElem_cons_succ, List.setIfInBounds_toArray, List.set_cons_zero, List.set_cons_succ]
      refine wpAnyH_take (i := 1) (v := ?_) rfl (by kernel_rfl) (by kernel_rfl) (by kernel_rfl) (fun _ _ _ h => h) (Or.inl ⟨by rfl, ?_⟩) (by assumption) ?_
      rotate_left
      · (intro wq hSw; (try dsimp only at hSw); go_simp; (try with_reducible rfl))
      simp only [Act.put, List.getElem_toArray, List.getElem_cons_zero, List.getElem_cons_succ, List.setIfInBounds_toArray, List.set_cons_zero, List.set_cons_succ]
      refine wpAnyH_take (i := 2) (v := ?_) rfl (by kernel_rfl) (by kernel_rfl) (by kernel_rfl) (fun _ _ _ h => h) (Or.inl ⟨by rfl, ?_⟩) (by assumption) ?_
      rotate_left
      · (intro wq hSw; (try dsimp only at hSw); go_simp; (try with_reducible rfl))
      simp only [Act.put, List.getElem_toArray, List.getElem_cons_zero, List.getElem_cons_succ, List.setIfInBounds_toArray, List.set_cons_zero, List.set_cons_succ]
      refine wpAnyH_take (i := 3) (v := ?_) rfl (by kernel_rfl) (by kernel_rfl) (by kernel_rfl) (fun _ _ _ h => h) (Or.inl ⟨by rfl, ?_⟩) (by assumption) ?_
      rotate_left
      · (intro wq hSw; (try dsimp only at hSw); go_simp; (try with_reducible rfl))
      simp only [Act.put, List.getElem_toArray, List.getElem_cons_zero, List.getElem_cons_succ, List.setIfInBounds_toArray, List.set_cons_zero, List.set_cons_succ]
      refine wpAnyH_take (i := 4) (v := ?_) rfl (by kernel_rfl) (by kernel_rfl) (by kernel_rfl) (fun _ _ _ h => h) (Or.inl ⟨by rfl, ?_⟩) (by assumption) ?_
      rotate_left
      · (intro wq hSw; (try dsimp only at hSw); go_simp; (try with_reducible rfl))
      simp only [Act.put, List.getElem_toArray, List.getElem_cons_zero, List.getElem_cons_succ, List.setIfInBounds_toArray, List.set_cons_zero, List.set_cons_succ]
      refine wpAnyH_take (i := 5) (v := ?_) rfl (by kernel_rfl) (by kernel_rfl) (by kernel_rfl) (fun _ _ _ h => h) (Or.inl ⟨by rfl, ?_⟩) (by assumption) ?_
      rotate_left
      · (intro wq hSw; (try dsimp only at hSw); go_simp; (try with_reducible rfl))
      simp only [Act.put, List.getElem_toArray, List.getElem_cons_zero, List.getElem_cons_succ, List.setIfInBounds_toArray, List.set_cons_zero, List.set_cons_succ]
      refine wpAnyH_ready (rs := [6]) (by kernel_rfl) (by simp) ?_
      refine AllReadyH.cons (by simp only [List.getElem?_toArray, List.getElem?_cons_succ, List.getElem?_cons_zero]; rfl) (fun K hK => ?_) AllReadyH.nil
      (refine step_append_room (by rfl) _ _ _ (by rfl) 36 i0 4 Tryd.underlying44 HI.out HSZ.out g off i j (by rfl) ⟨g, off, none⟩ 0 0 (xs.drop (j * 4)) (by rfl) HNL.out (fun q u hu => by have h0 := (List.getElem?_eq_some_iff.1 hu).1; rw [HNL.out] at h0; omega) HNO.out (by have := HB.out.1; omega) (HSP.out wD HWD.out) ?_)
      refine hK.out _ _ ?_ (fun hHeld => ?_)
      · trivial
      clear hK K
      (try simp only [Act.put, List.getElem_toArray, List.getElem_cons_zero, List.getElem_cons_succ, List.setIfInBounds_toArray, List.set_cons_zero, List.set_cons_succ])
      refine wpAnyH_done (by kernel_rfl) ?_ _
      change wpList _ _ _ _ _ _
      simp only [List.drop_succ_cons, List.drop_zero]
      have hgd : wD.heap[g]? = some (.cells cur 36 (0, 0)) := HWD.out.keep HG.out (fun x => x)
      have hb5 := setCells_block (b := g) (xs.drop (j * 4)) (off + i * 4) hgd
      have HC5 := Lib.hid (Chg.setCells (b := g) (xs.drop (j * 4)) wD (off + i * 4))
      go_upto_region 6 with fail
      generalize wD.setCells g (off + i * 4) (xs.drop (j * 4)) = w5 at *
      have HB5 := Lib.hid hb5
      have hclr := run_clear_row (P := Tryd.prog) w5 44 36 0 i0 z 4 (putAt cur (off + i * 4) (xs.drop (j * 4))) Tryd.underlying44 HI.out HZ.out HSZ.out HZS.out HZO.out g (off + i * 4) (j - i) (j - i) hb5 (by rw [putAt_size]; have := HB.out; have := HBC.out; omega) (by have := HB.out; omega)
      have HF := Lib.hid (HFIN.out w5 hb5)
      have hc6 := Chg.setCells (b := g) (Builtin.zeroCells z.cells (j - i)).toList w5 (off + i * 4)
      have HC6 := Lib.hid hc6
      have tn1 : ((i : Int) + (0 : Int)).toNat = i := by omega
      have tn2 : ((j : Int) + (0 : Int)).toNat = j := by omega
      have b1 : (0 : Int) ≤ (i : Int) + (0 : Int) := by omega
      have b2 : (i : Int) + (0 : Int) ≤ (j : Int) + (0 : Int) := by omega
      have b3 : (j : Int) + (0 : Int) ≤ (j : Int) := by omega
      have b4 : j - i = j - i := by omega
      clear hc6 hgd hb5 HFIN
      generalize (Builtin.zeroCells z.cells (j - i)).toList = Z at *
      go_wp2_with fail
      go_ret
      refine ⟨_, rfl, ?_, ((HWD.out.trans HC5.out (fun _ _ x => x.elim) (fun _ _ x => x)).trans' HC6.out).mono (fun k _ e => by subst e; rfl), fun k h => h⟩
      rw [show j - (j - i) = i from by have := HB.out; omega]
      exact HF.out
    · have ne6 : ¬ cap = j := fun e => hcj e.symm
      clear hcj
      go_enter Tryd.func59, Tryd.ntmps59
      go_upto_region 5 with fail

      refine wp_region_held_split 7 (fun _ => True) (by kernel_rfl) (by kernel_rfl) ?_ (fun hHeld => ?_)
      · trivial
      simp only [List.take_succ_cons, List.take_zero]
      have HWD : Hid (Chg (fun _ => False) w w.drew) := Lib.hid (Chg.refl _ w).drewR
      generalize w.drew = wD at *
      refine wpAnyH_take (i := 0) (v := ?_) rfl (by kernel_rfl) (by kernel_rfl) (by kernel_rfl) (fun _ _ _ h => h) (Or.inl ⟨by rfl, ?_⟩) (by assumption) ?_
      rotate_left
      · (intro wq hSw; (try dsimp only at hSw); go_simp; (try with_reducible rfl))
      simp only [Act.put, List.getElem_toArray, List.getElem_cons_zero, List.getElem_cons_succ, List.setIfInBounds_toArray, List.set_cons_zero, List.set_cons_succ]
      refine wpAnyH_take (i := 1) (v := ?_) rfl (by kernel_rfl) (by kernel_rfl) (by kernel_rfl) (fun _ _ _ h => h) (Or.inl ⟨by rfl, ?_⟩) (by assumption) ?_
      rotate_left
      · (intro wq hSw; (try dsimp only at hSw); go_simp; (try with_reducible rfl))
      simp only [Act.put, List.getElem_toArray, List.getElem_cons_zero, List.getElem_cons_succ, List.setIfInBounds_toArray, List.set_cons_zero, List.set_cons_succ]
      refine wpAnyH_take (i := 2) (v := ?_) rfl (by kernel_rfl) (by kernel_rfl) (by kernel_rfl) (fun _ _ _ h => h) (Or.inl ⟨by rfl, ?_⟩) (by assumption) ?_
      rotate_left
      · (intro wq hSw; (try dsimp only at hSw); go_simp; (try with_reducible rfl))
      simp only [Act.put, List.getElem_toArray, List.getElem_cons_zero, List.getElem_cons_succ, List.setIfInBounds_toArray, List.set_cons_zero, List.set_cons_succ]
      refine wpAnyH_take (i := 3) (v := ?_) rfl (by kernel_rfl) (by kernel_rfl) (by kernel_rfl) (fun _ _ _ h => h) (Or.inl ⟨by rfl, ?_⟩) (by assumption) ?_
      rotate_left
      · (intro wq hSw; (try dsimp only at hSw); go_simp; (try with_reducible rfl))
      simp only [Act.put, List.getElem_toArray, List.getElem_cons_zero, List.getElem_cons_succ, List.setIfInBounds_toArray, List.set_cons_zero, List.set_cons_succ]
      refine wpAnyH_take (i := 4) (v := ?_) rfl (by kernel_rfl) (by kernel_rfl) (by kernel_rfl) (fun _ _ _ h => h) (Or.inl ⟨by rfl, ?_⟩) (by assumption) ?_
      rotate_left
      · (intro wq hSw; (try dsimp only at hSw); go_simp; (try with_reducible rfl))
      simp only [Act.put, List.getElem_toArray, List.getElem_cons_zero, List.getElem_cons_succ, List.setIfInBounds_toArray, List.set_cons_zero, List.set_cons_succ]
      refine wpAnyH_take (i := 5) (v := ?_) rfl (by kernel_rfl) (by kernel_rfl) (by kernel_rfl) (fun _ _ _ h => h) (Or.inl ⟨by rfl, ?_⟩) (by assumption) ?_
      rotate_left
      · (intro wq hSw; (try dsimp only at hSw); go_simp; (try with_reducible rfl))
      simp only [Act.put, List.getElem_toArray, List.getElem_cons_zero, List.getElem_cons_succ, List.setIfInBounds_toArray, List.set_cons_zero, List.set_cons_succ]
      refine wpAnyH_ready (rs := [6]) (by kernel_rfl) (by simp) ?_
      refine AllReadyH.cons (by simp only [List.getElem?_toArray, List.getElem?_cons_succ, List.getElem?_cons_zero]; rfl) (fun K hK => ?_) AllReadyH.nil
      (refine step_append_room (by rfl) _ _ _ (by rfl) 36 i0 4 Tryd.underlying44 HI.out HSZ.out g off i cap (by rfl) ⟨g, off + j * 4, none⟩ m (cap - j) (xs.drop (j * 4)) (by rfl) HNL.out (fun q u hu => by rw [add_none4]; exact (HR.out.chg HWD.out (fun _ _ x => x)).cellAt (j * 4 + q) u (by rw [List.getElem?_drop] at hu; exact hu)) HNO.out (by have := HB.out.1; omega) (HSP.out wD HWD.out) ?_)
      refine hK.out _ _ ?_ (fun hHeld => ?_)
      · trivial
      clear hK K
      (try simp only [Act.put, List.getElem_toArray, List.getElem_cons_zero, List.getElem_cons_succ, List.setIfInBounds_toArray, List.set_cons_zero, List.set_cons_succ])
      refine wpAnyH_done (by kernel_rfl) ?_ _
      change wpList _ _ _ _ _ _
      simp only [List.drop_succ_cons, List.drop_zero]
      have hgd : wD.heap[g]? = some (.cells cur 36 (0, 0)) := HWD.out.keep HG.out (fun x => x)
      have hb5 := setCells_block (b := g) (xs.drop (j * 4)) (off + i * 4) hgd
      have HC5 := Lib.hid (Chg.setCells (b := g) (xs.drop (j * 4)) wD (off + i * 4))
      go_upto_region 6 with fail
      generalize wD.setCells g (off + i * 4) (xs.drop (j * 4)) = w5 at *
      have HB5 := Lib.hid hb5
      have hclr := run_clear_row (P := Tryd.prog) w5 44 36 0 i0 z 4 (putAt cur (off + i * 4) (xs.drop (j * 4))) Tryd.underlying44 HI.out HZ.out HSZ.out HZS.out HZO.out g (off + (i + m) * 4) (j - i) (cap - (i + m)) hb5 (by rw [putAt_size]; have := HB.out; have := HBC.out; omega) (by have := HB.out; omega)
      have HF := Lib.hid (HFIN.out w5 hb5)
      have hc6 := Chg.setCells (b := g) (Builtin.zeroCells z.cells (j - i)).toList w5 (off + (i + m) * 4)
      have HC6 := Lib.hid hc6
      have tn1 : ((i : Int) + (m : Int)).toNat = i + m := by omega
      have tn2 : ((j : Int) + (m : Int)).toNat = j + m := by omega
      have b1 : (0 : Int) ≤ (i : Int) + (m : Int) := by omega
      have b2 : (i : Int) + (m : Int) ≤ (j : Int) + (m : Int) := by omega
      have b3 : (j : Int) + (m : Int) ≤ (cap : Int) := by omega
      have b4 : j + m - (i + m) = j - i := by omega
      clear hc6 hgd hb5 HFIN
      generalize (Builtin.zeroCells z.cells (j - i)).toList = Z at *
      go_wp2_with fail
      go_ret
      refine ⟨_, rfl, ?_, ((HWD.out.trans HC5.out (fun _ _ x => x.elim) (fun _ _ x => x)).trans' HC6.out).mono (fun k _ e => by subst e; rfl), fun k h => h⟩
      rw [show j + m - (j - i) = i + m from by have := HB.out; omega]
      exact HF.out

set_option maxHeartbeats 6400000 in
set_option maxRecDepth 100000 in
theorem delP_any (w : World) (v : Value) (n i j : Nat) (xs : List Value) (hr : RowAt w 86 5 v n xs) (h1c : ∀ u ∈ xs, u.oneCell' = true) (hij : i ≤ j) (hj : j ≤ n) (hl : n ≤ 1000000) :
    Calls Tryd.prog 45 #[v, .int .i64 (i : Int), .int .i64 (j : Int)] w fun e w' => ∃ v', e = .returned v' ∧ RowAt w' 86 5 v' (n - (j - i)) (xs.take (i * 5) ++ xs.drop (j * 5)) ∧ Chg (fun k => v.ownBlock = some k) w w' ∧ (∀ k, v'.ownBlock = some k → v.ownBlock = some k) := by
  obtain ⟨m, hm⟩ : ∃ m, n = j + m := ⟨n - j, by omega⟩
  subst hm
  have i0' : (0 : Int) ≤ (i : Int) := by omega
  have j0' : (0 : Int) ≤ (j : Int) := by omega
  have ij' : (i : Int) ≤ (j : Int) := by omega
  have jn' : (j : Int) ≤ ((j + m : Nat) : Int) := by omega
  obtain ⟨a, cap, rfl, hnc, hcm⟩ := hr.slice
  by_cases he : i = j
  · subst he
    have HR := Lib.hid hr
    clear hr hij hj hl h1c
    have fin : ∀ W, W = w → RowAt W 86 5 (.slice a (i + m) cap) (i + m - (i - i)) (xs.take (i * 5) ++ xs.drop (i * 5)) := fun W e => by
      rw [e, Nat.sub_self, Nat.sub_zero, List.take_append_drop]; exact HR.out
    have FIN := Lib.hid fin
    clear fin
    rcases Nat.eq_zero_or_pos m with rfl | hmp
    · go_enter Tryd.func45, Tryd.ntmps45
      go_wp2_with fail
      go_ret
      exact ⟨_, rfl, by first | exact FIN.out _ rfl | simpa using FIN.out w rfl, Chg.refl _ _, fun k h => h⟩
    · have ne1 : ¬ i + m = i := by omega
      have ne2 : ¬ m = 0 := by omega
      go_enter Tryd.func45, Tryd.ntmps45
      go_wp2_with fail
      go_ret
      exact ⟨_, rfl, by first | exact FIN.out _ rfl | simpa using FIN.out w rfl, Chg.refl _ _, fun k h => h⟩
  · obtain ⟨g, off, cap', hv, hblk⟩ := hr.addr (by omega)
    cases hv
    obtain ⟨i0, z, hi, hz, hsz, hby, hzs, hzl⟩ := elemZ_prop
    have HZO := Lib.hid (show ∀ u ∈ z.cells.toList, u.oneCell' = true from fun u hu => by rw [hzl] at hu; simp only [List.mem_cons, List.not_mem_nil, or_false] at hu; rcases hu with rfl | rfl | rfl | rfl | rfl <;> rfl)
    have hxl := hr.1
    obtain ⟨g', off', cap'', cur, hv, hg, h1, h2, h3, h4⟩ : ∃ g' off' cap'' cur, Value.slice (some ⟨g, off, none⟩) (j + m) cap = .slice (some ⟨g', off', none⟩) (j + m) cap'' ∧ w.heap[g']? = some (.cells cur 86 (0, 0)) ∧ j + m ≤ cap'' ∧ cap'' ≤ maxLen ∧ off' + cap'' * 5 ≤ cur.size ∧ (cur.toList.drop off').take ((j + m) * 5) = xs := by
      rcases hr.2 with ⟨hv, -⟩ | h
      · cases hv
      · exact h
    cases hv
    have HG := Lib.hid hg
    have HB := Lib.hid (show j + m ≤ cap ∧ i < j ∧ j + m ≤ 1000000 from ⟨h1, by omega, hl⟩)
    have HBC := Lib.hid h3
    have HXS := Lib.hid h4
    have HI := Lib.hid hi
    have HZ := Lib.hid hz
    have HSZ := Lib.hid hsz
    have HZS := Lib.hid hzs
    have HR := Lib.hid hr
    have HXL := Lib.hid hxl
    have HCM := Lib.hid hcm
    have H1 := Lib.hid h1c
    have ne1 : ¬ j + m = i := by omega
    have ne2 : ¬ cap = 0 := by omega
    have ne3 : ¬ cap = i + m := by omega
    have ne4 : (i : Int) ≠ (j : Int) := by omega
    have ne5 : ((i : Int) == (j : Int)) = false := beq_false_of_ne ne4
    have c1 : (i : Int) ≤ (cap : Int) := by omega
    have c3 : (j : Int) ≤ (j : Int) + (m : Int) := by omega
    have c2 : ((j + m : Nat) : Int) ≤ (cap : Int) := by omega
    clear hg h1 h2 h3 h4 h1c hi hz hsz hzs hby hzl hr hxl hij hj hl hnc hcm hblk
    have HNL : Hid ((xs.drop (j * 5)).length = m * 5) := Lib.hid (by rw [List.length_drop, HXL.out]; omega)
    have HNO : Hid (∀ u ∈ xs.drop (j * 5), u.oneCell' = true) := Lib.hid (fun u hu => H1.out u (List.mem_of_mem_drop hu))
    have HSP : Hid (∀ W, Chg (fun _ => False) w W → ∀ q, q < (xs.drop (j * 5)).length → (W.cell? ⟨g, off + i * 5 + q, none⟩).isSome = true ∧ W.frozen? ⟨g, off + i * 5 + q, none⟩ = false) := Lib.hid (fun W hc q hq => by
      have hb := hc.keep HG.out (fun x => x)
      rw [HNL.out] at hq
      exact ⟨by rw [cell_of_block hb (Array.getElem?_eq_getElem (by have := HB.out; have := HBC.out; omega))]; rfl, frozen_of_block hb⟩)
    have HFIN : Hid (∀ (w5 : World), w5.heap[g]? = some (.cells (putAt cur (off + i * 5) (xs.drop (j * 5))) 86 (0, 0)) → RowAt (w5.setCells g (off + (i + m) * 5) (Builtin.zeroCells z.cells (j - i)).toList) 86 5 (.slice (some ⟨g, off, none⟩) (i + m) cap) (i + m) (xs.take (i * 5) ++ xs.drop (j * 5))) := Lib.hid (fun w5 hb5 =>
      del_row hb5 HXS.out HXL.out HNL.out (by have := HB.out; omega) (by have := HB.out; omega) HCM.out HBC.out (by rw [Array.length_toList, size_zeroCells, HZS.out]; have := HB.out; have := HBC.out; omega))
    by_cases hcj : j = cap
    · subst hcj
      have hm0 : m = 0 := by have := HB.out; omega
      subst hm0
      simp only [Nat.add_zero, Nat.zero_mul] at HXS HXL ne1 HNL HB HR ne3 c2 HFIN jn'
      go_enter Tryd.func45, Tryd.ntmps45
      go_upto_region 5 with fail

      refine wp_region_held_split 7 (fun _ => True) (by kernel_rfl) (by kernel_rfl) ?_ (fun hHeld => ?_)
      · trivial
      simp only [List.take_succ_cons, List.take_zero]
      have HWD : Hid (Chg (fun _ => False) w w.drew) := Lib.hid (Chg.refl _ w).drewR
      generalize w.drew = wD at *
      refine wpAnyH_take (i := 0) (v := ?_) rfl (by kernel_rfl) (by kernel_rfl) (by kernel_rfl) (fun _ _ _ h => h) (Or.inl ⟨by rfl, ?_⟩) (by assumption) ?_
      rotate_left
      · (intro wq hSw; (try dsimp only at hSw); go_simp; (try with_reducible rfl))
      simp only [Act.put, List.getElem_toArray, List.getElem_cons_zero, List.getElem_cons_succ, List.setIfInBounds_toArray, List.set_cons_zero, List.set_cons_succ]
      refine wpAnyH_take (i := 1) (v := ?_) rfl (by kernel_rfl) (by kernel_rfl) (by kernel_rfl) (fun _ _ _ h => h) (Or.inl ⟨by rfl, ?_⟩) (by assumption) ?_
      rotate_left
      · (intro wq hSw; (try dsimp only at hSw); go_simp; (try with_reducible rfl))
      simp only [Act.put, List.getElem_toArray, List.getElem_cons_zero, List.getElem_cons_succ, List.setIfInBounds_toArray, List.set_cons_zero, List.set_cons_succ]
      refine wpAnyH_take (i := 2) (v := ?_) rfl (by kernel_rfl) (by kernel_rfl) (by kernel_rfl) (fun _ _ _ h => h) (Or.inl ⟨by rfl, ?_⟩) (by assumption) ?_
      rotate_left
      · (intro wq hSw; (try dsimp only at hSw); go_simp; (try with_reducible rfl))
      simp only [Act.put, List.getElem_toArray, List.getElem_cons_zero, List.getElem_cons_succ, List.setIfInBounds_toArray, List.set_cons_zero, List.set_cons_succ]
      refine wpAnyH_take (i := 3) (v := ?_) rfl (by kernel_rfl) (by kernel_rfl) (by kernel_rfl) (fun _ _ _ h => h) (Or.inl ⟨by rfl, ?_⟩) (by assumption) ?_
      rotate_left
      · (intro wq hSw; (try dsimp only at hSw); go_simp; (try with_reducible rfl))
      simp only [Act.put, List.getElem_toArray, List.getElem_cons_zero, List.getElem_cons_succ, List.setIfInBounds_toArray, List.set_cons_zero, List.set_cons_succ]
      refine wpAnyH_take (i := 4) (v := ?_) rfl (by kernel_rfl) (by kernel_rfl) (by kernel_rfl) (fun _ _ _ h => h) (Or.inl ⟨by rfl, ?_⟩) (by assumption) ?_
      rotate_left
      · (intro wq hSw; (try dsimp only at hSw); go_simp; (try with_reducible rfl))
      simp only [Act.put, List.getElem_toArray, List.getElem_cons_zero, List.getElem_cons_succ, List.setIfInBounds_toArray, List.set_cons_zero, List.set_cons_succ]
      refine wpAnyH_take (i := 5) (v := ?_) rfl (by kernel_rfl) (by kernel_rfl) (by kernel_rfl) (fun _ _ _ h => h) (Or.inl ⟨by rfl, ?_⟩) (by assumption) ?_
      rotate_left
      · (intro wq hSw; (try dsimp only at hSw); go_simp; (try with_reducible rfl))
      simp only [Act.put, List.getElem_toArray, List.getElem_cons_zero, List.getElem_cons_succ, List.setIfInBounds_toArray, List.set_cons_zero, List.set_cons_succ]
      refine wpAnyH_ready (rs := [6]) (by kernel_rfl) (by simp) ?_
      refine AllReadyH.cons (by simp only [List.getElem?_toArray, List.getElem?_cons_succ, List.getElem?_cons_zero]; rfl) (fun K hK => ?_) AllReadyH.nil
      (refine step_append_room (by rfl) _ _ _ (by rfl) 86 i0 5 Tryd.underlying43 HI.out HSZ.out g off i j (by rfl) ⟨g, off, none⟩ 0 0 (xs.drop (j * 5)) (by rfl) HNL.out (fun q u hu => by have h0 := (List.getElem?_eq_some_iff.1 hu).1; rw [HNL.out] at h0; omega) HNO.out (by have := HB.out.1; omega) (HSP.out wD HWD.out) ?_)
      refine hK.out _ _ ?_ (fun hHeld => ?_)
      · trivial
      clear hK K
      (try simp only [Act.put, List.getElem_toArray, List.getElem_cons_zero, List.getElem_cons_succ, List.setIfInBounds_toArray, List.set_cons_zero, List.set_cons_succ])
      refine wpAnyH_done (by kernel_rfl) ?_ _
      change wpList _ _ _ _ _ _
      simp only [List.drop_succ_cons, List.drop_zero]
      have hgd : wD.heap[g]? = some (.cells cur 86 (0, 0)) := HWD.out.keep HG.out (fun x => x)
      have hb5 := setCells_block (b := g) (xs.drop (j * 5)) (off + i * 5) hgd
      have HC5 := Lib.hid (Chg.setCells (b := g) (xs.drop (j * 5)) wD (off + i * 5))
      go_upto_region 6 with fail
      generalize wD.setCells g (off + i * 5) (xs.drop (j * 5)) = w5 at *
      have HB5 := Lib.hid hb5
      have hclr := run_clear_row (P := Tryd.prog) w5 43 86 0 i0 z 5 (putAt cur (off + i * 5) (xs.drop (j * 5))) Tryd.underlying43 HI.out HZ.out HSZ.out HZS.out HZO.out g (off + i * 5) (j - i) (j - i) hb5 (by rw [putAt_size]; have := HB.out; have := HBC.out; omega) (by have := HB.out; omega)
      have HF := Lib.hid (HFIN.out w5 hb5)
      have hc6 := Chg.setCells (b := g) (Builtin.zeroCells z.cells (j - i)).toList w5 (off + i * 5)
      have HC6 := Lib.hid hc6
      have tn1 : ((i : Int) + (0 : Int)).toNat = i := by omega
      have tn2 : ((j : Int) + (0 : Int)).toNat = j := by omega
      have b1 : (0 : Int) ≤ (i : Int) + (0 : Int) := by omega
      have b2 : (i : Int) + (0 : Int) ≤ (j : Int) + (0 : Int) := by omega
      have b3 : (j : Int) + (0 : Int) ≤ (j : Int) := by omega
      have b4 : j - i = j - i := by omega
      clear hc6 hgd hb5 HFIN
      generalize (Builtin.zeroCells z.cells (j - i)).toList = Z at *
      go_wp2_with fail
      go_ret
      refine ⟨_, rfl, ?_, ((HWD.out.trans HC5.out (fun _ _ x => x.elim) (fun _ _ x => x)).trans' HC6.out).mono (fun k _ e => by subst e; rfl), fun k h => h⟩
      rw [show j - (j - i) = i from by have := HB.out; omega]
      exact HF.out
    · have ne6 : ¬ cap = j := fun e => hcj e.symm
      clear hcj
      go_enter Tryd.func45, Tryd.ntmps45
      go_upto_region 5 with fail

      refine wp_region_held_split 7 (fun _ => True) (by kernel_rfl) (by kernel_rfl) ?_ (fun hHeld => ?_)
      · trivial
      simp only [List.take_succ_cons, List.take_zero]
      have HWD : Hid (Chg (fun _ => False) w w.drew) := Lib.hid (Chg.refl _ w).drewR
      generalize w.drew = wD at *
      refine wpAnyH_take (i := 0) (v := ?_) rfl (by kernel_rfl) (by kernel_rfl) (by kernel_rfl) (fun _ _ _ h => h) (Or.inl ⟨by rfl, ?_⟩) (by assumption) ?_
      rotate_left
      · (intro wq hSw; (try dsimp only at hSw); go_simp; (try with_reducible rfl))
      simp only [Act.put, List.getElem_toArray, List.getElem_cons_zero, List.getElem_cons_succ, List.setIfInBounds_toArray, List.set_cons_zero, List.set_cons_succ]
      refine wpAnyH_take (i := 1) (v := ?_) rfl (by kernel_rfl) (by kernel_rfl) (by kernel_rfl) (fun _ _ _ h => h) (Or.inl ⟨by rfl, ?_⟩) (by assumption) ?_
      rotate_left
      · (intro wq hSw; (try dsimp only at hSw); go_simp; (try with_reducible rfl))
      simp only [Act.put, List.getElem_toArray, List.getElem_cons_zero, List.getElem_cons_succ, List.setIfInBounds_toArray, List.set_cons_zero, List.set_cons_succ]
      refine wpAnyH_take (i := 2) (v := ?_) rfl (by kernel_rfl) (by kernel_rfl) (by kernel_rfl) (fun _ _ _ h => h) (Or.inl ⟨by rfl, ?_⟩) (by assumption) ?_
      rotate_left
      · (intro wq hSw; (try dsimp only at hSw); go_simp; (try with_reducible rfl))
      simp only [Act.put, List.getElem_toArray, List.getElem_cons_zero, List.getElem_cons_succ, List.setIfInBounds_toArray, List.set_cons_zero, List.set_cons_succ]
      refine wpAnyH_take (i := 3) (v := ?_) rfl (by kernel_rfl) (by kernel_rfl) (by kernel_rfl) (fun _ _ _ h => h) (Or.inl ⟨by rfl, ?_⟩) (by assumption) ?_
      rotate_left
      · (intro wq hSw; (try dsimp only at hSw); go_simp; (try with_reducible rfl))
      simp only [Act.put, List.getElem_toArray, List.getElem_cons_zero, List.getElem_cons_succ, List.setIfInBounds_toArray, List.set_cons_zero, List.set_cons_succ]
      refine wpAnyH_take (i := 4) (v := ?_) rfl (by kernel_rfl) (by kernel_rfl) (by kernel_rfl) (fun _ _ _ h => h) (Or.inl ⟨by rfl, ?_⟩) (by assumption) ?_
      rotate_left
      · (intro wq hSw; (try dsimp only at hSw); go_simp; (try with_reducible rfl))
      simp only [Act.put, List.getElem_toArray, List.getElem_cons_zero, List.getElem_cons_succ, List.setIfInBounds_toArray, List.set_cons_zero, List.set_cons_succ]
      refine wpAnyH_take (i := 5) (v := ?_) rfl (by kernel_rfl) (by kernel_rfl) (by kernel_rfl) (fun _ _ _ h => h) (Or.inl ⟨by rfl, ?_⟩) (by assumption) ?_
      rotate_left
      · (intro wq hSw; (try dsimp only at hSw); go_simp; (try with_reducible rfl))
      simp only [Act.put, List.getElem_toArray, List.getElem_cons_zero, List.getElem_cons_succ, List.setIfInBounds_toArray, List.set_cons_zero, List.set_cons_succ]
      refine wpAnyH_ready (rs := [6]) (by kernel_rfl) (by simp) ?_
      refine AllReadyH.cons (by simp only [List.getElem?_toArray, List.getElem?_cons_succ, List.getElem?_cons_zero]; rfl) (fun K hK => ?_) AllReadyH.nil
      (refine step_append_room (by rfl) _ _ _ (by rfl) 86 i0 5 Tryd.underlying43 HI.out HSZ.out g off i cap (by rfl) ⟨g, off + j * 5, none⟩ m (cap - j) (xs.drop (j * 5)) (by rfl) HNL.out (fun q u hu => by rw [add_none4]; exact (HR.out.chg HWD.out (fun _ _ x => x)).cellAt (j * 5 + q) u (by rw [List.getElem?_drop] at hu; exact hu)) HNO.out (by have := HB.out.1; omega) (HSP.out wD HWD.out) ?_)
      refine hK.out _ _ ?_ (fun hHeld => ?_)
      · trivial
      clear hK K
      (try simp only [Act.put, List.getElem_toArray, List.getElem_cons_zero, List.getElem_cons_succ, List.setIfInBounds_toArray, List.set_cons_zero, List.set_cons_succ])
      refine wpAnyH_done (by kernel_rfl) ?_ _
      change wpList _ _ _ _ _ _
      simp only [List.drop_succ_cons, List.drop_zero]
      have hgd : wD.heap[g]? = some (.cells cur 86 (0, 0)) := HWD.out.keep HG.out (fun x => x)
      have hb5 := setCells_block (b := g) (xs.drop (j * 5)) (off + i * 5) hgd
      have HC5 := Lib.hid (Chg.setCells (b := g) (xs.drop (j * 5)) wD (off + i * 5))
      go_upto_region 6 with fail
      generalize wD.setCells g (off + i * 5) (xs.drop (j * 5)) = w5 at *
      have HB5 := Lib.hid hb5
      have hclr := run_clear_row (P := Tryd.prog) w5 43 86 0 i0 z 5 (putAt cur (off + i * 5) (xs.drop (j * 5))) Tryd.underlying43 HI.out HZ.out HSZ.out HZS.out HZO.out g (off + (i + m) * 5) (j - i) (cap - (i + m)) hb5 (by rw [putAt_size]; have := HB.out; have := HBC.out; omega) (by have := HB.out; omega)
      have HF := Lib.hid (HFIN.out w5 hb5)
      have hc6 := Chg.setCells (b := g) (Builtin.zeroCells z.cells (j - i)).toList w5 (off + (i + m) * 5)
      have HC6 := Lib.hid hc6
      have tn1 : ((i : Int) + (m : Int)).toNat = i + m := by omega
      have tn2 : ((j : Int) + (m : Int)).toNat = j + m := by omega
      have b1 : (0 : Int) ≤ (i : Int) + (m : Int) := by omega
      have b2 : (i : Int) + (m : Int) ≤ (j : Int) + (m : Int) := by omega
      have b3 : (j : Int) + (m : Int) ≤ (cap : Int) := by omega
      have b4 : j + m - (i + m) = j - i := by omega
      clear hc6 hgd hb5 HFIN
      generalize (Builtin.zeroCells z.cells (j - i)).toList = Z at *
      go_wp2_with fail
      go_ret
      refine ⟨_, rfl, ?_, ((HWD.out.trans HC5.out (fun _ _ x => x.elim) (fun _ _ x => x)).trans' HC6.out).mono (fun k _ e => by subst e; rfl), fun k h => h⟩
      rw [show j + m - (j - i) = i + m from by have := HB.out; omega]
      exact HF.out
end Go.Proofs.YtjianickjahdnaaDoor
namespace Go.Proofs.YtjianickjahdnaaDoor
open Go.RowKit
set_option linter.unusedVariables false
set_option linter.unusedSimpArgs false

theorem elem_str : Elem Tryd.prog 9 1 16 := elem_of (by kernel_rfl)
def strC (l : List ByteArray) : List Value := l.map (Value.string)
theorem strC_ones (l : List ByteArray) : Ones (strC l) := fun u hu => by
  obtain ⟨x, -, rfl⟩ := List.mem_map.1 hu
  rfl
theorem strC_len (l : List ByteArray) : (strC l).length = l.length := List.length_map ..
/-- A list of strings, made behind w0. -/
structure OutS (w0 w : World) (v : Value) (l : List ByteArray) : Prop where
  row : RowAt w 9 1 v l.length (strC l)
  lo : ∀ k, v.ownBlock = some k → w0.heap.size ≤ k
  chg : Chg (fun _ => False) w0 w
section
variable {w0 w w1 w2 : World} {v : Value} {l m : List ByteArray}
theorem OutS.nil (w : World) : OutS w w (.slice none 0 0) [] := ⟨RowAt.nil _ _ _, fun k hk => by simp [Value.ownBlock] at hk, Chg.refl _ _⟩
theorem OutS.still (h : OutS w0 w v l) (hc : Chg (fun _ => False) w w1) : OutS w0 w1 v l := ⟨h.row.chg hc (fun _ _ x => x), h.lo, h.chg.trans' hc⟩
theorem OutS.drew (h : OutS w0 w v l) : OutS w0 w.drew v l := h.still ((Chg.refl _ w).drewR)
theorem OutS.alloc (h : OutS w0 w v l) (o : _root_.Go.Obj) : OutS w0 (w.alloc o) v l := h.still (Chg.alloc _ w o)
theorem OutS.val (h : OutS w0 w v l) : ∃ a cap, v = .slice a l.length cap ∧ l.length ≤ cap ∧ cap ≤ maxLen := h.row.slice
theorem OutS.at (h : OutS w0 w v l) {k : Nat} (hk : k < l.length) : ∃ g off cap, v = .slice (some ⟨g, off, none⟩) l.length cap ∧ w.cell? ⟨g, off + k, none⟩ = some (.string l[k]) := by
  obtain ⟨g, off, cap, rfl, -, -⟩ := h.row.addr (by omega)
  exact ⟨g, off, cap, rfl, h.row.cellAt k _ (by simp [strC, hk])⟩
/-- Kept by what changes other blocks alone. -/
theorem OutS.other {S : Nat → Prop} (h : OutS w0 w v l) (hc : Chg S w w1) (hn : ∀ k, v.ownBlock = some k → ¬ S k) (hS : ∀ k, k < w0.heap.size → ¬ S k) : OutS w0 w1 v l :=
  ⟨h.row.chg hc hn, h.lo, h.chg.trans hc (fun _ _ x => x) (fun i hi x => hS i hi x)⟩
theorem OutS.lt (h : OutS w0 w v l) : ∀ k, v.ownBlock = some k → k < w.heap.size := h.row.lt
end
theorem OutS.from {w0 wa w : World} {v : Value} {l : List ByteArray} (h : OutS wa w v l) (hc : Chg (fun _ => False) w0 wa) : OutS w0 w v l := ⟨h.row, fun k hk => Nat.le_trans hc.size (h.lo k hk), hc.trans' h.chg⟩
/-- append in a region that draws. -/
theorem step_outS {W w0 : World} {ops : Array Oper} {o : Oper} {a : Act} {K : Act → World → Prop} {Q : Exit → Act → World → Prop} {E : Prop} (hgd : o.guard = none) (s x : Operand)
    (ho : o.op = .call { callee := .builtin .append, args := #[s, x], argTypes := #[56, 56] })
    (v : Value) (l : List ByteArray) (hsv : a.eval s = v) (H : OutS w0 W v l) (xv : Value) (m : List ByteArray) (hx : a.eval x = xv) (hxr : RowAt W 9 1 xv m.length (strC m)) (hf : Few (l.length + m.length))
    (h : ∀ a1 n1 c1 w', OutS w0 w' (.slice a1 n1 c1) (l ++ m) → Chg (fun k => v.ownBlock = some k) W w' → (∀ k, (Value.slice a1 n1 c1).ownBlock = some k → v.ownBlock = some k ∨ W.heap.size ≤ k) → K (a.put o.dst (.slice a1 n1 c1)) w') :
    if Region.wanted o (yielded ops a.tmps) = true then Oper.wp Tryd.prog o a W K Q else E := by
  refine step_append_rows hgd s x 56 ho 9 1 16 Tryd.underlying56 elem_str (by decide) v l.length (strC l) hsv H.row xv m.length (strC m) hx hxr (strC_ones m) (by have := hf.lt; unfold maxLen; omega) (by have := hf.lt; omega) ?_
  intro a1 n1 c1 w' hrow hchg hold
  refine h a1 n1 c1 w' ⟨?_, fun k hk => ?_, ?_⟩ hchg hold
  · have : strC l ++ strC m = strC (l ++ m) := by simp [strC]
    rw [List.length_append, ← this]; exact hrow
  · rcases hold k hk with x | x
    · exact H.lo k x
    · exact Nat.le_trans H.chg.size x
  · exact H.chg.trans hchg (fun _ _ x => x) (fun i hi x => by have := H.lo i x; omega)
/-- append to such a list. -/
theorem wpList_outS {W w0 : World} {ops : Array Oper} {rest : List Oper} {o : Oper} {a : Act} {Q : Exit → Act → World → Prop} (hgd : o.guard = none) (s x : Operand)
    (ho : o.op = .call { callee := .builtin .append, args := #[s, x], argTypes := #[56, 56] })
    (v : Value) (l : List ByteArray) (hsv : a.eval s = v) (H : OutS w0 W v l) (xv : Value) (m : List ByteArray) (hx : a.eval x = xv) (hxr : RowAt W 9 1 xv m.length (strC m)) (hf : Few (l.length + m.length))
    (h : ∀ a1 n1 c1 w', OutS w0 w' (.slice a1 n1 c1) (l ++ m) → Chg (fun k => v.ownBlock = some k) W w' → (∀ k, (Value.slice a1 n1 c1).ownBlock = some k → v.ownBlock = some k ∨ W.heap.size ≤ k) → wpList Tryd.prog ops Q rest (a.put o.dst (.slice a1 n1 c1)) w') :
    wpList Tryd.prog ops Q (o :: rest) a W := by
  refine list_append_rows hgd s x 56 ho 9 1 16 Tryd.underlying56 elem_str (by decide) v l.length (strC l) hsv H.row xv m.length (strC m) hx hxr (strC_ones m) (by have := hf.lt; unfold maxLen; omega) (by have := hf.lt; omega) ?_
  intro a1 n1 c1 w' hrow hchg hold
  refine h a1 n1 c1 w' ⟨?_, fun k hk => ?_, ?_⟩ hchg hold
  · have : strC l ++ strC m = strC (l ++ m) := by simp [strC]
    rw [List.length_append, ← this]; exact hrow
  · rcases hold k hk with x | x
    · exact H.lo k x
    · exact Nat.le_trans H.chg.size x
  · exact H.chg.trans hchg (fun _ _ x => x) (fun i hi x => by have := H.lo i x; omega)

structure HS (w W : World) (bh : Nat) (hp : Hp) (v : Value) (L : List ByteArray) (F : List Nat) : Prop where
  heap : Own hpR w W bh 0 hp F
  li : OutS w W v L
  d : ∀ k ∈ bh :: F, k ∉ ownL v
section
variable {w W W' : World} {bh : Nat} {hp hp' : Hp} {v v' : Value} {L L' : List ByteArray} {F : List Nat}
theorem HS.still (h : HS w W bh hp v L F) (hc : Chg (fun _ => False) W W') : HS w W' bh hp v L F := ⟨h.heap.still hc, h.li.still hc, h.d⟩
theorem HS.heapS (h : HS w W bh hp v L F) (hp1 : Post hpR W bh 0 hp' F W') : ∃ F', HS w W' bh hp' v L F' := by
  obtain ⟨F', h1, h2⟩ := hp1
  have hS : ∀ k, (k = bh ∨ k ∈ F) → k ∈ bh :: F := fun k x => x.elim (fun e => e ▸ List.mem_cons_self ..) (List.mem_cons_of_mem _)
  have hlo : ∀ k, (k = bh ∨ k ∈ F) → w.heap.size ≤ k := fun k x => h.heap.allLo k (hS k x)
  exact ⟨F', h.heap.step h1 h2, h.li.other h2.chg (fun k hk x => h.d k (hS k x) (mem_ownL.2 hk)) (fun k hk x => by have := hlo k x; omega),
    apart_grow h.d h2.new (fun k hk => h.li.row.lt k (mem_ownL.1 hk))⟩
theorem HS.liS (h : HS w W bh hp v L F) (hc : Chg (fun k => v.ownBlock = some k) W W') (ho : OutS w W' v' L') (hold : ∀ k, v'.ownBlock = some k → v.ownBlock = some k ∨ W.heap.size ≤ k) : HS w W' bh hp v' L' F :=
  ⟨h.heap.beside hc (fun k hk x => h.d k hk (mem_ownL.2 x)) h.li.lo, ho, fun k hk x => by
    rcases hold k (mem_ownL.1 x) with y | y
    · exact h.d k hk (mem_ownL.2 y)
    · have := h.heap.allLt k hk; omega⟩
theorem HS.of (h : Own hpR w W bh 0 hp F) : HS w W bh hp (.slice none 0 0) [] F :=
  ⟨h, ⟨RowAt.nil _ _ _, fun k hk => by simp [Value.ownBlock] at hk, h.chg⟩, fun k hk x => by simp [ownL, Value.ownBlock] at x⟩
end
/-- A heap, a list under construction, and rows that stay. -/
structure HK (w W : World) (bh : Nat) (hp : Hp) (F : List Nat) (v : Value) (L : List ByteArray) (R : List (Value × List ByteArray)) : Prop where
  heap : Own hpR w W bh 0 hp F
  li : OutS w W v L
  d : ∀ k ∈ bh :: F, k ∉ ownL v
  rows : ∀ r ∈ R, RowAt W 9 1 r.1 r.2.length (strC r.2) ∧ ∀ k, v.ownBlock = some k → r.1.ownBlock ≠ some k
section
variable {w W W' : World} {bh : Nat} {hp : Hp} {F : List Nat} {v v' : Value} {L L' : List ByteArray} {R : List (Value × List ByteArray)}
theorem HK.start (h : HS w W bh hp v L F) : HK w W bh hp F (.slice none 0 0) [] [(v, L)] :=
  ⟨h.heap, ⟨RowAt.nil _ _ _, fun k hk => by simp [Value.ownBlock] at hk, h.heap.chg⟩, fun k hk x => by simp [ownL, Value.ownBlock] at x, fun r hr => by
    rw [List.mem_singleton] at hr
    subst hr
    exact ⟨h.li.row, fun k hk => by simp [Value.ownBlock] at hk⟩⟩
theorem HK.still (h : HK w W bh hp F v L R) (hc : Chg (fun _ => False) W W') : HK w W' bh hp F v L R :=
  ⟨h.heap.still hc, h.li.still hc, h.d, fun r hr => ⟨(h.rows r hr).1.chg hc (fun _ _ x => x), (h.rows r hr).2⟩⟩
theorem HK.fresh (h : HK w W bh hp F (.slice none 0 0) [] R) : HK w (W.alloc (.cells #[] 9)) bh hp F (.slice (some ⟨W.heap.size, 0, none⟩) 0 0) [] R := by
  have hc := Chg.alloc (fun _ => False) W (.cells #[] 9)
  have hob : ∀ k, (Value.slice (some ⟨W.heap.size, 0, none⟩) 0 0).ownBlock = some k → k = W.heap.size := fun k hk => by simpa [Value.ownBlock, eq_comm] using hk
  refine ⟨h.heap.still hc, ⟨RowAt.fresh W _ 1 _ rfl, fun k hk => by rw [hob k hk]; exact h.heap.chg.size, h.li.chg.trans' hc⟩, fun k hk x => ?_, fun r hr => ⟨(h.rows r hr).1.chg hc (fun _ _ x => x), fun k hk e => ?_⟩⟩
  · have := hob k (mem_ownL.1 x)
    have := h.heap.allLt k hk
    omega
  · have := hob k hk
    have := (h.rows r hr).1.lt k e
    omega
theorem HK.lit (h : HK w W bh hp F v L R) (key : ByteArray) : HK w (W.alloc (.cells #[.string key] 9)) bh hp F v L ((.slice (some ⟨W.heap.size, 0, none⟩) 1 1, [key]) :: R) := by
  have hc := Chg.alloc (fun _ => False) W (.cells #[.string key] 9)
  refine ⟨h.heap.still hc, h.li.still hc, h.d, fun r hr => ?_⟩
  rcases List.mem_cons.1 hr with rfl | hr
  · refine ⟨RowAt.lit [.string key] rfl (by simp [maxLen]), fun k hk e => ?_⟩
    have h1 : W.heap.size = k := by simpa [Value.ownBlock] using e
    have := h.li.lt k hk
    omega
  · exact ⟨(h.rows r hr).1.chg hc (fun _ _ x => x), (h.rows r hr).2⟩
theorem HK.app (h : HK w W bh hp F v L R) (hc : Chg (fun k => v.ownBlock = some k) W W') (ho : OutS w W' v' L') (hold : ∀ k, v'.ownBlock = some k → v.ownBlock = some k ∨ W.heap.size ≤ k) : HK w W' bh hp F v' L' R := by
  refine ⟨h.heap.beside hc (fun k hk x => h.d k hk (mem_ownL.2 x)) h.li.lo, ho, fun k hk x => ?_, fun r hr => ⟨(h.rows r hr).1.chg hc (fun k hk x => (h.rows r hr).2 k x hk), fun k hk e => ?_⟩⟩
  · rcases hold k (mem_ownL.1 x) with y | y
    · exact h.d k hk (mem_ownL.2 y)
    · have := h.heap.allLt k hk; omega
  · rcases hold k hk with y | y
    · exact (h.rows r hr).2 k y e
    · have := (h.rows r hr).1.lt k e; omega
theorem HK.done (h : HK w W bh hp F v L R) : HS w W bh hp v L F := ⟨h.heap, h.li, h.d⟩
end
theorem strC_take (L : List ByteArray) (k : Nat) : (strC L).take k = strC (L.take k) := by unfold strC; rw [List.map_take]
theorem strC_drop (L : List ByteArray) (k : Nat) : (strC L).drop k = strC (L.drop k) := by unfold strC; rw [List.map_drop]
theorem RowAt.preS {W : World} {p : Option Addr} {n c k : Nat} {L : List ByteArray} (h : RowAt W 9 1 (.slice p n c) L.length (strC L)) (hk : k ≤ L.length) (hn : n = L.length) : RowAt W 9 1 (.slice p k c) (L.take k).length (strC (L.take k)) := by
  subst hn
  have := h.prefix hk
  rw [Nat.mul_one, strC_take] at this
  rwa [show (L.take k).length = k by rw [List.length_take]; omega]
theorem RowAt.sufS {W : World} {g off n c k : Nat} {L : List ByteArray} (h : RowAt W 9 1 (.slice (some ⟨g, off, none⟩) n c) L.length (strC L)) (hk : k ≤ L.length) (hn : n = L.length) : RowAt W 9 1 (.slice (if c = k then some ⟨g, off, none⟩ else some ⟨g, off + k, none⟩) (n - k) (c - k)) (L.drop k).length (strC (L.drop k)) := by
  subst hn
  have := h.suffix hk
  unfold reslS at this
  rw [Nat.mul_one, strC_drop, Option.map_some, show (⟨g, off, none⟩ : Addr).add k = ⟨g, off + k, none⟩ from by unfold Addr.add; split <;> simp_all] at this
  rwa [show (L.drop k).length = L.length - k by rw [List.length_drop]]
end Go.Proofs.YtjianickjahdnaaDoor
namespace Go.Proofs.YtjianickjahdnaaDoor
open Go.RowKit
set_option linter.unusedVariables false
set_option linter.unusedSimpArgs false

theorem cells_oneP (l : List Prp) : ∀ u ∈ l.flatMap Prp.cells, u.oneCell' = true := fun u hu => by
  obtain ⟨v, -, h⟩ := List.mem_flatMap.1 hu
  unfold Prp.cells at h
  simp only [List.mem_cons, List.not_mem_nil, or_false] at h
  rcases h with rfl | rfl | rfl | rfl | rfl <;> rfl
theorem flatP_take : ∀ (l : List Prp) (n : Nat), (l.flatMap Prp.cells).take (n * 5) = (l.take n).flatMap Prp.cells
  | [], n => by simp
  | a :: l, 0 => by simp
  | a :: l, n + 1 => by
    have ih := flatP_take l n
    have hl : a.cells.length = 5 := Prp.len a
    rw [List.flatMap_cons, List.take_succ_cons, List.flatMap_cons, show (n + 1) * 5 = a.cells.length + n * 5 by rw [hl]; omega, List.take_length_add_append, ih]
theorem flatP_drop : ∀ (l : List Prp) (n : Nat), (l.flatMap Prp.cells).drop (n * 5) = (l.drop n).flatMap Prp.cells
  | [], n => by simp
  | a :: l, 0 => by simp
  | a :: l, n + 1 => by
    have ih := flatP_drop l n
    have hl : a.cells.length = 5 := Prp.len a
    rw [List.flatMap_cons, List.drop_succ_cons, show (n + 1) * 5 = a.cells.length + n * 5 by rw [hl]; omega, List.drop_length_add_append, ih]
set_option maxHeartbeats 6400000 in
set_option maxRecDepth 100000 in
theorem del_not (w : World) (b : Nat) (hp : Hp) (F : List Nat) (h : Int) (i : Nat) (key : ByteArray) (H : Here hpR w b 0 hp F) (hi : -9223372036854775808 ≤ h ∧ h ≤ 9223372036854775807) (hs : slotOf hp h = some i) (hl : i < hp.slots.length) (hk : hp.slots[i].obj.kind ≠ 1)
    (hf : findP key hp.slots[i].obj.props 0 = none) :
    Calls Tryd.prog 26 #[.pointer (some ⟨b, 0, none⟩), .int .i64 h, .string key] w fun e w' => e = .returned (.bool true) ∧ Chg (fun _ => False) w w' := by
  obtain ⟨gh, oh, kh, c2, G, HOBJ0, hGF, hput⟩ := hpPut H hl
  obtain ⟨vp, ve, vd, vs, HOC⟩ := objOpen HOBJ0
  have z1 : (hp.slots[i].obj.kind == 1) = false := beq_false_of_ne hk
  have hat := hat_any _ b 0 hp F h _ H (by rw [Nat.zero_add]; exact c2) hi
  rw [hs, show objPtr (.slice (some ⟨gh, oh, none⟩) hp.slots.length kh) (some i) = some ⟨gh, oh + i * 11 + 1, none⟩ from rfl] at hat
  have HAT := Lib.hid hat
  have HC0 := Lib.hid HOC.c0
  have HC2 := Lib.hid HOC.c2
  have HRP := Lib.hid HOC.rp
  generalize hp.slots[i].obj = x at *
  have HF := Lib.hid hf
  clear HOBJ0 hGF hput HOC c2 hi hs H hk hat hf
  go_enter Tryd.func26, Tryd.ntmps26
  go_upto_region 4 with (go_at_call 35; refine HAT.out.mono ?_; rintro e wa ⟨rfl, hca⟩)
  have HC1 := Lib.hid hca
  have c0 := HC1.out.cell HC0.out
  have HPL := Lib.hid (place_any wa gh (oh + i * 11 + 1) _ x.props key (HC1.out.cell HC2.out) (HRP.out.chg HC1.out (fun _ _ x => x)))
  rw [HF.out] at HPL
  clear hca HAT
  go_upto_region 14 with (go_at_call 43; refine HPL.out.mono ?_; rintro e w5 ⟨rfl, hc5⟩)
  have HC5 := Lib.hid (HC1.out.trans' hc5)
  clear hc5 HPL c0 z1
  rw [show idxP none = -1 from rfl]
  go_wp2_with fail
  go_ret
  exact ⟨rfl, HC5.out⟩
set_option maxHeartbeats 6400000 in
set_option maxRecDepth 100000 in
theorem del_has (w : World) (b : Nat) (hp : Hp) (F : List Nat) (h : Int) (i : Nat) (key : ByteArray) (j : Nat) (H : Here hpR w b 0 hp F) (hi : -9223372036854775808 ≤ h ∧ h ≤ 9223372036854775807) (hs : slotOf hp h = some i) (hl : i < hp.slots.length) (hk : hp.slots[i].obj.kind ≠ 1)
    (hf : findP key hp.slots[i].obj.props 0 = some j) (hj : j < hp.slots[i].obj.props.length) (hlp : hp.slots[i].obj.props.length ≤ 10000) :
    Calls Tryd.prog 26 #[.pointer (some ⟨b, 0, none⟩), .int .i64 h, .string key] w fun e w' => e = .returned (.bool true) ∧ Post hpR w b 0 (putO hp i { hp.slots[i].obj with props := hp.slots[i].obj.props.take j ++ hp.slots[i].obj.props.drop (j + 1) }) F w' := by
  obtain ⟨gh, oh, kh, c2, G, HOBJ0, hGF, hput⟩ := hpPut H hl
  obtain ⟨vp, ve, vd, vs, HOC⟩ := objOpen HOBJ0
  have z1 : (hp.slots[i].obj.kind == 1) = false := beq_false_of_ne hk
  have hat := hat_any _ b 0 hp F h _ H (by rw [Nat.zero_add]; exact c2) hi
  rw [hs, show objPtr (.slice (some ⟨gh, oh, none⟩) hp.slots.length kh) (some i) = some ⟨gh, oh + i * 11 + 1, none⟩ from rfl] at hat
  have HAT := Lib.hid hat
  have HC0 := Lib.hid HOC.c0
  have HC2 := Lib.hid HOC.c2
  have HRP := Lib.hid HOC.rp
  generalize hx : hp.slots[i].obj = x at *
  have HX := Lib.hid hx
  have HF := Lib.hid hf
  have HOB := Lib.hid HOBJ0
  have HPT := Lib.hid hput
  have HBS : Hid (∀ k ∈ G, k < w.heap.size) := Lib.hid (fun k hk => H.lt.2 k (hGF k hk))
  have HJ := Lib.hid hj
  have HLE := Lib.hid hlp
  clear HOBJ0 hGF hput HOC c2 hi hs H hx hk hat hf hj hlp
  go_enter Tryd.func26, Tryd.ntmps26
  go_upto_region 4 with (go_at_call 35; refine HAT.out.mono ?_; rintro e wa ⟨rfl, hca⟩)
  have HC1 := Lib.hid hca
  have c0 := HC1.out.cell HC0.out
  have HPL := Lib.hid (place_any wa gh (oh + i * 11 + 1) _ x.props key (HC1.out.cell HC2.out) (HRP.out.chg HC1.out (fun _ _ x => x)))
  rw [HF.out] at HPL
  clear hca HAT
  go_upto_region 14 with (go_at_call 43; refine HPL.out.mono ?_; rintro e w5 ⟨rfl, hc5⟩)
  have HC5 := Lib.hid (HC1.out.trans' hc5)
  clear hc5 HPL c0 z1
  rw [show idxP (some j) = (j : Int) from rfl]
  have HOB5 := HOB.out.still HC5.out
  obtain ⟨v, c2, hr, hin, hnb, hback⟩ := HOB5.fieldFlat (f := Prp.cells) (hf := Prp.len) objR_props (by show 0 < 10; decide)
  obtain ⟨a, cap, rfl, -⟩ := hr.slice
  obtain ⟨cB, TB, hbB⟩ := HOB5.boxed
  have HD := Lib.hid (delP_any w5 _ x.props.length j (j + 1) _ hr (cells_oneP _) (by omega) HJ.out (by have := HLE.out; omega))
  rw [flatP_take, flatP_drop, ← List.flatMap_append, show x.props.length - (j + 1 - j) = x.props.length - 1 by omega] at HD
  have HBK := Lib.hid hback
  have FRZ : Hid (∀ (w2 : World), Chg (fun j => (Value.slice a x.props.length cap).ownBlock = some j) w5 w2 → w2.frozen? ⟨gh, oh + i * 11 + 1 + 2, none⟩ = false) := Lib.hid (fun w2 h1 => frozen_of_block (h1.keep hbB hnb))
  have CEL : Hid (∀ (w2 : World), Chg (fun j => (Value.slice a x.props.length cap).ownBlock = some j) w5 w2 → w2.cell? ⟨gh, oh + i * 11 + 1 + 2, none⟩ = some (.slice a x.props.length cap)) := Lib.hid (fun w2 h1 => by
    exact h1.cellS c2 hnb)
  have j0 : (0 : Int) ≤ (j : Int) := by omega
  have w64 : IntKind.i64.wrap ((j : Int) + 1) = ((j + 1 : Nat) : Int) := IntWalk.i64_in _ (by have := HLE.out; have := HJ.out; omega)
  clear hr hin hnb hback hbB HOB5
  go_upto_region 16 with (go_at_call 45; refine HD.out.mono ?_; rintro e w2 ⟨v2, rfl, hrow2, hchg2, hold2⟩; obtain ⟨a2, c2_, rfl, -⟩ := hrow2.slice; have z2 := FRZ.out _ hchg2; have z3 := CEL.out _ hchg2)
  have hP := HBK.out w2 _ (x.props.take j ++ x.props.drop (j + 1)) hchg2 (by rw [show (x.props.take j ++ x.props.drop (j + 1)).length = x.props.length - 1 by simp only [List.length_append, List.length_take, List.length_drop]; have := HJ.out; omega]; exact hrow2) (fun k hk => .inl (hold2 k hk))
  have HP := Lib.hid (HPT.out _ _ (Post.pre HC5.out hP))
  clear hP hrow2 hchg2 hold2 z2 z3
  go_wp2_with fail
  go_ret
  exact ⟨rfl, HP.out⟩
end Go.Proofs.YtjianickjahdnaaDoor
namespace Go.Proofs.YtjianickjahdnaaDoor
open Go.RowKit
set_option linter.unusedVariables false
set_option linter.unusedSimpArgs false

set_option maxHeartbeats 6400000 in
set_option maxRecDepth 100000 in
theorem keys_not (w : World) (b : Nat) (hp : Hp) (F : List Nat) (h : Int) (i : Nat) (H : Here hpR w b 0 hp F) (hi : -9223372036854775808 ≤ h ∧ h ≤ 9223372036854775807) (hs : slotOf hp h = some i) (hl : i < hp.slots.length) (hk : hp.slots[i].obj.kind ≠ 1) (hlp : hp.slots[i].obj.props.length ≤ 10000) :
    Calls Tryd.prog 27 #[.pointer (some ⟨b, 0, none⟩), .int .i64 h] w fun e w' => ∃ v', e = .returned v' ∧ OutS w w' v' (hp.slots[i].obj.props.map (·.key)) := by
  obtain ⟨gh, oh, kh, c2, G, HOBJ0, hGF, hput⟩ := hpPut H hl
  obtain ⟨vp, ve, vd, vs, HOC⟩ := objOpen HOBJ0
  have z1 : (hp.slots[i].obj.kind == 1) = false := beq_false_of_ne hk
  have hat := hat_any _ b 0 hp F h _ H (by rw [Nat.zero_add]; exact c2) hi
  rw [hs, show objPtr (.slice (some ⟨gh, oh, none⟩) hp.slots.length kh) (some i) = some ⟨gh, oh + i * 11 + 1, none⟩ from rfl] at hat
  have HAT := Lib.hid hat
  have HC0 := Lib.hid HOC.c0
  have HC2 := Lib.hid HOC.c2
  have hr := HOC.rp
  generalize hp.slots[i].obj = x at *
  obtain ⟨ad, cap, rfl, -, -⟩ := hr.slice
  have HR := Lib.hid hr
  generalize x.props = l at *
  have HL := Lib.hid hlp
  have hln : (l.length : Int) ≤ 9223372036854775807 := by omega
  clear HOBJ0 hGF hput HOC c2 hi hs H hk hat hr hlp
  go_enter Tryd.func27, Tryd.ntmps27
  go_upto_region 4 with (go_at_call 35; refine HAT.out.mono ?_; rintro e wa ⟨rfl, hca⟩)
  have HC1 := Lib.hid hca
  have c0 := HC1.out.cell HC0.out
  have c2 := HC1.out.cell HC2.out
  clear hca HAT
  go_upto_region 12 with fail
  go_loopw [6, 9, 39] (fun u6 _ u39 wr => ∃ (k : Nat) (a : Option Addr) (n c : Nat), k ≤ l.length ∧ u39 = .int .i64 k ∧ u6 = .slice a n c ∧ OutS wa wr (.slice a n c) ((l.take k).map (·.key))) (fun _ _ u _ => l.length - (intOf u).toNat)
  case atStart => exact ⟨0, none, 0, 0, by omega, rfl, rfl, OutS.nil wa⟩
  case round =>
    obtain ⟨k, a, n, c, hk, rfl, rfl, HO⟩ := hrel
    by_cases hlt : k < l.length
    · have h0 : (0 : Int) ≤ (k : Int) := by omega
      have h1 : (k : Int) < (l.length : Int) := by omega
      have hr2 := HR.out.chg (HC1.out.trans' HO.chg) (fun _ _ x => x)
      obtain ⟨g, off, cap', hv, -, -⟩ := hr2.addr (by omega)
      cases hv
      have hcell : ∀ j u, l[k].cells[j]? = some u → j < 5 → wr.cell? ⟨g, off + k * 5 + j, none⟩ = some u := fun j u hu hj => by
        rw [Nat.add_assoc]
        exact hr2.cellAt (k * 5 + j) u (by rw [flat_get _ 5 Prp.len l k j hlt hj]; exact hu)
      have e0 := hcell 0 _ rfl (by omega)
      have e1 := hcell 1 _ rfl (by omega)
      have e2 := hcell 2 _ rfl (by omega)
      have e3 := hcell 3 _ rfl (by omega)
      have e4 := hcell 4 _ rfl (by omega)
      rw [Nat.add_zero] at e0
      have w64 : IntKind.i64.wrap ((k : Int) + 1) = ((k + 1 : Nat) : Int) := IntWalk.i64_in _ (by omega)
      have HT : Hid ((l.take (k + 1)).map (·.key) = (l.take k).map (·.key) ++ [l[k].key]) := Lib.hid (by rw [List.take_succ_eq_append_getElem hlt, List.map_append]; rfl)
      have HLT := Lib.hid hlt
      have HFW : Hid (Few (((l.take k).map (·.key)).length + 1)) := Lib.hid (⟨by rw [List.length_map, List.length_take]; have := HL.out; omega⟩ : Few _)
      clear hcell hr2 hk
      generalize l[k] = z at *
      have HO1 := Lib.hid ((HO.alloc (.cells #[.string z.key, .int .i64 z.vkind, .int .i64 z.vint, .string z.vstr, .int .i64 z.vref] 86)).alloc (.cells #[.string z.key] 9))
      clear HO hlt
      go_wp2_with (first
        | (at_builtin; refine wpList_outS rfl (.tmp 43) (.tmp 46) rfl _ ((l.take k).map (·.key)) rfl HO1.out _ [z.key] rfl (RowAt.lit2 [.string z.key] rfl (by simp [maxLen])) HFW.out ?_; intro a2 n2 c2 w2 HO2 hch2 _))
      go_roundw
      case rel => exact ⟨k + 1, a2, n2, c2, HLT.out, rfl, rfl, by rw [HT.out]; exact HO2⟩
      case measure => have := HLT.out; simp [intOf, w64]; omega
    · have hk2 : k = l.length := by omega
      subst hk2
      rw [List.take_length] at HO
      have HO1 := Lib.hid HO
      clear HO hlt hk
      go_wp2_with fail
      go_ret
      exact ⟨_, rfl, HO1.out.from HC1.out⟩
end Go.Proofs.YtjianickjahdnaaDoor
namespace Go.Proofs.YtjianickjahdnaaDoor
open Go.RowKit
attribute [local go_sem] Oper.semAt_some
set_option linter.unusedVariables false
set_option linter.unusedSimpArgs false

theorem Chg.putL {S : Nat → Prop} {a b : World} (h : Chg S a b) (l : Nat) (o : _root_.Go.Obj) (hl : l < a.heap.size → S l) : Chg S a (b.putObj l o) :=
  h.trans (Chg.grown (grownBy_putObj' b l o)) (fun _ _ x => x) (fun i hi e => by cases e; exact hl hi)
/-- The contract of an iterator over a list, with one box of its own that it writes; a round may leave. -/
def SeqFind {α : Type} (F : Fence) (n : Nat) (P : Program) (g : Nat) (lb : Array Value) (encs : α → Array Value) (xs : List α) (bo : Nat) (w : World) : Prop :=
  ∀ (l : Nat) (J Jx : List α → World → Prop) (W : World), Chg (fun _ => False) w W →
    (∀ pre A B, J pre A → Chg (fun k => k = bo) A B → J pre B) →
    (∀ pre x W1, J pre W1 → (pre ++ [x]) <+: xs → Chg (fun k => k = bo) w W1 → YieldAt F (n - 1) P l (encs x) W1 fun e W' =>
      (e = .returned (.bool true) ∧ J (pre ++ [x]) W' ∧ Chg (fun k => w.heap.size ≤ k) W1 W') ∨ (e = .returned (.bool false) ∧ Jx (pre ++ [x]) W')) →
    J [] W →
    CallsIn F n P g (#[.func (.yield l) #[] #[]] ++ lb) W fun e W' => (∃ v, e = .returned v) ∧ (J xs W' ∨ ∃ pre, Jx pre W')

theorem wpIn_rangeFunc_find {F : Fence} {n : Nat} {P : Program} {α : Type} {g : Operand} {ps : Array Tmp} {assign body : Code} {Q : Exit → Act → World → Prop} {a : Act} {w : World}
    (hro : F.round = none) (h1 : 1 ≤ n) {gf : Nat} {lb : Array Value} (hg : a.eval g = .func (.func gf) #[] lb) (hFg : F.fn gf) (eg : ∀ args w, (callFunc gf args).run P w = .ok (.enter gf args) w)
    {encs : α → Array Value} {xs : List α} {bo : Nat} (hbo : bo < w.heap.size) (hseq : SeqFind F (n - 1) P gf lb encs xs bo w) (hps : ∀ x, (encs x).size = ps.size)
    (Ip : List α → Prop) (R : List α → World → Prop) (T : Nat → Prop) (hT : ∀ k, T k → k < w.heap.size)
    (hR : ∀ pre A B, R pre A → Chg (fun k => w.heap.size ≤ k) A B → R pre B)
    (h0 : Ip []) (a₁ : α → Act)
    (hassign : ∀ (l : Nat) (x : α) (W : World) (K : Act → World → Prop), K (a₁ x) W →
      assign.wpIn (F.inRound l) (n - 1 - 1) P (Exit.then K (fun _ _ _ => False)) { tmps := (ps.zip (encs x)).foldl (fun t (p, v) => t.setIfInBounds p v) a.tmps, defers := [] } W)
    (hbody : ∀ (l : Nat) (pre : List α) (x : α) (W : World), Ip pre → (pre ++ [x]) <+: xs → Chg (fun k => k = bo) w W →
      body.wpIn (F.inRound l) (n - 1 - 1) P (fun e _ W' => (e = .normal ∧ Ip (pre ++ [x]) ∧ Chg (fun _ => False) W W') ∨ (e = .ret ∧ R (pre ++ [x]) W' ∧ Chg T W W')) (a₁ x) W)
    (hdone : ∀ (D : Nat) (W : World), w.heap.size ≤ D → Ip xs → Chg (fun k => k = bo) w W → W.heap[D]? = some (.deferred (some [])) → Q .normal { a with defers := { target := .collected D, args := #[] } :: a.defers } W)
    (hstop : ∀ (D : Nat) (pre : List α) (W : World), w.heap.size ≤ D → R pre W → Chg (fun k => T k ∨ k = bo) w W → W.heap[D]? = some (.deferred (some [])) → Code.ret.wpIn F n P Q { a with defers := { target := .collected D, args := #[] } :: a.defers } W) :
    (Code.rangeFunc g ps assign body).wpIn F n P Q a w := by
  refine wpIn_rangeFunc ?_
  intro fn hfn
  rw [hro]
  obtain ⟨rec, hrec⟩ : ∃ rec : LoopState → Option Code → Loop, rec = fun st pe => { state := st, pending := pe, fn, tmps := a.tmps, params := ps, assign, body, defers := w.heap.size } := ⟨_, rfl⟩
  obtain ⟨W1, hW1⟩ : ∃ W1, (w.alloc (.deferred (some []))).alloc (.loop (rec .ready none)) = W1 := ⟨_, rfl⟩
  have hc1 : Chg (fun _ => False) w W1 := by rw [← hW1]; exact (Chg.alloc _ _ _).allocR _
  have hL1 : W1.heap[w.heap.size + 1]? = some (.loop (rec .ready none)) := by
    rw [← hW1]; have := World.alloc_heap_new (w.alloc (.deferred (some []))) (.loop (rec .ready none)); rwa [World.size_alloc] at this
  have hK1 : W1.heap[w.heap.size]? = some (.deferred (some [])) := by
    rw [← hW1]; exact (Below.heap_alloc _ _ _ (by simp)).trans (World.alloc_heap_new w _)
  refine ⟨w.heap.size + 1, [{ target := .collected w.heap.size, args := #[] }], W1, { target := .fn (.func gf) lb, args := #[.func (.yield (w.heap.size + 1)) #[] #[]] }, W1, gf,
    #[.func (.yield (w.heap.size + 1)) #[] #[]] ++ lb, W1, ?_, ?_, ?_, ?_, fun _ => h1, ?_⟩
  · rw [← hW1, hrec]; exact run_enterLoop_outer _ _ _ _ _
  · simp only [resolve, hg]
    simp [go_sem]
  · intro f' hf'; simp [Target.leads] at hf'; subst hf'; exact hFg
  · simp [invoke, go_sem, eg]
  · refine (hseq (w.heap.size + 1)
      (fun pre W => Ip pre ∧ Chg (fun k => k = bo) w W ∧ W.heap[w.heap.size + 1]? = some (.loop (rec .ready none)) ∧ W.heap[w.heap.size]? = some (.deferred (some [])))
      (fun pre W => R pre W ∧ Chg (fun k => T k ∨ k = bo) w W ∧ W.heap[w.heap.size + 1]? = some (.loop (rec .done (some .ret))) ∧ W.heap[w.heap.size]? = some (.deferred (some [])))
      W1 hc1 (fun pre A B hj hc => ⟨hj.1, hj.2.1.trans' hc, hc.keep hj.2.2.1 (by omega), hc.keep hj.2.2.2 (by omega)⟩) ?_ ⟨h0, hc1.mono (fun _ _ x => x.elim), hL1, hK1⟩).mono ?_
    · rintro pre x W ⟨hi, hcw, hl, hk⟩ hpre -
      have hlt : w.heap.size + 1 < W.heap.size := (Array.getElem?_eq_some_iff.1 hl).1
      have hy := run_yield (P := P) (args := encs x) hl (by rw [hrec]; exact hps x)
      rw [hrec] at hy
      refine ⟨fn, _, assign, body, hy, roundIn_of_wpIn hfn (hassign _ x W _ ⟨_, run_beginRound hl (by rw [hrec]), ?_⟩)⟩
      have hl2 : (W.putObj (w.heap.size + 1) (.loop { rec .ready none with state := .busy })).heap[w.heap.size + 1]? = some (.loop { rec .ready none with state := .busy }) := World.putObj_heap_same hlt
      have hk2 : (W.putObj (w.heap.size + 1) (.loop { rec .ready none with state := .busy })).heap[w.heap.size]? = some (.deferred (some [])) := (World.putObj_heap_other (by omega)).trans hk
      have hcb : Chg (fun k => w.heap.size ≤ k) W (W.putObj (w.heap.size + 1) (.loop { rec .ready none with state := .busy })) := (Chg.refl _ W).putL _ _ (fun _ => by omega)
      have hcb2 : Chg (fun k => k = bo) w (W.putObj (w.heap.size + 1) (.loop { rec .ready none with state := .busy })) := hcw.putL _ _ (fun h => by omega)
      refine wpIn_mono (hbody _ pre x _ hi hpre hcb2) ?_
      rintro e a3 W3 (⟨rfl, hi3, hc3⟩ | ⟨rfl, hr3, hc3⟩)
      · have hl3 := hc3.keep hl2 (fun x => x)
        have hk3 := hc3.keep hk2 (fun x => x)
        have hr := run_endRound (P := P) none hl3
        have hlt3 := (Array.getElem?_eq_some_iff.1 hl3).1
        rw [hrec] at hr
        refine ⟨_, _, hr, .inl ⟨rfl, ⟨hi3, (hcb2.trans hc3 (fun _ _ x => x) (fun _ _ x => x.elim)).putL _ _ (fun h => by omega), ?_, (World.putObj_heap_other (by omega)).trans hk3⟩, (hcb.trans hc3 (fun _ _ x => x) (fun _ _ x => x.elim)).putL _ _ (fun _ => by omega)⟩⟩
        rw [hrec]; exact World.putObj_heap_same hlt3
      · have hl3 := hc3.keep hl2 (fun x => by have := hT _ x; omega)
        have hk3 := hc3.keep hk2 (fun x => by have := hT _ x; omega)
        have hr := run_endRound (P := P) (some .ret) hl3
        have hlt3 := (Array.getElem?_eq_some_iff.1 hl3).1
        rw [hrec] at hr
        refine ⟨_, _, hr, .inr ⟨rfl, hR _ _ _ hr3 ((Chg.refl _ W3).putL _ _ (fun _ => by omega)), (hcb2.trans hc3 (fun _ _ x => .inr x) (fun _ _ x => .inl x)).putL _ _ (fun h => by omega), ?_, (World.putObj_heap_other (by omega)).trans hk3⟩⟩
        rw [hrec]; exact World.putObj_heap_same hlt3
    · rintro e W2 ⟨⟨v, rfl⟩, (⟨hi, hc, hl, hk⟩ | ⟨pre, hi, hc, hl, hk⟩)⟩
      · exact ⟨none, _, by have := run_endLoop (P := P) hl (by rw [hrec]; simp); rw [hrec] at this; exact this, hdone _ _ (Nat.le_refl _) hi (hc.putL _ _ (fun h => by omega)) ((World.putObj_heap_other (by omega)).trans hk)⟩
      · exact ⟨some .ret, _, by have := run_endLoop (P := P) hl (by rw [hrec]; simp); rw [hrec] at this; exact this, hstop _ pre _ (Nat.le_refl _) (hR _ _ _ hi ((Chg.refl _ W2).putL _ _ (fun _ => by omega))) (hc.putL _ _ (fun h => by omega)) ((World.putObj_heap_other (by omega)).trans hk)⟩
end Go.Proofs.YtjianickjahdnaaDoor
namespace Go.Proofs.YtjianickjahdnaaDoor
open Go.RowKit
set_option linter.unusedVariables false
set_option linter.unusedSimpArgs false

/-- The handles of a prototype chain. -/
def chainM (hp : Hp) : Nat → Int → List Int
  | 0, _ => []
  | n + 1, o => match slotOf hp o with
    | none => []
    | some i => o :: chainM hp n (hp.slots.getD i noSlt).obj.proto
theorem chainM_none {hp : Hp} {o : Int} (h : slotOf hp o = none) : ∀ n, chainM hp n o = []
  | 0 => rfl
  | n + 1 => by unfold chainM; rw [h]
theorem chainM_some {hp : Hp} {o : Int} {i : Nat} (h : slotOf hp o = some i) (hi : i < hp.slots.length) (n : Nat) : chainM hp (n + 1) o = o :: chainM hp n hp.slots[i].obj.proto := by
  conv => lhs; unfold chainM
  rw [h]
  simp only
  rw [List.getD_eq_getElem?_getD, List.getElem?_eq_getElem hi]
  rfl
def InJ (h : Int) : Prop := -9223372036854775808 ≤ h ∧ h ≤ 9223372036854775807

set_option maxHeartbeats 800000 in
set_option maxRecDepth 100000 in
theorem chain_any (w : World) (p : Option Addr) (o : Int) :
    Calls Tryd.prog 36 #[.pointer p, .int .i64 o] w fun e w' => e = .returned (.func (.func 52) #[] #[.pointer (some ⟨w.heap.size, 0, none⟩), .pointer (some ⟨w.heap.size + 1, 0, none⟩)]) ∧ w' = (w.alloc (.cells #[.pointer p] 73)).alloc (.cells #[.int .i64 o] 3) := by
  go_enter Tryd.func36, Tryd.ntmps36
  go_wp2_with fail
  go_ret
  exact ⟨rfl, rfl⟩

set_option maxHeartbeats 6400000 in
set_option maxRecDepth 100000 in
theorem chain1_find (nf : Nat) (w : World) (bh : Nat) (hp : Hp) (F : List Nat) (b1 bo T1 : Nat) (o : Int) (H : Here hpR w bh 0 hp F) (hb1 : w.heap[b1]? = some (.cells #[.pointer (some ⟨bh, 0, none⟩)] T1 (0, 0)))
    (hb2 : w.heap[bo]? = some (.cells #[.int .i64 o] 3 (0, 0))) (h12 : b1 ≠ bo) (hbF : bo ∉ F) (hbb : bh ≠ bo) (ho : InJ o) (hpr : ∀ s (hs : s < hp.slots.length), InJ hp.slots[s].obj.proto) :
    SeqFind Fence.wide nf Tryd.prog 52 #[.pointer (some ⟨b1, 0, none⟩), .pointer (some ⟨bo, 0, none⟩)] (fun h : Int => #[.int .i64 h]) (chainM hp 100001 o) bo w := by
  intro l J Jx W0 hc0 hJ hY hJ0
  refine callsIn_wide.2 ?_
  have HH := Lib.hid H
  have HB1 := Lib.hid hb1
  have HB2 := Lib.hid (hc0.keep hb2 (fun x => x))
  have HNE := Lib.hid (show bo ∉ F ∧ bh ≠ bo ∧ b1 ≠ bo from ⟨hbF, hbb, h12⟩)
  have HPR := Lib.hid hpr
  have HYY := Lib.hid hY
  have HJJ := Lib.hid hJ
  have HJ0 := Lib.hid hJ0
  have HO := Lib.hid ho
  have HLB := Lib.hid (lt_of_block hb2)
  have HC0 : Hid (Chg (fun k => k = bo) w W0) := Lib.hid (hc0.mono (fun _ _ x => x.elim))
  obtain ⟨xs, hxs⟩ : ∃ xs, chainM hp 100001 o = xs := ⟨_, rfl⟩
  rw [hxs] at HYY
  rw [hxs]
  have HXS := Lib.hid hxs
  clear H hb1 hb2 h12 hbF hbb ho hpr hY hJ hJ0 hc0 hxs
  show Calls Tryd.prog 52 #[.func (.yield l) #[] #[], .pointer (some ⟨b1, 0, none⟩), .pointer (some ⟨bo, 0, none⟩)] W0 _
  go_enter Tryd.func52, Tryd.ntmps52
  go_wp2_with fail
  go_loopw [4, 5] (fun _ u5 wr => ∃ (i : Nat) (pre : List Int) (cur : Int), i ≤ 100001 ∧ u5 = .int .i64 i ∧ Hid (InJ cur) ∧ Hid (pre ++ chainM hp (100001 - i) cur = xs) ∧ Hid (J pre wr) ∧ Hid (Chg (fun k => k = bo) w wr) ∧ Hid (wr.heap[bo]? = some (.cells #[.int .i64 cur] 3 (0, 0)))) (fun _ u5 _ => 100001 - (intOf u5).toNat)
  case atStart => exact ⟨0, [], o, by omega, rfl, HO, HXS, HJ0, HC0, HB2⟩
  case round =>
    obtain ⟨i, pre, cur, hi, rfl, HCI, HPX, HJP, HCW, HBO⟩ := hrel
    clear HJ0 HC0 HB2 HXS
    by_cases hlt : i < 100001
    · have i0 : (0 : Int) ≤ (i : Int) := by omega
      have i1 : (i : Int) < 100001 := by omega
      have w64 : IntKind.i64.wrap ((i : Int) + 1) = ((i + 1 : Nat) : Int) := IntWalk.i64_in _ (by omega)
      have HLT := Lib.hid hlt
      have HR : Hid (Here hpR wr bh 0 hp F) := Lib.hid (HH.out.chg HCW.out HNE.out.2.1 (fun k hk e => HNE.out.1 (e ▸ hk)))
      have hb1r := HCW.out.keep HB1.out HNE.out.2.2
      have k1 := cell_of_block (i := 0) hb1r rfl
      have k2 := cell_of_block (i := 0) HBO.out rfl
      simp only [List.getElem_toArray, List.getElem_cons_zero] at k1 k2
      obtain ⟨-, -, ⟨as_, cs_, c2⟩, -⟩ := hpCells HR.out
      obtain ⟨q, hq⟩ : ∃ q, 100001 - i = q + 1 := ⟨100000 - i, by omega⟩
      rw [hq] at HPX
      have HQ := Lib.hid hq
      clear hi hlt hb1r hq
      cases hs : slotOf hp cur with
      | none =>
        have hat := hat_any wr bh 0 hp F cur _ HR.out c2 HCI.out
        rw [hs, objPtr_none] at hat
        have HAT := Lib.hid hat
        rw [chainM_none hs, List.append_nil] at HPX
        clear hat hs c2
        go_wp2_with (go_at_call 35; refine HAT.out.mono ?_; rintro e wa ⟨rfl, hca⟩)
        refine bodyPost_ret (results_none rfl _ _ _) rfl ?_
        have hj := HJJ.out _ _ _ HJP.out (hca.mono (fun _ _ x => x.elim))
        rw [HPX.out] at hj
        exact ⟨⟨_, rfl⟩, .inl hj⟩
      | some s =>
        obtain ⟨hsl, -, -⟩ := slotOf_lt hs
        rw [chainM_some hs hsl] at HPX
        obtain ⟨gh, oh, kh, chw, G, HOBJ0, -, -⟩ := hpPut HH.out hsl
        have ch := HCW.out.cellS chw HNE.out.2.1
        have hat := hat_any wr bh 0 hp F cur _ HR.out (by rw [Nat.zero_add]; exact ch) HCI.out
        rw [hs, show objPtr (.slice (some ⟨gh, oh, none⟩) hp.slots.length kh) (some s) = some ⟨gh, oh + s * 11 + 1, none⟩ from rfl] at hat
        have HAT := Lib.hid hat
        have HCH := Lib.hid chw
        have HIN := Lib.hid (HPR.out s hsl)
        have HSL := Lib.hid hsl
        clear hat hs ch chw HOBJ0 c2
        go_upto_region 3 with (go_at_call 35; refine HAT.out.mono ?_; rintro e wa ⟨rfl, hca⟩)
        have HJA := Lib.hid (HJJ.out _ _ _ HJP.out (hca.mono (fun _ _ x => x.elim)))
        have HCA := Lib.hid (HCW.out.trans hca (fun _ _ x => x) (fun _ _ x => x.elim))
        have HBA := Lib.hid (hca.keep HBO.out (fun x => x))
        have k1 := hca.cell k1
        have k2 := hca.cell k2
        clear hca HAT HJP HCW HBO HR
        obtain ⟨fn, tmps, assign, body, hy, hR⟩ := HYY.out pre cur wa HJA.out ⟨chainM hp q hp.slots[s].obj.proto, by rw [List.append_assoc]; exact HPX.out⟩ HCA.out
        refine (wpIn_wide (n := nf) (P := Tryd.prog)).1 ?_
        gi_wp2
        refine ⟨fun h => (by cases h), ?_⟩
        refine hR.mono ?_
        rintro e Wr (⟨rfl, hJr, hcr⟩ | ⟨rfl, hxr⟩)
        · have HJR := Lib.hid hJr
          have HCR := Lib.hid (HCA.out.trans hcr (fun _ _ x => x) (fun i hi x => by omega))
          have hlbo := HLB.out
          have HBR := Lib.hid (hcr.keep HBA.out (by omega))
          have HRR : Hid (Here hpR Wr bh 0 hp F) := Lib.hid (HH.out.chg HCR.out HNE.out.2.1 (fun k hk e => HNE.out.1 (e ▸ hk)))
          obtain ⟨gh', oh', kh', ch', G, HOBJ, -, -⟩ := hpPut HRR.out HSL.out
          rw [HCR.out.cellS HCH.out HNE.out.2.1] at ch'
          cases ch'
          obtain ⟨vp, ve, vd, vs, HOC⟩ := objOpen HOBJ
          have p1 := HOC.c1
          have kb := cell_of_block (i := 0) HBR.out rfl
          have fb := frozen_of_block (i := 0) HBR.out
          simp only [List.getElem_toArray, List.getElem_cons_zero] at kb
          have hbs := setCell_block (i := 0) (.int .i64 hp.slots[s].obj.proto) HBR.out
          have HBS := Lib.hid hbs
          clear hJr hcr hlbo HOBJ HOC k1 k2 hbs
          gi_wp2
          go_wp2_with fail
          go_roundw
          case rel => exact ⟨i + 1, pre ++ [cur], hp.slots[s].obj.proto, by have := HLT.out; omega, rfl, HIN, Lib.hid (by rw [show 100001 - (i + 1) = q by have := HQ.out; omega, List.append_assoc]; exact HPX.out), Lib.hid (HJJ.out _ _ _ HJR.out (Chg.setCell Wr ⟨bo, 0, none⟩ _)), Lib.hid (HCR.out.setCellR _ _ (fun _ => rfl)), HBS⟩
          case measure => have := HLT.out; simp [intOf, w64]; omega
        · gi_wp2
          go_wp2_with fail
          refine bodyPost_ret (results_none rfl _ _ _) rfl ?_
          exact ⟨⟨_, rfl⟩, .inr ⟨_, hxr⟩⟩
    · have hie : i = 100001 := by omega
      subst hie
      rw [show 100001 - 100001 = 0 from rfl, show chainM hp 0 cur = [] from rfl, List.append_nil] at HPX
      clear hlt hi
      go_wp2_with fail
      go_end0
      have hj := HJP.out
      rw [HPX.out] at hj
      exact ⟨⟨_, rfl⟩, .inl hj⟩
end Go.Proofs.YtjianickjahdnaaDoor
namespace Go.Proofs.YtjianickjahdnaaDoor
open Go.RowKit
set_option linter.unusedVariables false
set_option linter.unusedSimpArgs false

theorem results_cell1 {fn : Func} {p : Tmp} {ty : TypeId} {P : Program} (h : fn.results = #[.cell p ty]) (tmps : Array Value) (w : World) (g : Nat) (v : Value) (hp : tmps.getD p undef = .pointer (some ⟨g, 0, none⟩)) (hl : (loadVar ty ⟨g, 0, none⟩).run P w = .ok v w) :
    (results fn tmps).run P w = .ok v w := by
  have hp' : tmps[p]?.getD undef = .pointer (some ⟨g, 0, none⟩) := by simpa using hp
  simp [results, h, hp', asAddr, hl]
theorem run_loadVar1 (w : World) (g : Nat) (v : Value) (T : Nat) (hc : w.cell? ⟨g, 0, none⟩ = some v) : (loadVar 4 ⟨g, 0, none⟩).run Tryd.prog w = .ok v w := by
  have hu := Tryd.underlying4
  simp [loadVar, isAgg, go_sem, hu, hc]
theorem bodyM_eq {fn : Func} {R : Ending → World → Prop} {a : Act} {w : World} {n : Nat} {P : Program} : bodyPostM Fence.wide n P fn R .ret a w = LeavesInM Fence.wide n P fn a.tmps R a.defers .returning w := rfl
def withinM (hp : Hp) (o proto : Int) : Bool := match slotOf hp o with
  | none => false
  | some i => (chainM hp 100001 (hp.slots.getD i noSlt).obj.proto).contains proto

set_option maxHeartbeats 6400000 in
set_option maxRecDepth 100000 in
theorem within_nil (w : World) (bh : Nat) (hp : Hp) (F : List Nat) (o proto : Int) (H : Here hpR w bh 0 hp F) (ho : InJ o) (hs : slotOf hp o = none) :
    Calls Tryd.prog 17 #[.pointer (some ⟨bh, 0, none⟩), .int .i64 o, .int .i64 proto] w fun e w' => e = .returned (.bool false) ∧ Chg (fun _ => False) w w' := by
  obtain ⟨-, -, ⟨as_, cs_, c2⟩, -⟩ := hpCells H
  have HAT := Lib.hid (fun W (hc : Chg (fun _ => False) w W) => hat_any W bh 0 hp F o _ (H.still hc) (hc.cell c2) ho)
  rw [hs, objPtr_none] at HAT
  have hcA := (Chg.alloc (fun _ => False) w (.cells #[.int .i64 proto] 3)).allocR (.cells #[.bool false] 4)
  have HCA := Lib.hid hcA
  have hb6 := alloc_block (w.alloc (.cells #[.int .i64 proto] 3)) (.cells #[.bool false] 4)
  have hs1 : (w.alloc (.cells #[.int .i64 proto] 3)).heap.size = w.heap.size + 1 := Array.size_push ..
  rw [hs1] at hb6
  have HB6 := Lib.hid hb6
  clear hcA hb6 hs1 c2 H ho hs
  go_enter Tryd.func17, Tryd.ntmps17
  go_upto_region 1 with fail
  generalize (w.alloc (.cells #[.int .i64 proto] 3)).alloc (.cells #[.bool false] 4) = w1 at *
  generalize hbe : w.heap.size + 1 = b6 at *
  have HBE := Lib.hid hbe
  clear hbe
  go_upto_region 2 with (go_at_call 35; refine (HAT.out _ HCA.out).mono ?_; rintro e wa ⟨rfl, hca⟩)
  have hba := hca.keep HB6.out (fun x => x)
  have k6 := cell_of_block (i := 0) hba rfl
  have f6 := frozen_of_block (i := 0) hba
  have hst := setCell_block (i := 0) (.bool false) hba
  have k7 := cell_of_block (i := 0) hst rfl
  simp only [List.getElem_toArray, List.getElem_cons_zero] at k6 k7
  go_wp2_with fail
  refine bodyPost_ret (results_cell1 rfl _ _ b6 (.bool false) (by rfl) ?_) rfl ?_
  · exact run_loadVar1 _ _ _ 0 k7
  exact ⟨rfl, (HCA.out.trans' hca).setCellR _ _ (fun h => by have := HBE.out; simp at h; omega)⟩

set_option maxHeartbeats 6400000 in
set_option maxRecDepth 100000 in
theorem within_some (w : World) (bh : Nat) (hp : Hp) (F : List Nat) (o proto : Int) (i : Nat) (H : Here hpR w bh 0 hp F) (ho : InJ o) (hs : slotOf hp o = some i) (hpr : ∀ s (hs : s < hp.slots.length), InJ hp.slots[s].obj.proto) (hsl : i < hp.slots.length) :
    Calls Tryd.prog 17 #[.pointer (some ⟨bh, 0, none⟩), .int .i64 o, .int .i64 proto] w fun e w' => e = .returned (.bool ((chainM hp 100001 hp.slots[i].obj.proto).contains proto)) ∧ Chg (fun _ => False) w w' := by
  refine (callsIn_wide (n := 9)).1 (callsIn_of_wp_marks Tryd.func17 rfl trivial ?_)
  refine (wpIn_wide (n := 9) (P := Tryd.prog)).2 ?_
  obtain ⟨gh, oh, kh, ch, G, HOBJ0, -, -⟩ := hpPut H hsl
  have HAT := Lib.hid (fun W (hc : Chg (fun _ => False) w W) => hat_any W bh 0 hp F o _ (H.still hc) (hc.cell (by rw [Nat.zero_add]; exact ch)) ho)
  rw [hs, show objPtr (.slice (some ⟨gh, oh, none⟩) hp.slots.length kh) (some i) = some ⟨gh, oh + i * 11 + 1, none⟩ from rfl] at HAT
  obtain ⟨vp, ve, vd, vs, HOC⟩ := objOpen HOBJ0
  have HP1 := Lib.hid HOC.c1
  have HIN := Lib.hid (hpr i hsl)
  have HPR := Lib.hid hpr
  generalize hp.slots[i].obj.proto = pr at *
  have HH := Lib.hid H
  have hcA := (Chg.alloc (fun _ => False) w (.cells #[.int .i64 proto] 3)).allocR (.cells #[.bool false] 4)
  have HCA := Lib.hid hcA
  have hb5 := (Chg.alloc (fun _ => False) (w.alloc (.cells #[.int .i64 proto] 3)) (.cells #[.bool false] 4)).keep (alloc_block w (.cells #[.int .i64 proto] 3)) (fun x => x)
  have hb6 := alloc_block (w.alloc (.cells #[.int .i64 proto] 3)) (.cells #[.bool false] 4)
  have hs1 : (w.alloc (.cells #[.int .i64 proto] 3)).heap.size = w.heap.size + 1 := Array.size_push ..
  rw [hs1] at hb6
  have HB6 := Lib.hid hb6
  have HB5 := Lib.hid hb5
  clear hcA hb6 hb5 hs1 ch H ho hs hpr HOBJ0 HOC hsl
  simp only [Tryd.ntmps17, List.size_toArray, List.length_cons, List.length_nil, Nat.reduceAdd, Nat.reduceSub, Array.replicate_succ, Array.replicate_zero, List.push_toArray, List.append_toArray, List.nil_append, List.cons_append]
  go_upto_region 1 with fail
  generalize (w.alloc (.cells #[.int .i64 proto] 3)).alloc (.cells #[.bool false] 4) = w1 at *
  generalize hbe : w.heap.size + 1 = b6 at *
  generalize hbe5 : w.heap.size = b5 at *
  have HBE := Lib.hid hbe
  have HBE5 := Lib.hid hbe5
  clear hbe hbe5
  go_upto_region 2 with (go_at_call 35; refine (HAT.out _ HCA.out).mono ?_; rintro e wa ⟨rfl, hca⟩)
  have HCW := Lib.hid (HCA.out.trans' hca)
  have HBA := Lib.hid (hca.keep HB6.out (fun x => x))
  have HB5A := Lib.hid (hca.keep HB5.out (fun x => x))
  have p1 := HCW.out.cell HP1.out
  have hce := chain_any wa (some ⟨bh, 0, none⟩) pr
  have HCE := Lib.hid hce
  clear hca hce HAT HCA HB6 HB5
  go_wp2_with (go_at_call 36; refine HCE.out.mono ?_; rintro e wc ⟨rfl, rfl⟩)
  have hk1 := (Chg.alloc (fun _ => False) (wa.alloc (.cells #[.pointer (some ⟨bh, 0, none⟩)] 73)) (.cells #[.int .i64 pr] 3)).keep (alloc_block wa (.cells #[.pointer (some ⟨bh, 0, none⟩)] 73)) (fun x => x)
  have hk2 := alloc_block (wa.alloc (.cells #[.pointer (some ⟨bh, 0, none⟩)] 73)) (.cells #[.int .i64 pr] 3)
  have hs2 : (wa.alloc (.cells #[.pointer (some ⟨bh, 0, none⟩)] 73)).heap.size = wa.heap.size + 1 := Array.size_push ..
  rw [hs2] at hk2
  have hcc := (Chg.alloc (fun _ => False) wa (.cells #[.pointer (some ⟨bh, 0, none⟩)] 73)).allocR (.cells #[.int .i64 pr] 3)
  have HCC := Lib.hid (HCW.out.trans' hcc)
  have hk6 := hcc.keep HBA.out (fun x => x)
  have hk5 := hcc.keep HB5A.out (fun x => x)
  have hsz := HCW.out.size
  have hl6 := lt_of_block HBA.out
  generalize (wa.alloc (.cells #[.pointer (some ⟨bh, 0, none⟩)] 73)).alloc (.cells #[.int .i64 pr] 3) = wc at *
  generalize hb1e : wa.heap.size = b1 at *
  have hlt2 := lt_of_block hk2
  have HF := Lib.hid (HH.out.still HCC.out)
  have HK1 := Lib.hid hk1
  have HK2 := Lib.hid hk2
  have HK5 := Lib.hid hk5
  have HK6 := Lib.hid hk6
  have hbne := HBE.out
  have hb5e := HBE5.out
  have hbl := HH.out.lt
  have HN : Hid (b5 ≠ b1 + 1 ∧ b6 ≠ b1 + 1 ∧ b1 + 1 < wc.heap.size ∧ b6 < wc.heap.size ∧ w.heap.size ≤ b6 ∧ w.heap.size ≤ b1 + 1 ∧ bh ≠ b1 + 1 ∧ b1 + 1 ∉ F) := Lib.hid ⟨by omega, by omega, by omega, by omega, by omega, by omega, by have := hbl.1; omega, fun hx => by have := hbl.2 _ hx; omega⟩
  clear hk1 hk2 hs2 hcc hk6 hk5 hsz hl6 hb1e hlt2 hbne hb5e hbl HBA HB5A HCE HCW p1 HP1 HBE HBE5
  refine (wpIn_wide (n := 9) (P := Tryd.prog)).1 (wpIn_rangeFunc_find (F := Fence.wide) (n := 9) rfl (by omega) (gf := 52) (lb := #[.pointer (some ⟨b1, 0, none⟩), .pointer (some ⟨b1 + 1, 0, none⟩)]) rfl trivial (enters_of Tryd.func52 (by kernel_rfl) rfl) (encs := fun h : Int => #[.int .i64 h]) (xs := chainM hp 100001 pr) (bo := b1 + 1) HN.out.2.2.1 ?seq (fun _ => rfl)
    (fun pre => proto ∉ pre) (fun pre W => proto ∈ chainM hp 100001 pr ∧ W.heap[b6]? = some (.cells #[.bool true] 4 (0, 0))) (fun k => k = b6) ?hT ?hR (by simp) (fun y => { tmps := #[.pointer (some ⟨bh, 0, none⟩), .int .i64 o, .int .i64 proto, undef, undef, .pointer (some ⟨b5, 0, none⟩), .pointer (some ⟨b6, 0, none⟩), .pointer (some ⟨gh, oh + i * 11 + 1, none⟩), .int .i64 y, .pointer (some ⟨bh, 0, none⟩), .int .i64 o, .pointer (some ⟨gh, oh + i * 11 + 1, none⟩), .pointer (some ⟨gh, oh + i * 11 + 1, none⟩), .bool false, .pointer (some ⟨bh, 0, none⟩), .pointer (some ⟨gh, oh + i * 11 + 1, none⟩), .pointer (some ⟨gh, oh + i * 11 + 1, none⟩), .pointer (some ⟨gh, oh + i * 11 + 1 + 1, none⟩), .int .i64 pr, .func (.func 52) #[] #[.pointer (some ⟨b1, 0, none⟩), .pointer (some ⟨b1 + 1, 0, none⟩)], .int .i64 y, undef, undef, undef], defers := [] }) ?assign ?body ?done ?stop)
  case seq => exact chain1_find _ wc bh hp F b1 (b1 + 1) _ pr HF.out HK1.out HK2.out (by omega) HN.out.2.2.2.2.2.2.2 HN.out.2.2.2.2.2.2.1 HIN.out HPR.out
  case hT => rintro k rfl; exact HN.out.2.2.2.1
  case hR => rintro pre A B ⟨h1, h2⟩ hc; exact ⟨h1, hc.keep h2 (by have := HN.out.2.2.2.1; omega)⟩
  case assign =>
    intro l y W K hK
    have hsem := @Oper.semAt_some
    gi_wp2
    exact hK
  case body =>
    rintro l pre y W hpre hpx hcw
    have hb5 := hcw.keep HK5.out HN.out.1
    have hb6 := hcw.keep HK6.out HN.out.2.1
    have k5 := cell_of_block (i := 0) hb5 rfl
    have k6 := cell_of_block (i := 0) hb6 rfl
    have f6 := frozen_of_block (i := 0) hb6
    simp only [List.getElem_toArray, List.getElem_cons_zero] at k5 k6
    have HS6 := Lib.hid (setCell_block (i := 0) (.bool true) hb6)
    have HPR2 := Lib.hid hpre
    have HPX := Lib.hid hpx
    have hsem := @Oper.semAt_some
    clear hb5 hb6 hcw hpre hpx
    by_cases hyp : y = proto
    · subst hyp
      gi_wp2
      exact ⟨⟨HPX.out.subset (by simp), HS6.out⟩, Chg.setCell W ⟨b6, 0, none⟩ _⟩
    · have z1 : (y == proto) = false := beq_false_of_ne hyp
      gi_wp2
      exact ⟨⟨HPR2.out, Ne.symm hyp⟩, Chg.refl _ _⟩
  case done =>
    intro D W hD hi hcw hk
    have hb6 := hcw.keep HK6.out HN.out.2.1
    have k6 := cell_of_block (i := 0) hb6 rfl
    have f6 := frozen_of_block (i := 0) hb6
    simp only [List.getElem_toArray, List.getElem_cons_zero] at k6
    have HS6 := Lib.hid (setCell_block (i := 0) (.bool false) hb6)
    have HCWW := Lib.hid hcw
    have HKD := Lib.hid (show (W.setCell ⟨b6, 0, none⟩ (.bool false)).heap[D]? = some (.deferred (some [])) from (Chg.setCell W ⟨b6, 0, none⟩ _).keep hk (show ¬ D = b6 by have := HN.out.2.2.2.1; omega))
    have HDL := Lib.hid hD
    have hcf : (chainM hp 100001 pr).contains proto = false := by simpa using hi
    clear hb6 hcw hk hi hD
    dsimp only
    go_wp2_with fail
    rw [bodyM_eq]
    refine ⟨by simp, .inl ⟨_, _, rfl, run_takeDeferred HKD.out, ?_⟩⟩
    have hn := HN.out
    have hdl := HDL.out
    have hb6' := ((Chg.refl (fun k => k = D) (W.setCell ⟨b6, 0, none⟩ (.bool false))).putL D (.deferred none) (fun _ => rfl)).keep HS6.out (by omega)
    have k7 := cell_of_block (i := 0) hb6' rfl
    refine ⟨_, results_cell1 rfl _ _ b6 (.bool false) (by rfl) (run_loadVar1 _ _ _ 0 k7), ?_⟩
    rw [hcf]
    refine ⟨rfl, ?_⟩
    exact (((HCC.out.trans HCWW.out (fun _ _ x => x) (fun i hi x => by omega)).setCellR _ _ (fun h => by simp at h; omega)).putL _ _ (fun h => by omega))
  case stop =>
    rintro D pre W hD ⟨hin, hb6⟩ hcw hk
    have hn := HN.out
    have hcf : (chainM hp 100001 pr).contains proto = true := by simpa using hin
    gi_wp2
    rw [bodyM_eq]
    refine ⟨by simp, .inl ⟨_, _, rfl, run_takeDeferred hk, ?_⟩⟩
    have hb6' := ((Chg.refl (fun k => k = D) W).putL D (.deferred none) (fun _ => rfl)).keep hb6 (by omega)
    have k7 := cell_of_block (i := 0) hb6' rfl
    refine ⟨_, results_cell1 rfl _ _ b6 (.bool true) (by rfl) (run_loadVar1 _ _ _ 0 k7), ?_⟩
    rw [hcf]
    refine ⟨rfl, ?_⟩
    exact ((HCC.out.trans hcw (fun _ _ x => x) (fun i hi x => by omega)).putL _ _ (fun h => by omega))
theorem within_any (w : World) (bh : Nat) (hp : Hp) (F : List Nat) (o proto : Int) (H : Here hpR w bh 0 hp F) (ho : InJ o) (hpr : ∀ s (hs : s < hp.slots.length), InJ hp.slots[s].obj.proto) :
    Calls Tryd.prog 17 #[.pointer (some ⟨bh, 0, none⟩), .int .i64 o, .int .i64 proto] w fun e w' => e = .returned (.bool (withinM hp o proto)) ∧ Chg (fun _ => False) w w' := by
  unfold withinM
  cases hs : slotOf hp o with
  | none => exact within_nil w bh hp F o proto H ho hs
  | some i =>
    obtain ⟨hsl, -, -⟩ := slotOf_lt hs
    have e : hp.slots.getD i noSlt = hp.slots[i] := by rw [List.getD_eq_getElem?_getD, List.getElem?_eq_getElem hsl]; rfl
    have := within_some w bh hp F o proto i H ho hs hpr hsl
    rw [← e] at this
    exact this
end Go.Proofs.YtjianickjahdnaaDoor
