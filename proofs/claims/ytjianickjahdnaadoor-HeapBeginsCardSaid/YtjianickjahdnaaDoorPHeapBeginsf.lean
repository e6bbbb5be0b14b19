/-
  slices.Delete of values, of properties.
  heap.resize.
  heap.Put of an array.
  heap.Put of an array's element.
-/
import Derived.Test.YtjianickjahdnaaDoorPHeapBeginse
import Derived.Test.YtjianickjahdnaaDoorPHeapBeginsc
import Derived.Deep.RegionLaw
import Derived.Test.YtjianickjahdnaaDoorPHeapBeginsd
namespace Go.Proofs.YtjianickjahdnaaDoor
open Go.RowKit
set_option linter.unusedVariables false
set_option linter.unusedSimpArgs false

theorem add_none4 (g off j q : Nat) : (⟨g, off + j, none⟩ : Addr).add q = ⟨g, off + (j + q), none⟩ := by
  rw [← Nat.add_assoc]; unfold Addr.add; split <;> simp_all
/-- The zero of an element's type, its cells. -/
def ElemZ (P : Program) (e : TypeId) (size bytes : Nat) (cs : List Value) : Prop := ∃ i z, P.info? e = some i ∧ i.zero = some z ∧ i.size = size ∧ i.bytes = bytes ∧ z.cells.size = size ∧ z.cells.toList = cs
theorem elemZ_of {P : Program} {e : TypeId} {size bytes : Nat} {cs : List Value} (h : (P.info? e).map (fun i => (i.zero.map (fun z => z.cells.toList), i.size, i.bytes)) = some (some cs, size, bytes)) (hc : cs.length = size) : ElemZ P e size bytes cs := by
  unfold ElemZ
  match hm : P.info? e, h with
  | some i, h =>
    simp only [Option.map_some, Option.some.injEq, Prod.mk.injEq] at h
    obtain ⟨h1, h2, h3⟩ := h
    match hz : i.zero, h1 with
    | some z, h1 =>
      have h4 : z.cells.toList = cs := by simpa using h1
      exact ⟨i, z, rfl, hz, h2, h3, by rw [← Array.length_toList, h4]; exact hc, h4⟩
theorem elemZ_val : ElemZ Tryd.prog 36 4 40 [.int .i64 0, .int .i64 0, .string ⟨#[]⟩, .int .i64 0] := elemZ_of (by kernel_rfl) rfl
theorem elemZ_prop : ElemZ Tryd.prog 86 5 56 [.string ⟨#[]⟩, .int .i64 0, .int .i64 0, .string ⟨#[]⟩, .int .i64 0] := elemZ_of (by kernel_rfl) rfl
/-- What lies there when the rest has been moved and cleared. -/
theorem del_row {w5 : World} {g off i j m cap e size : Nat} {cur : Array Value} {xs zs : List Value} (hb5 : w5.heap[g]? = some (.cells (putAt cur (off + i * size) (xs.drop (j * size))) e (0, 0))) (hx : (cur.toList.drop off).take ((j + m) * size) = xs) (hxl : xs.length = (j + m) * size)
    (hnl : (xs.drop (j * size)).length = m * size) (hij : i < j) (hc : j + m ≤ cap) (hcm : cap ≤ maxLen) (hsz : off + cap * size ≤ cur.size) (hzl : off + (i + m) * size + zs.length ≤ cur.size) :
    RowAt (w5.setCells g (off + (i + m) * size) zs) e size (.slice (some ⟨g, off, none⟩) (i + m) cap) (i + m) (xs.take (i * size) ++ xs.drop (j * size)) := by
  have hi1 : i * size ≤ (j + m) * size := Nat.mul_le_mul_right _ (by omega)
  have hadd : (i + m) * size = i * size + m * size := Nat.add_mul ..
  have hle : (i + m) * size ≤ cap * size := Nat.mul_le_mul_right _ (by omega)
  have hli : (xs.take (i * size)).length = i * size := by rw [List.length_take]; omega
  refine ⟨by rw [List.length_append, hli, hnl, hadd], .inr ⟨g, off, cap, _, rfl, setCells_block zs _ hb5, by omega, hcm, by rw [putAt_size, putAt_size]; exact hsz, ?_⟩⟩
  have hs1 : (putAt cur (off + i * size) (xs.drop (j * size))).size = cur.size := putAt_size ..
  rw [putAt_toList _ _ _ (by rw [hs1]; exact hzl), putAt_toList _ _ _ (by rw [hnl]; omega)]
  have e1 : (cur.toList.take (off + i * size)).drop off = xs.take (i * size) := by
    rw [← hx, List.take_take, Nat.min_eq_left hi1, List.drop_take]
    congr 1; omega
  have hcl : cur.toList.length = cur.size := Array.length_toList
  have hA : (cur.toList.take (off + i * size) ++ xs.drop (j * size)).length = off + (i + m) * size := by
    rw [List.length_append, hnl, List.length_take, hcl, hadd]; omega
  have e2 : (cur.toList.take (off + i * size) ++ xs.drop (j * size) ++ cur.toList.drop (off + i * size + (xs.drop (j * size)).length)).take (off + (i + m) * size) = cur.toList.take (off + i * size) ++ xs.drop (j * size) := by
    rw [← hA]; exact List.take_left
  rw [e2, List.append_assoc, List.append_assoc, List.drop_append_of_le_length (by rw [List.length_take, hcl]; omega), e1]
  rw [← List.append_assoc]
  have hB : (xs.take (i * size) ++ xs.drop (j * size)).length = (i + m) * size := by rw [List.length_append, hli, hnl, hadd]
  rw [← hB]; exact List.take_left
/-- clear of a part of a row. -/
theorem run_clear_row {P : Program} (w : World) (t e ty : TypeId) (i : TypeInfo) (z : Value) (size : Nat) (cur : Array Value) (ht : P.underlying t = some (.slice e)) (hi : P.info? e = some i) (hz : i.zero = some z) (hsz : i.size = size) (hzs : z.cells.size = size) (h1 : ∀ u ∈ z.cells.toList, u.oneCell' = true)
    (g o n c : Nat) (hg : w.heap[g]? = some (.cells cur e (0, 0))) (hs : o + n * size ≤ cur.size) (hn : 0 < n) :
    (Builtin.clear_ #[t] ty #[.slice (some ⟨g, o, none⟩) n c]).run P w = .ok (.tuple #[]) (w.setCells g o (Builtin.zeroCells z.cells n).toList) := by
  have hzl : (Builtin.zeroCells z.cells n).toList.length = n * size := by rw [Array.length_toList, size_zeroCells, hzs]
  have hone : ∀ u ∈ (Builtin.zeroCells z.cells n).toList, u.oneCell' = true := by
    intro u hu
    unfold Builtin.zeroCells at hu
    rw [Array.toList_map, List.mem_map] at hu
    obtain ⟨j, hj, rfl⟩ := hu
    have hjr : j < n * z.cells.size := by simpa using hj
    have hpos : 0 < z.cells.size := by
      apply Nat.pos_of_ne_zero
      intro e0
      rw [e0] at hjr
      omega
    have hj2 : j % z.cells.size < z.cells.size := Nat.mod_lt _ hpos
    rw [getElem!_pos z.cells (j % z.cells.size) hj2]
    exact h1 _ (Array.getElem_mem_toList hj2)
  have hst := run_storeCells_cells (P := P) g o (Builtin.zeroCells z.cells n).toList 0 w (fun j hj => by rw [Nat.add_zero, cell_of_block hg (Array.getElem?_eq_getElem (by omega))]; rfl) (fun j _ => frozen_of_block hg) hone
  simp only [Nat.add_zero] at hst
  have hn0 : n ≠ 0 := by omega
  obtain ⟨n', rfl⟩ : ∃ n', n = n' + 1 := ⟨n - 1, by omega⟩
  simp [Builtin.clear_, run_underlying ht, zeroValue, typeInfo, hi, hz, hst]

set_option maxHeartbeats 6400000 in
set_option maxRecDepth 100000 in
theorem delV_any (w : World) (v : Value) (n i j : Nat) (xs : List Value) (hr : RowAt w 36 4 v n xs) (h1c : ∀ u ∈ xs, u.oneCell' = true) (hij : i ≤ j) (hj : j ≤ n) (hl : n ≤ 1000000) :
    Calls Tryd.prog 59 #[v, .int .i64 (i : Int), .int .i64 (j : Int)] w fun e w' => ∃ v', e = .returned v' ∧ RowAt w' 36 4 v' (n - (j - i)) (xs.take (i * 4) ++ xs.drop (j * 4)) ∧ Chg (fun k => v.ownBlock = some k) w w' ∧ (∀ k, v'.ownBlock = some k → v.ownBlock = some k) := by
  obtain ⟨m, hm⟩ : ∃ m, n = j + m := ⟨n - j, by omega⟩
  subst hm
  have i0' : (0 : Int) ≤ (i : Int) := by omega
  have j0' : (0 : Int) ≤ (j : Int) := by omega
  have ij' : (i : Int) ≤ (j : Int) := by omega
  have jn' : (j : Int) ≤ ((j + m : Nat) : Int) := by omega
  obtain ⟨a, cap, rfl, hnc, hcm⟩ := hr.slice
  by_cases he : i = j
  · subst he
    have HR := Lib.hid hr
    clear hr hij hj hl h1c
    have fin : ∀ W, W = w → RowAt W 36 4 (.slice a (i + m) cap) (i + m - (i - i)) (xs.take (i * 4) ++ xs.drop (i * 4)) := fun W e => by
      rw [e, Nat.sub_self, Nat.sub_zero, List.take_append_drop]; exact HR.out
    have FIN := Lib.hid fin
    clear fin
    rcases Nat.eq_zero_or_pos m with rfl | hmp
    · go_enter Tryd.func59, Tryd.ntmps59
      go_wp2_with fail
      go_ret
      exact ⟨_, rfl, by first | exact FIN.out _ rfl | simpa using FIN.out w rfl, Chg.refl _ _, fun k h => h⟩
    · have ne1 : ¬ i + m = i := by omega
      have ne2 : ¬ m = 0 := by omega
      go_enter Tryd.func59, Tryd.ntmps59
      go_wp2_with fail
      go_ret
      exact ⟨_, rfl, by first | exact FIN.out _ rfl | simpa using FIN.out w rfl, Chg.refl _ _, fun k h => h⟩
  · obtain ⟨g, off, cap', hv, hblk⟩ := hr.addr (by omega)
    cases hv
    obtain ⟨i0, z, hi, hz, hsz, hby, hzs, hzl⟩ := elemZ_val
    have HZO := Lib.hid (show ∀ u ∈ z.cells.toList, u.oneCell' = true from fun u hu => by rw [hzl] at hu; simp only [List.mem_cons, List.not_mem_nil, or_false] at hu; rcases hu with rfl | rfl | rfl | rfl <;> rfl)
    have hxl := hr.1
    obtain ⟨g', off', cap'', cur, hv, hg, h1, h2, h3, h4⟩ : ∃ g' off' cap'' cur, Value.slice (some ⟨g, off, none⟩) (j + m) cap = .slice (some ⟨g', off', none⟩) (j + m) cap'' ∧ w.heap[g']? = some (.cells cur 36 (0, 0)) ∧ j + m ≤ cap'' ∧ cap'' ≤ maxLen ∧ off' + cap'' * 4 ≤ cur.size ∧ (cur.toList.drop off').take ((j + m) * 4) = xs := by
      rcases hr.2 with ⟨hv, -⟩ | h
      · cases hv
      · exact h
    cases hv
    have HG := Lib.hid hg
    have HB := Lib.hid (show j + m ≤ cap ∧ i < j ∧ j + m ≤ 1000000 from ⟨h1, by omega, hl⟩)
    have HBC := Lib.hid h3
    have HXS := Lib.hid h4
    have HI := Lib.hid hi
    have HZ := Lib.hid hz
    have HSZ := Lib.hid hsz
    have HZS := Lib.hid hzs
    have HR := Lib.hid hr
    have HXL := Lib.hid hxl
    have HCM := Lib.hid hcm
    have H1 := Lib.hid h1c
    have ne1 : ¬ j + m = i := by omega
    have ne2 : ¬ cap = 0 := by omega
    have ne3 : ¬ cap = i + m := by omega
    have ne4 : (i : Int) ≠ (j : Int) := by omega
    have ne5 : ((i : Int) == (j : Int)) = false := beq_false_of_ne ne4
    have c1 : (i : Int) ≤ (cap : Int) := by omega
    have c3 : (j : Int) ≤ (j : Int) + (m : Int) := by omega
    have c2 : ((j + m : Nat) : Int) ≤ (cap : Int) := by omega
    clear hg h1 h2 h3 h4 h1c hi hz hsz hzs hby hzl hr hxl hij hj hl hnc hcm hblk
    have HNL : Hid ((xs.drop (j * 4)).length = m * 4) := Lib.hid (by rw [List.length_drop, HXL.out]; omega)
    have HNO : Hid (∀ u ∈ xs.drop (j * 4), u.oneCell' = true) := Lib.hid (fun u hu => H1.out u (List.mem_of_mem_drop hu))
    have HSP : Hid (∀ W, Chg (fun _ => False) w W → ∀ q, q < (xs.drop (j * 4)).length → (W.cell? ⟨g, off + i * 4 + q, none⟩).isSome = true ∧ W.frozen? ⟨g, off + i * 4 + q, none⟩ = false) := Lib.hid (fun W hc q hq => by
      have hb := hc.keep HG.out (fun x => x)
      rw [HNL.out] at hq
      exact ⟨by rw [cell_of_block hb (Array.getElem?_eq_getElem (by have := HB.out; have := HBC.out; omega))]; rfl, frozen_of_block hb⟩)
    have HFIN : Hid (∀ (w5 : World), w5.heap[g]? = some (.cells (putAt cur (off + i * 4) (xs.drop (j * 4))) 36 (0, 0)) → RowAt (w5.setCells g (off + (i + m) * 4) (Builtin.zeroCells z.cells (j - i)).toList) 36 4 (.slice (some ⟨g, off, none⟩) (i + m) cap) (i + m) (xs.take (i * 4) ++ xs.drop (j * 4))) := Lib.hid (fun w5 hb5 =>
      del_row hb5 HXS.out HXL.out HNL.out (by have := HB.out; omega) (by have := HB.out; omega) HCM.out HBC.out (by rw [Array.length_toList, size_zeroCells, HZS.out]; have := HB.out; have := HBC.out; omega))
    by_cases hcj : j = cap
    · subst hcj
      have hm0 : m = 0 := by have := HB.out; omega
      subst hm0
      simp only [Nat.add_zero, Nat.zero_mul] at HXS HXL ne1 HNL HB HR ne3 c2 HFIN jn'
      go_enter Tryd.func59, Tryd.ntmps59
      go_upto_region 5 with fail

      refine wp_region_held_split 7 (fun _ => True) (by kernel_rfl) (by kernel_rfl) ?_ (fun hHeld => ?_)
      · trivial
      simp only [List.take_succ_cons, List.take_zero]
      have HWD : Hid (Chg (fun _ => False) w w.drew) := Lib.hid (Chg.refl _ w).drewR
      generalize w.drew = wD at *
      refine wpAnyH_take (i := 0) (v := ?_) rfl (by kernel_rfl) (by kernel_rfl) (by kernel_rfl) (fun _ _ _ h => h) (Or.inl ⟨by rfl, ?_⟩) (by assumption) ?_
      rotate_left
      · (intro wq hSw; (try dsimp only at hSw); go_simp; (try with_reducible rfl))
      simp only [Act.put, List.getElem_toArray, List.getElem_cons_zero, List.getElem_cons_succ, List.setIfInBounds_toArray, List.set_cons_zero, List.set_cons_succ]
      refine wpAnyH_take (i := 1) (v := ?_) rfl (by kernel_rfl) (by kernel_rfl) (by kernel_rfl) (fun _ _ _ h => h) (Or.inl ⟨by rfl, ?_⟩) (by assumption) ?_
      rotate_left
      · (intro wq hSw; (try dsimp only at hSw); go_simp; (try with_reducible rfl))
      simp only [Act.put, List.getElem_toArray, List.getElem_cons_zero, List.getElem_cons_succ, List.setIfInBounds_toArray, List.set_cons_zero, List.set_cons_succ]
      refine wpAnyH_take (i := 2) (v := ?_) rfl (by kernel_rfl) (by kernel_rfl) (by kernel_rfl) (fun _ _ _ h => h) (Or.inl ⟨by rfl, ?_⟩) (by assumption) ?_
      rotate_left
      · (intro wq hSw; (try dsimp only at hSw); go_simp; (try with_reducible rfl))
      simp only [Act.put, List.getElem_toArray, List.getElem_cons_zero, List.getElem_cons_succ, List.setIfInBounds_toArray, List.set_cons_zero, List.set_cons_succ]
      refine wpAnyH_take (i := 3) (v := ?_) rfl (by kernel_rfl) (by kernel_rfl) (by kernel_rfl) (fun _ _ _ h => h) (Or.inl ⟨by rfl, ?_⟩) (by assumption) ?_
      rotate_left
      · (intro wq hSw; (try dsimp only at hSw); go_simp; (try with_reducible rfl))
      simp only [Act.put, List.getElem_toArray, List.getElem_cons_zero, List.getElem_cons_succ, List.setIfInBounds_toArray, List.set_cons_zero, List.set_cons_succ]
      refine wpAnyH_take (i := 4) (v := ?_) rfl (by kernel_rfl) (by kernel_rfl) (by kernel_rfl) (fun _ _ _ h => h) (Or.inl ⟨by rfl, ?_⟩) (by assumption) ?_
      rotate_left
      · (intro wq hSw; (try dsimp only at hSw); go_simp; (try with_reducible rfl))
      simp only [Act.put, List.getElem_toArray, List.getElem_cons_zero, List.getElem_cons_succ, List.setIfInBounds_toArray, List.set_cons_zero, List.set_cons_succ]
      refine wpAnyH_take (i := 5) (v := ?_) rfl (by kernel_rfl) (by kernel_rfl) (by kernel_rfl) (fun _ _ _ h => h) (Or.inl ⟨by rfl, ?_⟩) (by assumption) ?_
      rotate_left
      · (intro wq hSw; (try dsimp only at hSw); go_simp; (try with_reducible rfl))
      simp only [Act.put, List.getElem_toArray, List.getElem_cons_zero, List.getElem_cons_succ, List.setIfInBounds_toArray, List.set_cons_zero, List.set_cons_succ]
      refine wpAnyH_ready (rs := [6]) (by kernel_rfl) (by simp) ?_
      refine AllReadyH.cons (by simp only [List.getElem?_toArray, List.getElem?_cons_succ, List.getElem?_cons_zero]; rfl) (fun K hK => ?_) AllReadyH.nil
      (refine step_append_room (by rfl) _ _ _ (by rfl) 36 i0 4 Tryd.underlying44 HI.out HSZ.out g off i j (by rfl) ⟨g, off, none⟩ 0 0 (xs.drop (j * 4)) (by rfl) HNL.out (fun q u hu => by have h0 := (List.getElem?_eq_some_iff.1 hu).1; rw [HNL.out] at h0; omega) HNO.out (by have := HB.out.1; omega) (HSP.out wD HWD.out) ?_)
      refine hK.out _ _ ?_ (fun hHeld => ?_)
      · trivial
      clear hK K
      (try simp only [Act.put, List.getElem_toArray, List.getElem_cons_zero, List.getElem_cons_succ, List.setIfInBounds_toArray, List.set_cons_zero, List.set_cons_succ])
      refine wpAnyH_done (by kernel_rfl) ?_ _
      change wpList _ _ _ _ _ _
      simp only [List.drop_succ_cons, List.drop_zero]
      have hgd : wD.heap[g]? = some (.cells cur 36 (0, 0)) := HWD.out.keep HG.out (fun x => x)
      have hb5 := setCells_block (b := g) (xs.drop (j * 4)) (off + i * 4) hgd
      have HC5 := Lib.hid (Chg.setCells (b := g) (xs.drop (j * 4)) wD (off + i * 4))
      go_upto_region 6 with fail
      generalize wD.setCells g (off + i * 4) (xs.drop (j * 4)) = w5 at *
      have HB5 := Lib.hid hb5
      have hclr := run_clear_row (P := Tryd.prog) w5 44 36 0 i0 z 4 (putAt cur (off + i * 4) (xs.drop (j * 4))) Tryd.underlying44 HI.out HZ.out HSZ.out HZS.out HZO.out g (off + i * 4) (j - i) (j - i) hb5 (by rw [putAt_size]; have := HB.out; have := HBC.out; omega) (by have := HB.out; omega)
      have HF := Lib.hid (HFIN.out w5 hb5)
      have hc6 := Chg.setCells (b := g) (Builtin.zeroCells z.cells (j - i)).toList w5 (off + i * 4)
      have HC6 := Lib.hid hc6
      have tn1 : ((i : Int) + (0 : Int)).toNat = i := by omega
      have tn2 : ((j : Int) + (0 : Int)).toNat = j := by omega
      have b1 : (0 : Int) ≤ (i : Int) + (0 : Int) := by omega
      have b2 : (i : Int) + (0 : Int) ≤ (j : Int) + (0 : Int) := by omega
      have b3 : (j : Int) + (0 : Int) ≤ (j : Int) := by omega
      have b4 : j - i = j - i := by omega
      clear hc6 hgd hb5 HFIN
      generalize (Builtin.zeroCells z.cells (j - i)).toList = Z at *
      go_wp2_with fail
      go_ret
      refine ⟨_, rfl, ?_, ((HWD.out.trans HC5.out (fun _ _ x => x.elim) (fun _ _ x => x)).trans' HC6.out).mono (fun k _ e => by subst e; rfl), fun k h => h⟩
      rw [show j - (j - i) = i from by have := HB.out; omega]
      exact HF.out
    · have ne6 : ¬ cap = j := fun e => hcj e.symm
      clear hcj
      go_enter Tryd.func59, Tryd.ntmps59
      go_upto_region 5 with fail

      refine wp_region_held_split 7 (fun _ => True) (by kernel_rfl) (by kernel_rfl) ?_ (fun hHeld => ?_)
      · trivial
      simp only [List.take_succ_cons, List.take_zero]
      have HWD : Hid (Chg (fun _ => False) w w.drew) := Lib.hid (Chg.refl _ w).drewR
      generalize w.drew = wD at *
      refine wpAnyH_take (i := 0) (v := ?_) rfl (by kernel_rfl) (by kernel_rfl) (by kernel_rfl) (fun _ _ _ h => h) (Or.inl ⟨by rfl, ?_⟩) (by assumption) ?_
      rotate_left
      · (intro wq hSw; (try dsimp only at hSw); go_simp; (try with_reducible rfl))
      simp only [Act.put, List.getElem_toArray, List.getElem_cons_zero, List.getElem_cons_succ, List.setIfInBounds_toArray, List.set_cons_zero, List.set_cons_succ]
      refine wpAnyH_take (i := 1) (v := ?_) rfl (by kernel_rfl) (by kernel_rfl) (by kernel_rfl) (fun _ _ _ h => h) (Or.inl ⟨by rfl, ?_⟩) (by assumption) ?_
      rotate_left
      · (intro wq hSw; (try dsimp only at hSw); go_simp; (try with_reducible rfl))
      simp only [Act.put, List.getElem_toArray, List.getElem_cons_zero, List.getElem_cons_succ, List.setIfInBounds_toArray, List.set_cons_zero, List.set_cons_succ]
      refine wpAnyH_take (i := 2) (v := ?_) rfl (by kernel_rfl) (by kernel_rfl) (by kernel_rfl) (fun _ _ _ h => h) (Or.inl ⟨by rfl, ?_⟩) (by assumption) ?_
      rotate_left
      · (intro wq hSw; (try dsimp only at hSw); go_simp; (try with_reducible rfl))
      simp only [Act.put, List.getElem_toArray, List.getElem_cons_zero, List.getElem_cons_succ, List.setIfInBounds_toArray, List.set_cons_zero, List.set_cons_succ]
      refine wpAnyH_take (i := 3) (v := ?_) rfl (by kernel_rfl) (by kernel_rfl) (by kernel_rfl) (fun _ _ _ h => h) (Or.inl ⟨by rfl, ?_⟩) (by assumption) ?_
      rotate_left
      · (intro wq hSw; (try dsimp only at hSw); go_simp; (try with_reducible rfl))
      simp only [Act.put, List.getElem_toArray, List.getElem_cons_zero, List.getElem_cons_succ, List.setIfInBounds_toArray, List.set_cons_zero, List.set_cons_succ]
      refine wpAnyH_take (i := 4) (v := ?_) rfl (by kernel_rfl) (by kernel_rfl) (by kernel_rfl) (fun _ _ _ h => h) (Or.inl ⟨by rfl, ?_⟩) (by assumption) ?_
      rotate_left
      · (intro wq hSw; (try dsimp only at hSw); go_simp; (try with_reducible rfl))
      simp only [Act.put, List.getElem_toArray, List.getElem_cons_zero, List.getElem_cons_succ, List.setIfInBounds_toArray, List.set_cons_zero, List.set_cons_succ]
      refine wpAnyH_take (i := 5) (v := ?_) rfl (by kernel_rfl) (by kernel_rfl) (by kernel_rfl) (fun _ _ _ h => h) (Or.inl ⟨by rfl, ?_⟩) (by assumption) ?_
      rotate_left
      · (intro wq hSw; (try dsimp only at hSw); go_simp; (try with_reducible rfl))
      simp only [Act.put, List.getElem_toArray, List.getElem_cons_zero, List.getElem_cons_succ, List.setIfInBounds_toArray, List.set_cons_zero, List.set_cons_succ]
      refine wpAnyH_ready (rs := [6]) (by kernel_rfl) (by simp) ?_
      refine AllReadyH.cons (by simp only [List.getElem?_toArray, List.getElem?_cons_succ, List.getElem?_cons_zero]; rfl) (fun K hK => ?_) AllReadyH.nil
      (refine step_append_room (by rfl) _ _ _ (by rfl) 36 i0 4 Tryd.underlying44 HI.out HSZ.out g off i cap (by rfl) ⟨g, off + j * 4, none⟩ m (cap - j) (xs.drop (j * 4)) (by rfl) HNL.out (fun q u hu => by rw [add_none4]; exact (HR.out.chg HWD.out (fun _ _ x => x)).cellAt (j * 4 + q) u (by rw [List.getElem?_drop] at hu; exact hu)) HNO.out (by have := HB.out.1; omega) (HSP.out wD HWD.out) ?_)
      refine hK.out _ _ ?_ (fun hHeld => ?_)
      · trivial
      clear hK K
      (try simp only [Act.put, List.getElem_toArray, List.getElem_cons_zero, List.getElem_cons_succ, List.setIfInBounds_toArray, List.set_cons_zero, List.set_cons_succ])
      refine wpAnyH_done (by kernel_rfl) ?_ _
      change wpList _ _ _ _ _ _
      simp only [List.drop_succ_cons, List.drop_zero]
      have hgd : wD.heap[g]? = some (.cells cur 36 (0, 0)) := HWD.out.keep HG.out (fun x => x)
      have hb5 := setCells_block (b := g) (xs.drop (j * 4)) (off + i * 4) hgd
      have HC5 := Lib.hid (Chg.setCells (b := g) (xs.drop (j * 4)) wD (off + i * 4))
      go_upto_region 6 with fail
      generalize wD.setCells g (off + i * 4) (xs.drop (j * 4)) = w5 at *
      have HB5 := Lib.hid hb5
      have hclr := run_clear_row (P := Tryd.prog) w5 44 36 0 i0 z 4 (putAt cur (off + i * 4) (xs.drop (j * 4))) Tryd.underlying44 HI.out HZ.out HSZ.out HZS.out HZO.out g (off + (i + m) * 4) (j - i) (cap - (i + m)) hb5 (by rw [putAt_size]; have := HB.out; have := HBC.out; omega) (by have := HB.out; omega)
      have HF := Lib.hid (HFIN.out w5 hb5)
      have hc6 := Chg.setCells (b := g) (Builtin.zeroCells z.cells (j - i)).toList w5 (off + (i + m) * 4)
      have HC6 := Lib.hid hc6
      have tn1 : ((i : Int) + (m : Int)).toNat = i + m := by omega
      have tn2 : ((j : Int) + (m : Int)).toNat = j + m := by omega
      have b1 : (0 : Int) ≤ (i : Int) + (m : Int) := by omega
      have b2 : (i : Int) + (m : Int) ≤ (j : Int) + (m : Int) := by omega
      have b3 : (j : Int) + (m : Int) ≤ (cap : Int) := by omega
      have b4 : j + m - (i + m) = j - i := by omega
      clear hc6 hgd hb5 HFIN
      generalize (Builtin.zeroCells z.cells (j - i)).toList = Z at *
      go_wp2_with fail
      go_ret
      refine ⟨_, rfl, ?_, ((HWD.out.trans HC5.out (fun _ _ x => x.elim) (fun _ _ x => x)).trans' HC6.out).mono (fun k _ e => by subst e; rfl), fun k h => h⟩
      rw [show j + m - (j - i) = i + m from by have := HB.out; omega]
      exact HF.out

set_option maxHeartbeats 6400000 in
set_option maxRecDepth 100000 in
theorem delP_any (w : World) (v : Value) (n i j : Nat) (xs : List Value) (hr : RowAt w 86 5 v n xs) (h1c : ∀ u ∈ xs, u.oneCell' = true) (hij : i ≤ j) (hj : j ≤ n) (hl : n ≤ 1000000) :
    Calls Tryd.prog 45 #[v, .int .i64 (i : Int), .int .i64 (j : Int)] w fun e w' => ∃ v', e = .returned v' ∧ RowAt w' 86 5 v' (n - (j - i)) (xs.take (i * 5) ++ xs.drop (j * 5)) ∧ Chg (fun k => v.ownBlock = some k) w w' ∧ (∀ k, v'.ownBlock = some k → v.ownBlock = some k) := by
  obtain ⟨m, hm⟩ : ∃ m, n = j + m := ⟨n - j, by omega⟩
  subst hm
  have i0' : (0 : Int) ≤ (i : Int) := by omega
  have j0' : (0 : Int) ≤ (j : Int) := by omega
  have ij' : (i : Int) ≤ (j : Int) := by omega
  have jn' : (j : Int) ≤ ((j + m : Nat) : Int) := by omega
  obtain ⟨a, cap, rfl, hnc, hcm⟩ := hr.slice
  by_cases he : i = j
  · subst he
    have HR := Lib.hid hr
    clear hr hij hj hl h1c
    have fin : ∀ W, W = w → RowAt W 86 5 (.slice a (i + m) cap) (i + m - (i - i)) (xs.take (i * 5) ++ xs.drop (i * 5)) := fun W e => by
      rw [e, Nat.sub_self, Nat.sub_zero, List.take_append_drop]; exact HR.out
    have FIN := Lib.hid fin
    clear fin
    rcases Nat.eq_zero_or_pos m with rfl | hmp
    · go_enter Tryd.func45, Tryd.ntmps45
      go_wp2_with fail
      go_ret
      exact ⟨_, rfl, by first | exact FIN.out _ rfl | simpa using FIN.out w rfl, Chg.refl _ _, fun k h => h⟩
    · have ne1 : ¬ i + m = i := by omega
      have ne2 : ¬ m = 0 := by omega
      go_enter Tryd.func45, Tryd.ntmps45
      go_wp2_with fail
      go_ret
      exact ⟨_, rfl, by first | exact FIN.out _ rfl | simpa using FIN.out w rfl, Chg.refl _ _, fun k h => h⟩
  · obtain ⟨g, off, cap', hv, hblk⟩ := hr.addr (by omega)
    cases hv
    obtain ⟨i0, z, hi, hz, hsz, hby, hzs, hzl⟩ := elemZ_prop
    have HZO := Lib.hid (show ∀ u ∈ z.cells.toList, u.oneCell' = true from fun u hu => by rw [hzl] at hu; simp only [List.mem_cons, List.not_mem_nil, or_false] at hu; rcases hu with rfl | rfl | rfl | rfl | rfl <;> rfl)
    have hxl := hr.1
    obtain ⟨g', off', cap'', cur, hv, hg, h1, h2, h3, h4⟩ : ∃ g' off' cap'' cur, Value.slice (some ⟨g, off, none⟩) (j + m) cap = .slice (some ⟨g', off', none⟩) (j + m) cap'' ∧ w.heap[g']? = some (.cells cur 86 (0, 0)) ∧ j + m ≤ cap'' ∧ cap'' ≤ maxLen ∧ off' + cap'' * 5 ≤ cur.size ∧ (cur.toList.drop off').take ((j + m) * 5) = xs := by
      rcases hr.2 with ⟨hv, -⟩ | h
      · cases hv
      · exact h
    cases hv
    have HG := Lib.hid hg
    have HB := Lib.hid (show j + m ≤ cap ∧ i < j ∧ j + m ≤ 1000000 from ⟨h1, by omega, hl⟩)
    have HBC := Lib.hid h3
    have HXS := Lib.hid h4
    have HI := Lib.hid hi
    have HZ := Lib.hid hz
    have HSZ := Lib.hid hsz
    have HZS := Lib.hid hzs
    have HR := Lib.hid hr
    have HXL := Lib.hid hxl
    have HCM := Lib.hid hcm
    have H1 := Lib.hid h1c
    have ne1 : ¬ j + m = i := by omega
    have ne2 : ¬ cap = 0 := by omega
    have ne3 : ¬ cap = i + m := by omega
    have ne4 : (i : Int) ≠ (j : Int) := by omega
    have ne5 : ((i : Int) == (j : Int)) = false := beq_false_of_ne ne4
    have c1 : (i : Int) ≤ (cap : Int) := by omega
    have c3 : (j : Int) ≤ (j : Int) + (m : Int) := by omega
    have c2 : ((j + m : Nat) : Int) ≤ (cap : Int) := by omega
    clear hg h1 h2 h3 h4 h1c hi hz hsz hzs hby hzl hr hxl hij hj hl hnc hcm hblk
    have HNL : Hid ((xs.drop (j * 5)).length = m * 5) := Lib.hid (by rw [List.length_drop, HXL.out]; omega)
    have HNO : Hid (∀ u ∈ xs.drop (j * 5), u.oneCell' = true) := Lib.hid (fun u hu => H1.out u (List.mem_of_mem_drop hu))
    have HSP : Hid (∀ W, Chg (fun _ => False) w W → ∀ q, q < (xs.drop (j * 5)).length → (W.cell? ⟨g, off + i * 5 + q, none⟩).isSome = true ∧ W.frozen? ⟨g, off + i * 5 + q, none⟩ = false) := Lib.hid (fun W hc q hq => by
      have hb := hc.keep HG.out (fun x => x)
      rw [HNL.out] at hq
      exact ⟨by rw [cell_of_block hb (Array.getElem?_eq_getElem (by have := HB.out; have := HBC.out; omega))]; rfl, frozen_of_block hb⟩)
    have HFIN : Hid (∀ (w5 : World), w5.heap[g]? = some (.cells (putAt cur (off + i * 5) (xs.drop (j * 5))) 86 (0, 0)) → RowAt (w5.setCells g (off + (i + m) * 5) (Builtin.zeroCells z.cells (j - i)).toList) 86 5 (.slice (some ⟨g, off, none⟩) (i + m) cap) (i + m) (xs.take (i * 5) ++ xs.drop (j * 5))) := Lib.hid (fun w5 hb5 =>
      del_row hb5 HXS.out HXL.out HNL.out (by have := HB.out; omega) (by have := HB.out; omega) HCM.out HBC.out (by rw [Array.length_toList, size_zeroCells, HZS.out]; have := HB.out; have := HBC.out; omega))
    by_cases hcj : j = cap
    · subst hcj
      have hm0 : m = 0 := by have := HB.out; omega
      subst hm0
      simp only [Nat.add_zero, Nat.zero_mul] at HXS HXL ne1 HNL HB HR ne3 c2 HFIN jn'
      go_enter Tryd.func45, Tryd.ntmps45
      go_upto_region 5 with fail

      refine wp_region_held_split 7 (fun _ => True) (by kernel_rfl) (by kernel_rfl) ?_ (fun hHeld => ?_)
      · trivial
      simp only [List.take_succ_cons, List.take_zero]
      have HWD : Hid (Chg (fun _ => False) w w.drew) := Lib.hid (Chg.refl _ w).drewR
      generalize w.drew = wD at *
      refine wpAnyH_take (i := 0) (v := ?_) rfl (by kernel_rfl) (by kernel_rfl) (by kernel_rfl) (fun _ _ _ h => h) (Or.inl ⟨by rfl, ?_⟩) (by assumption) ?_
      rotate_left
      · (intro wq hSw; (try dsimp only at hSw); go_simp; (try with_reducible rfl))
      simp only [Act.put, List.getElem_toArray, List.getElem_cons_zero, List.getElem_cons_succ, List.setIfInBounds_toArray, List.set_cons_zero, List.set_cons_succ]
      refine wpAnyH_take (i := 1) (v := ?_) rfl (by kernel_rfl) (by kernel_rfl) (by kernel_rfl) (fun _ _ _ h => h) (Or.inl ⟨by rfl, ?_⟩) (by assumption) ?_
      rotate_left
      · (intro wq hSw; (try dsimp only at hSw); go_simp; (try with_reducible rfl))
      simp only [Act.put, List.getElem_toArray, List.getElem_cons_zero, List.getElem_cons_succ, List.setIfInBounds_toArray, List.set_cons_zero, List.set_cons_succ]
      refine wpAnyH_take (i := 2) (v := ?_) rfl (by kernel_rfl) (by kernel_rfl) (by kernel_rfl) (fun _ _ _ h => h) (Or.inl ⟨by rfl, ?_⟩) (by assumption) ?_
      rotate_left
      · (intro wq hSw; (try dsimp only at hSw); go_simp; (try with_reducible rfl))
      simp only [Act.put, List.getElem_toArray, List.getElem_cons_zero, List.getElem_cons_succ, List.setIfInBounds_toArray, List.set_cons_zero, List.set_cons_succ]
      refine wpAnyH_take (i := 3) (v := ?_) rfl (by kernel_rfl) (by kernel_rfl) (by kernel_rfl) (fun _ _ _ h => h) (Or.inl ⟨by rfl, ?_⟩) (by assumption) ?_
      rotate_left
      · (intro wq hSw; (try dsimp only at hSw); go_simp; (try with_reducible rfl))
      simp only [Act.put, List.getElem_toArray, List.getElem_cons_zero, List.getElem_cons_succ, List.setIfInBounds_toArray, List.set_cons_zero, List.set_cons_succ]
      refine wpAnyH_take (i := 4) (v := ?_) rfl (by kernel_rfl) (by kernel_rfl) (by kernel_rfl) (fun _ _ _ h => h) (Or.inl ⟨by rfl, ?_⟩) (by assumption) ?_
      rotate_left
      · (intro wq hSw; (try dsimp only at hSw); go_simp; (try with_reducible rfl))
      simp only [Act.put, List.getElem_toArray, List.getElem_cons_zero, List.getElem_cons_succ, List.setIfInBounds_toArray, List.set_cons_zero, List.set_cons_succ]
      refine wpAnyH_take (i := 5) (v := ?_) rfl (by kernel_rfl) (by kernel_rfl) (by kernel_rfl) (fun _ _ _ h => h) (Or.inl ⟨by rfl, ?_⟩) (by assumption) ?_
      rotate_left
      · (intro wq hSw; (try dsimp only at hSw); go_simp; (try with_reducible rfl))
      simp only [Act.put, List.getElem_toArray, List.getElem_cons_zero, List.getElem_cons_succ, List.setIfInBounds_toArray, List.set_cons_zero, List.set_cons_succ]
      refine wpAnyH_ready (rs := [6]) (by kernel_rfl) (by simp) ?_
      refine AllReadyH.cons (by simp only [List.getElem?_toArray, List.getElem?_cons_succ, List.getElem?_cons_zero]; rfl) (fun K hK => ?_) AllReadyH.nil
      (refine step_append_room (by rfl) _ _ _ (by rfl) 86 i0 5 Tryd.underlying43 HI.out HSZ.out g off i j (by rfl) ⟨g, off, none⟩ 0 0 (xs.drop (j * 5)) (by rfl) HNL.out (fun q u hu => by have h0 := (List.getElem?_eq_some_iff.1 hu).1; rw [HNL.out] at h0; omega) HNO.out (by have := HB.out.1; omega) (HSP.out wD HWD.out) ?_)
      refine hK.out _ _ ?_ (fun hHeld => ?_)
      · trivial
      clear hK K
      (try simp only [Act.put, List.getElem_toArray, List.getElem_cons_zero, List.getElem_cons_succ, List.setIfInBounds_toArray, List.set_cons_zero, List.set_cons_succ])
      refine wpAnyH_done (by kernel_rfl) ?_ _
      change wpList _ _ _ _ _ _
      simp only [List.drop_succ_cons, List.drop_zero]
      have hgd : wD.heap[g]? = some (.cells cur 86 (0, 0)) := HWD.out.keep HG.out (fun x => x)
      have hb5 := setCells_block (b := g) (xs.drop (j * 5)) (off + i * 5) hgd
      have HC5 := Lib.hid (Chg.setCells (b := g) (xs.drop (j * 5)) wD (off + i * 5))
      go_upto_region 6 with fail
      generalize wD.setCells g (off + i * 5) (xs.drop (j * 5)) = w5 at *
      have HB5 := Lib.hid hb5
      have hclr := run_clear_row (P := Tryd.prog) w5 43 86 0 i0 z 5 (putAt cur (off + i * 5) (xs.drop (j * 5))) Tryd.underlying43 HI.out HZ.out HSZ.out HZS.out HZO.out g (off + i * 5) (j - i) (j - i) hb5 (by rw [putAt_size]; have := HB.out; have := HBC.out; omega) (by have := HB.out; omega)
      have HF := Lib.hid (HFIN.out w5 hb5)
      have hc6 := Chg.setCells (b := g) (Builtin.zeroCells z.cells (j - i)).toList w5 (off + i * 5)
      have HC6 := Lib.hid hc6
      have tn1 : ((i : Int) + (0 : Int)).toNat = i := by omega
      have tn2 : ((j : Int) + (0 : Int)).toNat = j := by omega
      have b1 : (0 : Int) ≤ (i : Int) + (0 : Int) := by omega
      have b2 : (i : Int) + (0 : Int) ≤ (j : Int) + (0 : Int) := by omega
      have b3 : (j : Int) + (0 : Int) ≤ (j : Int) := by omega
      have b4 : j - i = j - i := by omega
      clear hc6 hgd hb5 HFIN
      generalize (Builtin.zeroCells z.cells (j - i)).toList = Z at *
      go_wp2_with fail
      go_ret
      refine ⟨_, rfl, ?_, ((HWD.out.trans HC5.out (fun _ _ x => x.elim) (fun _ _ x => x)).trans' HC6.out).mono (fun k _ e => by subst e; rfl), fun k h => h⟩
      rw [show j - (j - i) = i from by have := HB.out; omega]
      exact HF.out
    · have ne6 : ¬ cap = j := fun e => hcj e.symm
      clear hcj
      go_enter Tryd.func45, Tryd.ntmps45
      go_upto_region 5 with fail

      refine wp_region_held_split 7 (fun _ => True) (by kernel_rfl) (by kernel_rfl) ?_ (fun hHeld => ?_)
      · trivial
      simp only [List.take_succ_cons, List.take_zero]
      have HWD : Hid (Chg (fun _ => False) w w.drew) := Lib.hid (Chg.refl _ w).drewR
      generalize w.drew = wD at *
      refine wpAnyH_take (i := 0) (v := ?_) rfl (by kernel_rfl) (by kernel_rfl) (by kernel_rfl) (fun _ _ _ h => h) (Or.inl ⟨by rfl, ?_⟩) (by assumption) ?_
      rotate_left
      · (intro wq hSw; (try dsimp only at hSw); go_simp; (try with_reducible rfl))
      simp only [Act.put, List.getElem_toArray, List.getElem_cons_zero, List.getElem_cons_succ, List.setIfInBounds_toArray, List.set_cons_zero, List.set_cons_succ]
      refine wpAnyH_take (i := 1) (v := ?_) rfl (by kernel_rfl) (by kernel_rfl) (by kernel_rfl) (fun _ _ _ h => h) (Or.inl ⟨by rfl, ?_⟩) (by assumption) ?_
      rotate_left
      · (intro wq hSw; (try dsimp only at hSw); go_simp; (try with_reducible rfl))
      simp only [Act.put, List.getElem_toArray, List.getElem_cons_zero, List.getElem_cons_succ, List.setIfInBounds_toArray, List.set_cons_zero, List.set_cons_succ]
      refine wpAnyH_take (i := 2) (v := ?_) rfl (by kernel_rfl) (by kernel_rfl) (by kernel_rfl) (fun _ _ _ h => h) (Or.inl ⟨by rfl, ?_⟩) (by assumption) ?_
      rotate_left
      · (intro wq hSw; (try dsimp only at hSw); go_simp; (try with_reducible rfl))
      simp only [Act.put, List.getElem_toArray, List.getElem_cons_zero, List.getElem_cons_succ, List.setIfInBounds_toArray, List.set_cons_zero, List.set_cons_succ]
      refine wpAnyH_take (i := 3) (v := ?_) rfl (by kernel_rfl) (by kernel_rfl) (by kernel_rfl) (fun _ _ _ h => h) (Or.inl ⟨by rfl, ?_⟩) (by assumption) ?_
      rotate_left
      · (intro wq hSw; (try dsimp only at hSw); go_simp; (try with_reducible rfl))
      simp only [Act.put, List.getElem_toArray, List.getElem_cons_zero, List.getElem_cons_succ, List.setIfInBounds_toArray, List.set_cons_zero, List.set_cons_succ]
      refine wpAnyH_take (i := 4) (v := ?_) rfl (by kernel_rfl) (by kernel_rfl) (by kernel_rfl) (fun _ _ _ h => h) (Or.inl ⟨by rfl, ?_⟩) (by assumption) ?_
      rotate_left
      · (intro wq hSw; (try dsimp only at hSw); go_simp; (try with_reducible rfl))
      simp only [Act.put, List.getElem_toArray, List.getElem_cons_zero, List.getElem_cons_succ, List.setIfInBounds_toArray, List.set_cons_zero, List.set_cons_succ]
      refine wpAnyH_take (i := 5) (v := ?_) rfl (by kernel_rfl) (by kernel_rfl) (by kernel_rfl) (fun _ _ _ h => h) (Or.inl ⟨by rfl, ?_⟩) (by assumption) ?_
      rotate_left
      · (intro wq hSw; (try dsimp only at hSw); go_simp; (try with_reducible rfl))
      simp only [Act.put, List.getElem_toArray, List.getElem_cons_zero, List.getElem_cons_succ, List.setIfInBounds_toArray, List.set_cons_zero, List.set_cons_succ]
      refine wpAnyH_ready (rs := [6]) (by kernel_rfl) (by simp) ?_
      refine AllReadyH.cons (by simp only [List.getElem?_toArray, List.getElem?_cons_succ, List.getElem?_cons_zero]; rfl) (fun K hK => ?_) AllReadyH.nil
      (refine step_append_room (by rfl) _ _ _ (by rfl) 86 i0 5 Tryd.underlying43 HI.out HSZ.out g off i cap (by rfl) ⟨g, off + j * 5, none⟩ m (cap - j) (xs.drop (j * 5)) (by rfl) HNL.out (fun q u hu => by rw [add_none4]; exact (HR.out.chg HWD.out (fun _ _ x => x)).cellAt (j * 5 + q) u (by rw [List.getElem?_drop] at hu; exact hu)) HNO.out (by have := HB.out.1; omega) (HSP.out wD HWD.out) ?_)
      refine hK.out _ _ ?_ (fun hHeld => ?_)
      · trivial
      clear hK K
      (try simp only [Act.put, List.getElem_toArray, List.getElem_cons_zero, List.getElem_cons_succ, List.setIfInBounds_toArray, List.set_cons_zero, List.set_cons_succ])
      refine wpAnyH_done (by kernel_rfl) ?_ _
      change wpList _ _ _ _ _ _
      simp only [List.drop_succ_cons, List.drop_zero]
      have hgd : wD.heap[g]? = some (.cells cur 86 (0, 0)) := HWD.out.keep HG.out (fun x => x)
      have hb5 := setCells_block (b := g) (xs.drop (j * 5)) (off + i * 5) hgd
      have HC5 := Lib.hid (Chg.setCells (b := g) (xs.drop (j * 5)) wD (off + i * 5))
      go_upto_region 6 with fail
      generalize wD.setCells g (off + i * 5) (xs.drop (j * 5)) = w5 at *
      have HB5 := Lib.hid hb5
      have hclr := run_clear_row (P := Tryd.prog) w5 43 86 0 i0 z 5 (putAt cur (off + i * 5) (xs.drop (j * 5))) Tryd.underlying43 HI.out HZ.out HSZ.out HZS.out HZO.out g (off + (i + m) * 5) (j - i) (cap - (i + m)) hb5 (by rw [putAt_size]; have := HB.out; have := HBC.out; omega) (by have := HB.out; omega)
      have HF := Lib.hid (HFIN.out w5 hb5)
      have hc6 := Chg.setCells (b := g) (Builtin.zeroCells z.cells (j - i)).toList w5 (off + (i + m) * 5)
      have HC6 := Lib.hid hc6
      have tn1 : ((i : Int) + (m : Int)).toNat = i + m := by omega
      have tn2 : ((j : Int) + (m : Int)).toNat = j + m := by omega
      have b1 : (0 : Int) ≤ (i : Int) + (m : Int) := by omega
      have b2 : (i : Int) + (m : Int) ≤ (j : Int) + (m : Int) := by omega
      have b3 : (j : Int) + (m : Int) ≤ (cap : Int) := by omega
      have b4 : j + m - (i + m) = j - i := by omega
      clear hc6 hgd hb5 HFIN
      generalize (Builtin.zeroCells z.cells (j - i)).toList = Z at *
      go_wp2_with fail
      go_ret
      refine ⟨_, rfl, ?_, ((HWD.out.trans HC5.out (fun _ _ x => x.elim) (fun _ _ x => x)).trans' HC6.out).mono (fun k _ e => by subst e; rfl), fun k h => h⟩
      rw [show j + m - (j - i) = i + m from by have := HB.out; omega]
      exact HF.out
end Go.Proofs.YtjianickjahdnaaDoor
namespace Go.Proofs.YtjianickjahdnaaDoor
open Go.RowKit
set_option linter.unusedVariables false
set_option linter.unusedSimpArgs false

def zeroV : Val := ⟨0, 0, ⟨#[]⟩, 0⟩
/-- A list of another length: cut, or with zeros behind it. -/
def resizeL (l : List Val) (n : Nat) : List Val := l.take n ++ List.replicate (n - l.length) zeroV
theorem resizeL_len (l : List Val) (n : Nat) : (resizeL l n).length = n := by
  unfold resizeL
  rw [List.length_append, List.length_take, List.length_replicate]; omega
theorem cells_one (l : List Val) : ∀ u ∈ l.flatMap Val.cells, u.oneCell' = true := fun u hu => by
  obtain ⟨v, -, h⟩ := List.mem_flatMap.1 hu
  unfold Val.cells at h
  simp only [List.mem_cons, List.not_mem_nil, or_false] at h
  rcases h with rfl | rfl | rfl | rfl <;> rfl
theorem flat_take : ∀ (l : List Val) (n : Nat), (l.flatMap Val.cells).take (n * 4) = (l.take n).flatMap Val.cells
  | [], n => by simp
  | a :: l, 0 => by simp
  | a :: l, n + 1 => by
    have ih := flat_take l n
    have hl : a.cells.length = 4 := Val.len a
    rw [List.flatMap_cons, List.take_succ_cons, List.flatMap_cons, show (n + 1) * 4 = a.cells.length + n * 4 by rw [hl]; omega, List.take_length_add_append, ih]
theorem rep_flat (m : Nat) : (List.replicate m zeroV.cells).flatten = (List.replicate m zeroV).flatMap Val.cells := by
  induction m with
  | zero => rfl
  | succ m ih => rw [List.replicate_succ, List.replicate_succ, List.flatten_cons, List.flatMap_cons, ih]
set_option maxHeartbeats 6400000 in
set_option maxRecDepth 100000 in
theorem resize_any (w : World) (g o : Nat) (x : Obj) (G : List Nat) (n : Nat) (H : Here objR w g o x G) (hl : x.elems.length ≤ 20000) (hn : n ≤ 20000) :
    Calls Tryd.prog 44 #[.pointer (some ⟨g, o, none⟩), .int .i64 (n : Int)] w fun e w' => e = .returned (.tuple #[]) ∧ Post objR w g o { x with elems := resizeL x.elems n } G w' := by
  obtain ⟨v, c3, hr, hin, hnb, hback⟩ := H.fieldFlat (f := Val.cells) (hf := Val.len) objR_elems (by show 0 < 10; decide)
  obtain ⟨a, cap, rfl, -⟩ := hr.slice
  obtain ⟨cB, TB, hbB⟩ := H.boxed
  generalize hle : x.elems = l at *
  have HBK := Lib.hid hback
  have HR := Lib.hid hr
  have HNB := Lib.hid hnb
  have HC1 := Lib.hid (cells_one l)
  have HL : Hid (l.length ≤ 1000000) := Lib.hid (by omega)
  have HS0 : Hid (w.cell? ⟨g, o + 3, none⟩ = some (.slice a l.length cap)) := Lib.hid c3
  have FRZ : Hid (∀ (w2 wD : World), Chg (fun _ => False) w wD → Chg (fun j => (Value.slice a l.length cap).ownBlock = some j) wD w2 → w2.frozen? ⟨g, o + 3, none⟩ = false) := Lib.hid (fun w2 wD h1 h2 => frozen_of_block (h2.keep (h1.keep hbB (fun x => x)) HNB.out))
  have n0 : (0 : Int) ≤ (n : Int) := by omega
  clear hback hr hnb hin hbB hle H
  by_cases hnl : n ≤ l.length
  · have HNL := Lib.hid hnl
    have hd : (n : Int) ≤ (l.length : Int) := by omega
    have HRL : Hid ((l.flatMap Val.cells).take (n * 4) ++ (l.flatMap Val.cells).drop (l.length * 4) = (resizeL l n).flatMap Val.cells) := Lib.hid (by
      have hll : (l.flatMap Val.cells).length = l.length * 4 := HR.out.1
      unfold resizeL
      rw [flat_take, List.drop_of_length_le (by omega), List.append_nil, show n - l.length = 0 by omega]
      simp)
    clear hnl hl hn
    go_enter Tryd.func44, Tryd.ntmps44
    go_upto_region 1 with fail
    clear c3
    refine wp_region_held_split 14 (fun w' => w'.cell? ⟨g, o + 3, none⟩ = some (.slice a l.length cap)) (by kernel_rfl) (by kernel_rfl) ?_ (fun hHeld => ?_)
    · (first | exact HS0.out | exact HKS.out _ (Chg.refl _ _) | exact cc2)
    simp only [List.take_succ_cons, List.take_zero]
    have HKS : Hid (∀ W, Chg (fun _ => False) w.drew W → W.cell? ⟨g, o + 3, none⟩ = some (.slice a l.length cap)) := Lib.hid (fun W hc => hc.cell HS0.out)
    have HWD : Hid (Chg (fun _ => False) w w.drew) := Lib.hid (Chg.refl _ w).drewR
    generalize w.drew = wD at *
    refine wpAnyH_take (i := 0) (v := ?_) rfl (by kernel_rfl) (by kernel_rfl) (by kernel_rfl) (fun _ _ _ h => h) (Or.inl ⟨by rfl, ?_⟩) (by assumption) ?_
    rotate_left
    · (intro wq hSw; (try dsimp only at hSw); go_simp; (try with_reducible rfl))
    simp only [Act.put, List.getElem_toArray, List.getElem_cons_zero, List.getElem_cons_succ, List.setIfInBounds_toArray, List.set_cons_zero, List.set_cons_succ]
    refine wpAnyH_take (i := 1) (v := ?_) rfl (by kernel_rfl) (by kernel_rfl) (by kernel_rfl) (fun _ _ _ h => h) (Or.inl ⟨by rfl, ?_⟩) (by assumption) ?_
    rotate_left
    · (intro wq hSw; (try dsimp only at hSw); go_simp; (try with_reducible rfl))
    simp only [Act.put, List.getElem_toArray, List.getElem_cons_zero, List.getElem_cons_succ, List.setIfInBounds_toArray, List.set_cons_zero, List.set_cons_succ]
    refine wpAnyH_take (i := 2) (v := ?_) rfl (by kernel_rfl) (by kernel_rfl) (by kernel_rfl) (fun _ _ _ h => h) (Or.inl ⟨by rfl, ?_⟩) (by assumption) ?_
    rotate_left
    · (intro wq hSw; (try dsimp only at hSw); go_simp; (try with_reducible rfl))
    simp only [Act.put, List.getElem_toArray, List.getElem_cons_zero, List.getElem_cons_succ, List.setIfInBounds_toArray, List.set_cons_zero, List.set_cons_succ]
    refine wpAnyH_take (i := 3) (v := ?_) rfl (by kernel_rfl) (by kernel_rfl) (by kernel_rfl) (fun _ _ _ h => h) (Or.inl ⟨by rfl, ?_⟩) (by assumption) ?_
    rotate_left
    · (intro wq hSw; (try dsimp only at hSw); go_simp; (try with_reducible rfl))
    simp only [Act.put, List.getElem_toArray, List.getElem_cons_zero, List.getElem_cons_succ, List.setIfInBounds_toArray, List.set_cons_zero, List.set_cons_succ]
    refine wpAnyH_take (i := 4) (v := ?_) rfl (by kernel_rfl) (by kernel_rfl) (by kernel_rfl) (fun _ _ _ h => h) (Or.inl ⟨by rfl, ?_⟩) (by assumption) ?_
    rotate_left
    · (intro wq hSw; (try dsimp only at hSw); go_simp; (try with_reducible rfl))
    simp only [Act.put, List.getElem_toArray, List.getElem_cons_zero, List.getElem_cons_succ, List.setIfInBounds_toArray, List.set_cons_zero, List.set_cons_succ]
    refine wpAnyH_take (i := 5) (v := ?_) rfl (by kernel_rfl) (by kernel_rfl) (by kernel_rfl) (fun _ _ _ h => h) (Or.inl ⟨by rfl, ?_⟩) (by assumption) ?_
    rotate_left
    · (intro wq hSw; (try dsimp only at hSw); go_simp; (try with_reducible rfl))
    simp only [Act.put, List.getElem_toArray, List.getElem_cons_zero, List.getElem_cons_succ, List.setIfInBounds_toArray, List.set_cons_zero, List.set_cons_succ]
    refine wpAnyH_take (i := 6) (v := ?_) rfl (by kernel_rfl) (by kernel_rfl) (by kernel_rfl) (fun _ _ _ h => h) (Or.inl ⟨by rfl, ?_⟩) (by assumption) ?_
    rotate_left
    · (intro wq hSw; (try dsimp only at hSw); go_simp; (try with_reducible rfl))
    simp only [Act.put, List.getElem_toArray, List.getElem_cons_zero, List.getElem_cons_succ, List.setIfInBounds_toArray, List.set_cons_zero, List.set_cons_succ]
    refine wpAnyH_take (i := 7) (v := ?_) rfl (by kernel_rfl) (by kernel_rfl) (by kernel_rfl) (fun _ _ _ h => h) (Or.inl ⟨by rfl, ?_⟩) (by assumption) ?_
    rotate_left
    · (intro wq hSw; (try dsimp only at hSw); go_simp; (try with_reducible rfl))
    simp only [Act.put, List.getElem_toArray, List.getElem_cons_zero, List.getElem_cons_succ, List.setIfInBounds_toArray, List.set_cons_zero, List.set_cons_succ]
    refine wpAnyH_take (i := 8) (v := ?_) rfl (by kernel_rfl) (by kernel_rfl) (by kernel_rfl) (fun _ _ _ h => h) (Or.inl ⟨by rfl, ?_⟩) (by assumption) ?_
    rotate_left
    · (intro wq hSw; (try dsimp only at hSw); go_simp; (try with_reducible rfl))
    simp only [Act.put, List.getElem_toArray, List.getElem_cons_zero, List.getElem_cons_succ, List.setIfInBounds_toArray, List.set_cons_zero, List.set_cons_succ]
    refine wpAnyH_take (i := 9) (v := ?_) rfl (by kernel_rfl) (by kernel_rfl) (by kernel_rfl) (fun _ _ _ h => h) (Or.inl ⟨by rfl, ?_⟩) (by assumption) ?_
    rotate_left
    · (intro wq hSw; (try dsimp only at hSw); go_simp; (try with_reducible rfl))
    simp only [Act.put, List.getElem_toArray, List.getElem_cons_zero, List.getElem_cons_succ, List.setIfInBounds_toArray, List.set_cons_zero, List.set_cons_succ]
    refine wpAnyH_take (i := 10) (v := ?_) rfl (by kernel_rfl) (by kernel_rfl) (by kernel_rfl) (fun _ _ _ h => h) (Or.inl ⟨by rfl, ?_⟩) (by assumption) ?_
    rotate_left
    · (intro wq hSw; (try dsimp only at hSw); go_simp; (try with_reducible rfl))
    simp only [Act.put, List.getElem_toArray, List.getElem_cons_zero, List.getElem_cons_succ, List.setIfInBounds_toArray, List.set_cons_zero, List.set_cons_succ]
    refine wpAnyH_ready (rs := [11]) (by kernel_rfl) (by simp) ?_
    refine AllReadyH.cons (by simp only [List.getElem?_toArray, List.getElem?_cons_succ, List.getElem?_cons_zero]; rfl) (fun K hK => ?_) AllReadyH.nil
    (go_simp; go_at_call 59; refine (delV_any wD (.slice a l.length cap) l.length n l.length (l.flatMap Val.cells) (HR.out.chg HWD.out (fun _ _ x => x)) HC1.out HNL.out (Nat.le_refl _) HL.out).mono ?_; rintro _ w2 ⟨v2, rfl, hrow2, hchg2, hold2⟩; have cc2 := hchg2.cellS (HKS.out _ (Chg.refl _ _)) HNB.out; obtain ⟨a2, c2_, rfl, -⟩ := hrow2.slice; have f2 : w2.frozen? ⟨g, o + 3, none⟩ = false := FRZ.out w2 _ HWD.out hchg2; go_simp)
    refine hK.out _ _ ?_ (fun hHeld => ?_)
    · (first | exact HS0.out | exact HKS.out _ (Chg.refl _ _) | exact cc2)
    clear hK K
    (try simp only [Act.put, List.getElem_toArray, List.getElem_cons_zero, List.getElem_cons_succ, List.setIfInBounds_toArray, List.set_cons_zero, List.set_cons_succ])
    refine wpAnyH_take (i := 12) (v := ?_) rfl (by kernel_rfl) (by kernel_rfl) (by kernel_rfl) (fun _ _ _ h => h) (Or.inl ⟨by rfl, ?_⟩) (by assumption) ?_
    rotate_left
    · (intro wq hSw; (try dsimp only at hSw); go_simp; (try with_reducible rfl))
    simp only [Act.put, List.getElem_toArray, List.getElem_cons_zero, List.getElem_cons_succ, List.setIfInBounds_toArray, List.set_cons_zero, List.set_cons_succ]
    refine wpAnyH_take (i := 13) (v := ?_) rfl (by kernel_rfl) (by kernel_rfl) (by kernel_rfl) (fun _ _ _ h => h) (Or.inl ⟨by rfl, ?_⟩) (by assumption) ?_
    rotate_left
    · (intro wq hSw; (try dsimp only at hSw); go_simp; (try with_reducible rfl))
    simp only [Act.put, List.getElem_toArray, List.getElem_cons_zero, List.getElem_cons_succ, List.setIfInBounds_toArray, List.set_cons_zero, List.set_cons_succ]
    refine wpAnyH_done (by kernel_rfl) ?_ _
    change wpList _ _ _ _ _ _
    simp only [List.drop_succ_cons, List.drop_zero]
    have hP := HBK.out w2 (.slice a2 (l.length - (l.length - n)) c2_) (resizeL l n) (HWD.out.trans hchg2 (fun _ _ x => x.elim) (fun _ _ x => x)) (by rw [← HRL.out, resizeL_len, show l.length - (l.length - n) = n by have := HNL.out; omega]; rwa [show l.length - (l.length - n) = n by have := HNL.out; omega] at hrow2) (fun j hj => .inl (hold2 j hj))
    have HP := Lib.hid hP
    clear hP hHeld hrow2 hchg2 hold2
    go_wp2_with fail
    refine bodyPost_ret (results_none rfl _ _ _) rfl ?_
    exact ⟨rfl, HP.out⟩
  · obtain ⟨m, hm⟩ : ∃ m, n = l.length + m := ⟨n - l.length, by omega⟩
    subst hm
    have hd : ¬ ((l.length + m : Nat) : Int) ≤ (l.length : Int) := by omega
    have hd2 : ¬ (l.length : Int) + (m : Int) ≤ (l.length : Int) := by omega
    have wm : IntKind.i64.wrap (((l.length + m : Nat) : Int) - (l.length : Int)) = (m : Int) := by rw [show (((l.length + m : Nat) : Int) - (l.length : Int)) = (m : Int) by omega]; exact IntWalk.i64_in _ (by omega)
    have wm2 : IntKind.i64.wrap ((l.length : Int) + (m : Int) - (l.length : Int)) = (m : Int) := by rw [show ((l.length : Int) + (m : Int) - (l.length : Int)) = (m : Int) by omega]; exact IntWalk.i64_in _ (by omega)
    have wm3 : IntKind.i64.wrap (m : Int) = (m : Int) := IntWalk.i64_in _ (by omega)
    have HM := Lib.hid hn
    obtain ⟨i0, z, hi, hz, hsz, hby, hzs, hzl⟩ := elemZ_val
    have HZO := Lib.hid (show ∀ u ∈ z.cells.toList, u.oneCell' = true from fun u hu => by rw [hzl] at hu; simp only [List.mem_cons, List.not_mem_nil, or_false] at hu; rcases hu with rfl | rfl | rfl | rfl <;> rfl)
    have HRL : Hid (l.flatMap Val.cells ++ (Builtin.zeroCells z.cells m).toList = (resizeL l (l.length + m)).flatMap Val.cells) := Lib.hid (by
      rw [zeroCells_rep hzl (by decide) m, show resizeL l (l.length + m) = l ++ List.replicate m zeroV by unfold resizeL; rw [List.take_of_length_le (by omega), Nat.add_sub_cancel_left], List.flatMap_append]; exact congrArg _ (rep_flat m))
    have HI := Lib.hid hi
    have HZ := Lib.hid hz
    have HSZ := Lib.hid hsz
    have HBY := Lib.hid hby
    have HZS := Lib.hid hzs
    clear hi hz hsz hby hzs hzl hnl hl hn
    go_enter Tryd.func44, Tryd.ntmps44
    go_upto_region 2 with fail
    clear c3
    refine wp_region_held_split 15 (fun w' => w'.cell? ⟨g, o + 3, none⟩ = some (.slice a l.length cap)) (by kernel_rfl) (by kernel_rfl) ?_ (fun hHeld => ?_)
    · (first | exact HS0.out | exact HKS.out _ (Chg.refl _ _) | exact cc2)
    simp only [List.take_succ_cons, List.take_zero]
    have HKS : Hid (∀ W, Chg (fun _ => False) w.drew W → W.cell? ⟨g, o + 3, none⟩ = some (.slice a l.length cap)) := Lib.hid (fun W hc => hc.cell HS0.out)
    have HWD : Hid (Chg (fun _ => False) w w.drew) := Lib.hid (Chg.refl _ w).drewR
    generalize w.drew = wD at *
    refine wpAnyH_take (i := 0) (v := ?_) rfl (by kernel_rfl) (by kernel_rfl) (by kernel_rfl) (fun _ _ _ h => h) (Or.inl ⟨by rfl, ?_⟩) (by assumption) ?_
    rotate_left
    · (intro wq hSw; (try dsimp only at hSw); go_simp; (try with_reducible rfl))
    simp only [Act.put, List.getElem_toArray, List.getElem_cons_zero, List.getElem_cons_succ, List.setIfInBounds_toArray, List.set_cons_zero, List.set_cons_succ]
    refine wpAnyH_take (i := 1) (v := ?_) rfl (by kernel_rfl) (by kernel_rfl) (by kernel_rfl) (fun _ _ _ h => h) (Or.inl ⟨by rfl, ?_⟩) (by assumption) ?_
    rotate_left
    · (intro wq hSw; (try dsimp only at hSw); go_simp; (try with_reducible rfl))
    simp only [Act.put, List.getElem_toArray, List.getElem_cons_zero, List.getElem_cons_succ, List.setIfInBounds_toArray, List.set_cons_zero, List.set_cons_succ]
    refine wpAnyH_take (i := 2) (v := ?_) rfl (by kernel_rfl) (by kernel_rfl) (by kernel_rfl) (fun _ _ _ h => h) (Or.inl ⟨by rfl, ?_⟩) (by assumption) ?_
    rotate_left
    · (intro wq hSw; (try dsimp only at hSw); go_simp; (try with_reducible rfl))
    simp only [Act.put, List.getElem_toArray, List.getElem_cons_zero, List.getElem_cons_succ, List.setIfInBounds_toArray, List.set_cons_zero, List.set_cons_succ]
    refine wpAnyH_take (i := 3) (v := ?_) rfl (by kernel_rfl) (by kernel_rfl) (by kernel_rfl) (fun _ _ _ h => h) (Or.inl ⟨by rfl, ?_⟩) (by assumption) ?_
    rotate_left
    · (intro wq hSw; (try dsimp only at hSw); go_simp; (try with_reducible rfl))
    simp only [Act.put, List.getElem_toArray, List.getElem_cons_zero, List.getElem_cons_succ, List.setIfInBounds_toArray, List.set_cons_zero, List.set_cons_succ]
    refine wpAnyH_take (i := 4) (v := ?_) rfl (by kernel_rfl) (by kernel_rfl) (by kernel_rfl) (fun _ _ _ h => h) (Or.inl ⟨by rfl, ?_⟩) (by assumption) ?_
    rotate_left
    · (intro wq hSw; (try dsimp only at hSw); go_simp; (try with_reducible rfl))
    simp only [Act.put, List.getElem_toArray, List.getElem_cons_zero, List.getElem_cons_succ, List.setIfInBounds_toArray, List.set_cons_zero, List.set_cons_succ]
    refine wpAnyH_take (i := 5) (v := ?_) rfl (by kernel_rfl) (by kernel_rfl) (by kernel_rfl) (fun _ _ _ h => h) (Or.inl ⟨by rfl, ?_⟩) (by assumption) ?_
    rotate_left
    · (intro wq hSw; (try dsimp only at hSw); go_simp; (try with_reducible rfl))
    simp only [Act.put, List.getElem_toArray, List.getElem_cons_zero, List.getElem_cons_succ, List.setIfInBounds_toArray, List.set_cons_zero, List.set_cons_succ]
    refine wpAnyH_take (i := 6) (v := ?_) rfl (by kernel_rfl) (by kernel_rfl) (by kernel_rfl) (fun _ _ _ h => h) (Or.inl ⟨by rfl, ?_⟩) (by assumption) ?_
    rotate_left
    · (intro wq hSw; (try dsimp only at hSw); go_simp; (try with_reducible rfl))
    simp only [Act.put, List.getElem_toArray, List.getElem_cons_zero, List.getElem_cons_succ, List.setIfInBounds_toArray, List.set_cons_zero, List.set_cons_succ]
    refine wpAnyH_take (i := 7) (v := ?_) rfl (by kernel_rfl) (by kernel_rfl) (by kernel_rfl) (fun _ _ _ h => h) (Or.inl ⟨by rfl, ?_⟩) (by assumption) ?_
    rotate_left
    · (intro wq hSw; (try dsimp only at hSw); go_simp; (try with_reducible rfl))
    simp only [Act.put, List.getElem_toArray, List.getElem_cons_zero, List.getElem_cons_succ, List.setIfInBounds_toArray, List.set_cons_zero, List.set_cons_succ]
    refine wpAnyH_take (i := 8) (v := ?_) rfl (by kernel_rfl) (by kernel_rfl) (by kernel_rfl) (fun _ _ _ h => h) (Or.inl ⟨by rfl, ?_⟩) (by assumption) ?_
    rotate_left
    · (intro wq hSw; (try dsimp only at hSw); go_simp; (try with_reducible rfl))
    simp only [Act.put, List.getElem_toArray, List.getElem_cons_zero, List.getElem_cons_succ, List.setIfInBounds_toArray, List.set_cons_zero, List.set_cons_succ]
    refine wpAnyH_take (i := 9) (v := ?_) rfl (by kernel_rfl) (by kernel_rfl) (by kernel_rfl) (fun _ _ _ h => h) (Or.inl ⟨by rfl, ?_⟩) (by assumption) ?_
    rotate_left
    · (intro wq hSw; (try dsimp only at hSw); go_simp; (try with_reducible rfl))
    simp only [Act.put, List.getElem_toArray, List.getElem_cons_zero, List.getElem_cons_succ, List.setIfInBounds_toArray, List.set_cons_zero, List.set_cons_succ]
    refine wpAnyH_take (i := 10) (v := ?_) rfl (by kernel_rfl) (by kernel_rfl) (by kernel_rfl) (fun _ _ _ h => h) (Or.inl ⟨by rfl, ?_⟩) (by assumption) ?_
    rotate_left
    · (intro wq hSw; (try dsimp only at hSw); go_simp; (try with_reducible rfl))
    simp only [Act.put, List.getElem_toArray, List.getElem_cons_zero, List.getElem_cons_succ, List.setIfInBounds_toArray, List.set_cons_zero, List.set_cons_succ]
    refine wpAnyH_take (i := 11) (v := ?_) rfl (by kernel_rfl) (by kernel_rfl) (by kernel_rfl) (fun _ _ _ h => h) (Or.inl ⟨by rfl, ?_⟩) (by assumption) ?_
    rotate_left
    · (intro wq hSw; (try dsimp only at hSw); go_simp; (try with_reducible rfl))
    simp only [Act.put, List.getElem_toArray, List.getElem_cons_zero, List.getElem_cons_succ, List.setIfInBounds_toArray, List.set_cons_zero, List.set_cons_succ]
    refine wpAnyH_ready (rs := [12]) (by kernel_rfl) (by simp) ?_
    refine AllReadyH.cons (by simp only [List.getElem?_toArray, List.getElem?_cons_succ, List.getElem?_cons_zero]; rfl) (fun K hK => ?_) AllReadyH.nil
    (refine step_append_zeros (by rfl) _ _ _ _ (by rfl) 36 i0 z 4 40 .i64 Tryd.underlying44 Tryd.underlying3 HI.out HZ.out HSZ.out HBY.out HZS.out (by decide) HZO.out _ l.length (l.flatMap Val.cells) (by rfl) (HR.out.chg HWD.out (fun _ _ x => x)) m (by rfl) (by have := HM.out; omega) (by have := HM.out; omega) ?_; intro a2 n2 c2_ w2 hrow2 hchg2 hold2; have cc2 := hchg2.cellS (HKS.out _ (Chg.refl _ _)) HNB.out; have f2 : w2.frozen? ⟨g, o + 3, none⟩ = false := FRZ.out w2 _ HWD.out hchg2)
    refine hK.out _ _ ?_ (fun hHeld => ?_)
    · (first | exact HS0.out | exact HKS.out _ (Chg.refl _ _) | exact cc2)
    clear hK K
    (try simp only [Act.put, List.getElem_toArray, List.getElem_cons_zero, List.getElem_cons_succ, List.setIfInBounds_toArray, List.set_cons_zero, List.set_cons_succ])
    refine wpAnyH_take (i := 13) (v := ?_) rfl (by kernel_rfl) (by kernel_rfl) (by kernel_rfl) (fun _ _ _ h => h) (Or.inl ⟨by rfl, ?_⟩) (by assumption) ?_
    rotate_left
    · (intro wq hSw; (try dsimp only at hSw); go_simp; (try with_reducible rfl))
    simp only [Act.put, List.getElem_toArray, List.getElem_cons_zero, List.getElem_cons_succ, List.setIfInBounds_toArray, List.set_cons_zero, List.set_cons_succ]
    refine wpAnyH_take (i := 14) (v := ?_) rfl (by kernel_rfl) (by kernel_rfl) (by kernel_rfl) (fun _ _ _ h => h) (Or.inl ⟨by rfl, ?_⟩) (by assumption) ?_
    rotate_left
    · (intro wq hSw; (try dsimp only at hSw); go_simp; (try with_reducible rfl))
    simp only [Act.put, List.getElem_toArray, List.getElem_cons_zero, List.getElem_cons_succ, List.setIfInBounds_toArray, List.set_cons_zero, List.set_cons_succ]
    refine wpAnyH_done (by kernel_rfl) ?_ _
    change wpList _ _ _ _ _ _
    simp only [List.drop_succ_cons, List.drop_zero]
    have hP := HBK.out w2 (.slice a2 n2 c2_) (resizeL l (l.length + m)) (HWD.out.trans hchg2 (fun _ _ x => x.elim) (fun _ _ x => x)) (by rw [← HRL.out, resizeL_len]; exact hrow2) (fun j hj => (hold2 j hj).imp id (fun x => by have := HWD.out.size; omega))
    have HP := Lib.hid hP
    clear hP hHeld hrow2 hchg2 hold2
    go_wp2_with fail
    go_end0
    exact ⟨rfl, HP.out⟩
end Go.Proofs.YtjianickjahdnaaDoor
namespace Go.Proofs.YtjianickjahdnaaDoor
open Go.RowKit
set_option linter.unusedVariables false
set_option linter.unusedSimpArgs false

set_option maxHeartbeats 6400000 in
set_option maxRecDepth 100000 in
theorem put_len (w : World) (b : Nat) (hp : Hp) (F : List Nat) (h : Int) (i : Nat) (x y : Val) (H : Here hpR w b 0 hp F) (hi : -9223372036854775808 ≤ h ∧ h ≤ 9223372036854775807) (hs : slotOf hp h = some i) (hl : i < hp.slots.length) (hk : hp.slots[i].obj.kind = 1) (hle : hp.slots[i].obj.elems.length ≤ 20000)
    (HN : ∀ W, Chg (fun _ => False) w W → Calls Tryd.prog 37 #[.agg #[.int .i64 x.kind, .int .i64 x.int, .string x.str, .int .i64 x.ref]] W fun e w' => e = .returned (.agg #[.int .i64 y.kind, .int .i64 y.int, .string y.str, .int .i64 y.ref]) ∧ Chg (fun _ => False) W w') (n : Nat) (hy : y.kind = 3 ∧ y.int = (n : Int)) (hn : n ≤ 10000) :
    Calls Tryd.prog 24 #[.pointer (some ⟨b, 0, none⟩), .int .i64 h, .string ⟨#[108, 101, 110, 103, 116, 104]⟩, .agg #[.int .i64 x.kind, .int .i64 x.int, .string x.str, .int .i64 x.ref]] w fun e w' => e = .returned (.int .i64 0) ∧ Post hpR w b 0 (putO hp i { hp.slots[i].obj with elems := resizeL hp.slots[i].obj.elems n }) F w' := by
  have HYY := Lib.hid hy
  have HNL := Lib.hid hn
  clear hy hn
  have hca := Chg.alloc (fun _ => False) w (.cells #[.int .i64 x.kind, .int .i64 x.int, .string x.str, .int .i64 x.ref] 36)
  have kb := alloc_block w (.cells #[.int .i64 x.kind, .int .i64 x.int, .string x.str, .int .i64 x.ref] 36)
  have HKB := Lib.hid kb
  have H2 := H.still hca
  obtain ⟨gh, oh, kh, c2, G, HOBJ0, hGF, hput⟩ := hpPut H hl
  obtain ⟨vp, ve, vd, vs, HOC⟩ := objOpen HOBJ0
  obtain ⟨ae, cape, rfl, -⟩ := HOC.re.slice
  have k0 := HOC.c0
  rw [hk] at k0
  have HC0 := Lib.hid k0
  have HC3 := Lib.hid HOC.c3
  have hat := hat_any _ b 0 hp F h _ H2 (by rw [Nat.zero_add]; exact hca.cell c2) hi
  rw [hs, show objPtr (.slice (some ⟨gh, oh, none⟩) hp.slots.length kh) (some i) = some ⟨gh, oh + i * 11 + 1, none⟩ from rfl] at hat
  have HAT := Lib.hid hat
  have HNN := Lib.hid HN
  generalize hx : hp.slots[i].obj = o_ at *
  have HX := Lib.hid hx
  have HCA := Lib.hid hca
  have HOB := Lib.hid HOBJ0
  have HPT := Lib.hid hput
  have HLT := Lib.hid HOBJ0.lt
  have HLE := Lib.hid hle
  clear kb hca H2 c2 HOBJ0 hGF hput HOC k0 hi hs H hx hk hat HN hle
  go_enter Tryd.func24, Tryd.ntmps24
  go_upto_region 1 with fail
  generalize hw2 : w.alloc (.cells #[.int .i64 x.kind, .int .i64 x.int, .string x.str, .int .i64 x.ref] 36) = w1 at *
  generalize hb7 : w.heap.size = b7 at *
  have HB7E := Lib.hid hb7
  clear hw2 hb7
  go_upto_region 4 with (go_at_call 35; refine HAT.out.mono ?_; rintro e wa ⟨rfl, hca⟩)
  have HC1 := Lib.hid (HCA.out.trans' hca)
  have HKB2 := Lib.hid (hca.keep HKB.out (fun x => x))
  have k0 := cell_of_block (i := 0) HKB2.out rfl
  have k1 := cell_of_block (i := 1) HKB2.out rfl
  have k2 := cell_of_block (i := 2) HKB2.out rfl
  have k3 := cell_of_block (i := 3) HKB2.out rfl
  simp only [List.getElem_toArray, List.getElem_cons_zero, List.getElem_cons_succ] at k0 k1 k2 k3
  clear hca HAT HKB
  go_upto_region 5 with (go_at_call 37; refine (HNN.out _ HC1.out).mono ?_; rintro e wn ⟨rfl, hcn⟩; have hbn := hcn.keep HKB2.out (fun x => x); obtain ⟨z10, q0, z11, q1, z12, q2, z13, q3, hbf, hcs⟩ := store4 hbn (.int .i64 y.kind) (.int .i64 y.int) (.string y.str) (.int .i64 y.ref))
  have HB7 := Lib.hid hbf
  have hc4 : Chg (fun _ => False) w (((((wn.setCell ⟨b7, 0, none⟩ (.int .i64 y.kind)).setCell ⟨b7, 1, none⟩ (.int .i64 y.int)).setCell ⟨b7, 2, none⟩ (.string y.str)).setCell ⟨b7, 3, none⟩ (.int .i64 y.ref))) := (HC1.out.trans' hcn).trans hcs (fun _ _ x => x) (fun k hk e => by have := HB7E.out; omega)
  clear hbf hcs hcn hbn z10 q0 z11 q1 z12 q2 z13 q3 k0 k1 k2 k3
  generalize ((((wn.setCell ⟨b7, 0, none⟩ (.int .i64 y.kind)).setCell ⟨b7, 1, none⟩ (.int .i64 y.int)).setCell ⟨b7, 2, none⟩ (.string y.str)).setCell ⟨b7, 3, none⟩ (.int .i64 y.ref)) = w4 at *
  have c0 := hc4.cell HC0.out
  have HC4 := Lib.hid hc4
  clear hc4 HNN HKB2 HC1 HCA
  have n0 := cell_of_block (i := 0) HB7.out rfl
  have n1 := cell_of_block (i := 1) HB7.out rfl
  simp only [List.getElem_toArray, List.getElem_cons_zero, List.getElem_cons_succ] at n0 n1
  rw [HYY.out.1] at n0
  rw [HYY.out.2] at n1
  have g0 : ¬ (n : Int) < 0 := by omega
  have g1 : ¬ (10000 : Int) < (n : Int) := by have := HNL.out; omega
  have HRS := Lib.hid (resize_any w4 gh (oh + i * 11 + 1) o_ G n (HOB.out.still HC4.out) HLE.out (by have := HNL.out; omega))
  go_wp2_with (go_at_call 44; refine HRS.out.mono ?_; rintro e w5 ⟨rfl, hp5⟩)
  go_ret
  exact ⟨rfl, HPT.out _ _ (Post.pre HC4.out hp5)⟩
set_option maxHeartbeats 6400000 in
set_option maxRecDepth 100000 in
theorem put_range (w : World) (b : Nat) (hp : Hp) (F : List Nat) (h : Int) (i : Nat) (x y : Val) (H : Here hpR w b 0 hp F) (hi : -9223372036854775808 ≤ h ∧ h ≤ 9223372036854775807) (hs : slotOf hp h = some i) (hl : i < hp.slots.length) (hk : hp.slots[i].obj.kind = 1) (hle : hp.slots[i].obj.elems.length ≤ 20000)
    (HN : ∀ W, Chg (fun _ => False) w W → Calls Tryd.prog 37 #[.agg #[.int .i64 x.kind, .int .i64 x.int, .string x.str, .int .i64 x.ref]] W fun e w' => e = .returned (.agg #[.int .i64 y.kind, .int .i64 y.int, .string y.str, .int .i64 y.ref]) ∧ Chg (fun _ => False) W w') (hy : y.kind ≠ 3 ∨ y.int < 0 ∨ 10000 < y.int) :
    Calls Tryd.prog 24 #[.pointer (some ⟨b, 0, none⟩), .int .i64 h, .string ⟨#[108, 101, 110, 103, 116, 104]⟩, .agg #[.int .i64 x.kind, .int .i64 x.int, .string x.str, .int .i64 x.ref]] w fun e w' => e = .returned (.int .i64 2) ∧ Chg (fun _ => False) w w' := by
  have HYY := Lib.hid hy
  clear hy
  have hca := Chg.alloc (fun _ => False) w (.cells #[.int .i64 x.kind, .int .i64 x.int, .string x.str, .int .i64 x.ref] 36)
  have kb := alloc_block w (.cells #[.int .i64 x.kind, .int .i64 x.int, .string x.str, .int .i64 x.ref] 36)
  have HKB := Lib.hid kb
  have H2 := H.still hca
  obtain ⟨gh, oh, kh, c2, G, HOBJ0, hGF, hput⟩ := hpPut H hl
  obtain ⟨vp, ve, vd, vs, HOC⟩ := objOpen HOBJ0
  obtain ⟨ae, cape, rfl, -⟩ := HOC.re.slice
  have k0 := HOC.c0
  rw [hk] at k0
  have HC0 := Lib.hid k0
  have HC3 := Lib.hid HOC.c3
  have hat := hat_any _ b 0 hp F h _ H2 (by rw [Nat.zero_add]; exact hca.cell c2) hi
  rw [hs, show objPtr (.slice (some ⟨gh, oh, none⟩) hp.slots.length kh) (some i) = some ⟨gh, oh + i * 11 + 1, none⟩ from rfl] at hat
  have HAT := Lib.hid hat
  have HNN := Lib.hid HN
  generalize hx : hp.slots[i].obj = o_ at *
  have HX := Lib.hid hx
  have HCA := Lib.hid hca
  have HOB := Lib.hid HOBJ0
  have HPT := Lib.hid hput
  have HLT := Lib.hid HOBJ0.lt
  have HLE := Lib.hid hle
  clear kb hca H2 c2 HOBJ0 hGF hput HOC k0 hi hs H hx hk hat HN hle
  go_enter Tryd.func24, Tryd.ntmps24
  go_upto_region 1 with fail
  generalize hw2 : w.alloc (.cells #[.int .i64 x.kind, .int .i64 x.int, .string x.str, .int .i64 x.ref] 36) = w1 at *
  generalize hb7 : w.heap.size = b7 at *
  have HB7E := Lib.hid hb7
  clear hw2 hb7
  go_upto_region 4 with (go_at_call 35; refine HAT.out.mono ?_; rintro e wa ⟨rfl, hca⟩)
  have HC1 := Lib.hid (HCA.out.trans' hca)
  have HKB2 := Lib.hid (hca.keep HKB.out (fun x => x))
  have k0 := cell_of_block (i := 0) HKB2.out rfl
  have k1 := cell_of_block (i := 1) HKB2.out rfl
  have k2 := cell_of_block (i := 2) HKB2.out rfl
  have k3 := cell_of_block (i := 3) HKB2.out rfl
  simp only [List.getElem_toArray, List.getElem_cons_zero, List.getElem_cons_succ] at k0 k1 k2 k3
  clear hca HAT HKB
  go_upto_region 5 with (go_at_call 37; refine (HNN.out _ HC1.out).mono ?_; rintro e wn ⟨rfl, hcn⟩; have hbn := hcn.keep HKB2.out (fun x => x); obtain ⟨z10, q0, z11, q1, z12, q2, z13, q3, hbf, hcs⟩ := store4 hbn (.int .i64 y.kind) (.int .i64 y.int) (.string y.str) (.int .i64 y.ref))
  have HB7 := Lib.hid hbf
  have hc4 : Chg (fun _ => False) w (((((wn.setCell ⟨b7, 0, none⟩ (.int .i64 y.kind)).setCell ⟨b7, 1, none⟩ (.int .i64 y.int)).setCell ⟨b7, 2, none⟩ (.string y.str)).setCell ⟨b7, 3, none⟩ (.int .i64 y.ref))) := (HC1.out.trans' hcn).trans hcs (fun _ _ x => x) (fun k hk e => by have := HB7E.out; omega)
  clear hbf hcs hcn hbn z10 q0 z11 q1 z12 q2 z13 q3 k0 k1 k2 k3
  generalize ((((wn.setCell ⟨b7, 0, none⟩ (.int .i64 y.kind)).setCell ⟨b7, 1, none⟩ (.int .i64 y.int)).setCell ⟨b7, 2, none⟩ (.string y.str)).setCell ⟨b7, 3, none⟩ (.int .i64 y.ref)) = w4 at *
  have c0 := hc4.cell HC0.out
  have HC4 := Lib.hid hc4
  clear hc4 HNN HKB2 HC1 HCA
  have n0 := cell_of_block (i := 0) HB7.out rfl
  have n1 := cell_of_block (i := 1) HB7.out rfl
  simp only [List.getElem_toArray, List.getElem_cons_zero, List.getElem_cons_succ] at n0 n1
  by_cases h3 : y.kind = 3
  · rw [h3] at n0
    by_cases h4 : y.int < 0
    · go_wp2_with fail
      go_ret
      exact ⟨rfl, HC4.out⟩
    · have g1 : (10000 : Int) < y.int := by have := HYY.out; omega
      go_wp2_with fail
      go_ret
      exact ⟨rfl, HC4.out⟩
  · have g1 : (y.kind != 3) = true := bne_iff_ne.2 h3
    have g2 : (y.kind == 3) = false := beq_false_of_ne h3
    go_wp2_with fail
    go_ret
    exact ⟨rfl, HC4.out⟩
end Go.Proofs.YtjianickjahdnaaDoor
namespace Go.Proofs.YtjianickjahdnaaDoor
open Go.RowKit
set_option linter.unusedVariables false
set_option linter.unusedSimpArgs false

set_option maxHeartbeats 1600000 in
set_option maxRecDepth 100000 in
theorem put_elem (w : World) (b : Nat) (hp : Hp) (F : List Nat) (h : Int) (i : Nat) (key : ByteArray) (x y : Val) (H : Here hpR w b 0 hp F) (hi : -9223372036854775808 ≤ h ∧ h ≤ 9223372036854775807) (hs : slotOf hp h = some i) (hl : i < hp.slots.length) (hk : hp.slots[i].obj.kind = 1) (hle : hp.slots[i].obj.elems.length ≤ 20000)
    (HN : ∀ W, Chg (fun _ => False) w W → Calls Tryd.prog 37 #[.agg #[.int .i64 x.kind, .int .i64 x.int, .string x.str, .int .i64 x.ref]] W fun e w' => e = .returned (.agg #[.int .i64 y.kind, .int .i64 y.int, .string y.str, .int .i64 y.ref]) ∧ Chg (fun _ => False) W w') (hkl : ¬ key.toList = [108, 101, 110, 103, 116, 104]) (hks : key.size ≤ 1000000) (HT : Tabs w) (j : Nat) (hpz : posM key = (j : Int)) (hj : j < hp.slots[i].obj.elems.length) :
    Calls Tryd.prog 24 #[.pointer (some ⟨b, 0, none⟩), .int .i64 h, .string key, .agg #[.int .i64 x.kind, .int .i64 x.int, .string x.str, .int .i64 x.ref]] w fun e w' => e = .returned (.int .i64 0) ∧ Post hpR w b 0 (putO hp i { hp.slots[i].obj with elems := hp.slots[i].obj.elems.set j y }) F w' := by
  have HPS := Lib.hid (fun W (hc : Chg (fun _ => False) w W) => position_any key W hks (HT.still hc))
  have s1 : (key.toList == [108, 101, 110, 103, 116, 104]) = false := beq_false_of_ne hkl
  clear HT hks
  rw [hpz] at HPS
  clear hpz
  have hca := Chg.alloc (fun _ => False) w (.cells #[.int .i64 x.kind, .int .i64 x.int, .string x.str, .int .i64 x.ref] 36)
  have kb := alloc_block w (.cells #[.int .i64 x.kind, .int .i64 x.int, .string x.str, .int .i64 x.ref] 36)
  have HKB := Lib.hid kb
  have H2 := H.still hca
  obtain ⟨gh, oh, kh, c2, G, HOBJ0, hGF, hput⟩ := hpPut H hl
  obtain ⟨vp, ve, vd, vs, HOC⟩ := objOpen HOBJ0
  obtain ⟨ae, cape, rfl, -⟩ := HOC.re.slice
  have k0 := HOC.c0
  rw [hk] at k0
  have HC0 := Lib.hid k0
  have HC3 := Lib.hid HOC.c3
  have hat := hat_any _ b 0 hp F h _ H2 (by rw [Nat.zero_add]; exact hca.cell c2) hi
  rw [hs, show objPtr (.slice (some ⟨gh, oh, none⟩) hp.slots.length kh) (some i) = some ⟨gh, oh + i * 11 + 1, none⟩ from rfl] at hat
  have HAT := Lib.hid hat
  have HNN := Lib.hid HN
  generalize hx : hp.slots[i].obj = o_ at *
  have HX := Lib.hid hx
  have HCA := Lib.hid hca
  have HOB := Lib.hid HOBJ0
  have HPT := Lib.hid hput
  have HLT := Lib.hid HOBJ0.lt
  have HLE := Lib.hid hle
  clear kb hca H2 c2 HOBJ0 hGF hput HOC k0 hi hs H hx hk hat HN hle
  have HJ0 := Lib.hid hj
  clear hj
  go_enter Tryd.func24, Tryd.ntmps24
  go_upto_region 1 with fail
  generalize hw2 : w.alloc (.cells #[.int .i64 x.kind, .int .i64 x.int, .string x.str, .int .i64 x.ref] 36) = w1 at *
  generalize hb7 : w.heap.size = b7 at *
  have HB7E := Lib.hid hb7
  clear hw2 hb7
  go_upto_region 4 with (go_at_call 35; refine HAT.out.mono ?_; rintro e wa ⟨rfl, hca⟩)
  have HC1 := Lib.hid (HCA.out.trans' hca)
  have HKB2 := Lib.hid (hca.keep HKB.out (fun x => x))
  have k0 := cell_of_block (i := 0) HKB2.out rfl
  have k1 := cell_of_block (i := 1) HKB2.out rfl
  have k2 := cell_of_block (i := 2) HKB2.out rfl
  have k3 := cell_of_block (i := 3) HKB2.out rfl
  simp only [List.getElem_toArray, List.getElem_cons_zero, List.getElem_cons_succ] at k0 k1 k2 k3
  clear hca HAT HKB
  go_upto_region 5 with (go_at_call 37; refine (HNN.out _ HC1.out).mono ?_; rintro e wn ⟨rfl, hcn⟩; have hbn := hcn.keep HKB2.out (fun x => x); obtain ⟨z10, q0, z11, q1, z12, q2, z13, q3, hbf, hcs⟩ := store4 hbn (.int .i64 y.kind) (.int .i64 y.int) (.string y.str) (.int .i64 y.ref))
  have HB7 := Lib.hid hbf
  have hc4 : Chg (fun _ => False) w (((((wn.setCell ⟨b7, 0, none⟩ (.int .i64 y.kind)).setCell ⟨b7, 1, none⟩ (.int .i64 y.int)).setCell ⟨b7, 2, none⟩ (.string y.str)).setCell ⟨b7, 3, none⟩ (.int .i64 y.ref))) := (HC1.out.trans' hcn).trans hcs (fun _ _ x => x) (fun k hk e => by have := HB7E.out; omega)
  clear hbf hcs hcn hbn z10 q0 z11 q1 z12 q2 z13 q3 k0 k1 k2 k3
  generalize ((((wn.setCell ⟨b7, 0, none⟩ (.int .i64 y.kind)).setCell ⟨b7, 1, none⟩ (.int .i64 y.int)).setCell ⟨b7, 2, none⟩ (.string y.str)).setCell ⟨b7, 3, none⟩ (.int .i64 y.ref)) = w4 at *
  have c0 := hc4.cell HC0.out
  have HC4 := Lib.hid hc4
  clear hc4 HNN HKB2 HC1 HCA
  go_upto_region 12 with (go_at_call 21; refine (HPS.out _ HC4.out).mono ?_; rintro e w5 ⟨rfl, hc5⟩)
  have HC5 := Lib.hid (HC4.out.trans' hc5)
  have HY7 := Lib.hid (hc5.keep HB7.out (fun x => x))
  have HOB5 := Lib.hid (HOB.out.still HC5.out)
  clear hc5 HPS c0 HB7 HC4 HOB
  have j0 : (0 : Int) ≤ (j : Int) := by omega
  have j1 : (j : Int) < (o_.elems.length : Int) := by have := HJ0.out; omega
  have j2 : ¬ (o_.elems.length : Int) ≤ (j : Int) := by omega
  have HJ := HJ0
  have HOB6 := HOB5
  have HY6 := HY7
  have jn := HJ0.out
  obtain ⟨gp, opp, cp, hcv⟩ := HOB6.out.rowAt objR_elems (by show 0 < 10; decide) (by have := HJ.out; omega)
  have jn := HJ.out
  obtain ⟨G2, HEL, -, -, -, hwb⟩ := (HOB6.out.drew).rowElem objR_elems (by show 0 < 10; decide) (show w5.drew.cell? _ = _ from hcv) HJ.out
  have n0 := cell_of_block (i := 0) HY6.out rfl
  have n1 := cell_of_block (i := 1) HY6.out rfl
  have n2 := cell_of_block (i := 2) HY6.out rfl
  have n3 := cell_of_block (i := 3) HY6.out rfl
  simp only [List.getElem_toArray, List.getElem_cons_zero, List.getElem_cons_succ] at n0 n1 n2 n3
  have HS0 : Hid (w5.cell? ⟨gh, oh + i * 11 + 1 + 3, none⟩ = some (.slice (some ⟨gp, opp, none⟩) o_.elems.length cp) ∧ w5.cell? ⟨b7, 0, none⟩ = some (.int .i64 y.kind) ∧ w5.cell? ⟨b7, 1, none⟩ = some (.int .i64 y.int) ∧ w5.cell? ⟨b7, 2, none⟩ = some (.string y.str) ∧ w5.cell? ⟨b7, 3, none⟩ = some (.int .i64 y.ref)) := Lib.hid ⟨hcv, n0, n1, n2, n3⟩
  clear n0 n1 n2 n3
  have HWB := Lib.hid hwb
  have HELH := Lib.hid HEL
  clear hwb HEL
  go_upto_region 15 with fail
  clear hcv
  refine wp_region_held_split 7 (fun w' => w'.cell? ⟨gh, oh + i * 11 + 1 + 3, none⟩ = some (.slice (some ⟨gp, opp, none⟩) o_.elems.length cp) ∧ w'.cell? ⟨b7, 0, none⟩ = some (.int .i64 y.kind) ∧ w'.cell? ⟨b7, 1, none⟩ = some (.int .i64 y.int) ∧ w'.cell? ⟨b7, 2, none⟩ = some (.string y.str) ∧ w'.cell? ⟨b7, 3, none⟩ = some (.int .i64 y.ref)) (by kernel_rfl) (by kernel_rfl) ?_ (fun hHeld => ?_)
  · (first | exact HS0.out | exact HKS.out _ (Chg.refl _ _))
  simp only [List.take_succ_cons, List.take_zero]
  have HKS : Hid (∀ W, Chg (fun _ => False) w5.drew W → W.cell? ⟨gh, oh + i * 11 + 1 + 3, none⟩ = some (.slice (some ⟨gp, opp, none⟩) o_.elems.length cp) ∧ W.cell? ⟨b7, 0, none⟩ = some (.int .i64 y.kind) ∧ W.cell? ⟨b7, 1, none⟩ = some (.int .i64 y.int) ∧ W.cell? ⟨b7, 2, none⟩ = some (.string y.str) ∧ W.cell? ⟨b7, 3, none⟩ = some (.int .i64 y.ref)) := Lib.hid (fun W hc => ⟨hc.cell HS0.out.1, hc.cell HS0.out.2.1, hc.cell HS0.out.2.2.1, hc.cell HS0.out.2.2.2.1, hc.cell HS0.out.2.2.2.2⟩)
  have HWD : Hid (Chg (fun _ => False) w5 w5.drew) := Lib.hid (Chg.refl _ w5).drewR
  generalize w5.drew = wD at *
  refine wpAnyH_take (i := 0) (v := ?_) rfl (by kernel_rfl) (by kernel_rfl) (by kernel_rfl) (fun _ _ _ h => h) (Or.inl ⟨by rfl, ?_⟩) (by assumption) ?_
  rotate_left
  · (intro wq hSw; (try dsimp only at hSw); go_simp; (try with_reducible rfl))
  simp only [Act.put, List.getElem_toArray, List.getElem_cons_zero, List.getElem_cons_succ, List.setIfInBounds_toArray, List.set_cons_zero, List.set_cons_succ]
  refine wpAnyH_take (i := 1) (v := ?_) rfl (by kernel_rfl) (by kernel_rfl) (by kernel_rfl) (fun _ _ _ h => h) (Or.inl ⟨by rfl, ?_⟩) (by assumption) ?_
  rotate_left
  · (intro wq hSw; (try dsimp only at hSw); go_simp; (try with_reducible rfl))
  simp only [Act.put, List.getElem_toArray, List.getElem_cons_zero, List.getElem_cons_succ, List.setIfInBounds_toArray, List.set_cons_zero, List.set_cons_succ]
  refine wpAnyH_take (i := 2) (v := ?_) rfl (by kernel_rfl) (by kernel_rfl) (by kernel_rfl) (fun _ _ _ h => h) (Or.inl ⟨by rfl, ?_⟩) (by assumption) ?_
  rotate_left
  · (intro wq hSw; (try dsimp only at hSw); go_simp; (try with_reducible rfl))
  simp only [Act.put, List.getElem_toArray, List.getElem_cons_zero, List.getElem_cons_succ, List.setIfInBounds_toArray, List.set_cons_zero, List.set_cons_succ]
  refine wpAnyH_take (i := 3) (v := ?_) rfl (by kernel_rfl) (by kernel_rfl) (by kernel_rfl) (fun _ _ _ h => h) (Or.inl ⟨by rfl, ?_⟩) (by assumption) ?_
  rotate_left
  · (intro wq hSw; (try dsimp only at hSw); go_simp; (try with_reducible rfl))
  simp only [Act.put, List.getElem_toArray, List.getElem_cons_zero, List.getElem_cons_succ, List.setIfInBounds_toArray, List.set_cons_zero, List.set_cons_succ]
  refine wpAnyH_take (i := 4) (v := ?_) rfl (by kernel_rfl) (by kernel_rfl) (by kernel_rfl) (fun _ _ _ h => h) (Or.inl ⟨by rfl, ?_⟩) (by assumption) ?_
  rotate_left
  · (intro wq hSw; (try dsimp only at hSw); go_simp; (try with_reducible rfl))
  simp only [Act.put, List.getElem_toArray, List.getElem_cons_zero, List.getElem_cons_succ, List.setIfInBounds_toArray, List.set_cons_zero, List.set_cons_succ]
  refine wpAnyH_take (i := 5) (v := ?_) rfl (by kernel_rfl) (by kernel_rfl) (by kernel_rfl) (fun _ _ _ h => h) (Or.inl ⟨by rfl, ?_⟩) (by assumption) ?_
  rotate_left
  · (intro wq hSw; (try dsimp only at hSw); go_simp; (try with_reducible rfl))
  simp only [Act.put, List.getElem_toArray, List.getElem_cons_zero, List.getElem_cons_succ, List.setIfInBounds_toArray, List.set_cons_zero, List.set_cons_succ]
  refine wpAnyH_take (i := 6) (v := ?_) rfl (by kernel_rfl) (by kernel_rfl) (by kernel_rfl) (fun _ _ _ h => h) (Or.inl ⟨by rfl, ?_⟩) (by assumption) ?_
  rotate_left
  · (intro wq hSw; (try dsimp only at hSw); go_simp; (try with_reducible rfl))
  simp only [Act.put, List.getElem_toArray, List.getElem_cons_zero, List.getElem_cons_succ, List.setIfInBounds_toArray, List.set_cons_zero, List.set_cons_succ]
  refine wpAnyH_done (by kernel_rfl) ?_ _
  change wpList _ _ _ _ _ _
  simp only [List.drop_succ_cons, List.drop_zero]
  have P1 := HELH.out.setPost valR_kind (y := y.kind) (v := .int .i64 y.kind) rfl
  have P2 := P1.then (fun F' H' => H'.setPost valR_int (y := y.int) (v := .int .i64 y.int) rfl)
  have P3 := P2.then (fun F' H' => H'.setPost valR_str (y := y.str) (v := .string y.str) rfl)
  have P4 := P3.then (fun F' H' => H'.setPost valR_ref (y := y.ref) (v := .int .i64 y.ref) rfl)
  obtain ⟨cB, TB, hbB, hszB⟩ : ∃ c T, wD.heap[gp]? = some (.cells c T (0, 0)) ∧ opp + j * 4 + 4 ≤ c.size := by
    obtain ⟨c, T, hh⟩ := HELH.out.size
    rcases hh with hh | hh
    · exact ⟨c, T, hh.1, by have := hh.2.2; show opp + j * 4 + 4 ≤ _; exact this⟩
    · exact absurd hh (by decide)
  obtain ⟨u0, u1, u2, u3, ⟨e0, f0⟩, ⟨e1, f1⟩, ⟨e2, f2⟩, e3, f3⟩ := store4At (o := opp + j * 4) hbB hszB (.int .i64 y.kind) (.int .i64 y.int) (.string y.str) (.int .i64 y.ref)
  have HP4 := Lib.hid P4
  clear P1 P2 P3 P4
  go_wp2_with fail
  go_ret
  obtain ⟨F4, h1, h2⟩ := HP4.out
  have hpl := (HWB.out _ _ F4 h1 h2).1
  exact ⟨rfl, HPT.out _ _ (Post.pre (HC5.out.trans' HWD.out) hpl)⟩
set_option maxHeartbeats 1600000 in
set_option maxRecDepth 100000 in
theorem put_grow (w : World) (b : Nat) (hp : Hp) (F : List Nat) (h : Int) (i : Nat) (key : ByteArray) (x y : Val) (H : Here hpR w b 0 hp F) (hi : -9223372036854775808 ≤ h ∧ h ≤ 9223372036854775807) (hs : slotOf hp h = some i) (hl : i < hp.slots.length) (hk : hp.slots[i].obj.kind = 1) (hle : hp.slots[i].obj.elems.length ≤ 20000)
    (HN : ∀ W, Chg (fun _ => False) w W → Calls Tryd.prog 37 #[.agg #[.int .i64 x.kind, .int .i64 x.int, .string x.str, .int .i64 x.ref]] W fun e w' => e = .returned (.agg #[.int .i64 y.kind, .int .i64 y.int, .string y.str, .int .i64 y.ref]) ∧ Chg (fun _ => False) W w') (hkl : ¬ key.toList = [108, 101, 110, 103, 116, 104]) (hks : key.size ≤ 1000000) (HT : Tabs w) (j : Nat) (hpz : posM key = (j : Int)) (hj : hp.slots[i].obj.elems.length ≤ j) (hj2 : j < 10000) :
    Calls Tryd.prog 24 #[.pointer (some ⟨b, 0, none⟩), .int .i64 h, .string key, .agg #[.int .i64 x.kind, .int .i64 x.int, .string x.str, .int .i64 x.ref]] w fun e w' => e = .returned (.int .i64 0) ∧ Post hpR w b 0 (putO hp i { hp.slots[i].obj with elems := (resizeL hp.slots[i].obj.elems (j + 1)).set j y }) F w' := by
  have HPS := Lib.hid (fun W (hc : Chg (fun _ => False) w W) => position_any key W hks (HT.still hc))
  have s1 : (key.toList == [108, 101, 110, 103, 116, 104]) = false := beq_false_of_ne hkl
  clear HT hks
  rw [hpz] at HPS
  clear hpz
  have hca := Chg.alloc (fun _ => False) w (.cells #[.int .i64 x.kind, .int .i64 x.int, .string x.str, .int .i64 x.ref] 36)
  have kb := alloc_block w (.cells #[.int .i64 x.kind, .int .i64 x.int, .string x.str, .int .i64 x.ref] 36)
  have HKB := Lib.hid kb
  have H2 := H.still hca
  obtain ⟨gh, oh, kh, c2, G, HOBJ0, hGF, hput⟩ := hpPut H hl
  obtain ⟨vp, ve, vd, vs, HOC⟩ := objOpen HOBJ0
  obtain ⟨ae, cape, rfl, -⟩ := HOC.re.slice
  have k0 := HOC.c0
  rw [hk] at k0
  have HC0 := Lib.hid k0
  have HC3 := Lib.hid HOC.c3
  have hat := hat_any _ b 0 hp F h _ H2 (by rw [Nat.zero_add]; exact hca.cell c2) hi
  rw [hs, show objPtr (.slice (some ⟨gh, oh, none⟩) hp.slots.length kh) (some i) = some ⟨gh, oh + i * 11 + 1, none⟩ from rfl] at hat
  have HAT := Lib.hid hat
  have HNN := Lib.hid HN
  generalize hx : hp.slots[i].obj = o_ at *
  have HX := Lib.hid hx
  have HCA := Lib.hid hca
  have HOB := Lib.hid HOBJ0
  have HPT := Lib.hid hput
  have HLT := Lib.hid HOBJ0.lt
  have HLE := Lib.hid hle
  clear kb hca H2 c2 HOBJ0 hGF hput HOC k0 hi hs H hx hk hat HN hle
  have HJ0 := Lib.hid hj
  have HJ2 := Lib.hid hj2
  clear hj hj2
  go_enter Tryd.func24, Tryd.ntmps24
  go_upto_region 1 with fail
  generalize hw2 : w.alloc (.cells #[.int .i64 x.kind, .int .i64 x.int, .string x.str, .int .i64 x.ref] 36) = w1 at *
  generalize hb7 : w.heap.size = b7 at *
  have HB7E := Lib.hid hb7
  clear hw2 hb7
  go_upto_region 4 with (go_at_call 35; refine HAT.out.mono ?_; rintro e wa ⟨rfl, hca⟩)
  have HC1 := Lib.hid (HCA.out.trans' hca)
  have HKB2 := Lib.hid (hca.keep HKB.out (fun x => x))
  have k0 := cell_of_block (i := 0) HKB2.out rfl
  have k1 := cell_of_block (i := 1) HKB2.out rfl
  have k2 := cell_of_block (i := 2) HKB2.out rfl
  have k3 := cell_of_block (i := 3) HKB2.out rfl
  simp only [List.getElem_toArray, List.getElem_cons_zero, List.getElem_cons_succ] at k0 k1 k2 k3
  clear hca HAT HKB
  go_upto_region 5 with (go_at_call 37; refine (HNN.out _ HC1.out).mono ?_; rintro e wn ⟨rfl, hcn⟩; have hbn := hcn.keep HKB2.out (fun x => x); obtain ⟨z10, q0, z11, q1, z12, q2, z13, q3, hbf, hcs⟩ := store4 hbn (.int .i64 y.kind) (.int .i64 y.int) (.string y.str) (.int .i64 y.ref))
  have HB7 := Lib.hid hbf
  have hc4 : Chg (fun _ => False) w (((((wn.setCell ⟨b7, 0, none⟩ (.int .i64 y.kind)).setCell ⟨b7, 1, none⟩ (.int .i64 y.int)).setCell ⟨b7, 2, none⟩ (.string y.str)).setCell ⟨b7, 3, none⟩ (.int .i64 y.ref))) := (HC1.out.trans' hcn).trans hcs (fun _ _ x => x) (fun k hk e => by have := HB7E.out; omega)
  clear hbf hcs hcn hbn z10 q0 z11 q1 z12 q2 z13 q3 k0 k1 k2 k3
  generalize ((((wn.setCell ⟨b7, 0, none⟩ (.int .i64 y.kind)).setCell ⟨b7, 1, none⟩ (.int .i64 y.int)).setCell ⟨b7, 2, none⟩ (.string y.str)).setCell ⟨b7, 3, none⟩ (.int .i64 y.ref)) = w4 at *
  have c0 := hc4.cell HC0.out
  have HC4 := Lib.hid hc4
  clear hc4 HNN HKB2 HC1 HCA
  go_upto_region 12 with (go_at_call 21; refine (HPS.out _ HC4.out).mono ?_; rintro e w5 ⟨rfl, hc5⟩)
  have HC5 := Lib.hid (HC4.out.trans' hc5)
  have HY7 := Lib.hid (hc5.keep HB7.out (fun x => x))
  have HOB5 := Lib.hid (HOB.out.still HC5.out)
  clear hc5 HPS c0 HB7 HC4 HOB
  have j0 : (0 : Int) ≤ (j : Int) := by omega
  have j1 : ¬ (j : Int) < (o_.elems.length : Int) := by have := HJ0.out; omega
  have j2 : (o_.elems.length : Int) ≤ (j : Int) := by have := HJ0.out; omega
  have wj : IntKind.i64.wrap ((j : Int) + 1) = (j : Int) + 1 := IntWalk.i64_in _ (by have := HJ2.out; omega)
  have c3 := HC5.out.cell HC3.out
  have HRS := Lib.hid (show Calls Tryd.prog 44 #[.pointer (some ⟨gh, oh + i * 11 + 1, none⟩), .int .i64 ((j : Int) + 1)] w5 _ from resize_any w5 gh (oh + i * 11 + 1) o_ G (j + 1) HOB5.out HLE.out (by have := HJ2.out; omega))
  go_upto_region 14 with fail
  go_upto_region 15 with (go_at_call 44; refine HRS.out.mono ?_; rintro e w6 ⟨rfl, hp6⟩)
  obtain ⟨G6, HOBJ6, hst6⟩ := hp6
  have HY6 := Lib.hid (hst6.chg.keep HY7.out (fun hk => by
    have h1 := HLT.out
    have h2 := HB7E.out
    rcases hk with rfl | hk
    · omega
    · have := h1.2 _ hk; omega))
  have HST6 := Lib.hid hst6
  clear hst6 HRS c3 j1 j2
  obtain ⟨o2, ho2⟩ : ∃ o2, o2 = { o_ with elems := resizeL o_.elems (j + 1) } := ⟨_, rfl⟩
  have HO2 := Lib.hid ho2
  rw [← ho2] at HOBJ6
  have HOB6 := Lib.hid HOBJ6
  have hl2 : o2.elems.length = j + 1 := by rw [ho2]; exact resizeL_len _ _
  have HJ : Hid (j < o2.elems.length) := Lib.hid (by omega)
  have j1 : (j : Int) < (o2.elems.length : Int) := by omega
  clear hl2 HOBJ6 ho2
  obtain ⟨gp, opp, cp, hcv⟩ := HOB6.out.rowAt objR_elems (by show 0 < 10; decide) (by have := HJ.out; omega)
  have jn := HJ.out
  obtain ⟨G2, HEL, -, -, -, hwb⟩ := (HOB6.out.drew).rowElem objR_elems (by show 0 < 10; decide) (show w6.drew.cell? _ = _ from hcv) HJ.out
  have n0 := cell_of_block (i := 0) HY6.out rfl
  have n1 := cell_of_block (i := 1) HY6.out rfl
  have n2 := cell_of_block (i := 2) HY6.out rfl
  have n3 := cell_of_block (i := 3) HY6.out rfl
  simp only [List.getElem_toArray, List.getElem_cons_zero, List.getElem_cons_succ] at n0 n1 n2 n3
  have HS0 : Hid (w6.cell? ⟨gh, oh + i * 11 + 1 + 3, none⟩ = some (.slice (some ⟨gp, opp, none⟩) o2.elems.length cp) ∧ w6.cell? ⟨b7, 0, none⟩ = some (.int .i64 y.kind) ∧ w6.cell? ⟨b7, 1, none⟩ = some (.int .i64 y.int) ∧ w6.cell? ⟨b7, 2, none⟩ = some (.string y.str) ∧ w6.cell? ⟨b7, 3, none⟩ = some (.int .i64 y.ref)) := Lib.hid ⟨hcv, n0, n1, n2, n3⟩
  clear n0 n1 n2 n3
  have HWB := Lib.hid hwb
  have HELH := Lib.hid HEL
  clear hwb HEL
  go_upto_region 15 with fail
  clear hcv
  refine wp_region_held_split 7 (fun w' => w'.cell? ⟨gh, oh + i * 11 + 1 + 3, none⟩ = some (.slice (some ⟨gp, opp, none⟩) o2.elems.length cp) ∧ w'.cell? ⟨b7, 0, none⟩ = some (.int .i64 y.kind) ∧ w'.cell? ⟨b7, 1, none⟩ = some (.int .i64 y.int) ∧ w'.cell? ⟨b7, 2, none⟩ = some (.string y.str) ∧ w'.cell? ⟨b7, 3, none⟩ = some (.int .i64 y.ref)) (by kernel_rfl) (by kernel_rfl) ?_ (fun hHeld => ?_)
  · (first | exact HS0.out | exact HKS.out _ (Chg.refl _ _))
  simp only [List.take_succ_cons, List.take_zero]
  have HKS : Hid (∀ W, Chg (fun _ => False) w6.drew W → W.cell? ⟨gh, oh + i * 11 + 1 + 3, none⟩ = some (.slice (some ⟨gp, opp, none⟩) o2.elems.length cp) ∧ W.cell? ⟨b7, 0, none⟩ = some (.int .i64 y.kind) ∧ W.cell? ⟨b7, 1, none⟩ = some (.int .i64 y.int) ∧ W.cell? ⟨b7, 2, none⟩ = some (.string y.str) ∧ W.cell? ⟨b7, 3, none⟩ = some (.int .i64 y.ref)) := Lib.hid (fun W hc => ⟨hc.cell HS0.out.1, hc.cell HS0.out.2.1, hc.cell HS0.out.2.2.1, hc.cell HS0.out.2.2.2.1, hc.cell HS0.out.2.2.2.2⟩)
  have HWD : Hid (Chg (fun _ => False) w6 w6.drew) := Lib.hid (Chg.refl _ w6).drewR
  generalize w6.drew = wD at *
  refine wpAnyH_take (i := 0) (v := ?_) rfl (by kernel_rfl) (by kernel_rfl) (by kernel_rfl) (fun _ _ _ h => h) (Or.inl ⟨by rfl, ?_⟩) (by assumption) ?_
  rotate_left
  · (intro wq hSw; (try dsimp only at hSw); go_simp; (try with_reducible rfl))
  simp only [Act.put, List.getElem_toArray, List.getElem_cons_zero, List.getElem_cons_succ, List.setIfInBounds_toArray, List.set_cons_zero, List.set_cons_succ]
  refine wpAnyH_take (i := 1) (v := ?_) rfl (by kernel_rfl) (by kernel_rfl) (by kernel_rfl) (fun _ _ _ h => h) (Or.inl ⟨by rfl, ?_⟩) (by assumption) ?_
  rotate_left
  · (intro wq hSw; (try dsimp only at hSw); go_simp; (try with_reducible rfl))
  simp only [Act.put, List.getElem_toArray, List.getElem_cons_zero, List.getElem_cons_succ, List.setIfInBounds_toArray, List.set_cons_zero, List.set_cons_succ]
  refine wpAnyH_take (i := 2) (v := ?_) rfl (by kernel_rfl) (by kernel_rfl) (by kernel_rfl) (fun _ _ _ h => h) (Or.inl ⟨by rfl, ?_⟩) (by assumption) ?_
  rotate_left
  · (intro wq hSw; (try dsimp only at hSw); go_simp; (try with_reducible rfl))
  simp only [Act.put, List.getElem_toArray, List.getElem_cons_zero, List.getElem_cons_succ, List.setIfInBounds_toArray, List.set_cons_zero, List.set_cons_succ]
  refine wpAnyH_take (i := 3) (v := ?_) rfl (by kernel_rfl) (by kernel_rfl) (by kernel_rfl) (fun _ _ _ h => h) (Or.inl ⟨by rfl, ?_⟩) (by assumption) ?_
  rotate_left
  · (intro wq hSw; (try dsimp only at hSw); go_simp; (try with_reducible rfl))
  simp only [Act.put, List.getElem_toArray, List.getElem_cons_zero, List.getElem_cons_succ, List.setIfInBounds_toArray, List.set_cons_zero, List.set_cons_succ]
  refine wpAnyH_take (i := 4) (v := ?_) rfl (by kernel_rfl) (by kernel_rfl) (by kernel_rfl) (fun _ _ _ h => h) (Or.inl ⟨by rfl, ?_⟩) (by assumption) ?_
  rotate_left
  · (intro wq hSw; (try dsimp only at hSw); go_simp; (try with_reducible rfl))
  simp only [Act.put, List.getElem_toArray, List.getElem_cons_zero, List.getElem_cons_succ, List.setIfInBounds_toArray, List.set_cons_zero, List.set_cons_succ]
  refine wpAnyH_take (i := 5) (v := ?_) rfl (by kernel_rfl) (by kernel_rfl) (by kernel_rfl) (fun _ _ _ h => h) (Or.inl ⟨by rfl, ?_⟩) (by assumption) ?_
  rotate_left
  · (intro wq hSw; (try dsimp only at hSw); go_simp; (try with_reducible rfl))
  simp only [Act.put, List.getElem_toArray, List.getElem_cons_zero, List.getElem_cons_succ, List.setIfInBounds_toArray, List.set_cons_zero, List.set_cons_succ]
  refine wpAnyH_take (i := 6) (v := ?_) rfl (by kernel_rfl) (by kernel_rfl) (by kernel_rfl) (fun _ _ _ h => h) (Or.inl ⟨by rfl, ?_⟩) (by assumption) ?_
  rotate_left
  · (intro wq hSw; (try dsimp only at hSw); go_simp; (try with_reducible rfl))
  simp only [Act.put, List.getElem_toArray, List.getElem_cons_zero, List.getElem_cons_succ, List.setIfInBounds_toArray, List.set_cons_zero, List.set_cons_succ]
  refine wpAnyH_done (by kernel_rfl) ?_ _
  change wpList _ _ _ _ _ _
  simp only [List.drop_succ_cons, List.drop_zero]
  have P1 := HELH.out.setPost valR_kind (y := y.kind) (v := .int .i64 y.kind) rfl
  have P2 := P1.then (fun F' H' => H'.setPost valR_int (y := y.int) (v := .int .i64 y.int) rfl)
  have P3 := P2.then (fun F' H' => H'.setPost valR_str (y := y.str) (v := .string y.str) rfl)
  have P4 := P3.then (fun F' H' => H'.setPost valR_ref (y := y.ref) (v := .int .i64 y.ref) rfl)
  obtain ⟨cB, TB, hbB, hszB⟩ : ∃ c T, wD.heap[gp]? = some (.cells c T (0, 0)) ∧ opp + j * 4 + 4 ≤ c.size := by
    obtain ⟨c, T, hh⟩ := HELH.out.size
    rcases hh with hh | hh
    · exact ⟨c, T, hh.1, by have := hh.2.2; show opp + j * 4 + 4 ≤ _; exact this⟩
    · exact absurd hh (by decide)
  obtain ⟨u0, u1, u2, u3, ⟨e0, f0⟩, ⟨e1, f1⟩, ⟨e2, f2⟩, e3, f3⟩ := store4At (o := opp + j * 4) hbB hszB (.int .i64 y.kind) (.int .i64 y.int) (.string y.str) (.int .i64 y.ref)
  have HP4 := Lib.hid P4
  clear P1 P2 P3 P4
  go_wp2_with fail
  go_ret
  obtain ⟨F4, h1, h2⟩ := HP4.out
  have hpl := (HWB.out _ _ F4 h1 h2).1
  obtain ⟨F5, h5, h6⟩ := Post.pre HWD.out hpl
  have hfin : Post objR w gh (oh + i * 11 + 1) _ G _ := Post.pre HC5.out ⟨F5, h5, HST6.out.trans h6⟩
  rw [HO2.out] at hfin
  exact ⟨rfl, HPT.out _ _ hfin⟩
end Go.Proofs.YtjianickjahdnaaDoor
