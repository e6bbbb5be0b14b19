/-
  slices.Delete of values, of properties.
  Lists of strings that a function makes; a heap and such a list side by side.
  heap.Delete of a property (an object that is no array).
  heap.Keys of an object that is no array.
  Contracts of the library, laid over this program (written by the kit's shelf command).
  value.Number, heap.Position; the library's variables as their initialisers lay them.
  heap.Own of an array; value.Normal of an integer.
-/
import Derived.Test.YtjianickjahdnaaDoorPHeapOrderse
import Derived.Test.YtjianickjahdnaaDoorPHeapOrdersd
import Derived.Deep.RegionLaw
import Derived.Shelf.Strings.Builder1
import Derived.Shelf.Small.Wraps
import Derived.Shelf.Strings.BuilderF
import Derived.Shelf.Strings.BuilderK
import Derived.Shelf.Strings.BuilderRune
import Derived.Shelf.Strconv.Itoa0
import Derived.Shelf.Strconv.Itoa1
import Derived.Shelf.LaysM
import Derived.Shelf.Strconv.Itoa2
import Derived.Shelf.Strconv.Itoa3
import Derived.Shelf.Strconv.Itoa4
import Derived.Shelf.Strconv.ParseIntEmpty
import Derived.Shelf.Strconv.Clone
import Derived.Shelf.Strconv.SyntaxError
import Derived.Shelf.LaysC
import Derived.Shelf.Strconv.ToError
import Derived.Shelf.Strconv.Lower
import Derived.Shelf.Strconv.ParseUint10
import Derived.Shelf.Strconv.ParseUint10Empty
import Derived.Shelf.Strconv.ParseUint10Any
import Derived.Shelf.Strconv.ParseInt10
import Derived.Shelf.Strconv.RangeError
import Derived.Shelf.Strconv.ToErrorRange
import Derived.Shelf.Strconv.ParseUintEmpty
import Derived.Shelf.Strconv.ParseUint10b64
import Derived.Shelf.Strconv.ParseUint10b32
import Derived.Shelf.Strconv.ParseUint10b16
import Derived.Shelf.Strconv.ParseUint10b8
import Derived.Shelf.Strconv.ParseUint10At
import Derived.Shelf.Strconv.ParseInt10At64
import Derived.Shelf.Strconv.ParseInt10At32
import Derived.Shelf.Strconv.ParseInt10At16
import Derived.Shelf.Strconv.ParseInt10At8
import Derived.Shelf.Strconv.ParseInt10All
import Derived.Shelf.Strconv.ParseIntPublic10
import Derived.Shelf.Strconv.ErrVarParseInt
import Derived.Shelf.Unicode.ValidAny
import Derived.Ground.NamesProg
import Derived.Test.YtjianickjahdnaaDoorProg
import Derived.Test.YtjianickjahdnaaDoorPHeapOrdersa
import Derived.Lib.LaidTab
import Derived.Lib.SmallJoins
namespace Go.Proofs.YtjianickjahdnaaDoor
open Go.RowKit
set_option linter.unusedVariables false
set_option linter.unusedSimpArgs false

theorem add_none4 (g off j q : Nat) : (⟨g, off + j, none⟩ : Addr).add q = ⟨g, off + (j + q), none⟩ := by
  rw [← Nat.add_assoc]; unfold Addr.add; split <;> simp_all
/-- The zero of an element's type, its cells. -/
def ElemZ (P : Program) (e : TypeId) (size bytes : Nat) (cs : List Value) : Prop := ∃ i z, P.info? e = some i ∧ i.zero = some z ∧ i.size = size ∧ i.bytes = bytes ∧ z.cells.size = size ∧ z.cells.toList = cs
theorem elemZ_of {P : Program} {e : TypeId} {size bytes : Nat} {cs : List Value} (h : (P.info? e).map (fun i => (i.zero.map (fun z => z.cells.toList), i.size, i.bytes)) = some (some cs, size, bytes)) (hc : cs.length = size) : ElemZ P e size bytes cs := by
  unfold ElemZ
  match hm : P.info? e, h with
  | some i, h =>
    simp only [Option.map_some, Option.some.injEq, Prod.mk.injEq] at h
    obtain ⟨h1, h2, h3⟩ := h
    match hz : i.zero, h1 with
    | some z, h1 =>
      have h4 : z.cells.toList = cs := by simpa using h1
      exact ⟨i, z, rfl, hz, h2, h3, by rw [← Array.length_toList, h4]; exact hc, h4⟩
theorem elemZ_val : ElemZ Tryd.prog 36 4 40 [.int .i64 0, .int .i64 0, .string ⟨#[]⟩, .int .i64 0] := elemZ_of (by kernel_rfl) rfl
theorem elemZ_prop : ElemZ Tryd.prog 86 5 56 [.string ⟨#[]⟩, .int .i64 0, .int .i64 0, .string ⟨#[]⟩, .int .i64 0] := elemZ_of (by kernel_rfl) rfl
/-- What lies there when the rest has been moved and cleared. -/
theorem del_row {w5 : World} {g off i j m cap e size : Nat} {cur : Array Value} {xs zs : List Value} (hb5 : w5.heap[g]? = some (.cells (putAt cur (off + i * size) (xs.drop (j * size))) e (0, 0))) (hx : (cur.toList.drop off).take ((j + m) * size) = xs) (hxl : xs.length = (j + m) * size)
    (hnl : (xs.drop (j * size)).length = m * size) (hij : i < j) (hc : j + m ≤ cap) (hcm : cap ≤ maxLen) (hsz : off + cap * size ≤ cur.size) (hzl : off + (i + m) * size + zs.length ≤ cur.size) :
    RowAt (w5.setCells g (off + (i + m) * size) zs) e size (.slice (some ⟨g, off, none⟩) (i + m) cap) (i + m) (xs.take (i * size) ++ xs.drop (j * size)) := by
  have hi1 : i * size ≤ (j + m) * size := Nat.mul_le_mul_right _ (by omega)
  have hadd : (i + m) * size = i * size + m * size := Nat.add_mul ..
  have hle : (i + m) * size ≤ cap * size := Nat.mul_le_mul_right _ (by omega)
  have hli : (xs.take (i * size)).length = i * size := by rw [List.length_take]; omega
  refine ⟨by rw [List.length_append, hli, hnl, hadd], .inr ⟨g, off, cap, _, rfl, setCells_block zs _ hb5, by omega, hcm, by rw [putAt_size, putAt_size]; exact hsz, ?_⟩⟩
  have hs1 : (putAt cur (off + i * size) (xs.drop (j * size))).size = cur.size := putAt_size ..
  rw [putAt_toList _ _ _ (by rw [hs1]; exact hzl), putAt_toList _ _ _ (by rw [hnl]; omega)]
  have e1 : (cur.toList.take (off + i * size)).drop off = xs.take (i * size) := by
    rw [← hx, List.take_take, Nat.min_eq_left hi1, List.drop_take]
    congr 1; omega
  have hcl : cur.toList.length = cur.size := Array.length_toList
  have hA : (cur.toList.take (off + i * size) ++ xs.drop (j * size)).length = off + (i + m) * size := by
    rw [List.length_append, hnl, List.length_take, hcl, hadd]; omega
  have e2 : (cur.toList.take (off + i * size) ++ xs.drop (j * size) ++ cur.toList.drop (off + i * size + (xs.drop (j * size)).length)).take (off + (i + m) * size) = cur.toList.take (off + i * size) ++ xs.drop (j * size) := by
    rw [← hA]; exact List.take_left
  rw [e2, List.append_assoc, List.append_assoc, List.drop_append_of_le_length (by rw [List.length_take, hcl]; omega), e1]
  rw [← List.append_assoc]
  have hB : (xs.take (i * size) ++ xs.drop (j * size)).length = (i + m) * size := by rw [List.length_append, hli, hnl, hadd]
  rw [← hB]; exact List.take_left
/-- clear of a part of a row. -/
theorem run_clear_row {P : Program} (w : World) (t e ty : TypeId) (i : TypeInfo) (z : Value) (size : Nat) (cur : Array Value) (ht : P.underlying t = some (.slice e)) (hi : P.info? e = some i) (hz : i.zero = some z) (hsz : i.size = size) (hzs : z.cells.size = size) (h1 : ∀ u ∈ z.cells.toList, u.oneCell' = true)
    (g o n c : Nat) (hg : w.heap[g]? = some (.cells cur e (0, 0))) (hs : o + n * size ≤ cur.size) (hn : 0 < n) :
    (Builtin.clear_ #[t] ty #[.slice (some ⟨g, o, none⟩) n c]).run P w = .ok (.tuple #[]) (w.setCells g o (Builtin.zeroCells z.cells n).toList) := by
  have hzl : (Builtin.zeroCells z.cells n).toList.length = n * size := by rw [Array.length_toList, size_zeroCells, hzs]
  have hone : ∀ u ∈ (Builtin.zeroCells z.cells n).toList, u.oneCell' = true := by
    intro u hu
    unfold Builtin.zeroCells at hu
    rw [Array.toList_map, List.mem_map] at hu
    obtain ⟨j, hj, rfl⟩ := hu
    have hjr : j < n * z.cells.size := by simpa using hj
    have hpos : 0 < z.cells.size := by
      apply Nat.pos_of_ne_zero
      intro e0
      rw [e0] at hjr
      omega
    have hj2 : j % z.cells.size < z.cells.size := Nat.mod_lt _ hpos
    rw [getElem!_pos z.cells (j % z.cells.size) hj2]
    exact h1 _ (Array.getElem_mem_toList hj2)
  have hst := run_storeCells_cells (P := P) g o (Builtin.zeroCells z.cells n).toList 0 w (fun j hj => by rw [Nat.add_zero, cell_of_block hg (Array.getElem?_eq_getElem (by omega))]; rfl) (fun j _ => frozen_of_block hg) hone
  simp only [Nat.add_zero] at hst
  have hn0 : n ≠ 0 := by omega
  obtain ⟨n', rfl⟩ : ∃ n', n = n' + 1 := ⟨n - 1, by omega⟩
  simp [Builtin.clear_, run_underlying ht, zeroValue, typeInfo, hi, hz, hst]

set_option maxHeartbeats 6400000 in
set_option maxRecDepth 100000 in
theorem delV_any (w : World) (v : Value) (n i j : Nat) (xs : List Value) (hr : RowAt w 36 4 v n xs) (h1c : ∀ u ∈ xs, u.oneCell' = true) (hij : i ≤ j) (hj : j ≤ n) (hl : n ≤ 1000000) :
    Calls Tryd.prog 59 #[v, .int .i64 (i : Int), .int .i64 (j : Int)] w fun e w' => ∃ v', e = .returned v' ∧ RowAt w' 36 4 v' (n - (j - i)) (xs.take (i * 4) ++ xs.drop (j * 4)) ∧ Chg (fun k => v.ownBlock = some k) w w' ∧ (∀ k, v'.ownBlock = some k → v.ownBlock = some k) := by
  obtain ⟨m, hm⟩ : ∃ m, n = j + m := ⟨n - j, by omega⟩
  subst hm
  have i0' : (0 : Int) ≤ (i : Int) := by omega
  have j0' : (0 : Int) ≤ (j : Int) := by omega
  have ij' : (i : Int) ≤ (j : Int) := by omega
  have jn' : (j : Int) ≤ ((j + m : Nat) : Int) := by omega
  obtain ⟨a, cap, rfl, hnc, hcm⟩ := hr.slice
  by_cases he : i = j
  · subst he
    have HR := Lib.hid hr
    clear hr hij hj hl h1c
    have fin : ∀ W, W = w → RowAt W 36 4 (.slice a (i + m) cap) (i + m - (i - i)) (xs.take (i * 4) ++ xs.drop (i * 4)) := fun W e => by
      rw [e, Nat.sub_self, Nat.sub_zero, List.take_append_drop]; exact HR.out
    have FIN := Lib.hid fin
    clear fin
    rcases Nat.eq_zero_or_pos m with rfl | hmp
    · go_enter Tryd.func59, Tryd.ntmps59
      go_wp2_with fail
      go_ret
      exact ⟨_, rfl, by first | exact FIN.out _ rfl | simpa using FIN.out w rfl, Chg.refl _ _, fun k h => h⟩
    · have ne1 : ¬ i + m = i := by omega
      have ne2 : ¬ m = 0 := by omega
      go_enter Tryd.func59, Tryd.ntmps59
      go_wp2_with fail
      go_ret
      exact ⟨_, rfl, by first | exact FIN.out _ rfl | simpa using FIN.out w rfl, Chg.refl _ _, fun k h => h⟩
  · obtain ⟨g, off, cap', hv, hblk⟩ := hr.addr (by omega)
    cases hv
    obtain ⟨i0, z, hi, hz, hsz, hby, hzs, hzl⟩ := elemZ_val
    have HZO := Lib.hid (show ∀ u ∈ z.cells.toList, u.oneCell' = true from fun u hu => by rw [hzl] at hu; simp only [List.mem_cons, List.not_mem_nil, or_false] at hu; rcases hu with rfl | rfl | rfl | rfl <;> rfl)
    have hxl := hr.1
    obtain ⟨g', off', cap'', cur, hv, hg, h1, h2, h3, h4⟩ : ∃ g' off' cap'' cur, Value.slice (some ⟨g, off, none⟩) (j + m) cap = .slice (some ⟨g', off', none⟩) (j + m) cap'' ∧ w.heap[g']? = some (.cells cur 36 (0, 0)) ∧ j + m ≤ cap'' ∧ cap'' ≤ maxLen ∧ off' + cap'' * 4 ≤ cur.size ∧ (cur.toList.drop off').take ((j + m) * 4) = xs := by
      rcases hr.2 with ⟨hv, -⟩ | h
      · cases hv
      · exact h
    cases hv
    have HG := Lib.hid hg
    have HB := Lib.hid (show j + m ≤ cap ∧ i < j ∧ j + m ≤ 1000000 from ⟨h1, by omega, hl⟩)
    have HBC := Lib.hid h3
    have HXS := Lib.hid h4
    have HI := Lib.hid hi
    have HZ := Lib.hid hz
    have HSZ := Lib.hid hsz
    have HZS := Lib.hid hzs
    have HR := Lib.hid hr
    have HXL := Lib.hid hxl
    have HCM := Lib.hid hcm
    have H1 := Lib.hid h1c
    have ne1 : ¬ j + m = i := by omega
    have ne2 : ¬ cap = 0 := by omega
    have ne3 : ¬ cap = i + m := by omega
    have ne4 : (i : Int) ≠ (j : Int) := by omega
    have ne5 : ((i : Int) == (j : Int)) = false := beq_false_of_ne ne4
    have c1 : (i : Int) ≤ (cap : Int) := by omega
    have c3 : (j : Int) ≤ (j : Int) + (m : Int) := by omega
    have c2 : ((j + m : Nat) : Int) ≤ (cap : Int) := by omega
    clear hg h1 h2 h3 h4 h1c hi hz hsz hzs hby hzl hr hxl hij hj hl hnc hcm hblk
    have HNL : Hid ((xs.drop (j * 4)).length = m * 4) := Lib.hid (by rw [List.length_drop, HXL.out]; omega)
    have HNO : Hid (∀ u ∈ xs.drop (j * 4), u.oneCell' = true) := Lib.hid (fun u hu => H1.out u (List.mem_of_mem_drop hu))
    have HSP : Hid (∀ W, Chg (fun _ => False) w W → ∀ q, q < (xs.drop (j * 4)).length → (W.cell? ⟨g, off + i * 4 + q, none⟩).isSome = true ∧ W.frozen? ⟨g, off + i * 4 + q, none⟩ = false) := Lib.hid (fun W hc q hq => by
      have hb := hc.keep HG.out (fun x => x)
      rw [HNL.out] at hq
      exact ⟨by rw [cell_of_block hb (Array.getElem?_eq_getElem (by have := HB.out; have := HBC.out; omega))]; rfl, frozen_of_block hb⟩)
    have HFIN : Hid (∀ (w5 : World), w5.heap[g]? = some (.cells (putAt cur (off + i * 4) (xs.drop (j * 4))) 36 (0, 0)) → RowAt (w5.setCells g (off + (i + m) * 4) (Builtin.zeroCells z.cells (j - i)).toList) 36 4 (.slice (some ⟨g, off, none⟩) (i + m) cap) (i + m) (xs.take (i * 4) ++ xs.drop (j * 4))) := Lib.hid (fun w5 hb5 =>
      del_row hb5 HXS.out HXL.out HNL.out (by have := HB.out; omega) (by have := HB.out; omega) HCM.out HBC.out (by rw [Array.length_toList, size_zeroCells, HZS.out]; have := HB.out; have := HBC.out; omega))
    by_cases hcj : j = cap
    · subst hcj
      have hm0 : m = 0 := by have := HB.out; omega
      subst hm0
      simp only [Nat.add_zero, Nat.zero_mul] at HXS HXL ne1 HNL HB HR ne3 c2 HFIN jn'
      go_enter Tryd.func59, Tryd.ntmps59
      go_upto_region 5 with fail

      refine wp_region_held_split 7 (fun _ => True) (by kernel_rfl) (by kernel_rfl) ?_ (fun hHeld => ?_)
      · trivial
      simp only [List.take_succ_cons, List.take_zero]
      have HWD : Hid (Chg (fun _ => False) w w.drew) := Lib.hid (Chg.refl _ w).drewR
      generalize w.drew = wD at *
      refine wpAnyH_take (i := 0) (v := ?_) rfl (by kernel_rfl) (by kernel_rfl) (by kernel_rfl) (fun _ _ _ h => h) (Or.inl ⟨by rfl, ?_⟩) (by assumption) ?_
      rotate_left
      · (intro wq hSw; (try dsimp only at hSw); go_simp; (try with_reducible rfl))
      simp only [Act.put, List.getElem_toArray, List.getElem_cons_zero, List.getElem_cons_succ, List.setIfInBounds_toArray, List.set_cons_zero, List.set_cons_succ]
      refine wpAnyH_take (i := 1) (v := ?_) rfl (by kernel_rfl) (by kernel_rfl) (by kernel_rfl) (fun _ _ _ h => h) (Or.inl ⟨by rfl, ?_⟩) (by assumption) ?_
      rotate_left
      · (intro wq hSw; (try dsimp only at hSw); go_simp; (try with_reducible rfl))
      simp only [Act.put, List.getElem_toArray, List.getElem_cons_zero, List.getElem_cons_succ, List.setIfInBounds_toArray, List.set_cons_zero, List.set_cons_succ]
      refine wpAnyH_take (i := 2) (v := ?_) rfl (by kernel_rfl) (by kernel_rfl) (by kernel_rfl) (fun _ _ _ h => h) (Or.inl ⟨by rfl, ?_⟩) (by assumption) ?_
      rotate_left
      · (intro wq hSw; (try dsimp only at hSw); go_simp; (try with_reducible rfl))
      simp only [Act.put, List.getElem_toArray, List.getElem_cons_zero, List.getElem_cons_succ, List.setIfInBounds_toArray, List.set_cons_zero, List.set_cons_succ]
      refine wpAnyH_take (i := 3) (v := ?_) rfl (by kernel_rfl) (by kernel_rfl) (by kernel_rfl) (fun _ _ _ h => h) (Or.inl ⟨by rfl, ?_⟩) (by assumption) ?_
      rotate_left
      · (intro wq hSw; (try dsimp only at hSw); go_simp; (try with_reducible rfl))
      simp only [Act.put, List.getElem_toArray, List.getElem_cons_zero, List.getElem_cons_succ, List.setIfInBounds_toArray, List.set_cons_zero, List.set_cons_succ]
      refine wpAnyH_take (i := 4) (v := ?_) rfl (by kernel_rfl) (by kernel_rfl) (by kernel_rfl) (fun _ _ _ h => h) (Or.inl ⟨by rfl, ?_⟩) (by assumption) ?_
      rotate_left
      · (intro wq hSw; (try dsimp only at hSw); go_simp; (try with_reducible rfl))
      simp only [Act.put, List.getElem_toArray, List.getElem_cons_zero, List.getElem_cons_succ, List.setIfInBounds_toArray, List.set_cons_zero, List.set_cons_succ]
      refine wpAnyH_take (i := 5) (v := ?_) rfl (by kernel_rfl) (by kernel_rfl) (by kernel_rfl) (fun _ _ _ h => h) (Or.inl ⟨by rfl, ?_⟩) (by assumption) ?_
      rotate_left
      · (intro wq hSw; (try dsimp only at hSw); go_simp; (try with_reducible rfl))
      simp only [Act.put, List.getElem_toArray, List.getElem_cons_zero, List.getElem_cons_succ, List.setIfInBounds_toArray, List.set_cons_zero, List.set_cons_succ]
      refine wpAnyH_ready (rs := [6]) (by kernel_rfl) (by simp) ?_
      refine AllReadyH.cons (by simp only [List.getElem?_toArray, List.getElem?_cons_succ, List.getElem?_cons_zero]; rfl) (fun K hK => ?_) AllReadyH.nil
      (refine step_append_room (by rfl) _ _ _ (by rfl) 36 i0 4 Tryd.underlying44 HI.out HSZ.out g off i j (by rfl) ⟨g, off, none⟩ 0 0 (xs.drop (j * 4)) (by rfl) HNL.out (fun q u hu => by have h0 := (List.getElem?_eq_some_iff.1 hu).1; rw [HNL.out] at h0; omega) HNO.out (by have := HB.out.1; omega) (HSP.out wD HWD.out) ?_)
      refine hK.out _ _ ?_ (fun hHeld => ?_)
      · trivial
      clear hK K
      (try simp only [Act.put, List.getElem_toArray, List.getElem_cons_zero, List.getElem_cons_succ, List.setIfInBounds_toArray, List.set_cons_zero, List.set_cons_succ])
      refine wpAnyH_done (by kernel_rfl) ?_ _
      change wpList _ _ _ _ _ _
      simp only [List.drop_succ_cons, List.drop_zero]
      have hgd : wD.heap[g]? = some (.cells cur 36 (0, 0)) := HWD.out.keep HG.out (fun x => x)
      have hb5 := setCells_block (b := g) (xs.drop (j * 4)) (off + i * 4) hgd
      have HC5 := Lib.hid (Chg.setCells (b := g) (xs.drop (j * 4)) wD (off + i * 4))
      go_upto_region 6 with fail
      generalize wD.setCells g (off + i * 4) (xs.drop (j * 4)) = w5 at *
      have HB5 := Lib.hid hb5
      have hclr := run_clear_row (P := Tryd.prog) w5 44 36 0 i0 z 4 (putAt cur (off + i * 4) (xs.drop (j * 4))) Tryd.underlying44 HI.out HZ.out HSZ.out HZS.out HZO.out g (off + i * 4) (j - i) (j - i) hb5 (by rw [putAt_size]; have := HB.out; have := HBC.out; omega) (by have := HB.out; omega)
      have HF := Lib.hid (HFIN.out w5 hb5)
      have hc6 := Chg.setCells (b := g) (Builtin.zeroCells z.cells (j - i)).toList w5 (off + i * 4)
      have HC6 := Lib.hid hc6
      have tn1 : ((i : Int) + (0 : Int)).toNat = i := by omega
      have tn2 : ((j : Int) + (0 : Int)).toNat = j := by omega
      have b1 : (0 : Int) ≤ (i : Int) + (0 : Int) := by omega
      have b2 : (i : Int) + (0 : Int) ≤ (j : Int) + (0 : Int) := by omega
      have b3 : (j : Int) + (0 : Int) ≤ (j : Int) := by omega
      have b4 : j - i = j - i := by omega
      clear hc6 hgd hb5 HFIN
      generalize (Builtin.zeroCells z.cells (j - i)).toList = Z at *
      go_wp2_with fail
      go_ret
      refine ⟨_, rfl, ?_, ((HWD.out.trans HC5.out (fun _ _ x => x.elim) (fun _ _ x => x)).trans' HC6.out).mono (fun k _ e => by subst e; rfl), fun k h => h⟩
      rw [show j - (j - i) = i from by have := HB.out; omega]
      exact HF.out
    · have ne6 : ¬ cap = j := fun e => hcj e.symm
      clear hcj
      go_enter Tryd.func59, Tryd.ntmps59
      go_upto_region 5 with fail

      refine wp_region_held_split 7 (fun _ => True) (by kernel_rfl) (by kernel_rfl) ?_ (fun hHeld => ?_)
      · trivial
      simp only [List.take_succ_cons, List.take_zero]
      have HWD : Hid (Chg (fun _ => False) w w.drew) := Lib.hid (Chg.refl _ w).drewR
      generalize w.drew = wD at *
      refine wpAnyH_take (i := 0) (v := ?_) rfl (by kernel_rfl) (by kernel_rfl) (by kernel_rfl) (fun _ _ _ h => h) (Or.inl ⟨by rfl, ?_⟩) (by assumption) ?_
      rotate_left
      · (intro wq hSw; (try dsimp only at hSw); go_simp; (try with_reducible rfl))
      simp only [Act.put, List.getElem_toArray, List.getElem_cons_zero, List.getElem_cons_succ, List.setIfInBounds_toArray, List.set_cons_zero, List.set_cons_succ]
      refine wpAnyH_take (i := 1) (v := ?_) rfl (by kernel_rfl) (by kernel_rfl) (by kernel_rfl) (fun _ _ _ h => h) (Or.inl ⟨by rfl, ?_⟩) (by assumption) ?_
      rotate_left
      · (intro wq hSw; (try dsimp only at hSw); go_simp; (try with_reducible rfl))
      simp only [Act.put, List.getElem_toArray, List.getElem_cons_zero, List.getElem_cons_succ, List.setIfInBounds_toArray, List.set_cons_zero, List.set_cons_succ]
      refine wpAnyH_take (i := 2) (v := ?_) rfl (by kernel_rfl) (by kernel_rfl) (by kernel_rfl) (fun _ _ _ h => h) (Or.inl ⟨by rfl, ?_⟩) (by assumption) ?_
      rotate_left
      · (intro wq hSw; (try dsimp only at hSw); go_simp; (try with_reducible rfl))
      simp only [Act.put, List.getElem_toArray, List.getElem_cons_zero, List.getElem_cons_succ, List.setIfInBounds_toArray, List.set_cons_zero, List.set_cons_succ]
      refine wpAnyH_take (i := 3) (v := ?_) rfl (by kernel_rfl) (by kernel_rfl) (by kernel_rfl) (fun _ _ _ h => h) (Or.inl ⟨by rfl, ?_⟩) (by assumption) ?_
      rotate_left
      · (intro wq hSw; (try dsimp only at hSw); go_simp; (try with_reducible rfl))
      simp only [Act.put, List.getElem_toArray, List.getElem_cons_zero, List.getElem_cons_succ, List.setIfInBounds_toArray, List.set_cons_zero, List.set_cons_succ]
      refine wpAnyH_take (i := 4) (v := ?_) rfl (by kernel_rfl) (by kernel_rfl) (by kernel_rfl) (fun _ _ _ h => h) (Or.inl ⟨by rfl, ?_⟩) (by assumption) ?_
      rotate_left
      · (intro wq hSw; (try dsimp only at hSw); go_simp; (try with_reducible rfl))
      simp only [Act.put, List.getElem_toArray, List.getElem_cons_zero, List.getElem_cons_succ, List.setIfInBounds_toArray, List.set_cons_zero, List.set_cons_succ]
      refine wpAnyH_take (i := 5) (v := ?_) rfl (by kernel_rfl) (by kernel_rfl) (by kernel_rfl) (fun _ _ _ h => h) (Or.inl ⟨by rfl, ?_⟩) (by assumption) ?_
      rotate_left
      · (intro wq hSw; (try dsimp only at hSw); go_simp; (try with_reducible rfl))
      simp only [Act.put, List.getElem_toArray, List.getElem_cons_zero, List.getElem_cons_succ, List.setIfInBounds_toArray, List.set_cons_zero, List.set_cons_succ]
      refine wpAnyH_ready (rs := [6]) (by kernel_rfl) (by simp) ?_
      refine AllReadyH.cons (by simp only [List.getElem?_toArray, List.getElem?_cons_succ, List.getElem?_cons_zero]; rfl) (fun K hK => ?_) AllReadyH.nil
      (refine step_append_room (by rfl) _ _ _ (by rfl) 36 i0 4 Tryd.underlying44 HI.out HSZ.out g off i cap (by rfl) ⟨g, off + j * 4, none⟩ m (cap - j) (xs.drop (j * 4)) (by rfl) HNL.out (fun q u hu => by rw [add_none4]; exact (HR.out.chg HWD.out (fun _ _ x => x)).cellAt (j * 4 + q) u (by rw [List.getElem?_drop] at hu; exact hu)) HNO.out (by have := HB.out.1; omega) (HSP.out wD HWD.out) ?_)
      refine hK.out _ _ ?_ (fun hHeld => ?_)
      · trivial
      clear hK K
      (try simp only [Act.put, List.getElem_toArray, List.getElem_cons_zero, List.getElem_cons_succ, List.setIfInBounds_toArray, List.set_cons_zero, List.set_cons_succ])
      refine wpAnyH_done (by kernel_rfl) ?_ _
      change wpList _ _ _ _ _ _
      simp only [List.drop_succ_cons, List.drop_zero]
      have hgd : wD.heap[g]? = some (.cells cur 36 (0, 0)) := HWD.out.keep HG.out (fun x => x)
      have hb5 := setCells_block (b := g) (xs.drop (j * 4)) (off + i * 4) hgd
      have HC5 := Lib.hid (Chg.setCells (b := g) (xs.drop (j * 4)) wD (off + i * 4))
      go_upto_region 6 with fail
      generalize wD.setCells g (off + i * 4) (xs.drop (j * 4)) = w5 at *
      have HB5 := Lib.hid hb5
      have hclr := run_clear_row (P := Tryd.prog) w5 44 36 0 i0 z 4 (putAt cur (off + i * 4) (xs.drop (j * 4))) Tryd.underlying44 HI.out HZ.out HSZ.out HZS.out HZO.out g (off + (i + m) * 4) (j - i) (cap - (i + m)) hb5 (by rw [putAt_size]; have := HB.out; have := HBC.out; omega) (by have := HB.out; omega)
      have HF := Lib.hid (HFIN.out w5 hb5)
      have hc6 := Chg.setCells (b := g) (Builtin.zeroCells z.cells (j - i)).toList w5 (off + (i + m) * 4)
      have HC6 := Lib.hid hc6
      have tn1 : ((i : Int) + (m : Int)).toNat = i + m := by omega
      have tn2 : ((j : Int) + (m : Int)).toNat = j + m := by omega
      have b1 : (0 : Int) ≤ (i : Int) + (m : Int) := by omega
      have b2 : (i : Int) + (m : Int) ≤ (j : Int) + (m : Int) := by omega
      have b3 : (j : Int) + (m : Int) ≤ (cap : Int) := by omega
      have b4 : j + m - (i + m) = j - i := by omega
      clear hc6 hgd hb5 HFIN
      generalize (Builtin.zeroCells z.cells (j - i)).toList = Z at *
      go_wp2_with fail
      go_ret
      refine ⟨_, rfl, ?_, ((HWD.out.trans HC5.out (fun _ _ x => x.elim) (fun _ _ x => x)).trans' HC6.out).mono (fun k _ e => by subst e; rfl), fun k h => h⟩
      rw [show j + m - (j - i) = i + m from by have := HB.out; omega]
      exact HF.out

set_option maxHeartbeats 6400000 in
set_option maxRecDepth 100000 in
theorem delP_any (w : World) (v : Value) (n i j : Nat) (xs : List Value) (hr : RowAt w 86 5 v n xs) (h1c : ∀ u ∈ xs, u.oneCell' = true) (hij : i ≤ j) (hj : j ≤ n) (hl : n ≤ 1000000) :
    Calls Tryd.prog 45 #[v, .int .i64 (i : Int), .int .i64 (j : Int)] w fun e w' => ∃ v', e = .returned v' ∧ RowAt w' 86 5 v' (n - (j - i)) (xs.take (i * 5) ++ xs.drop (j * 5)) ∧ Chg (fun k => v.ownBlock = some k) w w' ∧ (∀ k, v'.ownBlock = some k → v.ownBlock = some k) := by
  obtain ⟨m, hm⟩ : ∃ m, n = j + m := ⟨n - j, by omega⟩
  subst hm
  have i0' : (0 : Int) ≤ (i : Int) := by omega
  have j0' : (0 : Int) ≤ (j : Int) := by omega
  have ij' : (i : Int) ≤ (j : Int) := by omega
  have jn' : (j : Int) ≤ ((j + m : Nat) : Int) := by omega
  obtain ⟨a, cap, rfl, hnc, hcm⟩ := hr.slice
  by_cases he : i = j
  · subst he
    have HR := Lib.hid hr
    clear hr hij hj hl h1c
    have fin : ∀ W, W = w → RowAt W 86 5 (.slice a (i + m) cap) (i + m - (i - i)) (xs.take (i * 5) ++ xs.drop (i * 5)) := fun W e => by
      rw [e, Nat.sub_self, Nat.sub_zero, List.take_append_drop]; exact HR.out
    have FIN := Lib.hid fin
    clear fin
    rcases Nat.eq_zero_or_pos m with rfl | hmp
    · go_enter Tryd.func45, Tryd.ntmps45
      go_wp2_with fail
      go_ret
      exact ⟨_, rfl, by first | exact FIN.out _ rfl | simpa using FIN.out w rfl, Chg.refl _ _, fun k h => h⟩
    · have ne1 : ¬ i + m = i := by omega
      have ne2 : ¬ m = 0 := by omega
      go_enter Tryd.func45, Tryd.ntmps45
      go_wp2_with fail
      go_ret
      exact ⟨_, rfl, by first | exact FIN.out _ rfl | simpa using FIN.out w rfl, Chg.refl _ _, fun k h => h⟩
  · obtain ⟨g, off, cap', hv, hblk⟩ := hr.addr (by omega)
    cases hv
    obtain ⟨i0, z, hi, hz, hsz, hby, hzs, hzl⟩ := elemZ_prop
    have HZO := Lib.hid (show ∀ u ∈ z.cells.toList, u.oneCell' = true from fun u hu => by rw [hzl] at hu; simp only [List.mem_cons, List.not_mem_nil, or_false] at hu; rcases hu with rfl | rfl | rfl | rfl | rfl <;> rfl)
    have hxl := hr.1
    obtain ⟨g', off', cap'', cur, hv, hg, h1, h2, h3, h4⟩ : ∃ g' off' cap'' cur, Value.slice (some ⟨g, off, none⟩) (j + m) cap = .slice (some ⟨g', off', none⟩) (j + m) cap'' ∧ w.heap[g']? = some (.cells cur 86 (0, 0)) ∧ j + m ≤ cap'' ∧ cap'' ≤ maxLen ∧ off' + cap'' * 5 ≤ cur.size ∧ (cur.toList.drop off').take ((j + m) * 5) = xs := by
      rcases hr.2 with ⟨hv, -⟩ | h
      · cases hv
      · exact h
    cases hv
    have HG := Lib.hid hg
    have HB := Lib.hid (show j + m ≤ cap ∧ i < j ∧ j + m ≤ 1000000 from ⟨h1, by omega, hl⟩)
    have HBC := Lib.hid h3
    have HXS := Lib.hid h4
    have HI := Lib.hid hi
    have HZ := Lib.hid hz
    have HSZ := Lib.hid hsz
    have HZS := Lib.hid hzs
    have HR := Lib.hid hr
    have HXL := Lib.hid hxl
    have HCM := Lib.hid hcm
    have H1 := Lib.hid h1c
    have ne1 : ¬ j + m = i := by omega
    have ne2 : ¬ cap = 0 := by omega
    have ne3 : ¬ cap = i + m := by omega
    have ne4 : (i : Int) ≠ (j : Int) := by omega
    have ne5 : ((i : Int) == (j : Int)) = false := beq_false_of_ne ne4
    have c1 : (i : Int) ≤ (cap : Int) := by omega
    have c3 : (j : Int) ≤ (j : Int) + (m : Int) := by omega
    have c2 : ((j + m : Nat) : Int) ≤ (cap : Int) := by omega
    clear hg h1 h2 h3 h4 h1c hi hz hsz hzs hby hzl hr hxl hij hj hl hnc hcm hblk
    have HNL : Hid ((xs.drop (j * 5)).length = m * 5) := Lib.hid (by rw [List.length_drop, HXL.out]; omega)
    have HNO : Hid (∀ u ∈ xs.drop (j * 5), u.oneCell' = true) := Lib.hid (fun u hu => H1.out u (List.mem_of_mem_drop hu))
    have HSP : Hid (∀ W, Chg (fun _ => False) w W → ∀ q, q < (xs.drop (j * 5)).length → (W.cell? ⟨g, off + i * 5 + q, none⟩).isSome = true ∧ W.frozen? ⟨g, off + i * 5 + q, none⟩ = false) := Lib.hid (fun W hc q hq => by
      have hb := hc.keep HG.out (fun x => x)
      rw [HNL.out] at hq
      exact ⟨by rw [cell_of_block hb (Array.getElem?_eq_getElem (by have := HB.out; have := HBC.out; omega))]; rfl, frozen_of_block hb⟩)
    have HFIN : Hid (∀ (w5 : World), w5.heap[g]? = some (.cells (putAt cur (off + i * 5) (xs.drop (j * 5))) 86 (0, 0)) → RowAt (w5.setCells g (off + (i + m) * 5) (Builtin.zeroCells z.cells (j - i)).toList) 86 5 (.slice (some ⟨g, off, none⟩) (i + m) cap) (i + m) (xs.take (i * 5) ++ xs.drop (j * 5))) := Lib.hid (fun w5 hb5 =>
      del_row hb5 HXS.out HXL.out HNL.out (by have := HB.out; omega) (by have := HB.out; omega) HCM.out HBC.out (by rw [Array.length_toList, size_zeroCells, HZS.out]; have := HB.out; have := HBC.out; omega))
    by_cases hcj : j = cap
    · subst hcj
      have hm0 : m = 0 := by have := HB.out; omega
      subst hm0
      simp only [Nat.add_zero, Nat.zero_mul] at HXS HXL ne1 HNL HB HR ne3 c2 HFIN jn'
      go_enter Tryd.func45, Tryd.ntmps45
      go_upto_region 5 with fail

      refine wp_region_held_split 7 (fun _ => True) (by kernel_rfl) (by kernel_rfl) ?_ (fun hHeld => ?_)
      · trivial
      simp only [List.take_succ_cons, List.take_zero]
      have HWD : Hid (Chg (fun _ => False) w w.drew) := Lib.hid (Chg.refl _ w).drewR
      generalize w.drew = wD at *
      refine wpAnyH_take (i := 0) (v := ?_) rfl (by kernel_rfl) (by kernel_rfl) (by kernel_rfl) (fun _ _ _ h => h) (Or.inl ⟨by rfl, ?_⟩) (by assumption) ?_
      rotate_left
      · (intro wq hSw; (try dsimp only at hSw); go_simp; (try with_reducible rfl))
      simp only [Act.put, List.getElem_toArray, List.getElem_cons_zero, List.getElem_cons_succ, List.setIfInBounds_toArray, List.set_cons_zero, List.set_cons_succ]
      refine wpAnyH_take (i := 1) (v := ?_) rfl (by kernel_rfl) (by kernel_rfl) (by kernel_rfl) (fun _ _ _ h => h) (Or.inl ⟨by rfl, ?_⟩) (by assumption) ?_
      rotate_left
      · (intro wq hSw; (try dsimp only at hSw); go_simp; (try with_reducible rfl))
      simp only [Act.put, List.getElem_toArray, List.getElem_cons_zero, List.getElem_cons_succ, List.setIfInBounds_toArray, List.set_cons_zero, List.set_cons_succ]
      refine wpAnyH_take (i := 2) (v := ?_) rfl (by kernel_rfl) (by kernel_rfl) (by kernel_rfl) (fun _ _ _ h => h) (Or.inl ⟨by rfl, ?_⟩) (by assumption) ?_
      rotate_left
      · (intro wq hSw; (try dsimp only at hSw); go_simp; (try with_reducible rfl))
      simp only [Act.put, List.getElem_toArray, List.getElem_cons_zero, List.getElem_cons_succ, List.setIfInBounds_toArray, List.set_cons_zero, List.set_cons_succ]
      refine wpAnyH_take (i := 3) (v := ?_) rfl (by kernel_rfl) (by kernel_rfl) (by kernel_rfl) (fun _ _ _ h => h) (Or.inl ⟨by rfl, ?_⟩) (by assumption) ?_
      rotate_left
      · (intro wq hSw; (try dsimp only at hSw); go_simp; (try with_reducible rfl))
      simp only [Act.put, List.getElem_toArray, List.getElem_cons_zero, List.getElem_cons_succ, List.setIfInBounds_toArray, List.set_cons_zero, List.set_cons_succ]
      refine wpAnyH_take (i := 4) (v := ?_) rfl (by kernel_rfl) (by kernel_rfl) (by kernel_rfl) (fun _ _ _ h => h) (Or.inl ⟨by rfl, ?_⟩) (by assumption) ?_
      rotate_left
      · (intro wq hSw; (try dsimp only at hSw); go_simp; (try with_reducible rfl))
      simp only [Act.put, List.getElem_toArray, List.getElem_cons_zero, List.getElem_cons_succ, List.setIfInBounds_toArray, List.set_cons_zero, List.set_cons_succ]
      refine wpAnyH_take (i := 5) (v := ?_) rfl (by kernel_rfl) (by kernel_rfl) (by kernel_rfl) (fun _ _ _ h => h) (Or.inl ⟨by rfl, ?_⟩) (by assumption) ?_
      rotate_left
      · (intro wq hSw; (try dsimp only at hSw); go_simp; (try with_reducible rfl))
      simp only [Act.put, List.getElem_toArray, List.getElem_cons_zero, List.getElem_cons_succ, List.setIfInBounds_toArray, List.set_cons_zero, List.set_cons_succ]
      refine wpAnyH_ready (rs := [6]) (by kernel_rfl) (by simp) ?_
      refine AllReadyH.cons (by simp only [List.getElem?_toArray, List.getElem?_cons_succ, List.getElem?_cons_zero]; rfl) (fun K hK => ?_) AllReadyH.nil
      (refine step_append_room (by rfl) _ _ _ (by rfl) 86 i0 5 Tryd.underlying43 HI.out HSZ.out g off i j (by rfl) ⟨g, off, none⟩ 0 0 (xs.drop (j * 5)) (by rfl) HNL.out (fun q u hu => by have h0 := (List.getElem?_eq_some_iff.1 hu).1; rw [HNL.out] at h0; omega) HNO.out (by have := HB.out.1; omega) (HSP.out wD HWD.out) ?_)
      refine hK.out _ _ ?_ (fun hHeld => ?_)
      · trivial
      clear hK K
      (try simp only [Act.put, List.getElem_toArray, List.getElem_cons_zero, List.getElem_cons_succ, List.setIfInBounds_toArray, List.set_cons_zero, List.set_cons_succ])
      refine wpAnyH_done (by kernel_rfl) ?_ _
      change wpList _ _ _ _ _ _
      simp only [List.drop_succ_cons, List.drop_zero]
      have hgd : wD.heap[g]? = some (.cells cur 86 (0, 0)) := HWD.out.keep HG.out (fun x => x)
      have hb5 := setCells_block (b := g) (xs.drop (j * 5)) (off + i * 5) hgd
      have HC5 := Lib.hid (Chg.setCells (b := g) (xs.drop (j * 5)) wD (off + i * 5))
      go_upto_region 6 with fail
      generalize wD.setCells g (off + i * 5) (xs.drop (j * 5)) = w5 at *
      have HB5 := Lib.hid hb5
      have hclr := run_clear_row (P := Tryd.prog) w5 43 86 0 i0 z 5 (putAt cur (off + i * 5) (xs.drop (j * 5))) Tryd.underlying43 HI.out HZ.out HSZ.out HZS.out HZO.out g (off + i * 5) (j - i) (j - i) hb5 (by rw [putAt_size]; have := HB.out; have := HBC.out; omega) (by have := HB.out; omega)
      have HF := Lib.hid (HFIN.out w5 hb5)
      have hc6 := Chg.setCells (b := g) (Builtin.zeroCells z.cells (j - i)).toList w5 (off + i * 5)
      have HC6 := Lib.hid hc6
      have tn1 : ((i : Int) + (0 : Int)).toNat = i := by omega
      have tn2 : ((j : Int) + (0 : Int)).toNat = j := by omega
      have b1 : (0 : Int) ≤ (i : Int) + (0 : Int) := by omega
      have b2 : (i : Int) + (0 : Int) ≤ (j : Int) + (0 : Int) := by omega
      have b3 : (j : Int) + (0 : Int) ≤ (j : Int) := by omega
      have b4 : j - i = j - i := by omega
      clear hc6 hgd hb5 HFIN
      generalize (Builtin.zeroCells z.cells (j - i)).toList = Z at *
      go_wp2_with fail
      go_ret
      refine ⟨_, rfl, ?_, ((HWD.out.trans HC5.out (fun _ _ x => x.elim) (fun _ _ x => x)).trans' HC6.out).mono (fun k _ e => by subst e; rfl), fun k h => h⟩
      rw [show j - (j - i) = i from by have := HB.out; omega]
      exact HF.out
    · have ne6 : ¬ cap = j := fun e => hcj e.symm
      clear hcj
      go_enter Tryd.func45, Tryd.ntmps45
      go_upto_region 5 with fail

      refine wp_region_held_split 7 (fun _ => True) (by kernel_rfl) (by kernel_rfl) ?_ (fun hHeld => ?_)
      · trivial
      simp only [List.take_succ_cons, List.take_zero]
      have HWD : Hid (Chg (fun _ => False) w w.drew) := Lib.hid (Chg.refl _ w).drewR
      generalize w.drew = wD at *
      refine wpAnyH_take (i := 0) (v := ?_) rfl (by kernel_rfl) (by kernel_rfl) (by kernel_rfl) (fun _ _ _ h => h) (Or.inl ⟨by rfl, ?_⟩) (by assumption) ?_
      rotate_left
      · (intro wq hSw; (try dsimp only at hSw); go_simp; (try with_reducible rfl))
      simp only [Act.put, List.getElem_toArray, List.getElem_cons_zero, List.getElem_cons_succ, List.setIfInBounds_toArray, List.set_cons_zero, List.set_cons_succ]
      refine wpAnyH_take (i := 1) (v := ?_) rfl (by kernel_rfl) (by kernel_rfl) (by kernel_rfl) (fun _ _ _ h => h) (Or.inl ⟨by rfl, ?_⟩) (by assumption) ?_
      rotate_left
      · (intro wq hSw; (try dsimp only at hSw); go_simp; (try with_reducible rfl))
      simp only [Act.put, List.getElem_toArray, List.getElem_cons_zero, List.getElem_cons_succ, List.setIfInBounds_toArray, List.set_cons_zero, List.set_cons_succ]
      refine wpAnyH_take (i := 2) (v := ?_) rfl (by kernel_rfl) (by kernel_rfl) (by kernel_rfl) (fun _ _ _ h => h) (Or.inl ⟨by rfl, ?_⟩) (by assumption) ?_
      rotate_left
      · (intro wq hSw; (try dsimp only at hSw); go_simp; (try with_reducible rfl))
      simp only [Act.put, List.getElem_toArray, List.getElem_cons_zero, List.getElem_cons_succ, List.setIfInBounds_toArray, List.set_cons_zero, List.set_cons_succ]
      refine wpAnyH_take (i := 3) (v := ?_) rfl (by kernel_rfl) (by kernel_rfl) (by kernel_rfl) (fun _ _ _ h => h) (Or.inl ⟨by rfl, ?_⟩) (by assumption) ?_
      rotate_left
      · (intro wq hSw; (try dsimp only at hSw); go_simp; (try with_reducible rfl))
      simp only [Act.put, List.getElem_toArray, List.getElem_cons_zero, List.getElem_cons_succ, List.setIfInBounds_toArray, List.set_cons_zero, List.set_cons_succ]
      refine wpAnyH_take (i := 4) (v := ?_) rfl (by kernel_rfl) (by kernel_rfl) (by kernel_rfl) (fun _ _ _ h => h) (Or.inl ⟨by rfl, ?_⟩) (by assumption) ?_
      rotate_left
      · (intro wq hSw; (try dsimp only at hSw); go_simp; (try with_reducible rfl))
      simp only [Act.put, List.getElem_toArray, List.getElem_cons_zero, List.getElem_cons_succ, List.setIfInBounds_toArray, List.set_cons_zero, List.set_cons_succ]
      refine wpAnyH_take (i := 5) (v := ?_) rfl (by kernel_rfl) (by kernel_rfl) (by kernel_rfl) (fun _ _ _ h => h) (Or.inl ⟨by rfl, ?_⟩) (by assumption) ?_
      rotate_left
      · (intro wq hSw; (try dsimp only at hSw); go_simp; (try with_reducible rfl))
      simp only [Act.put, List.getElem_toArray, List.getElem_cons_zero, List.getElem_cons_succ, List.setIfInBounds_toArray, List.set_cons_zero, List.set_cons_succ]
      refine wpAnyH_ready (rs := [6]) (by kernel_rfl) (by simp) ?_
      refine AllReadyH.cons (by simp only [List.getElem?_toArray, List.getElem?_cons_succ, List.getElem?_cons_zero]; rfl) (fun K hK => ?_) AllReadyH.nil
      (refine step_append_room (by rfl) _ _ _ (by rfl) 86 i0 5 Tryd.underlying43 HI.out HSZ.out g off i cap (by rfl) ⟨g, off + j * 5, none⟩ m (cap - j) (xs.drop (j * 5)) (by rfl) HNL.out (fun q u hu => by rw [add_none4]; exact (HR.out.chg HWD.out (fun _ _ x => x)).cellAt (j * 5 + q) u (by rw [List.getElem?_drop] at hu; exact hu)) HNO.out (by have := HB.out.1; omega) (HSP.out wD HWD.out) ?_)
      refine hK.out _ _ ?_ (fun hHeld => ?_)
      · trivial
      clear hK K
      (try simp only [Act.put, List.getElem_toArray, List.getElem_cons_zero, List.getElem_cons_succ, List.setIfInBounds_toArray, List.set_cons_zero, List.set_cons_succ])
      refine wpAnyH_done (by kernel_rfl) ?_ _
      change wpList _ _ _ _ _ _
      simp only [List.drop_succ_cons, List.drop_zero]
      have hgd : wD.heap[g]? = some (.cells cur 86 (0, 0)) := HWD.out.keep HG.out (fun x => x)
      have hb5 := setCells_block (b := g) (xs.drop (j * 5)) (off + i * 5) hgd
      have HC5 := Lib.hid (Chg.setCells (b := g) (xs.drop (j * 5)) wD (off + i * 5))
      go_upto_region 6 with fail
      generalize wD.setCells g (off + i * 5) (xs.drop (j * 5)) = w5 at *
      have HB5 := Lib.hid hb5
      have hclr := run_clear_row (P := Tryd.prog) w5 43 86 0 i0 z 5 (putAt cur (off + i * 5) (xs.drop (j * 5))) Tryd.underlying43 HI.out HZ.out HSZ.out HZS.out HZO.out g (off + (i + m) * 5) (j - i) (cap - (i + m)) hb5 (by rw [putAt_size]; have := HB.out; have := HBC.out; omega) (by have := HB.out; omega)
      have HF := Lib.hid (HFIN.out w5 hb5)
      have hc6 := Chg.setCells (b := g) (Builtin.zeroCells z.cells (j - i)).toList w5 (off + (i + m) * 5)
      have HC6 := Lib.hid hc6
      have tn1 : ((i : Int) + (m : Int)).toNat = i + m := by omega
      have tn2 : ((j : Int) + (m : Int)).toNat = j + m := by omega
      have b1 : (0 : Int) ≤ (i : Int) + (m : Int) := by omega
      have b2 : (i : Int) + (m : Int) ≤ (j : Int) + (m : Int) := by omega
      have b3 : (j : Int) + (m : Int) ≤ (cap : Int) := by omega
      have b4 : j + m - (i + m) = j - i := by omega
      clear hc6 hgd hb5 HFIN
      generalize (Builtin.zeroCells z.cells (j - i)).toList = Z at *
      go_wp2_with fail
      go_ret
      refine ⟨_, rfl, ?_, ((HWD.out.trans HC5.out (fun _ _ x => x.elim) (fun _ _ x => x)).trans' HC6.out).mono (fun k _ e => by subst e; rfl), fun k h => h⟩
      rw [show j + m - (j - i) = i + m from by have := HB.out; omega]
      exact HF.out
end Go.Proofs.YtjianickjahdnaaDoor
namespace Go.Proofs.YtjianickjahdnaaDoor
open Go.RowKit
set_option linter.unusedVariables false
set_option linter.unusedSimpArgs false

theorem elem_str : Elem Tryd.prog 9 1 16 := elem_of (by kernel_rfl)
def strC (l : List ByteArray) : List Value := l.map (Value.string)
theorem strC_ones (l : List ByteArray) : Ones (strC l) := fun u hu => by
  obtain ⟨x, -, rfl⟩ := List.mem_map.1 hu
  rfl
theorem strC_len (l : List ByteArray) : (strC l).length = l.length := List.length_map ..
/-- A list of strings, made behind w0. -/
structure OutS (w0 w : World) (v : Value) (l : List ByteArray) : Prop where
  row : RowAt w 9 1 v l.length (strC l)
  lo : ∀ k, v.ownBlock = some k → w0.heap.size ≤ k
  chg : Chg (fun _ => False) w0 w
section
variable {w0 w w1 w2 : World} {v : Value} {l m : List ByteArray}
theorem OutS.nil (w : World) : OutS w w (.slice none 0 0) [] := ⟨RowAt.nil _ _ _, fun k hk => by simp [Value.ownBlock] at hk, Chg.refl _ _⟩
theorem OutS.still (h : OutS w0 w v l) (hc : Chg (fun _ => False) w w1) : OutS w0 w1 v l := ⟨h.row.chg hc (fun _ _ x => x), h.lo, h.chg.trans' hc⟩
theorem OutS.drew (h : OutS w0 w v l) : OutS w0 w.drew v l := h.still ((Chg.refl _ w).drewR)
theorem OutS.alloc (h : OutS w0 w v l) (o : _root_.Go.Obj) : OutS w0 (w.alloc o) v l := h.still (Chg.alloc _ w o)
theorem OutS.val (h : OutS w0 w v l) : ∃ a cap, v = .slice a l.length cap ∧ l.length ≤ cap ∧ cap ≤ maxLen := h.row.slice
theorem OutS.at (h : OutS w0 w v l) {k : Nat} (hk : k < l.length) : ∃ g off cap, v = .slice (some ⟨g, off, none⟩) l.length cap ∧ w.cell? ⟨g, off + k, none⟩ = some (.string l[k]) := by
  obtain ⟨g, off, cap, rfl, -, -⟩ := h.row.addr (by omega)
  exact ⟨g, off, cap, rfl, h.row.cellAt k _ (by simp [strC, hk])⟩
/-- Kept by what changes other blocks alone. -/
theorem OutS.other {S : Nat → Prop} (h : OutS w0 w v l) (hc : Chg S w w1) (hn : ∀ k, v.ownBlock = some k → ¬ S k) (hS : ∀ k, k < w0.heap.size → ¬ S k) : OutS w0 w1 v l :=
  ⟨h.row.chg hc hn, h.lo, h.chg.trans hc (fun _ _ x => x) (fun i hi x => hS i hi x)⟩
theorem OutS.lt (h : OutS w0 w v l) : ∀ k, v.ownBlock = some k → k < w.heap.size := h.row.lt
end
theorem OutS.from {w0 wa w : World} {v : Value} {l : List ByteArray} (h : OutS wa w v l) (hc : Chg (fun _ => False) w0 wa) : OutS w0 w v l := ⟨h.row, fun k hk => Nat.le_trans hc.size (h.lo k hk), hc.trans' h.chg⟩
/-- append in a region that draws. -/
theorem step_outS {W w0 : World} {ops : Array Oper} {o : Oper} {a : Act} {K : Act → World → Prop} {Q : Exit → Act → World → Prop} {E : Prop} (hgd : o.guard = none) (s x : Operand)
    (ho : o.op = .call { callee := .builtin .append, args := #[s, x], argTypes := #[56, 56] })
    (v : Value) (l : List ByteArray) (hsv : a.eval s = v) (H : OutS w0 W v l) (xv : Value) (m : List ByteArray) (hx : a.eval x = xv) (hxr : RowAt W 9 1 xv m.length (strC m)) (hf : Few (l.length + m.length))
    (h : ∀ a1 n1 c1 w', OutS w0 w' (.slice a1 n1 c1) (l ++ m) → Chg (fun k => v.ownBlock = some k) W w' → (∀ k, (Value.slice a1 n1 c1).ownBlock = some k → v.ownBlock = some k ∨ W.heap.size ≤ k) → K (a.put o.dst (.slice a1 n1 c1)) w') :
    if Region.wanted o (yielded ops a.tmps) = true then Oper.wp Tryd.prog o a W K Q else E := by
  refine step_append_rows hgd s x 56 ho 9 1 16 Tryd.underlying56 elem_str (by decide) v l.length (strC l) hsv H.row xv m.length (strC m) hx hxr (strC_ones m) (by have := hf.lt; unfold maxLen; omega) (by have := hf.lt; omega) ?_
  intro a1 n1 c1 w' hrow hchg hold
  refine h a1 n1 c1 w' ⟨?_, fun k hk => ?_, ?_⟩ hchg hold
  · have : strC l ++ strC m = strC (l ++ m) := by simp [strC]
    rw [List.length_append, ← this]; exact hrow
  · rcases hold k hk with x | x
    · exact H.lo k x
    · exact Nat.le_trans H.chg.size x
  · exact H.chg.trans hchg (fun _ _ x => x) (fun i hi x => by have := H.lo i x; omega)
/-- append to such a list. -/
theorem wpList_outS {W w0 : World} {ops : Array Oper} {rest : List Oper} {o : Oper} {a : Act} {Q : Exit → Act → World → Prop} (hgd : o.guard = none) (s x : Operand)
    (ho : o.op = .call { callee := .builtin .append, args := #[s, x], argTypes := #[56, 56] })
    (v : Value) (l : List ByteArray) (hsv : a.eval s = v) (H : OutS w0 W v l) (xv : Value) (m : List ByteArray) (hx : a.eval x = xv) (hxr : RowAt W 9 1 xv m.length (strC m)) (hf : Few (l.length + m.length))
    (h : ∀ a1 n1 c1 w', OutS w0 w' (.slice a1 n1 c1) (l ++ m) → Chg (fun k => v.ownBlock = some k) W w' → (∀ k, (Value.slice a1 n1 c1).ownBlock = some k → v.ownBlock = some k ∨ W.heap.size ≤ k) → wpList Tryd.prog ops Q rest (a.put o.dst (.slice a1 n1 c1)) w') :
    wpList Tryd.prog ops Q (o :: rest) a W := by
  refine list_append_rows hgd s x 56 ho 9 1 16 Tryd.underlying56 elem_str (by decide) v l.length (strC l) hsv H.row xv m.length (strC m) hx hxr (strC_ones m) (by have := hf.lt; unfold maxLen; omega) (by have := hf.lt; omega) ?_
  intro a1 n1 c1 w' hrow hchg hold
  refine h a1 n1 c1 w' ⟨?_, fun k hk => ?_, ?_⟩ hchg hold
  · have : strC l ++ strC m = strC (l ++ m) := by simp [strC]
    rw [List.length_append, ← this]; exact hrow
  · rcases hold k hk with x | x
    · exact H.lo k x
    · exact Nat.le_trans H.chg.size x
  · exact H.chg.trans hchg (fun _ _ x => x) (fun i hi x => by have := H.lo i x; omega)

structure HS (w W : World) (bh : Nat) (hp : Hp) (v : Value) (L : List ByteArray) (F : List Nat) : Prop where
  heap : Own hpR w W bh 0 hp F
  li : OutS w W v L
  d : ∀ k ∈ bh :: F, k ∉ ownL v
section
variable {w W W' : World} {bh : Nat} {hp hp' : Hp} {v v' : Value} {L L' : List ByteArray} {F : List Nat}
theorem HS.still (h : HS w W bh hp v L F) (hc : Chg (fun _ => False) W W') : HS w W' bh hp v L F := ⟨h.heap.still hc, h.li.still hc, h.d⟩
theorem HS.heapS (h : HS w W bh hp v L F) (hp1 : Post hpR W bh 0 hp' F W') : ∃ F', HS w W' bh hp' v L F' := by
  obtain ⟨F', h1, h2⟩ := hp1
  have hS : ∀ k, (k = bh ∨ k ∈ F) → k ∈ bh :: F := fun k x => x.elim (fun e => e ▸ List.mem_cons_self ..) (List.mem_cons_of_mem _)
  have hlo : ∀ k, (k = bh ∨ k ∈ F) → w.heap.size ≤ k := fun k x => h.heap.allLo k (hS k x)
  exact ⟨F', h.heap.step h1 h2, h.li.other h2.chg (fun k hk x => h.d k (hS k x) (mem_ownL.2 hk)) (fun k hk x => by have := hlo k x; omega),
    apart_grow h.d h2.new (fun k hk => h.li.row.lt k (mem_ownL.1 hk))⟩
theorem HS.liS (h : HS w W bh hp v L F) (hc : Chg (fun k => v.ownBlock = some k) W W') (ho : OutS w W' v' L') (hold : ∀ k, v'.ownBlock = some k → v.ownBlock = some k ∨ W.heap.size ≤ k) : HS w W' bh hp v' L' F :=
  ⟨h.heap.beside hc (fun k hk x => h.d k hk (mem_ownL.2 x)) h.li.lo, ho, fun k hk x => by
    rcases hold k (mem_ownL.1 x) with y | y
    · exact h.d k hk (mem_ownL.2 y)
    · have := h.heap.allLt k hk; omega⟩
theorem HS.of (h : Own hpR w W bh 0 hp F) : HS w W bh hp (.slice none 0 0) [] F :=
  ⟨h, ⟨RowAt.nil _ _ _, fun k hk => by simp [Value.ownBlock] at hk, h.chg⟩, fun k hk x => by simp [ownL, Value.ownBlock] at x⟩
end
/-- A heap, a list under construction, and rows that stay. -/
structure HK (w W : World) (bh : Nat) (hp : Hp) (F : List Nat) (v : Value) (L : List ByteArray) (R : List (Value × List ByteArray)) : Prop where
  heap : Own hpR w W bh 0 hp F
  li : OutS w W v L
  d : ∀ k ∈ bh :: F, k ∉ ownL v
  rows : ∀ r ∈ R, RowAt W 9 1 r.1 r.2.length (strC r.2) ∧ ∀ k, v.ownBlock = some k → r.1.ownBlock ≠ some k
section
variable {w W W' : World} {bh : Nat} {hp : Hp} {F : List Nat} {v v' : Value} {L L' : List ByteArray} {R : List (Value × List ByteArray)}
theorem HK.start (h : HS w W bh hp v L F) : HK w W bh hp F (.slice none 0 0) [] [(v, L)] :=
  ⟨h.heap, ⟨RowAt.nil _ _ _, fun k hk => by simp [Value.ownBlock] at hk, h.heap.chg⟩, fun k hk x => by simp [ownL, Value.ownBlock] at x, fun r hr => by
    rw [List.mem_singleton] at hr
    subst hr
    exact ⟨h.li.row, fun k hk => by simp [Value.ownBlock] at hk⟩⟩
theorem HK.still (h : HK w W bh hp F v L R) (hc : Chg (fun _ => False) W W') : HK w W' bh hp F v L R :=
  ⟨h.heap.still hc, h.li.still hc, h.d, fun r hr => ⟨(h.rows r hr).1.chg hc (fun _ _ x => x), (h.rows r hr).2⟩⟩
theorem HK.fresh (h : HK w W bh hp F (.slice none 0 0) [] R) : HK w (W.alloc (.cells #[] 9)) bh hp F (.slice (some ⟨W.heap.size, 0, none⟩) 0 0) [] R := by
  have hc := Chg.alloc (fun _ => False) W (.cells #[] 9)
  have hob : ∀ k, (Value.slice (some ⟨W.heap.size, 0, none⟩) 0 0).ownBlock = some k → k = W.heap.size := fun k hk => by simpa [Value.ownBlock, eq_comm] using hk
  refine ⟨h.heap.still hc, ⟨RowAt.fresh W _ 1 _ rfl, fun k hk => by rw [hob k hk]; exact h.heap.chg.size, h.li.chg.trans' hc⟩, fun k hk x => ?_, fun r hr => ⟨(h.rows r hr).1.chg hc (fun _ _ x => x), fun k hk e => ?_⟩⟩
  · have := hob k (mem_ownL.1 x)
    have := h.heap.allLt k hk
    omega
  · have := hob k hk
    have := (h.rows r hr).1.lt k e
    omega
theorem HK.lit (h : HK w W bh hp F v L R) (key : ByteArray) : HK w (W.alloc (.cells #[.string key] 9)) bh hp F v L ((.slice (some ⟨W.heap.size, 0, none⟩) 1 1, [key]) :: R) := by
  have hc := Chg.alloc (fun _ => False) W (.cells #[.string key] 9)
  refine ⟨h.heap.still hc, h.li.still hc, h.d, fun r hr => ?_⟩
  rcases List.mem_cons.1 hr with rfl | hr
  · refine ⟨RowAt.lit [.string key] rfl (by simp [maxLen]), fun k hk e => ?_⟩
    have h1 : W.heap.size = k := by simpa [Value.ownBlock] using e
    have := h.li.lt k hk
    omega
  · exact ⟨(h.rows r hr).1.chg hc (fun _ _ x => x), (h.rows r hr).2⟩
theorem HK.app (h : HK w W bh hp F v L R) (hc : Chg (fun k => v.ownBlock = some k) W W') (ho : OutS w W' v' L') (hold : ∀ k, v'.ownBlock = some k → v.ownBlock = some k ∨ W.heap.size ≤ k) : HK w W' bh hp F v' L' R := by
  refine ⟨h.heap.beside hc (fun k hk x => h.d k hk (mem_ownL.2 x)) h.li.lo, ho, fun k hk x => ?_, fun r hr => ⟨(h.rows r hr).1.chg hc (fun k hk x => (h.rows r hr).2 k x hk), fun k hk e => ?_⟩⟩
  · rcases hold k (mem_ownL.1 x) with y | y
    · exact h.d k hk (mem_ownL.2 y)
    · have := h.heap.allLt k hk; omega
  · rcases hold k hk with y | y
    · exact (h.rows r hr).2 k y e
    · have := (h.rows r hr).1.lt k e; omega
theorem HK.done (h : HK w W bh hp F v L R) : HS w W bh hp v L F := ⟨h.heap, h.li, h.d⟩
end
theorem strC_take (L : List ByteArray) (k : Nat) : (strC L).take k = strC (L.take k) := by unfold strC; rw [List.map_take]
theorem strC_drop (L : List ByteArray) (k : Nat) : (strC L).drop k = strC (L.drop k) := by unfold strC; rw [List.map_drop]
theorem RowAt.preS {W : World} {p : Option Addr} {n c k : Nat} {L : List ByteArray} (h : RowAt W 9 1 (.slice p n c) L.length (strC L)) (hk : k ≤ L.length) (hn : n = L.length) : RowAt W 9 1 (.slice p k c) (L.take k).length (strC (L.take k)) := by
  subst hn
  have := h.prefix hk
  rw [Nat.mul_one, strC_take] at this
  rwa [show (L.take k).length = k by rw [List.length_take]; omega]
theorem RowAt.sufS {W : World} {g off n c k : Nat} {L : List ByteArray} (h : RowAt W 9 1 (.slice (some ⟨g, off, none⟩) n c) L.length (strC L)) (hk : k ≤ L.length) (hn : n = L.length) : RowAt W 9 1 (.slice (if c = k then some ⟨g, off, none⟩ else some ⟨g, off + k, none⟩) (n - k) (c - k)) (L.drop k).length (strC (L.drop k)) := by
  subst hn
  have := h.suffix hk
  unfold reslS at this
  rw [Nat.mul_one, strC_drop, Option.map_some, show (⟨g, off, none⟩ : Addr).add k = ⟨g, off + k, none⟩ from by unfold Addr.add; split <;> simp_all] at this
  rwa [show (L.drop k).length = L.length - k by rw [List.length_drop]]
end Go.Proofs.YtjianickjahdnaaDoor
namespace Go.Proofs.YtjianickjahdnaaDoor
open Go.RowKit
set_option linter.unusedVariables false
set_option linter.unusedSimpArgs false

theorem cells_oneP (l : List Prp) : ∀ u ∈ l.flatMap Prp.cells, u.oneCell' = true := fun u hu => by
  obtain ⟨v, -, h⟩ := List.mem_flatMap.1 hu
  unfold Prp.cells at h
  simp only [List.mem_cons, List.not_mem_nil, or_false] at h
  rcases h with rfl | rfl | rfl | rfl | rfl <;> rfl
theorem flatP_take : ∀ (l : List Prp) (n : Nat), (l.flatMap Prp.cells).take (n * 5) = (l.take n).flatMap Prp.cells
  | [], n => by simp
  | a :: l, 0 => by simp
  | a :: l, n + 1 => by
    have ih := flatP_take l n
    have hl : a.cells.length = 5 := Prp.len a
    rw [List.flatMap_cons, List.take_succ_cons, List.flatMap_cons, show (n + 1) * 5 = a.cells.length + n * 5 by rw [hl]; omega, List.take_length_add_append, ih]
theorem flatP_drop : ∀ (l : List Prp) (n : Nat), (l.flatMap Prp.cells).drop (n * 5) = (l.drop n).flatMap Prp.cells
  | [], n => by simp
  | a :: l, 0 => by simp
  | a :: l, n + 1 => by
    have ih := flatP_drop l n
    have hl : a.cells.length = 5 := Prp.len a
    rw [List.flatMap_cons, List.drop_succ_cons, show (n + 1) * 5 = a.cells.length + n * 5 by rw [hl]; omega, List.drop_length_add_append, ih]
set_option maxHeartbeats 6400000 in
set_option maxRecDepth 100000 in
theorem del_not (w : World) (b : Nat) (hp : Hp) (F : List Nat) (h : Int) (i : Nat) (key : ByteArray) (H : Here hpR w b 0 hp F) (hi : -9223372036854775808 ≤ h ∧ h ≤ 9223372036854775807) (hs : slotOf hp h = some i) (hl : i < hp.slots.length) (hk : hp.slots[i].obj.kind ≠ 1)
    (hf : findP key hp.slots[i].obj.props 0 = none) :
    Calls Tryd.prog 26 #[.pointer (some ⟨b, 0, none⟩), .int .i64 h, .string key] w fun e w' => e = .returned (.bool true) ∧ Chg (fun _ => False) w w' := by
  obtain ⟨gh, oh, kh, c2, G, HOBJ0, hGF, hput⟩ := hpPut H hl
  obtain ⟨vp, ve, vd, vs, HOC⟩ := objOpen HOBJ0
  have z1 : (hp.slots[i].obj.kind == 1) = false := beq_false_of_ne hk
  have hat := hat_any _ b 0 hp F h _ H (by rw [Nat.zero_add]; exact c2) hi
  rw [hs, show objPtr (.slice (some ⟨gh, oh, none⟩) hp.slots.length kh) (some i) = some ⟨gh, oh + i * 11 + 1, none⟩ from rfl] at hat
  have HAT := Lib.hid hat
  have HC0 := Lib.hid HOC.c0
  have HC2 := Lib.hid HOC.c2
  have HRP := Lib.hid HOC.rp
  generalize hp.slots[i].obj = x at *
  have HF := Lib.hid hf
  clear HOBJ0 hGF hput HOC c2 hi hs H hk hat hf
  go_enter Tryd.func26, Tryd.ntmps26
  go_upto_region 4 with (go_at_call 35; refine HAT.out.mono ?_; rintro e wa ⟨rfl, hca⟩)
  have HC1 := Lib.hid hca
  have c0 := HC1.out.cell HC0.out
  have HPL := Lib.hid (place_any wa gh (oh + i * 11 + 1) _ x.props key (HC1.out.cell HC2.out) (HRP.out.chg HC1.out (fun _ _ x => x)))
  rw [HF.out] at HPL
  clear hca HAT
  go_upto_region 14 with (go_at_call 43; refine HPL.out.mono ?_; rintro e w5 ⟨rfl, hc5⟩)
  have HC5 := Lib.hid (HC1.out.trans' hc5)
  clear hc5 HPL c0 z1
  rw [show idxP none = -1 from rfl]
  go_wp2_with fail
  go_ret
  exact ⟨rfl, HC5.out⟩
set_option maxHeartbeats 6400000 in
set_option maxRecDepth 100000 in
theorem del_has (w : World) (b : Nat) (hp : Hp) (F : List Nat) (h : Int) (i : Nat) (key : ByteArray) (j : Nat) (H : Here hpR w b 0 hp F) (hi : -9223372036854775808 ≤ h ∧ h ≤ 9223372036854775807) (hs : slotOf hp h = some i) (hl : i < hp.slots.length) (hk : hp.slots[i].obj.kind ≠ 1)
    (hf : findP key hp.slots[i].obj.props 0 = some j) (hj : j < hp.slots[i].obj.props.length) (hlp : hp.slots[i].obj.props.length ≤ 10000) :
    Calls Tryd.prog 26 #[.pointer (some ⟨b, 0, none⟩), .int .i64 h, .string key] w fun e w' => e = .returned (.bool true) ∧ Post hpR w b 0 (putO hp i { hp.slots[i].obj with props := hp.slots[i].obj.props.take j ++ hp.slots[i].obj.props.drop (j + 1) }) F w' := by
  obtain ⟨gh, oh, kh, c2, G, HOBJ0, hGF, hput⟩ := hpPut H hl
  obtain ⟨vp, ve, vd, vs, HOC⟩ := objOpen HOBJ0
  have z1 : (hp.slots[i].obj.kind == 1) = false := beq_false_of_ne hk
  have hat := hat_any _ b 0 hp F h _ H (by rw [Nat.zero_add]; exact c2) hi
  rw [hs, show objPtr (.slice (some ⟨gh, oh, none⟩) hp.slots.length kh) (some i) = some ⟨gh, oh + i * 11 + 1, none⟩ from rfl] at hat
  have HAT := Lib.hid hat
  have HC0 := Lib.hid HOC.c0
  have HC2 := Lib.hid HOC.c2
  have HRP := Lib.hid HOC.rp
  generalize hx : hp.slots[i].obj = x at *
  have HX := Lib.hid hx
  have HF := Lib.hid hf
  have HOB := Lib.hid HOBJ0
  have HPT := Lib.hid hput
  have HBS : Hid (∀ k ∈ G, k < w.heap.size) := Lib.hid (fun k hk => H.lt.2 k (hGF k hk))
  have HJ := Lib.hid hj
  have HLE := Lib.hid hlp
  clear HOBJ0 hGF hput HOC c2 hi hs H hx hk hat hf hj hlp
  go_enter Tryd.func26, Tryd.ntmps26
  go_upto_region 4 with (go_at_call 35; refine HAT.out.mono ?_; rintro e wa ⟨rfl, hca⟩)
  have HC1 := Lib.hid hca
  have c0 := HC1.out.cell HC0.out
  have HPL := Lib.hid (place_any wa gh (oh + i * 11 + 1) _ x.props key (HC1.out.cell HC2.out) (HRP.out.chg HC1.out (fun _ _ x => x)))
  rw [HF.out] at HPL
  clear hca HAT
  go_upto_region 14 with (go_at_call 43; refine HPL.out.mono ?_; rintro e w5 ⟨rfl, hc5⟩)
  have HC5 := Lib.hid (HC1.out.trans' hc5)
  clear hc5 HPL c0 z1
  rw [show idxP (some j) = (j : Int) from rfl]
  have HOB5 := HOB.out.still HC5.out
  obtain ⟨v, c2, hr, hin, hnb, hback⟩ := HOB5.fieldFlat (f := Prp.cells) (hf := Prp.len) objR_props (by show 0 < 10; decide)
  obtain ⟨a, cap, rfl, -⟩ := hr.slice
  obtain ⟨cB, TB, hbB⟩ := HOB5.boxed
  have HD := Lib.hid (delP_any w5 _ x.props.length j (j + 1) _ hr (cells_oneP _) (by omega) HJ.out (by have := HLE.out; omega))
  rw [flatP_take, flatP_drop, ← List.flatMap_append, show x.props.length - (j + 1 - j) = x.props.length - 1 by omega] at HD
  have HBK := Lib.hid hback
  have FRZ : Hid (∀ (w2 : World), Chg (fun j => (Value.slice a x.props.length cap).ownBlock = some j) w5 w2 → w2.frozen? ⟨gh, oh + i * 11 + 1 + 2, none⟩ = false) := Lib.hid (fun w2 h1 => frozen_of_block (h1.keep hbB hnb))
  have CEL : Hid (∀ (w2 : World), Chg (fun j => (Value.slice a x.props.length cap).ownBlock = some j) w5 w2 → w2.cell? ⟨gh, oh + i * 11 + 1 + 2, none⟩ = some (.slice a x.props.length cap)) := Lib.hid (fun w2 h1 => by
    exact h1.cellS c2 hnb)
  have j0 : (0 : Int) ≤ (j : Int) := by omega
  have w64 : IntKind.i64.wrap ((j : Int) + 1) = ((j + 1 : Nat) : Int) := IntWalk.i64_in _ (by have := HLE.out; have := HJ.out; omega)
  clear hr hin hnb hback hbB HOB5
  go_upto_region 16 with (go_at_call 45; refine HD.out.mono ?_; rintro e w2 ⟨v2, rfl, hrow2, hchg2, hold2⟩; obtain ⟨a2, c2_, rfl, -⟩ := hrow2.slice; have z2 := FRZ.out _ hchg2; have z3 := CEL.out _ hchg2)
  have hP := HBK.out w2 _ (x.props.take j ++ x.props.drop (j + 1)) hchg2 (by rw [show (x.props.take j ++ x.props.drop (j + 1)).length = x.props.length - 1 by simp only [List.length_append, List.length_take, List.length_drop]; have := HJ.out; omega]; exact hrow2) (fun k hk => .inl (hold2 k hk))
  have HP := Lib.hid (HPT.out _ _ (Post.pre HC5.out hP))
  clear hP hrow2 hchg2 hold2 z2 z3
  go_wp2_with fail
  go_ret
  exact ⟨rfl, HP.out⟩
end Go.Proofs.YtjianickjahdnaaDoor
namespace Go.Proofs.YtjianickjahdnaaDoor
open Go.RowKit
set_option linter.unusedVariables false
set_option linter.unusedSimpArgs false

set_option maxHeartbeats 6400000 in
set_option maxRecDepth 100000 in
theorem keys_not (w : World) (b : Nat) (hp : Hp) (F : List Nat) (h : Int) (i : Nat) (H : Here hpR w b 0 hp F) (hi : -9223372036854775808 ≤ h ∧ h ≤ 9223372036854775807) (hs : slotOf hp h = some i) (hl : i < hp.slots.length) (hk : hp.slots[i].obj.kind ≠ 1) (hlp : hp.slots[i].obj.props.length ≤ 10000) :
    Calls Tryd.prog 27 #[.pointer (some ⟨b, 0, none⟩), .int .i64 h] w fun e w' => ∃ v', e = .returned v' ∧ OutS w w' v' (hp.slots[i].obj.props.map (·.key)) := by
  obtain ⟨gh, oh, kh, c2, G, HOBJ0, hGF, hput⟩ := hpPut H hl
  obtain ⟨vp, ve, vd, vs, HOC⟩ := objOpen HOBJ0
  have z1 : (hp.slots[i].obj.kind == 1) = false := beq_false_of_ne hk
  have hat := hat_any _ b 0 hp F h _ H (by rw [Nat.zero_add]; exact c2) hi
  rw [hs, show objPtr (.slice (some ⟨gh, oh, none⟩) hp.slots.length kh) (some i) = some ⟨gh, oh + i * 11 + 1, none⟩ from rfl] at hat
  have HAT := Lib.hid hat
  have HC0 := Lib.hid HOC.c0
  have HC2 := Lib.hid HOC.c2
  have hr := HOC.rp
  generalize hp.slots[i].obj = x at *
  obtain ⟨ad, cap, rfl, -, -⟩ := hr.slice
  have HR := Lib.hid hr
  generalize x.props = l at *
  have HL := Lib.hid hlp
  have hln : (l.length : Int) ≤ 9223372036854775807 := by omega
  clear HOBJ0 hGF hput HOC c2 hi hs H hk hat hr hlp
  go_enter Tryd.func27, Tryd.ntmps27
  go_upto_region 4 with (go_at_call 35; refine HAT.out.mono ?_; rintro e wa ⟨rfl, hca⟩)
  have HC1 := Lib.hid hca
  have c0 := HC1.out.cell HC0.out
  have c2 := HC1.out.cell HC2.out
  clear hca HAT
  go_upto_region 12 with fail
  go_loopw [6, 9, 39] (fun u6 _ u39 wr => ∃ (k : Nat) (a : Option Addr) (n c : Nat), k ≤ l.length ∧ u39 = .int .i64 k ∧ u6 = .slice a n c ∧ OutS wa wr (.slice a n c) ((l.take k).map (·.key))) (fun _ _ u _ => l.length - (intOf u).toNat)
  case atStart => exact ⟨0, none, 0, 0, by omega, rfl, rfl, OutS.nil wa⟩
  case round =>
    obtain ⟨k, a, n, c, hk, rfl, rfl, HO⟩ := hrel
    by_cases hlt : k < l.length
    · have h0 : (0 : Int) ≤ (k : Int) := by omega
      have h1 : (k : Int) < (l.length : Int) := by omega
      have hr2 := HR.out.chg (HC1.out.trans' HO.chg) (fun _ _ x => x)
      obtain ⟨g, off, cap', hv, -, -⟩ := hr2.addr (by omega)
      cases hv
      have hcell : ∀ j u, l[k].cells[j]? = some u → j < 5 → wr.cell? ⟨g, off + k * 5 + j, none⟩ = some u := fun j u hu hj => by
        rw [Nat.add_assoc]
        exact hr2.cellAt (k * 5 + j) u (by rw [flat_get _ 5 Prp.len l k j hlt hj]; exact hu)
      have e0 := hcell 0 _ rfl (by omega)
      have e1 := hcell 1 _ rfl (by omega)
      have e2 := hcell 2 _ rfl (by omega)
      have e3 := hcell 3 _ rfl (by omega)
      have e4 := hcell 4 _ rfl (by omega)
      rw [Nat.add_zero] at e0
      have w64 : IntKind.i64.wrap ((k : Int) + 1) = ((k + 1 : Nat) : Int) := IntWalk.i64_in _ (by omega)
      have HT : Hid ((l.take (k + 1)).map (·.key) = (l.take k).map (·.key) ++ [l[k].key]) := Lib.hid (by rw [List.take_succ_eq_append_getElem hlt, List.map_append]; rfl)
      have HLT := Lib.hid hlt
      have HFW : Hid (Few (((l.take k).map (·.key)).length + 1)) := Lib.hid (⟨by rw [List.length_map, List.length_take]; have := HL.out; omega⟩ : Few _)
      clear hcell hr2 hk
      generalize l[k] = z at *
      have HO1 := Lib.hid ((HO.alloc (.cells #[.string z.key, .int .i64 z.vkind, .int .i64 z.vint, .string z.vstr, .int .i64 z.vref] 86)).alloc (.cells #[.string z.key] 9))
      clear HO hlt
      go_wp2_with (first
        | (at_builtin; refine wpList_outS rfl (.tmp 43) (.tmp 46) rfl _ ((l.take k).map (·.key)) rfl HO1.out _ [z.key] rfl (RowAt.lit2 [.string z.key] rfl (by simp [maxLen])) HFW.out ?_; intro a2 n2 c2 w2 HO2 hch2 _))
      go_roundw
      case rel => exact ⟨k + 1, a2, n2, c2, HLT.out, rfl, rfl, by rw [HT.out]; exact HO2⟩
      case measure => have := HLT.out; simp [intOf, w64]; omega
    · have hk2 : k = l.length := by omega
      subst hk2
      rw [List.take_length] at HO
      have HO1 := Lib.hid HO
      clear HO hlt hk
      go_wp2_with fail
      go_ret
      exact ⟨_, rfl, HO1.out.from HC1.out⟩
end Go.Proofs.YtjianickjahdnaaDoor
namespace Go.Proofs.YtjianickjahdnaaDoor
open Go Go.Proofs Go.Shelf
def sh_lays169_ren : Go.Shelf.Ren := ⟨fun | 169 => 49 | n => n, fun | 70 => 93 | 9 => 9 | 0 => 0 | 72 => 95 | 37 => 68 | 127 => 119 | 3 => 3 | 5 => 5 | n => n, fun | n => n⟩
theorem sh_lays169 : Go.Proofs.Lays.n169 Tryd.prog sh_lays169_ren := {
  mixed := by kernel_rfl
  f169 := Tryd.func49.trans (congrArg some (by kernel_rfl))
  t0 := Tryd.underlying0
  a0 := Tryd.isAgg0
  z0 := Tryd.sizeOf0
  v0 := Tryd.zeroValue0
  t3 := Tryd.underlying3
  a3 := Tryd.isAgg3
  z3 := Tryd.sizeOf3
  v3 := Tryd.zeroValue3
  t9 := Tryd.underlying9
  a9 := Tryd.isAgg9
  z9 := Tryd.sizeOf9
  v9 := Tryd.zeroValue9
  t37 := Tryd.underlying68
  a37 := Tryd.isAgg68
  z37 := Tryd.sizeOf68
  v37 := Tryd.zeroValue68
  t70 := Tryd.underlying93
  a70 := Tryd.isAgg93
  z70 := Tryd.sizeOf93
  v70 := Tryd.zeroValue93
  t72 := Tryd.underlying95
  a72 := Tryd.isAgg95
  z72 := Tryd.sizeOf95
  v72 := Tryd.zeroValue95
  t127 := Tryd.underlying119
  a127 := Tryd.isAgg119
  z127 := Tryd.sizeOf119
  v127 := Tryd.zeroValue119 }
def sh_laysM173_ren : Go.Shelf.Ren := ⟨fun | 173 => 55 | 246 => 66 | 283 => 72 | 284 => 73 | 285 => 74 | 286 => 75 | 129 => 82 | 317 => 81 | 318 => 83 | 319 => 84 | 320 => 85 | 337 => 90 | 338 => 91 | n => n, fun | 2 => 2 | 3 => 3 | 9 => 9 | 4 => 4 | 171 => 126 | 0 => 0 | 53 => 108 | 37 => 68 | 5 => 5 | 173 => 129 | 212 => 138 | 51 => 125 | 20 => 20 | 213 => 139 | 46 => 117 | 232 => 149 | 233 => 150 | n => n, fun | 17 => 2 | 18 => 5 | 19 => 6 | n => n⟩
theorem sh_laysM173 : Go.Proofs.LaysM.n173 Tryd.prog sh_laysM173_ren := {
  mixed := by kernel_rfl
  f129 := Tryd.func82.trans (congrArg some (by kernel_rfl))
  f173 := Tryd.func55.trans (congrArg some (by kernel_rfl))
  f246 := Tryd.func66.trans (congrArg some (by kernel_rfl))
  f283 := Tryd.func72.trans (congrArg some (by kernel_rfl))
  f284 := Tryd.func73.trans (congrArg some (by kernel_rfl))
  f285 := Tryd.func74.trans (congrArg some (by kernel_rfl))
  f286 := Tryd.func75.trans (congrArg some (by kernel_rfl))
  f317 := Tryd.func81.trans (congrArg some (by kernel_rfl))
  f318 := Tryd.func83.trans (congrArg some (by kernel_rfl))
  f319 := Tryd.func84.trans (congrArg some (by kernel_rfl))
  f320 := Tryd.func85.trans (congrArg some (by kernel_rfl))
  f337 := Tryd.func90.trans (congrArg some (by kernel_rfl))
  f338 := Tryd.func91.trans (congrArg some (by kernel_rfl))
  t0 := Tryd.underlying0
  a0 := Tryd.isAgg0
  z0 := Tryd.sizeOf0
  v0 := Tryd.zeroValue0
  t2 := Tryd.underlying2
  a2 := Tryd.isAgg2
  z2 := Tryd.sizeOf2
  v2 := Tryd.zeroValue2
  t3 := Tryd.underlying3
  a3 := Tryd.isAgg3
  z3 := Tryd.sizeOf3
  v3 := Tryd.zeroValue3
  t4 := Tryd.underlying4
  a4 := Tryd.isAgg4
  z4 := Tryd.sizeOf4
  v4 := Tryd.zeroValue4
  t5 := Tryd.underlying5
  a5 := Tryd.isAgg5
  z5 := Tryd.sizeOf5
  v5 := Tryd.zeroValue5
  t9 := Tryd.underlying9
  a9 := Tryd.isAgg9
  z9 := Tryd.sizeOf9
  v9 := Tryd.zeroValue9
  t20 := Tryd.underlying20
  a20 := Tryd.isAgg20
  z20 := Tryd.sizeOf20
  v20 := Tryd.zeroValue20
  t37 := Tryd.underlying68
  a37 := Tryd.isAgg68
  z37 := Tryd.sizeOf68
  v37 := Tryd.zeroValue68
  t46 := Tryd.underlying117
  a46 := Tryd.isAgg117
  z46 := Tryd.sizeOf117
  v46 := Tryd.zeroValue117
  t51 := Tryd.underlying125
  a51 := Tryd.isAgg125
  z51 := Tryd.sizeOf125
  v51 := Tryd.zeroValue125
  t53 := Tryd.underlying108
  a53 := Tryd.isAgg108
  z53 := Tryd.sizeOf108
  v53 := Tryd.zeroValue108
  t171 := Tryd.underlying126
  a171 := Tryd.isAgg126
  z171 := Tryd.sizeOf126
  v171 := Tryd.zeroValue126
  t173 := Tryd.underlying129
  a173 := Tryd.isAgg129
  z173 := Tryd.sizeOf129
  v173 := Tryd.zeroValue129
  t212 := Tryd.underlying138
  a212 := Tryd.isAgg138
  z212 := Tryd.sizeOf138
  v212 := Tryd.zeroValue138
  t213 := Tryd.underlying139
  a213 := Tryd.isAgg139
  z213 := Tryd.sizeOf139
  t232 := Tryd.underlying149
  a232 := Tryd.isAgg149
  z232 := Tryd.sizeOf149
  v232 := Tryd.zeroValue149
  t233 := Tryd.underlying150
  a233 := Tryd.isAgg150
  z233 := Tryd.sizeOf150
  v233 := Tryd.zeroValue150
  g17 := by kernel_rfl
  g18 := by kernel_rfl
  g19 := by kernel_rfl
  i0 := by kernel_rfl
  i2 := by kernel_rfl
  i3 := by kernel_rfl
  i4 := by kernel_rfl
  i5 := by kernel_rfl
  i9 := by kernel_rfl
  i20 := by kernel_rfl
  i37 := by kernel_rfl
  i46 := by kernel_rfl
  i51 := by kernel_rfl
  i53 := by kernel_rfl
  i171 := by kernel_rfl
  i173 := by kernel_rfl
  i212 := by kernel_rfl
  i232 := by kernel_rfl
  i233 := by kernel_rfl
  m17 := by kernel_rfl
  m18 := by kernel_rfl
  m19 := by kernel_rfl }
def sh_laysC174_ren : Go.Shelf.Ren := ⟨fun | 174 => 56 | 247 => 67 | 245 => 68 | 287 => 76 | 279 => 77 | 280 => 78 | 281 => 79 | 282 => 80 | 321 => 86 | 322 => 87 | 316 => 88 | 171 => 46 | 205 => 89 | 243 => 60 | 246 => 66 | 283 => 72 | 284 => 73 | 285 => 74 | 286 => 75 | 129 => 82 | 317 => 81 | 318 => 83 | 319 => 84 | 320 => 85 | 337 => 90 | 338 => 91 | n => n, fun | 9 => 9 | 3 => 3 | 2 => 2 | 75 => 97 | 85 => 106 | 4 => 4 | 167 => 131 | 5 => 5 | 53 => 108 | 175 => 132 | 46 => 117 | 168 => 134 | 37 => 68 | 0 => 0 | 210 => 143 | 21 => 21 | 127 => 119 | 145 => 148 | 143 => 146 | 171 => 126 | 173 => 129 | 212 => 138 | 51 => 125 | 20 => 20 | 213 => 139 | 232 => 149 | 233 => 150 | 80 => 100 | n => n, fun | 15 => 3 | 16 => 4 | 17 => 2 | 18 => 5 | 19 => 6 | n => n⟩
theorem sh_laysC174 : Go.Proofs.LaysC.n174 Tryd.prog sh_laysC174_ren := {
  mixed := by kernel_rfl
  f129 := Tryd.func82.trans (congrArg some (by kernel_rfl))
  f171 := Tryd.func46.trans (congrArg some (by kernel_rfl))
  f174 := Tryd.func56.trans (congrArg some (by kernel_rfl))
  f205 := Tryd.func89.trans (congrArg some (by kernel_rfl))
  f243 := Tryd.func60.trans (congrArg some (by kernel_rfl))
  f245 := Tryd.func68.trans (congrArg some (by kernel_rfl))
  f246 := Tryd.func66.trans (congrArg some (by kernel_rfl))
  f247 := Tryd.func67.trans (congrArg some (by kernel_rfl))
  f279 := Tryd.func77.trans (congrArg some (by kernel_rfl))
  f280 := Tryd.func78.trans (congrArg some (by kernel_rfl))
  f281 := Tryd.func79.trans (congrArg some (by kernel_rfl))
  f282 := Tryd.func80.trans (congrArg some (by kernel_rfl))
  f283 := Tryd.func72.trans (congrArg some (by kernel_rfl))
  f284 := Tryd.func73.trans (congrArg some (by kernel_rfl))
  f285 := Tryd.func74.trans (congrArg some (by kernel_rfl))
  f286 := Tryd.func75.trans (congrArg some (by kernel_rfl))
  f287 := Tryd.func76.trans (congrArg some (by kernel_rfl))
  f316 := Tryd.func88.trans (congrArg some (by kernel_rfl))
  f317 := Tryd.func81.trans (congrArg some (by kernel_rfl))
  f318 := Tryd.func83.trans (congrArg some (by kernel_rfl))
  f319 := Tryd.func84.trans (congrArg some (by kernel_rfl))
  f320 := Tryd.func85.trans (congrArg some (by kernel_rfl))
  f321 := Tryd.func86.trans (congrArg some (by kernel_rfl))
  f322 := Tryd.func87.trans (congrArg some (by kernel_rfl))
  f337 := Tryd.func90.trans (congrArg some (by kernel_rfl))
  f338 := Tryd.func91.trans (congrArg some (by kernel_rfl))
  t0 := Tryd.underlying0
  a0 := Tryd.isAgg0
  z0 := Tryd.sizeOf0
  v0 := Tryd.zeroValue0
  t2 := Tryd.underlying2
  a2 := Tryd.isAgg2
  z2 := Tryd.sizeOf2
  v2 := Tryd.zeroValue2
  t3 := Tryd.underlying3
  a3 := Tryd.isAgg3
  z3 := Tryd.sizeOf3
  v3 := Tryd.zeroValue3
  t4 := Tryd.underlying4
  a4 := Tryd.isAgg4
  z4 := Tryd.sizeOf4
  v4 := Tryd.zeroValue4
  t5 := Tryd.underlying5
  a5 := Tryd.isAgg5
  z5 := Tryd.sizeOf5
  v5 := Tryd.zeroValue5
  t9 := Tryd.underlying9
  a9 := Tryd.isAgg9
  z9 := Tryd.sizeOf9
  v9 := Tryd.zeroValue9
  t20 := Tryd.underlying20
  a20 := Tryd.isAgg20
  z20 := Tryd.sizeOf20
  v20 := Tryd.zeroValue20
  t21 := Tryd.underlying21
  a21 := Tryd.isAgg21
  z21 := Tryd.sizeOf21
  v21 := Tryd.zeroValue21
  t37 := Tryd.underlying68
  a37 := Tryd.isAgg68
  z37 := Tryd.sizeOf68
  v37 := Tryd.zeroValue68
  t46 := Tryd.underlying117
  a46 := Tryd.isAgg117
  z46 := Tryd.sizeOf117
  v46 := Tryd.zeroValue117
  t51 := Tryd.underlying125
  a51 := Tryd.isAgg125
  z51 := Tryd.sizeOf125
  v51 := Tryd.zeroValue125
  t53 := Tryd.underlying108
  a53 := Tryd.isAgg108
  z53 := Tryd.sizeOf108
  v53 := Tryd.zeroValue108
  t75 := Tryd.underlying97
  a75 := Tryd.isAgg97
  z75 := Tryd.sizeOf97
  v75 := Tryd.zeroValue97
  t85 := Tryd.underlying106
  a85 := Tryd.isAgg106
  z85 := Tryd.sizeOf106
  v85 := Tryd.zeroValue106
  t127 := Tryd.underlying119
  a127 := Tryd.isAgg119
  z127 := Tryd.sizeOf119
  v127 := Tryd.zeroValue119
  t143 := Tryd.underlying146
  a143 := Tryd.isAgg146
  z143 := Tryd.sizeOf146
  v143 := Tryd.zeroValue146
  t145 := Tryd.underlying148
  a145 := Tryd.isAgg148
  z145 := Tryd.sizeOf148
  v145 := Tryd.zeroValue148
  t167 := Tryd.underlying131
  a167 := Tryd.isAgg131
  z167 := Tryd.sizeOf131
  v167 := Tryd.zeroValue131
  t168 := Tryd.underlying134
  a168 := Tryd.isAgg134
  z168 := Tryd.sizeOf134
  v168 := Tryd.zeroValue134
  t171 := Tryd.underlying126
  a171 := Tryd.isAgg126
  z171 := Tryd.sizeOf126
  v171 := Tryd.zeroValue126
  t173 := Tryd.underlying129
  a173 := Tryd.isAgg129
  z173 := Tryd.sizeOf129
  v173 := Tryd.zeroValue129
  t175 := Tryd.underlying132
  a175 := Tryd.isAgg132
  z175 := Tryd.sizeOf132
  v175 := Tryd.zeroValue132
  t210 := Tryd.underlying143
  a210 := Tryd.isAgg143
  z210 := Tryd.sizeOf143
  v210 := Tryd.zeroValue143
  t212 := Tryd.underlying138
  a212 := Tryd.isAgg138
  z212 := Tryd.sizeOf138
  v212 := Tryd.zeroValue138
  t213 := Tryd.underlying139
  a213 := Tryd.isAgg139
  z213 := Tryd.sizeOf139
  t232 := Tryd.underlying149
  a232 := Tryd.isAgg149
  z232 := Tryd.sizeOf149
  v232 := Tryd.zeroValue149
  t233 := Tryd.underlying150
  a233 := Tryd.isAgg150
  z233 := Tryd.sizeOf150
  v233 := Tryd.zeroValue150
  g15 := by kernel_rfl
  g16 := by kernel_rfl
  g17 := by kernel_rfl
  g18 := by kernel_rfl
  g19 := by kernel_rfl
  t80 := Tryd.underlying100
  a80 := Tryd.isAgg100
  z80 := Tryd.sizeOf100
  v80 := Tryd.zeroValue100
  i0 := by kernel_rfl
  i2 := by kernel_rfl
  i3 := by kernel_rfl
  i4 := by kernel_rfl
  i5 := by kernel_rfl
  i9 := by kernel_rfl
  i20 := by kernel_rfl
  i21 := by kernel_rfl
  i37 := by kernel_rfl
  i46 := by kernel_rfl
  i51 := by kernel_rfl
  i53 := by kernel_rfl
  i75 := by kernel_rfl
  i80 := by kernel_rfl
  i85 := by kernel_rfl
  i127 := by kernel_rfl
  i143 := by kernel_rfl
  i145 := by kernel_rfl
  i167 := by kernel_rfl
  i168 := by kernel_rfl
  i171 := by kernel_rfl
  i173 := by kernel_rfl
  i175 := by kernel_rfl
  i210 := by kernel_rfl
  i212 := by kernel_rfl
  i232 := by kernel_rfl
  i233 := by kernel_rfl
  m15 := by kernel_rfl
  m16 := by kernel_rfl
  m17 := by kernel_rfl
  m18 := by kernel_rfl
  m19 := by kernel_rfl
  c0 := by kernel_rfl
  c2 := by kernel_rfl
  c3 := by kernel_rfl
  c4 := by kernel_rfl
  c5 := by kernel_rfl
  c9 := by kernel_rfl
  c20 := by kernel_rfl
  c21 := by kernel_rfl
  c37 := by kernel_rfl
  c46 := by kernel_rfl
  c51 := by kernel_rfl
  c53 := by kernel_rfl
  c75 := by kernel_rfl
  c80 := by kernel_rfl
  c85 := by kernel_rfl
  c127 := by kernel_rfl
  c143 := by kernel_rfl
  c145 := by kernel_rfl
  c167 := by kernel_rfl
  c168 := by kernel_rfl
  c171 := by kernel_rfl
  c173 := by kernel_rfl
  c175 := by kernel_rfl
  c210 := by kernel_rfl
  c212 := by kernel_rfl
  c213 := by kernel_rfl
  c232 := by kernel_rfl
  c233 := by kernel_rfl }
def sh_laysM171_ren : Go.Shelf.Ren := ⟨fun | 171 => 46 | 243 => 60 | 246 => 66 | 283 => 72 | 284 => 73 | 285 => 74 | 286 => 75 | 129 => 82 | 317 => 81 | 318 => 83 | 319 => 84 | 320 => 85 | 337 => 90 | 338 => 91 | n => n, fun | 3 => 3 | 9 => 9 | 2 => 2 | 4 => 4 | 171 => 126 | 0 => 0 | 53 => 108 | 37 => 68 | 5 => 5 | 173 => 129 | 212 => 138 | 51 => 125 | 20 => 20 | 213 => 139 | 46 => 117 | 232 => 149 | 233 => 150 | n => n, fun | 17 => 2 | 18 => 5 | 19 => 6 | n => n⟩
theorem sh_laysM171 : Go.Proofs.LaysM.n171 Tryd.prog sh_laysM171_ren := {
  mixed := by kernel_rfl
  f129 := Tryd.func82.trans (congrArg some (by kernel_rfl))
  f171 := Tryd.func46.trans (congrArg some (by kernel_rfl))
  f243 := Tryd.func60.trans (congrArg some (by kernel_rfl))
  f246 := Tryd.func66.trans (congrArg some (by kernel_rfl))
  f283 := Tryd.func72.trans (congrArg some (by kernel_rfl))
  f284 := Tryd.func73.trans (congrArg some (by kernel_rfl))
  f285 := Tryd.func74.trans (congrArg some (by kernel_rfl))
  f286 := Tryd.func75.trans (congrArg some (by kernel_rfl))
  f317 := Tryd.func81.trans (congrArg some (by kernel_rfl))
  f318 := Tryd.func83.trans (congrArg some (by kernel_rfl))
  f319 := Tryd.func84.trans (congrArg some (by kernel_rfl))
  f320 := Tryd.func85.trans (congrArg some (by kernel_rfl))
  f337 := Tryd.func90.trans (congrArg some (by kernel_rfl))
  f338 := Tryd.func91.trans (congrArg some (by kernel_rfl))
  t0 := Tryd.underlying0
  a0 := Tryd.isAgg0
  z0 := Tryd.sizeOf0
  v0 := Tryd.zeroValue0
  t2 := Tryd.underlying2
  a2 := Tryd.isAgg2
  z2 := Tryd.sizeOf2
  v2 := Tryd.zeroValue2
  t3 := Tryd.underlying3
  a3 := Tryd.isAgg3
  z3 := Tryd.sizeOf3
  v3 := Tryd.zeroValue3
  t4 := Tryd.underlying4
  a4 := Tryd.isAgg4
  z4 := Tryd.sizeOf4
  v4 := Tryd.zeroValue4
  t5 := Tryd.underlying5
  a5 := Tryd.isAgg5
  z5 := Tryd.sizeOf5
  v5 := Tryd.zeroValue5
  t9 := Tryd.underlying9
  a9 := Tryd.isAgg9
  z9 := Tryd.sizeOf9
  v9 := Tryd.zeroValue9
  t20 := Tryd.underlying20
  a20 := Tryd.isAgg20
  z20 := Tryd.sizeOf20
  v20 := Tryd.zeroValue20
  t37 := Tryd.underlying68
  a37 := Tryd.isAgg68
  z37 := Tryd.sizeOf68
  v37 := Tryd.zeroValue68
  t46 := Tryd.underlying117
  a46 := Tryd.isAgg117
  z46 := Tryd.sizeOf117
  v46 := Tryd.zeroValue117
  t51 := Tryd.underlying125
  a51 := Tryd.isAgg125
  z51 := Tryd.sizeOf125
  v51 := Tryd.zeroValue125
  t53 := Tryd.underlying108
  a53 := Tryd.isAgg108
  z53 := Tryd.sizeOf108
  v53 := Tryd.zeroValue108
  t171 := Tryd.underlying126
  a171 := Tryd.isAgg126
  z171 := Tryd.sizeOf126
  v171 := Tryd.zeroValue126
  t173 := Tryd.underlying129
  a173 := Tryd.isAgg129
  z173 := Tryd.sizeOf129
  v173 := Tryd.zeroValue129
  t212 := Tryd.underlying138
  a212 := Tryd.isAgg138
  z212 := Tryd.sizeOf138
  v212 := Tryd.zeroValue138
  t213 := Tryd.underlying139
  a213 := Tryd.isAgg139
  z213 := Tryd.sizeOf139
  t232 := Tryd.underlying149
  a232 := Tryd.isAgg149
  z232 := Tryd.sizeOf149
  v232 := Tryd.zeroValue149
  t233 := Tryd.underlying150
  a233 := Tryd.isAgg150
  z233 := Tryd.sizeOf150
  v233 := Tryd.zeroValue150
  g17 := by kernel_rfl
  g18 := by kernel_rfl
  g19 := by kernel_rfl
  i0 := by kernel_rfl
  i2 := by kernel_rfl
  i3 := by kernel_rfl
  i4 := by kernel_rfl
  i5 := by kernel_rfl
  i9 := by kernel_rfl
  i20 := by kernel_rfl
  i37 := by kernel_rfl
  i46 := by kernel_rfl
  i51 := by kernel_rfl
  i53 := by kernel_rfl
  i171 := by kernel_rfl
  i173 := by kernel_rfl
  i212 := by kernel_rfl
  i232 := by kernel_rfl
  i233 := by kernel_rfl
  m17 := by kernel_rfl
  m18 := by kernel_rfl
  m19 := by kernel_rfl }
def sh_lays121_ren : Go.Shelf.Ren := ⟨fun | 121 => 54 | 214 => 65 | n => n, fun | 4 => 4 | 9 => 9 | n => n, fun | n => n⟩
theorem sh_lays121 : Go.Proofs.Lays.n121 Tryd.prog sh_lays121_ren := {
  mixed := by kernel_rfl
  f121 := Tryd.func54.trans (congrArg some (by kernel_rfl))
  f214 := Tryd.func65.trans (congrArg some (by kernel_rfl))
  t4 := Tryd.underlying4
  a4 := Tryd.isAgg4
  z4 := Tryd.sizeOf4
  v4 := Tryd.zeroValue4
  t9 := Tryd.underlying9
  a9 := Tryd.isAgg9
  z9 := Tryd.sizeOf9
  v9 := Tryd.zeroValue9 }
def sh_lays196_ren : Go.Shelf.Ren := ⟨fun | 196 => 47 | 259 => 61 | n => n, fun | 9 => 9 | 4 => 4 | 3 => 3 | 5 => 5 | 12 => 12 | 119 => 113 | 0 => 0 | 46 => 117 | 139 => 116 | 138 => 115 | 53 => 108 | n => n, fun | 3 => 0 | 4 => 1 | n => n⟩
theorem sh_lays196 : Go.Proofs.Lays.n196 Tryd.prog sh_lays196_ren := {
  mixed := by kernel_rfl
  f196 := Tryd.func47.trans (congrArg some (by kernel_rfl))
  f259 := Tryd.func61.trans (congrArg some (by kernel_rfl))
  t0 := Tryd.underlying0
  a0 := Tryd.isAgg0
  z0 := Tryd.sizeOf0
  v0 := Tryd.zeroValue0
  t3 := Tryd.underlying3
  a3 := Tryd.isAgg3
  z3 := Tryd.sizeOf3
  v3 := Tryd.zeroValue3
  t4 := Tryd.underlying4
  a4 := Tryd.isAgg4
  z4 := Tryd.sizeOf4
  v4 := Tryd.zeroValue4
  t5 := Tryd.underlying5
  a5 := Tryd.isAgg5
  z5 := Tryd.sizeOf5
  v5 := Tryd.zeroValue5
  t9 := Tryd.underlying9
  a9 := Tryd.isAgg9
  z9 := Tryd.sizeOf9
  v9 := Tryd.zeroValue9
  t12 := Tryd.underlying12
  a12 := Tryd.isAgg12
  z12 := Tryd.sizeOf12
  v12 := Tryd.zeroValue12
  t46 := Tryd.underlying117
  a46 := Tryd.isAgg117
  z46 := Tryd.sizeOf117
  v46 := Tryd.zeroValue117
  t53 := Tryd.underlying108
  a53 := Tryd.isAgg108
  z53 := Tryd.sizeOf108
  v53 := Tryd.zeroValue108
  t119 := Tryd.underlying113
  a119 := Tryd.isAgg113
  z119 := Tryd.sizeOf113
  t138 := Tryd.underlying115
  a138 := Tryd.isAgg115
  z138 := Tryd.sizeOf115
  v138 := Tryd.zeroValue115
  t139 := Tryd.underlying116
  a139 := Tryd.isAgg116
  z139 := Tryd.sizeOf116
  v139 := Tryd.zeroValue116
  g3 := by kernel_rfl
  g4 := by kernel_rfl }
theorem sh_Builder_Extra_169 : Builder.Extra Tryd.prog sh_lays169_ren := {
  sizeBuilder := by kernel_rfl
  liesBuilder := by kernel_rfl
  t5 := Tryd.underlying5
  a5 := Tryd.isAgg5
  z5 := Tryd.sizeOf5
  v5 := Tryd.zeroValue5
  infoByte := by kernel_rfl
  cellsByte := by kernel_rfl
  sizeByte := by kernel_rfl
  neB5 := by decide }
open Go.RowKit in
theorem sh_Builder_String_any_k (B b : Nat) (l : List UInt8) (w : World) (h : Lib.IsBuilderF 95 5 B b (Lib.byteCells l) w) (hBw : B ≤ w.heap.size) :
    Calls Tryd.prog 49 #[.pointer (some ⟨b, 0, none⟩)] w fun e w' => e = .returned (.string ⟨l.toArray⟩) ∧ (Lib.IsBuilderF 95 5 B b (Lib.byteCells l) w' ∧ Below B w w' ∧ Lib.OthersKept 5 (some b) w w') := Any.Builder_String_any_k sh_lays169 sh_Builder_Extra_169 B b l w h hBw
open Go.RowKit Go.Sort Go.Lib in
theorem sh_strconv_FormatInt_10 (n : Int) (h0 : -9223372036854775808 ≤ n) (h1 : n ≤ 9223372036854775807) (w : World) (htab : Lib.TabIs Tryd.prog w "internal/strconv.uint64pow10" .u64 Lib.pow10Tab) :
    Calls Tryd.prog 55 #[.int .i64 n, .int .i64 10] w fun e w' => e = .returned (.string ⟨(Lib.itoa n).toArray⟩) ∧ ∃ k os, w' = grow (w.drewN k) os := Any.strconv_FormatInt_10 sh_laysM173 n h0 h1 w htab
open Go.RowKit in
theorem sh_strconv_ParseInt_10_at64_ok (s : ByteArray) (hmax : s.size ≤ 9223372036854775806) (v : Int) (h : Lib.parseIntB 64 s.data.toList = .ok v) (w : World) :
    Calls Tryd.prog 56 #[.string s, .int .i64 10, .int .i64 64] w fun e w' => e = .returned (.tuple #[.int .i64 v, .nilIface]) ∧ (w' = w ∨ ∃ t, w' = Lib.bytesWorld w 5 t) := Any.strconv_ParseInt_10_at64_ok sh_laysC174 s hmax v h w
open Go.RowKit in
theorem sh_strconv_ParseInt_10_at64_syntax_var (s : ByteArray) (hlim : s.size ≤ 281474976710656) (h : Lib.parseIntB 64 s.data.toList = .«syntax») (tp : TypeId) (p : Value) (w : World) (hvar : w.var? Tryd.prog "strconv.ErrSyntax" = some #[.iface tp p]) :
    Calls Tryd.prog 56 #[.string s, .int .i64 10, .int .i64 64] w fun e w' => ∃ N, e = .returned (.tuple #[.int .i64 (0), .iface 134 (.pointer (some ⟨N, 0, none⟩))]) ∧ w.heap.size ≤ N ∧ w'.heap[N]? = some (.cells #[.string ⟨#[80, 97, 114, 115, 101, 73, 110, 116]⟩, .string s, .iface tp p] 143 (0, 0)) ∧ Below w.heap.size w w' := Any.strconv_ParseInt_10_at64_syntax_var sh_laysC174 s hlim h tp p w hvar
open Go.RowKit in
theorem sh_strconv_ParseInt_10_at64_range_var (s : ByteArray) (hlim : s.size ≤ 281474976710656) (h : Lib.parseIntB 64 s.data.toList = .range) (tp : TypeId) (p : Value) (w : World) (hvar : w.var? Tryd.prog "strconv.ErrRange" = some #[.iface tp p]) :
    Calls Tryd.prog 56 #[.string s, .int .i64 10, .int .i64 64] w fun e w' => ∃ N, e = .returned (.tuple #[.int .i64 (Lib.intSat 64 s.data.toList), .iface 134 (.pointer (some ⟨N, 0, none⟩))]) ∧ w.heap.size ≤ N ∧ w'.heap[N]? = some (.cells #[.string ⟨#[80, 97, 114, 115, 101, 73, 110, 116]⟩, .string s, .iface tp p] 143 (0, 0)) ∧ Below w.heap.size w w' := Any.strconv_ParseInt_10_at64_range_var sh_laysC174 s hlim h tp p w hvar
open Go.RowKit Go.Sort Go.Lib in
theorem sh_strconv_Itoa (n : Int) (h0 : -9223372036854775808 ≤ n) (h1 : n ≤ 9223372036854775807) (w : World) (htab : Lib.TabIs Tryd.prog w "internal/strconv.uint64pow10" .u64 Lib.pow10Tab) :
    Calls Tryd.prog 46 #[.int .i64 n] w fun e w' => e = .returned (.string ⟨(Lib.itoa n).toArray⟩) ∧ ∃ k os, w' = grow (w.drewN k) os := Any.strconv_Itoa sh_laysM171 n h0 h1 w htab
open Go.RowKit in
theorem sh_strconv_FormatBool (b : Bool) (w : World) :
    Calls Tryd.prog 54 #[.bool b] w fun e w' => e = .returned (.string ⟨(Lib.formatBool b).toArray⟩) ∧ w' = w := Any.strconv_FormatBool sh_lays121 b w
end Go.Proofs.YtjianickjahdnaaDoor
namespace Go.Proofs.YtjianickjahdnaaDoor
open Go.RowKit
set_option linter.unusedVariables false
set_option linter.unusedSimpArgs false

/-- What the library's variables hold: the powers of ten, the errors of strconv. -/
structure Tabs (w : World) : Prop where
  pow : Lib.TabIs Tryd.prog w "internal/strconv.uint64pow10" .u64 Lib.pow10Tab
  syn : ∃ tp p, w.var? Tryd.prog "strconv.ErrSyntax" = some #[.iface tp p]
  rng : ∃ tp p, w.var? Tryd.prog "strconv.ErrRange" = some #[.iface tp p]
theorem var_still {P : Program} {w w' : World} {n : String} {cs : Array Value} (h : w.var? P n = some cs) (hc : Chg (fun _ => False) w w') : w'.var? P n = some cs := by
  unfold World.var? at h ⊢
  cases hg : P.globalNamed n with
  | none => rw [hg] at h; simp at h
  | some g =>
    rw [hg] at h
    simp only [Option.bind_some] at h ⊢
    cases hb : w.heap[g]? with
    | none => rw [hb] at h; simp at h
    | some o => rw [hc.keep hb (fun x => x)]; rw [hb] at h; exact h
theorem Tabs.still {w w' : World} (h : Tabs w) (hc : Chg (fun _ => False) w w') : Tabs w' := by
  obtain ⟨t1, p1, h1⟩ := h.syn
  obtain ⟨t2, p2, h2⟩ := h.rng
  exact ⟨var_still h.pow hc, ⟨t1, p1, var_still h1 hc⟩, ⟨t2, p2, var_still h2 hc⟩⟩
theorem chg_of_below {w w' : World} (h : Below w.heap.size w w') : Chg (fun _ => False) w w' := ⟨h.os, h.tape, h.output, h.size, fun k hk _ => h.block k hk⟩
theorem chg_grow (w : World) (k : Nat) (os : Array _root_.Go.Obj) : Chg (fun _ => False) w (Sort.grow (w.drewN k) os) :=
  ⟨rfl, rfl, rfl, by simp [Sort.grow], fun j hj _ => by
    show ((w.drewN k).heap ++ os)[j]? = w.heap[j]?
    have e : (w.drewN k).heap = w.heap := rfl
    rw [e, Array.getElem?_append_left hj]⟩
/-- The number with a decimal text. -/
def numM (s : ByteArray) : Option Int :=
  match Lib.parseIntB 64 s.data.toList with
  | .ok v => if Lib.itoa v = s.data.toList then some v else none
  | _ => none
theorem parse_in {l : List UInt8} {v : Int} (h : Lib.parseIntB 64 l = .ok v) : -9223372036854775808 ≤ v ∧ v ≤ 9223372036854775807 := by
  unfold Lib.parseIntB at h
  split at h
  · cases h
  · simp only at h
    split at h
    · cases h
    · cases h
    · rename_i u _
      split at h
      · cases h
      · split at h
        · cases h
        · rename_i h1 h2
          simp only [Lib.NumEnd.ok.injEq] at h
          have e63 : (2 : Nat) ^ (64 - 1) = 9223372036854775808 := by decide
          rw [e63] at h1 h2
          split at h
          · rename_i hn
            have : ¬ 9223372036854775808 < u := fun x => h2 ⟨hn, x⟩
            omega
          · rename_i hn
            have : ¬ 9223372036854775808 ≤ u := fun x => h1 ⟨hn, x⟩
            omega
theorem fmt_any (v : Int) (w : World) (h0 : -9223372036854775808 ≤ v ∧ v ≤ 9223372036854775807) (HT : Tabs w) :
    Calls Tryd.prog 55 #[.int .i64 v, .int .i64 10] w fun e w' => e = .returned (.string ⟨(Lib.itoa v).toArray⟩) ∧ Chg (fun _ => False) w w' :=
  (sh_strconv_FormatInt_10 v h0.1 h0.2 w HT.pow).mono fun e w' ⟨he, k, os, hw⟩ => ⟨he, by rw [hw]; exact chg_grow w k os⟩
theorem str_eq_list {l : List UInt8} {s : ByteArray} : (⟨l.toArray⟩ : ByteArray) = s ↔ l = s.data.toList := by
  constructor
  · intro h; rw [← h]
  · intro h; rw [h]
theorem toList_inj {a b : ByteArray} (h : a.toList = b.toList) : a = b := by
  have ha : ∀ x : ByteArray, x.toList = x.data.toList := fun x => ByteArray.toList_eq x
  rw [ha, ha] at h
  cases a; cases b
  simp at h ⊢
  exact h
set_option maxHeartbeats 1600000 in
set_option maxRecDepth 100000 in
theorem number_any (s : ByteArray) (w : World) (hs : s.size ≤ 1000000) (HT : Tabs w) :
    Calls Tryd.prog 41 #[.string s] w fun e w' => e = .returned (match numM s with | some v => .tuple #[.int .i64 v, .int .i64 0] | none => .tuple #[.int .i64 0, .int .i64 6]) ∧ Chg (fun _ => False) w w' := by
  have HTT := Lib.hid HT
  have HS := Lib.hid hs
  cases hp : Lib.parseIntB 64 s.data.toList with
  | ok v =>
    have hin := parse_in hp
    have HP := Lib.hid (sh_strconv_ParseInt_10_at64_ok s (by omega) v hp w)
    have HF := Lib.hid (fun (W : World) (h : Tabs W) => fmt_any v W hin h)
    have hp' := hp
    clear hp hin HT hs
    by_cases he : Lib.itoa v = s.data.toList
    · have hm : numM s = some v := by unfold numM; rw [hp']; exact if_pos he
      rw [hm]
      clear hm hp'
      have heq : (⟨(Lib.itoa v).toArray⟩ : ByteArray) = s := str_eq_list.2 he
      have HE := Lib.hid he
      rw [heq] at HF
      clear he heq
      have ne : (s.toList != s.toList) = false := by simp
      go_enter Tryd.func41, Tryd.ntmps41
      go_upto_region 2 with (go_at_call 56; refine HP.out.mono ?_; rintro e wp ⟨rfl, hwp⟩)
      have HCP : Hid (Chg (fun _ => False) w wp) := Lib.hid (by
        rcases hwp with rfl | ⟨t, rfl⟩
        · exact Chg.refl _ _
        · exact chg_of_below (Joins.below_bytesWorld _ _ _ _ (Nat.le_refl _)))
      clear hwp
      go_wp2_with (go_at_call 55; refine (HF.out _ (HTT.out.still HCP.out)).mono ?_; rintro e wf ⟨rfl, hcf⟩)
      go_ret2
      exact ⟨rfl, HCP.out.trans' hcf⟩
    · have hm : numM s = none := by unfold numM; rw [hp']; exact if_neg he
      rw [hm]
      clear hm hp'
      have hne : ¬ (⟨(Lib.itoa v).toArray⟩ : ByteArray) = s := fun x => he (str_eq_list.1 x)
      have HE := Lib.hid he
      generalize (⟨(Lib.itoa v).toArray⟩ : ByteArray) = t at *
      have ne : (t.toList != s.toList) = true := bne_iff_ne.2 (fun x => hne (toList_inj x))
      have ne2 : (t.toList == s.toList) = false := beq_false_of_ne (fun x => hne (toList_inj x))
      have ne3 : ¬ t.toList = s.toList := fun x => hne (toList_inj x)
      clear he hne
      go_enter Tryd.func41, Tryd.ntmps41
      go_upto_region 2 with (go_at_call 56; refine HP.out.mono ?_; rintro e wp ⟨rfl, hwp⟩)
      have HCP : Hid (Chg (fun _ => False) w wp) := Lib.hid (by
        rcases hwp with rfl | ⟨t, rfl⟩
        · exact Chg.refl _ _
        · exact chg_of_below (Joins.below_bytesWorld _ _ _ _ (Nat.le_refl _)))
      clear hwp
      go_wp2_with (go_at_call 55; refine (HF.out _ (HTT.out.still HCP.out)).mono ?_; rintro e wf ⟨rfl, hcf⟩)
      go_ret2
      exact ⟨rfl, HCP.out.trans' hcf⟩
  | «syntax» =>
    have hm : numM s = none := by unfold numM; rw [hp]
    rw [hm]
    clear hm
    obtain ⟨tp, p, hv⟩ := HT.syn
    have HP := Lib.hid (sh_strconv_ParseInt_10_at64_syntax_var s (by omega) hp tp p w hv)
    clear hp hv HT hs
    go_enter Tryd.func41, Tryd.ntmps41
    go_wp2_with (go_at_call 56; refine HP.out.mono ?_; rintro e wp ⟨NN, rfl, -, -, hb⟩; have HCP := Lib.hid (chg_of_below hb); clear hb)
    go_ret2
    exact ⟨rfl, HCP.out⟩
  | range =>
    have hm : numM s = none := by unfold numM; rw [hp]
    rw [hm]
    clear hm
    obtain ⟨tp, p, hv⟩ := HT.rng
    have HP := Lib.hid (sh_strconv_ParseInt_10_at64_range_var s (by omega) hp tp p w hv)
    clear hp hv HT hs
    generalize Lib.intSat 64 s.data.toList = sat at *
    go_enter Tryd.func41, Tryd.ntmps41
    go_wp2_with (go_at_call 56; refine HP.out.mono ?_; rintro e wp ⟨NN, rfl, -, -, hb⟩; have HCP := Lib.hid (chg_of_below hb); clear hb)
    go_ret2
    exact ⟨rfl, HCP.out⟩
/-- The index that a key denotes, or -1. -/
def posM (s : ByteArray) : Int := match numM s with
  | some v => if 0 ≤ v ∧ v < 10000 then v else -1
  | none => -1
set_option maxHeartbeats 1600000 in
set_option maxRecDepth 100000 in
theorem position_any (s : ByteArray) (w : World) (hs : s.size ≤ 1000000) (HT : Tabs w) :
    Calls Tryd.prog 21 #[.string s] w fun e w' => e = .returned (.int .i64 (posM s)) ∧ Chg (fun _ => False) w w' := by
  have hn := number_any s w hs HT
  cases hm : numM s with
  | none =>
    have hq : posM s = -1 := by unfold posM; rw [hm]
    rw [hq]
    clear hq
    rw [hm] at hn
    have HN := Lib.hid hn
    clear hn hm HT
    go_enter Tryd.func21, Tryd.ntmps21
    go_wp2_with (go_at_call 41; refine HN.out.mono ?_; rintro e wp ⟨rfl, hcp⟩)
    go_ret
    exact ⟨rfl, hcp⟩
  | some v =>
    have hq : posM s = if 0 ≤ v ∧ v < 10000 then v else -1 := by unfold posM; rw [hm]
    rw [hq]
    clear hq
    rw [hm] at hn
    have HN := Lib.hid hn
    clear hn hm HT
    by_cases h0 : 0 ≤ v
    · by_cases h1 : v < 10000
      · rw [if_pos ⟨h0, h1⟩]
        go_enter Tryd.func21, Tryd.ntmps21
        go_wp2_with (go_at_call 41; refine HN.out.mono ?_; rintro e wp ⟨rfl, hcp⟩)
        go_ret
        exact ⟨rfl, hcp⟩
      · rw [if_neg (fun x => h1 x.2)]
        go_enter Tryd.func21, Tryd.ntmps21
        go_wp2_with (go_at_call 41; refine HN.out.mono ?_; rintro e wp ⟨rfl, hcp⟩)
        go_ret
        exact ⟨rfl, hcp⟩
    · rw [if_neg (fun x => h0 x.1)]
      go_enter Tryd.func21, Tryd.ntmps21
      go_wp2_with (go_at_call 41; refine HN.out.mono ?_; rintro e wp ⟨rfl, hcp⟩)
      go_ret
      exact ⟨rfl, hcp⟩
end Go.Proofs.YtjianickjahdnaaDoor
namespace Go.Proofs.YtjianickjahdnaaDoor
open Go.RowKit
set_option linter.unusedVariables false
set_option linter.unusedSimpArgs false

set_option maxHeartbeats 400000 in
set_option maxRecDepth 100000 in
theorem vofA (h : Int) (w : World) :
    Calls Tryd.prog 25 #[.int .i64 h] w fun e w' => e = .returned (.agg #[.int .i64 3, .int .i64 h, .string ⟨#[]⟩, .int .i64 0]) ∧ Chg (fun _ => False) w w' := by
  go_enter Tryd.func25, Tryd.ntmps25
  go_wp2_with fail
  refine bodyPost_ret (results_cell_row rfl _ _ w.heap.size _ _ _ _ (by rfl) (heap_alloc_new _ _) Tryd.underlying36 rfl (by kernel_rfl)) rfl ?_
  exact ⟨rfl, Chg.alloc _ _ _⟩
set_option maxHeartbeats 3200000 in
set_option maxRecDepth 100000 in
theorem normal_int (h : Int) (w : World) :
    Calls Tryd.prog 37 #[.agg #[.int .i64 3, .int .i64 h, .string ⟨#[]⟩, .int .i64 0]] w fun e w' => e = .returned (.agg #[.int .i64 3, .int .i64 h, .string ⟨#[]⟩, .int .i64 0]) ∧ Chg (fun _ => False) w w' := by
  have hc2 := (Chg.alloc (fun _ => False) w (.cells #[.int .i64 3, .int .i64 h, .string ⟨#[]⟩, .int .i64 0] 36)).allocR (.cells #[.int .i64 0, .int .i64 0, .string ⟨#[]⟩, .int .i64 0] 36)
  have hb := alloc_block (w.alloc (.cells #[.int .i64 3, .int .i64 h, .string ⟨#[]⟩, .int .i64 0] 36)) (.cells #[.int .i64 0, .int .i64 0, .string ⟨#[]⟩, .int .i64 0] 36)
  have hs1 : (w.alloc (.cells #[.int .i64 3, .int .i64 h, .string ⟨#[]⟩, .int .i64 0] 36)).heap.size = w.heap.size + 1 := Array.size_push ..
  rw [hs1] at hb
  have HB := Lib.hid hb
  have HC := Lib.hid hc2
  have kb := alloc_block w (.cells #[.int .i64 3, .int .i64 h, .string ⟨#[]⟩, .int .i64 0] 36)
  have k0 := (Chg.alloc (fun _ => False) (w.alloc (.cells #[.int .i64 3, .int .i64 h, .string ⟨#[]⟩, .int .i64 0] 36)) (.cells #[.int .i64 0, .int .i64 0, .string ⟨#[]⟩, .int .i64 0] 36)).cell (cell_of_block (i := 0) kb rfl)
  have k1 := (Chg.alloc (fun _ => False) (w.alloc (.cells #[.int .i64 3, .int .i64 h, .string ⟨#[]⟩, .int .i64 0] 36)) (.cells #[.int .i64 0, .int .i64 0, .string ⟨#[]⟩, .int .i64 0] 36)).cell (cell_of_block (i := 1) kb rfl)
  simp only [List.getElem_toArray, List.getElem_cons_zero, List.getElem_cons_succ] at k0 k1
  have HK0 := Lib.hid k0
  have HK1 := Lib.hid k1
  clear hb hc2 hs1 kb k0 k1
  go_enter Tryd.func37, Tryd.ntmps37
  go_upto_region 1 with fail
  generalize ((w.alloc (.cells #[.int .i64 3, .int .i64 h, .string ⟨#[]⟩, .int .i64 0] 36)).alloc (.cells #[.int .i64 0, .int .i64 0, .string ⟨#[]⟩, .int .i64 0] 36)) = w3 at *
  generalize hb2e : w.heap.size + 1 = b2 at *
  have HB2 := Lib.hid hb2e
  have k0 := HK0.out
  have k1 := HK1.out
  clear hb2e
  go_wp2_with fail
  refine (vofA h _).mono ?_
  rintro e wf ⟨rfl, hcf⟩
  have hb4 := hcf.keep HB.out (fun x => x)
  obtain ⟨z0, q0, z1, q1, z2, q2, z3, q3, hbf, hcs⟩ := store4 hb4 (.int .i64 3) (.int .i64 h) (.string ⟨#[]⟩) (.int .i64 0)
  go_wp2_with fail
  generalize ((((wf.setCell ⟨b2, 0, none⟩ (.int .i64 3)).setCell ⟨b2, 1, none⟩ (.int .i64 h)).setCell ⟨b2, 2, none⟩ (.string ⟨#[]⟩)).setCell ⟨b2, 3, none⟩ (.int .i64 0)) = wz at *
  refine bodyPost_ret (results_cell_row rfl _ _ b2 _ _ _ _ (by rfl) hbf Tryd.underlying36 rfl (by kernel_rfl)) rfl ?_
  exact ⟨rfl, (HC.out.trans' hcf).trans hcs (fun _ _ x => x) (fun k hk e => by have := HB2.out; omega)⟩
set_option maxHeartbeats 6400000 in
set_option maxRecDepth 100000 in
theorem own_len (w : World) (b : Nat) (hp : Hp) (F : List Nat) (h : Int) (i : Nat) (H : Here hpR w b 0 hp F) (hi : -9223372036854775808 ≤ h ∧ h ≤ 9223372036854775807) (hs : slotOf hp h = some i) (hl : i < hp.slots.length) (hk : hp.slots[i].obj.kind = 1) :
    Calls Tryd.prog 23 #[.pointer (some ⟨b, 0, none⟩), .int .i64 h, .string ⟨#[108, 101, 110, 103, 116, 104]⟩] w fun e w' => e = .returned (.tuple #[.agg #[.int .i64 3, .int .i64 hp.slots[i].obj.elems.length, .string ⟨#[]⟩, .int .i64 0], .bool true]) ∧ Chg (fun _ => False) w w' := by
  have hca := Chg.alloc (fun _ => False) w (.cells #[.int .i64 0, .int .i64 0, .string ⟨#[]⟩, .int .i64 0] 36)
  have kb := alloc_block w (.cells #[.int .i64 0, .int .i64 0, .string ⟨#[]⟩, .int .i64 0] 36)
  have HKB := Lib.hid kb
  obtain ⟨gh, oh, kh, c2, G, HOBJ0, hGF, hput⟩ := hpPut H hl
  obtain ⟨vp, ve, vd, vs, HOC⟩ := objOpen HOBJ0
  obtain ⟨ae, cape, rfl, -, -⟩ := HOC.re.slice
  have hat := hat_any _ b 0 hp F h _ (H.still hca) (by rw [Nat.zero_add]; exact hca.cell c2) hi
  rw [hs, show objPtr (.slice (some ⟨gh, oh, none⟩) hp.slots.length kh) (some i) = some ⟨gh, oh + i * 11 + 1, none⟩ from rfl] at hat
  have HAT := Lib.hid hat
  have HRE := Lib.hid HOC.re
  have k0 := HOC.c0
  rw [hk] at k0
  have HC0 := Lib.hid k0
  have HC3 := Lib.hid HOC.c3
  generalize hp.slots[i].obj = x at *
  have HCA := Lib.hid hca
  clear kb hca HOBJ0 hGF hput HOC c2 hi hs H hk hat k0
  go_enter Tryd.func23, Tryd.ntmps23
  go_upto_region 1 with fail
  generalize w.alloc (.cells #[.int .i64 0, .int .i64 0, .string ⟨#[]⟩, .int .i64 0] 36) = w1 at *
  generalize hb6 : w.heap.size = b6 at *
  have HB6 := Lib.hid hb6
  clear hb6
  go_upto_region 4 with (go_at_call 35; refine HAT.out.mono ?_; rintro e wa ⟨rfl, hca⟩)
  have HC1 := Lib.hid (HCA.out.trans' hca)
  have HKB2 := Lib.hid (hca.keep HKB.out (fun x => x))
  have c0 := HC1.out.cell HC0.out
  have c3 := HC1.out.cell HC3.out
  clear hca HAT HKB HCA
  go_wp2_with fail
  refine (vofA x.elems.length _).mono ?_
  rintro e w5 ⟨rfl, hc5⟩
  have HC5 := Lib.hid (HC1.out.trans' hc5)
  have HK5 := Lib.hid (hc5.keep HKB2.out (fun x => x))
  obtain ⟨z0, q0, z1, q1, z2, q2, z3, q3, hbf, hcs⟩ := store4 HK5.out (.int .i64 3) (.int .i64 (x.elems.length : Int)) (.string ⟨#[]⟩) (.int .i64 0)
  go_wp2_with fail
  generalize ((((w5.setCell ⟨b6, 0, none⟩ (.int .i64 3)).setCell ⟨b6, 1, none⟩ (.int .i64 (x.elems.length : Int))).setCell ⟨b6, 2, none⟩ (.string ⟨#[]⟩)).setCell ⟨b6, 3, none⟩ (.int .i64 0)) = wz at *
  refine bodyPost_ret (results_cell_row_tmp rfl _ _ b6 #[.int .i64 3, .int .i64 (x.elems.length : Int), .string ⟨#[]⟩, .int .i64 0] (by rfl) (run_loadVar_row _ b6 36 36 _ _ _ hbf Tryd.underlying36 rfl (by kernel_rfl))) rfl ?_
  exact ⟨rfl, HC5.out.trans hcs (fun _ _ x => x) (fun k hk e => by have := HB6.out; omega)⟩
set_option maxHeartbeats 6400000 in
set_option maxRecDepth 100000 in
theorem own_elem (w : World) (b : Nat) (hp : Hp) (F : List Nat) (h : Int) (i : Nat) (key : ByteArray) (H : Here hpR w b 0 hp F) (hi : -9223372036854775808 ≤ h ∧ h ≤ 9223372036854775807) (hs : slotOf hp h = some i) (hl : i < hp.slots.length) (hk : hp.slots[i].obj.kind = 1) (hkl : ¬ key.toList = [108, 101, 110, 103, 116, 104]) (hks : key.size ≤ 1000000) (HT : Tabs w) (j : Nat) (hj : j < hp.slots[i].obj.elems.length) (hlp : hp.slots[i].obj.elems.length ≤ 1000000) (hpz : posM key = (j : Int)) :
    Calls Tryd.prog 23 #[.pointer (some ⟨b, 0, none⟩), .int .i64 h, .string key] w fun e w' => e = .returned (.tuple #[.agg #[.int .i64 hp.slots[i].obj.elems[j].kind, .int .i64 hp.slots[i].obj.elems[j].int, .string hp.slots[i].obj.elems[j].str, .int .i64 hp.slots[i].obj.elems[j].ref], .bool true]) ∧ Chg (fun _ => False) w w' := by
  have hca := Chg.alloc (fun _ => False) w (.cells #[.int .i64 0, .int .i64 0, .string ⟨#[]⟩, .int .i64 0] 36)
  have kb := alloc_block w (.cells #[.int .i64 0, .int .i64 0, .string ⟨#[]⟩, .int .i64 0] 36)
  have HKB := Lib.hid kb
  obtain ⟨gh, oh, kh, c2, G, HOBJ0, hGF, hput⟩ := hpPut H hl
  obtain ⟨vp, ve, vd, vs, HOC⟩ := objOpen HOBJ0
  obtain ⟨ae, cape, rfl, -, -⟩ := HOC.re.slice
  have hat := hat_any _ b 0 hp F h _ (H.still hca) (by rw [Nat.zero_add]; exact hca.cell c2) hi
  rw [hs, show objPtr (.slice (some ⟨gh, oh, none⟩) hp.slots.length kh) (some i) = some ⟨gh, oh + i * 11 + 1, none⟩ from rfl] at hat
  have HAT := Lib.hid hat
  have HRE := Lib.hid HOC.re
  have k0 := HOC.c0
  rw [hk] at k0
  have HC0 := Lib.hid k0
  have HC3 := Lib.hid HOC.c3
  generalize hp.slots[i].obj = x at *
  have HCA := Lib.hid hca
  clear kb hca HOBJ0 hGF hput HOC c2 hi hs H hk hat k0
  have HPS := Lib.hid (fun W (hc : Chg (fun _ => False) w W) => position_any key W hks (HT.still hc))
  have s1 : (key.toList == [108, 101, 110, 103, 116, 104]) = false := beq_false_of_ne hkl
  clear HT hks
  rw [hpz] at HPS
  clear hpz
  go_enter Tryd.func23, Tryd.ntmps23
  go_upto_region 1 with fail
  generalize w.alloc (.cells #[.int .i64 0, .int .i64 0, .string ⟨#[]⟩, .int .i64 0] 36) = w1 at *
  generalize hb6 : w.heap.size = b6 at *
  have HB6 := Lib.hid hb6
  clear hb6
  go_upto_region 4 with (go_at_call 35; refine HAT.out.mono ?_; rintro e wa ⟨rfl, hca⟩)
  have HC1 := Lib.hid (HCA.out.trans' hca)
  have HKB2 := Lib.hid (hca.keep HKB.out (fun x => x))
  have c0 := HC1.out.cell HC0.out
  have c3 := HC1.out.cell HC3.out
  clear hca HAT HKB HCA
  go_upto_region 8 with (go_at_call 21; refine (HPS.out _ HC1.out).mono ?_; rintro e w5 ⟨rfl, hc5⟩)
  have HC5 := Lib.hid (HC1.out.trans' hc5)
  have HK5 := Lib.hid (hc5.keep HKB2.out (fun x => x))
  have c3 := HC5.out.cell HC3.out
  clear hc5 HPS
  have hr2 := HRE.out.chg HC5.out (fun _ _ x => x)
  obtain ⟨gp, opp, cp, hve, -, -⟩ := hr2.addr (by omega)
  cases hve
  have hcells : ∀ t u, x.elems[j].cells[t]? = some u → t < 4 → w5.cell? ⟨gp, opp + j * 4 + t, none⟩ = some u := fun t u hu ht => by
    rw [Nat.add_assoc]
    exact hr2.cellAt (j * 4 + t) u (by rw [flat_get _ 4 Val.len x.elems j t hj ht]; exact hu)
  have p1 : w5.cell? ⟨gp, opp + j * 4, none⟩ = some (.int .i64 x.elems[j].kind) := hcells 0 _ rfl (by omega)
  have p2 := hcells 1 _ rfl (by omega)
  have p3 := hcells 2 _ rfl (by omega)
  have p4 := hcells 3 _ rfl (by omega)
  have j0 : (0 : Int) ≤ (j : Int) := by omega
  have j1 : (j : Int) < (x.elems.length : Int) := by omega
  obtain ⟨z0, q0, z1, q1, z2, q2, z3, q3, hbf, hcs⟩ := store4 HK5.out (.int .i64 x.elems[j].kind) (.int .i64 x.elems[j].int) (.string x.elems[j].str) (.int .i64 x.elems[j].ref)
  clear hcells hr2
  go_wp2_with fail
  generalize ((((w5.setCell ⟨b6, 0, none⟩ (.int .i64 x.elems[j].kind)).setCell ⟨b6, 1, none⟩ (.int .i64 x.elems[j].int)).setCell ⟨b6, 2, none⟩ (.string x.elems[j].str)).setCell ⟨b6, 3, none⟩ (.int .i64 x.elems[j].ref)) = wz at *
  refine bodyPost_ret (results_cell_row_tmp rfl _ _ b6 #[.int .i64 x.elems[j].kind, .int .i64 x.elems[j].int, .string x.elems[j].str, .int .i64 x.elems[j].ref] (by rfl) (run_loadVar_row _ b6 36 36 _ _ _ hbf Tryd.underlying36 rfl (by kernel_rfl))) rfl ?_
  exact ⟨rfl, HC5.out.trans hcs (fun _ _ x => x) (fun k hk e => by have := HB6.out; omega)⟩
set_option maxHeartbeats 6400000 in
set_option maxRecDepth 100000 in
theorem own_beyond (w : World) (b : Nat) (hp : Hp) (F : List Nat) (h : Int) (i : Nat) (key : ByteArray) (H : Here hpR w b 0 hp F) (hi : -9223372036854775808 ≤ h ∧ h ≤ 9223372036854775807) (hs : slotOf hp h = some i) (hl : i < hp.slots.length) (hk : hp.slots[i].obj.kind = 1) (hkl : ¬ key.toList = [108, 101, 110, 103, 116, 104]) (hks : key.size ≤ 1000000) (HT : Tabs w) (j : Nat) (hj : hp.slots[i].obj.elems.length ≤ j) (hlp : hp.slots[i].obj.elems.length ≤ 1000000) (hpz : posM key = (j : Int)) :
    Calls Tryd.prog 23 #[.pointer (some ⟨b, 0, none⟩), .int .i64 h, .string key] w fun e w' => e = .returned (.tuple #[.agg #[.int .i64 0, .int .i64 0, .string ⟨#[]⟩, .int .i64 0], .bool false]) ∧ Chg (fun _ => False) w w' := by
  have hca := Chg.alloc (fun _ => False) w (.cells #[.int .i64 0, .int .i64 0, .string ⟨#[]⟩, .int .i64 0] 36)
  have kb := alloc_block w (.cells #[.int .i64 0, .int .i64 0, .string ⟨#[]⟩, .int .i64 0] 36)
  have HKB := Lib.hid kb
  obtain ⟨gh, oh, kh, c2, G, HOBJ0, hGF, hput⟩ := hpPut H hl
  obtain ⟨vp, ve, vd, vs, HOC⟩ := objOpen HOBJ0
  obtain ⟨ae, cape, rfl, -, -⟩ := HOC.re.slice
  have hat := hat_any _ b 0 hp F h _ (H.still hca) (by rw [Nat.zero_add]; exact hca.cell c2) hi
  rw [hs, show objPtr (.slice (some ⟨gh, oh, none⟩) hp.slots.length kh) (some i) = some ⟨gh, oh + i * 11 + 1, none⟩ from rfl] at hat
  have HAT := Lib.hid hat
  have HRE := Lib.hid HOC.re
  have k0 := HOC.c0
  rw [hk] at k0
  have HC0 := Lib.hid k0
  have HC3 := Lib.hid HOC.c3
  generalize hp.slots[i].obj = x at *
  have HCA := Lib.hid hca
  clear kb hca HOBJ0 hGF hput HOC c2 hi hs H hk hat k0
  have HPS := Lib.hid (fun W (hc : Chg (fun _ => False) w W) => position_any key W hks (HT.still hc))
  have s1 : (key.toList == [108, 101, 110, 103, 116, 104]) = false := beq_false_of_ne hkl
  clear HT hks
  rw [hpz] at HPS
  clear hpz
  go_enter Tryd.func23, Tryd.ntmps23
  go_upto_region 1 with fail
  generalize w.alloc (.cells #[.int .i64 0, .int .i64 0, .string ⟨#[]⟩, .int .i64 0] 36) = w1 at *
  generalize hb6 : w.heap.size = b6 at *
  have HB6 := Lib.hid hb6
  clear hb6
  go_upto_region 4 with (go_at_call 35; refine HAT.out.mono ?_; rintro e wa ⟨rfl, hca⟩)
  have HC1 := Lib.hid (HCA.out.trans' hca)
  have HKB2 := Lib.hid (hca.keep HKB.out (fun x => x))
  have c0 := HC1.out.cell HC0.out
  have c3 := HC1.out.cell HC3.out
  clear hca HAT HKB HCA
  go_upto_region 8 with (go_at_call 21; refine (HPS.out _ HC1.out).mono ?_; rintro e w5 ⟨rfl, hc5⟩)
  have HC5 := Lib.hid (HC1.out.trans' hc5)
  have HK5 := Lib.hid (hc5.keep HKB2.out (fun x => x))
  have c3 := HC5.out.cell HC3.out
  clear hc5 HPS
  have j0 : (0 : Int) ≤ (j : Int) := by omega
  have j1 : ¬ (j : Int) < (x.elems.length : Int) := by omega
  have hr2 := HRE.out.chg HC5.out (fun _ _ x => x)
  obtain ⟨z0, q0, z1, q1, z2, q2, z3, q3, hbf, hcs⟩ := store4 HK5.out (.int .i64 0) (.int .i64 0) (.string ⟨#[]⟩) (.int .i64 0)
  go_wp2_with fail
  generalize ((((w5.setCell ⟨b6, 0, none⟩ (.int .i64 0)).setCell ⟨b6, 1, none⟩ (.int .i64 0)).setCell ⟨b6, 2, none⟩ (.string ⟨#[]⟩)).setCell ⟨b6, 3, none⟩ (.int .i64 0)) = wz at *
  refine bodyPost_ret (results_cell_row_tmp rfl _ _ b6 #[.int .i64 0, .int .i64 0, .string ⟨#[]⟩, .int .i64 0] (by rfl) (run_loadVar_row _ b6 36 36 _ _ _ hbf Tryd.underlying36 rfl (by kernel_rfl))) rfl ?_
  exact ⟨rfl, HC5.out.trans hcs (fun _ _ x => x) (fun k hk e => by have := HB6.out; omega)⟩
end Go.Proofs.YtjianickjahdnaaDoor
