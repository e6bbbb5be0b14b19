/-
  The sort, search and delete of integers, laid over this program (printed by the shelf command).
  Sort, search and delete on rows of integers of one's own.
  History.clean, sleep: the pages that sleep.
  The operations of a history, plainly.
  slices.DeleteFunc with clean's closure; History.clean, History.sleep.
  History.clean, History.sleep.
  Moves in memory.
-/
import Derived.Shelf.Sort.Plain
import Derived.Shelf.Slices.Turned
import Derived.Ground.Names2Prog
import Derived.Shelf.Slices.SearchI
import Derived.Shelf.Slices.Delete
import Derived.Shelf.Slices.In.SortNone
import Derived.Shelf.Slices.Empties
import Derived.Test.YtiecgbmeobpomaaDoorProg
import Derived.Test.YtiecgbmeobpomaaDoorPHistoryPagesb
import Derived.Test.YtiecgbmeobpomaaDoorPHistoryPagesc
namespace Go.Proofs.YtiecgbmeobpomaaDoor
open Go.Shelf
def sh_lays189_ren : Go.Shelf.Ren := ⟨fun | 189 => 46 | 125 => 59 | 257 => 58 | 128 => 81 | 129 => 82 | 294 => 72 | 295 => 73 | 296 => 74 | 297 => 75 | 298 => 76 | 299 => 77 | 216 => 78 | 300 => 79 | 301 => 80 | 328 => 89 | 329 => 90 | 330 => 91 | 331 => 92 | 332 => 93 | 215 => 94 | 343 => 100 | n => n, fun | 28 => 26 | 3 => 3 | 46 => 97 | 0 => 0 | 51 => 119 | 53 => 121 | 4 => 4 | 183 => 111 | 182 => 110 | 131 => 116 | 5 => 5 | 9 => 9 | 218 => 129 | 222 => 133 | 228 => 143 | 229 => 144 | n => n, fun | n => n⟩
theorem sh_lays189 : Go.Proofs.Lays.n189 Tryd.prog sh_lays189_ren := {
  mixed := by kernel_rfl
  f125 := Tryd.func59.trans (congrArg some (by kernel_rfl))
  f128 := Tryd.func81.trans (congrArg some (by kernel_rfl))
  f129 := Tryd.func82.trans (congrArg some (by kernel_rfl))
  f189 := Tryd.func46.trans (congrArg some (by kernel_rfl))
  f215 := Tryd.func94.trans (congrArg some (by kernel_rfl))
  f216 := Tryd.func78.trans (congrArg some (by kernel_rfl))
  f257 := Tryd.func58.trans (congrArg some (by kernel_rfl))
  f294 := Tryd.func72.trans (congrArg some (by kernel_rfl))
  f295 := Tryd.func73.trans (congrArg some (by kernel_rfl))
  f296 := Tryd.func74.trans (congrArg some (by kernel_rfl))
  f297 := Tryd.func75.trans (congrArg some (by kernel_rfl))
  f298 := Tryd.func76.trans (congrArg some (by kernel_rfl))
  f299 := Tryd.func77.trans (congrArg some (by kernel_rfl))
  f300 := Tryd.func79.trans (congrArg some (by kernel_rfl))
  f301 := Tryd.func80.trans (congrArg some (by kernel_rfl))
  f328 := Tryd.func89.trans (congrArg some (by kernel_rfl))
  f329 := Tryd.func90.trans (congrArg some (by kernel_rfl))
  f330 := Tryd.func91.trans (congrArg some (by kernel_rfl))
  f331 := Tryd.func92.trans (congrArg some (by kernel_rfl))
  f332 := Tryd.func93.trans (congrArg some (by kernel_rfl))
  f343 := Tryd.func100.trans (congrArg some (by kernel_rfl))
  t0 := Tryd.underlying0
  a0 := Tryd.isAgg0
  z0 := Tryd.sizeOf0
  v0 := Tryd.zeroValue0
  t3 := Tryd.underlying3
  a3 := Tryd.isAgg3
  z3 := Tryd.sizeOf3
  v3 := Tryd.zeroValue3
  t4 := Tryd.underlying4
  a4 := Tryd.isAgg4
  z4 := Tryd.sizeOf4
  v4 := Tryd.zeroValue4
  t5 := Tryd.underlying5
  a5 := Tryd.isAgg5
  z5 := Tryd.sizeOf5
  v5 := Tryd.zeroValue5
  t9 := Tryd.underlying9
  a9 := Tryd.isAgg9
  z9 := Tryd.sizeOf9
  v9 := Tryd.zeroValue9
  t28 := Tryd.underlying26
  a28 := Tryd.isAgg26
  z28 := Tryd.sizeOf26
  v28 := Tryd.zeroValue26
  t46 := Tryd.underlying97
  a46 := Tryd.isAgg97
  z46 := Tryd.sizeOf97
  v46 := Tryd.zeroValue97
  t51 := Tryd.underlying119
  a51 := Tryd.isAgg119
  z51 := Tryd.sizeOf119
  v51 := Tryd.zeroValue119
  t53 := Tryd.underlying121
  a53 := Tryd.isAgg121
  z53 := Tryd.sizeOf121
  v53 := Tryd.zeroValue121
  t131 := Tryd.underlying116
  a131 := Tryd.isAgg116
  z131 := Tryd.sizeOf116
  v131 := Tryd.zeroValue116
  t182 := Tryd.underlying110
  a182 := Tryd.isAgg110
  z182 := Tryd.sizeOf110
  v182 := Tryd.zeroValue110
  t183 := Tryd.underlying111
  a183 := Tryd.isAgg111
  z183 := Tryd.sizeOf111
  v183 := Tryd.zeroValue111
  t218 := Tryd.underlying129
  a218 := Tryd.isAgg129
  z218 := Tryd.sizeOf129
  v218 := Tryd.zeroValue129
  t222 := Tryd.underlying133
  a222 := Tryd.isAgg133
  z222 := Tryd.sizeOf133
  v222 := Tryd.zeroValue133
  t228 := Tryd.underlying143
  a228 := Tryd.isAgg143
  z228 := Tryd.sizeOf143
  v228 := Tryd.zeroValue143
  t229 := Tryd.underlying144
  a229 := Tryd.isAgg144
  z229 := Tryd.sizeOf144
  v229 := Tryd.zeroValue144 }
open Go.Sort Go.RowKit in
theorem sh_slices_Sort_int (blk off cap : Nat) (zs : List Int) (w : World) (hH : Holds (Value.int .i64) w blk off zs.toArray) (hblk : blk < w.heap.size) (hsz : zs.length < 4611686018427387904) :
    Calls Tryd.prog 46 #[.slice (some ⟨blk, off, none⟩) zs.length cap] w fun e w' =>
      e = .returned (.tuple #[]) ∧ ∃ n os, w' = grow (putRow (Value.int .i64) (Sort.ahead w n) blk off (zs.mergeSort fun x y => decide (x ≤ y)).toArray) os := Any.slices_Sort_int sh_lays189 blk off cap zs w hH hblk hsz
def sh_lays108_ren : Go.Shelf.Ren := ⟨fun | 108 => 39 | n => n, fun | 28 => 26 | 3 => 3 | 0 => 0 | 4 => 4 | n => n, fun | n => n⟩
theorem sh_lays108 : Go.Proofs.Lays.n108 Tryd.prog sh_lays108_ren := {
  mixed := by kernel_rfl
  f108 := Tryd.func39.trans (congrArg some (by kernel_rfl))
  t0 := Tryd.underlying0
  a0 := Tryd.isAgg0
  z0 := Tryd.sizeOf0
  v0 := Tryd.zeroValue0
  t3 := Tryd.underlying3
  a3 := Tryd.isAgg3
  z3 := Tryd.sizeOf3
  v3 := Tryd.zeroValue3
  t4 := Tryd.underlying4
  a4 := Tryd.isAgg4
  z4 := Tryd.sizeOf4
  v4 := Tryd.zeroValue4
  t28 := Tryd.underlying26
  a28 := Tryd.isAgg26
  z28 := Tryd.sizeOf26
  v28 := Tryd.zeroValue26 }
open Go.Lib in
theorem sh_slices_Index_int (b off n c : Nat) (zs : List Int) (x : Int) (w : World) (hz : n ≤ zs.length) (hbig : n ≤ 9223372036854775807) (hc : ∀ j, j < zs.length → w.cell? ⟨b, off + j, none⟩ = some (.int .i64 (zs.getD j 0))) :
    Calls Tryd.prog 39 #[.slice (some ⟨b, off, none⟩) n c, .int .i64 x] w fun e w' => e = .returned (.int .i64 (Lib.idxOf (zs.take n) x)) ∧ w' = w := Any.slices_Index_int sh_lays108 b off n c zs x w hz hbig hc
open Go.Lib in
theorem sh_slices_Index_int_empty (a : Option Addr) (c : Nat) (x : Int) (w : World) :
    Calls Tryd.prog 39 #[.slice a 0 c, .int .i64 x] w fun e w' => e = .returned (.int .i64 (Lib.idxOf [] x)) ∧ w' = w := Any.slices_Index_int_empty sh_lays108 a c x w
def sh_laysNm223_ren : Go.Shelf.Ren := ⟨fun | 23 => 40 | n => n, fun | 22 => 26 | 3 => 3 | 4 => 4 | 0 => 0 | n => n, fun | n => n⟩
theorem sh_laysNm223 : Go.Proofs.Lays2.n23 Tryd.prog sh_laysNm223_ren := {
  mixed := by kernel_rfl
  f23 := Tryd.func40.trans (congrArg some (by kernel_rfl))
  t0 := Tryd.underlying0
  a0 := Tryd.isAgg0
  z0 := Tryd.sizeOf0
  v0 := Tryd.zeroValue0
  t3 := Tryd.underlying3
  a3 := Tryd.isAgg3
  z3 := Tryd.sizeOf3
  v3 := Tryd.zeroValue3
  t4 := Tryd.underlying4
  a4 := Tryd.isAgg4
  z4 := Tryd.sizeOf4
  v4 := Tryd.zeroValue4
  t22 := Tryd.underlying26
  a22 := Tryd.isAgg26
  z22 := Tryd.sizeOf26
  v22 := Tryd.zeroValue26
  i3 := by kernel_rfl }
open Go.RowKit Go.Lib Go.Sort in
theorem sh_slices_Delete_int (blk off cap i j : Nat) (zs : List Int) (w : World) (hH : Holds (Value.int .i64) w blk off zs.toArray) (hcap : zs.length ≤ cap) (hm : cap ≤ 9223372036854775807) (hij : i ≤ j) (hj : j ≤ zs.length) :
    Calls Tryd.prog 40 #[.slice (some ⟨blk, off, none⟩) zs.length cap, .int .i64 i, .int .i64 j] w fun e w' => e = .returned (.slice (some ⟨blk, off, none⟩) (zs.length - (j - i)) cap) ∧ ∃ q, w' = putRow (Value.int .i64) (Sort.ahead w q) blk off (zs.take i ++ zs.drop j ++ List.replicate (j - i) 0).toArray := Any.slices_Delete_int sh_laysNm223 blk off cap i j zs w hH hcap hm hij hj
open Go.RowKit Go.Sort in
theorem sh_slices_Sort_int_none (p : Option Addr) (cap : Nat) (w : World) :
    Calls Tryd.prog 46 #[.slice p 0 cap] w fun e w' => e = .returned (.tuple #[]) ∧ w' = w := Any.slices_Sort_int_none sh_lays189 p cap w
open Go.RowKit Go.Lib in
theorem sh_slices_Delete_int_empty (a : Option Addr) (c : Nat) (w : World) :
    Calls Tryd.prog 40 #[.slice a 0 c, .int .i64 0, .int .i64 0] w fun e w' => e = .returned (.slice a 0 c) ∧ w' = w := Any.slices_Delete_int_empty sh_laysNm223 a c w
end Go.Proofs.YtiecgbmeobpomaaDoor
namespace Go.Proofs.YtiecgbmeobpomaaDoor
open Go.RowKit
set_option linter.unusedVariables false
set_option linter.unusedSimpArgs false

def sorted (zs : List Int) : List Int := zs.mergeSort fun x y => decide (x ≤ y)
theorem sorted_length (zs : List Int) : (sorted zs).length = zs.length := by simp [sorted]
theorem holds_row {w : World} {g off cap : Nat} {zs : List Int} (h : RowAt w 3 1 (.slice (some ⟨g, off, none⟩) zs.length cap) zs.length (intC zs)) (hf : ∀ j, w.frozen? ⟨g, off + j, none⟩ = false) :
    Sort.Holds (Value.int .i64) w g off zs.toArray := by
  intro j hj
  have hj' : j < zs.length := by simpa using hj
  refine ⟨?_, hf j⟩
  have := h.cellAt j (.int .i64 zs[j]) (by simp [hj', intC])
  rw [this]
  simp [hj']
theorem put_row {w : World} {g off cap n : Nat} {zs : List Int} {cur : Array Value} (hg : w.heap[g]? = some (.cells cur 3 (0, 0))) (hn : n ≤ cap) (hc : cap ≤ maxLen) (hs : off + cap * 1 ≤ cur.size) (hl : zs.length = n) (q : Nat) (os : Array _root_.Go.Obj) :
    RowAt (Sort.grow (Sort.putRow (Value.int .i64) (Sort.ahead w q) g off zs.toArray) os) 3 1 (.slice (some ⟨g, off, none⟩) n cap) n (intC zs) ∧ Chg (fun k => k = g) w (Sort.grow (Sort.putRow (Value.int .i64) (Sort.ahead w q) g off zs.toArray) os) := by
  have hblk := lt_of_block hg
  have hbox : (Sort.grow (Sort.putRow (Value.int .i64) (Sort.ahead w q) g off zs.toArray) os).heap[g]? = some (.cells (Sort.putCells (Value.int .i64) off zs.toArray cur) 3 (0, 0)) := by
    simp only [Sort.grow, Sort.putRow, Sort.mapBlock, Sort.ahead]
    rw [Array.getElem?_append_left (by simpa using hblk), Array.getElem?_modify, if_pos rfl, hg]
    rfl
  refine ⟨⟨by rw [intC_len, hl]; omega, .inr ⟨g, off, cap, _, rfl, hbox, hn, hc, by simpa [Sort.putCells] using hs, ?_⟩⟩, ⟨rfl, rfl, rfl, by simp [Sort.grow, Sort.putRow, Sort.mapBlock, Sort.ahead], fun k hk hne => ?_⟩⟩
  · refine List.ext_getElem? fun j => ?_
    by_cases hj : j < n
    · rw [take_drop_get (by omega)]
      have hlt : off + j < cur.size := by omega
      simp only [Sort.putCells, Array.toList_mapIdx, List.getElem?_mapIdx]
      rw [show cur.toList[off + j]? = some cur[off + j] from by simp [hlt]]
      simp only [Option.map_some, List.size_toArray]
      rw [if_pos ⟨by omega, by omega⟩, show off + j - off = j from by omega]
      have hj2 : j < zs.length := by omega
      rw [intC, List.getElem?_map, List.getElem?_eq_getElem hj2, getElem!_pos _ j (by simpa using hj2)]
      rfl
    · rw [List.getElem?_eq_none (by simp; omega), List.getElem?_eq_none (by rw [intC_len]; omega)]
  · have hkg : g ≠ k := fun e => hne e.symm
    simp only [Sort.grow, Sort.putRow, Sort.mapBlock, Sort.ahead]
    rw [Array.getElem?_append_left (by simpa using hk), Array.getElem?_modify, if_neg hkg]
theorem sortRow (w : World) (v : Value) (zs : List Int) (h : RowAt w 3 1 v zs.length (intC zs)) (hz : Few zs.length) :
    Calls Tryd.prog 46 #[v] w fun e w' => e = .returned (.tuple #[]) ∧ RowAt w' 3 1 v (sorted zs).length (intC (sorted zs)) ∧ Chg (fun k => v.ownBlock = some k) w w' := by
  by_cases hzs : zs = []
  · subst hzs
    obtain ⟨a, cap, rfl, _⟩ := h.slice
    refine (sh_slices_Sort_int_none a cap w).mono ?_
    rintro e w' ⟨rfl, rfl⟩
    exact ⟨rfl, by simpa [sorted] using h, .refl _ _⟩
  have hpos : 0 < zs.length := List.length_pos_iff.2 hzs
  have h' := h
  obtain ⟨hl, hr⟩ := h'
  rcases hr with ⟨_, h0⟩ | ⟨g, off, cap, cur, rfl, hg, h1, h2, h3, h4⟩
  · omega
  have hblk := lt_of_block hg
  refine (sh_slices_Sort_int g off cap zs w (holds_row h fun j => frozen_of_block hg) hblk (by have := hz.lt; omega)).mono ?_
  rintro e w' ⟨rfl, n, os, rfl⟩
  obtain ⟨k1, k2⟩ := put_row (zs := sorted zs) hg (by rw [sorted_length]; exact h1) h2 h3 rfl n os
  rw [sorted_length] at k1 ⊢
  exact ⟨rfl, k1, k2.mono (fun k _ e => by subst e; rfl)⟩
theorem delI_any (w : World) (v : Value) (zs : List Int) (i j : Nat) (h : RowAt w 3 1 v zs.length (intC zs)) (hij : i < j) (hj : j ≤ zs.length) :
    Calls Tryd.prog 40 #[v, .int .i64 (i : Int), .int .i64 (j : Int)] w fun e w' => ∃ v', e = .returned v' ∧ RowAt w' 3 1 v' (zs.take i ++ zs.drop j).length (intC (zs.take i ++ zs.drop j)) ∧ Chg (fun k => v.ownBlock = some k) w w' ∧ (∀ k, v'.ownBlock = some k → v.ownBlock = some k) := by
  have h' := h
  obtain ⟨hl, hr⟩ := h'
  rcases hr with ⟨_, h0⟩ | ⟨g, off, cap, cur, rfl, hg, h1, h2, h3, h4⟩
  · omega
  have hll : (zs.take i ++ zs.drop j).length = zs.length - (j - i) := by rw [List.length_append, List.length_take, List.length_drop]; omega
  refine (sh_slices_Delete_int g off cap i j zs w (holds_row h fun j => frozen_of_block hg) h1 h2 (by omega) hj).mono ?_
  rintro e w' ⟨rfl, q, rfl⟩
  have hl3 : (zs.take i ++ zs.drop j ++ List.replicate (j - i) (0 : Int)).length = zs.length := by rw [List.length_append, hll, List.length_replicate]; omega
  obtain ⟨k1, k2⟩ := put_row hg h1 h2 h3 hl3 q #[]
  rw [Sort.grow_empty] at k1 k2
  refine ⟨_, rfl, ?_, k2.mono (fun k _ e => by subst e; rfl), fun k hk => hk⟩
  have hp := k1.prefix (m := (zs.take i ++ zs.drop j).length) (by omega)
  rw [Nat.mul_one] at hp
  have hx : (intC (zs.take i ++ zs.drop j ++ List.replicate (j - i) (0 : Int))).take (zs.take i ++ zs.drop j).length = intC (zs.take i ++ zs.drop j) := by
    unfold intC
    rw [List.map_append]
    exact List.take_left' (by rw [List.length_map])
  rw [hx] at hp
  rw [hll] at hp ⊢
  exact hp
theorem idxI_any (w : World) (v : Value) (zs : List Int) (x : Int) (h : RowAt w 3 1 v zs.length (intC zs)) :
    Calls Tryd.prog 39 #[v, .int .i64 x] w fun e w' => e = .returned (.int .i64 (Lib.idxOf zs x)) ∧ w' = w := by
  by_cases hzs : zs = []
  · subst hzs
    obtain ⟨a, cap, rfl, _⟩ := h.slice
    exact sh_slices_Index_int_empty a cap x w
  have hpos : 0 < zs.length := List.length_pos_iff.2 hzs
  obtain ⟨g, off, cap, rfl, h1, h2⟩ := h.addr hpos
  have := sh_slices_Index_int g off zs.length cap zs x w (Nat.le_refl _) (by unfold maxLen at h2; omega) (fun j hj => by
    have := h.cellAt j (.int .i64 zs[j]) (by simp [hj, intC])
    rw [this, List.getD_eq_getElem?_getD, List.getElem?_eq_getElem hj]
    rfl)
  rwa [List.take_length] at this
theorem idxFrom_or (x : Int) : ∀ (zs : List Int) (k : Nat), (x ∉ zs ∧ Lib.idxFrom zs x k = -1) ∨ ∃ i, i < zs.length ∧ Lib.idxFrom zs x k = (k : Int) + (i : Int) ∧ zs.take i ++ zs.drop (i + 1) = zs.erase x ∧ x ∈ zs
  | [], k => .inl ⟨by simp, rfl⟩
  | z :: zs, k => by
    by_cases h : z = x
    · refine .inr ⟨0, by simp, ?_, by simp [h], by simp [h]⟩
      simp [Lib.idxFrom, h]
    · rcases idxFrom_or x zs (k + 1) with ⟨h1, h2⟩ | ⟨i, h1, h2, h3, h4⟩
      · refine .inl ⟨by simp only [List.mem_cons, not_or]; exact ⟨fun e => h e.symm, h1⟩, ?_⟩
        rw [← h2]
        simp [Lib.idxFrom, h]
      · refine .inr ⟨i + 1, by simp; omega, ?_, ?_, by simp [h4]⟩
        · have : Lib.idxFrom (z :: zs) x k = Lib.idxFrom zs x (k + 1) := by simp [Lib.idxFrom, h]
          rw [this, h2]
          simp only [Int.natCast_add, Int.cast_ofNat_Int]
          omega
        · rw [List.take_succ_cons, List.drop_succ_cons, List.cons_append, h3, List.erase_cons_tail (by simpa using h)]
theorem idxOf_or (x : Int) (zs : List Int) : (x ∉ zs ∧ Lib.idxOf zs x = -1) ∨ ∃ i, i < zs.length ∧ Lib.idxOf zs x = (i : Int) ∧ zs.take i ++ zs.drop (i + 1) = zs.erase x ∧ x ∈ zs := by
  rcases idxFrom_or x zs 0 with h | ⟨i, h1, h2, h3⟩
  · exact .inl h
  · exact .inr ⟨i, h1, by rw [Lib.idxOf, h2]; omega, h3⟩
end Go.Proofs.YtiecgbmeobpomaaDoor
namespace Go.Proofs.YtiecgbmeobpomaaDoor
open Go.RowKit
set_option linter.unusedVariables false
set_option linter.unusedSimpArgs false

theorem RowAt.lit {W : World} {e size n : Nat} (cs : List Value) (h : cs.length = n * size) (hn : n ≤ maxLen) : RowAt (W.alloc (.cells cs.toArray e)) e size (.slice (some ⟨W.heap.size, 0, none⟩) n n) n cs :=
  ⟨h, .inr ⟨W.heap.size, 0, n, _, rfl, alloc_block W _, Nat.le_refl _, hn, by simp [h], by simp [← h]⟩⟩
/-- append of integers to a row. -/
theorem wpList_outR {W : World} {ops : Array Oper} {rest : List Oper} {o : Oper} {a : Act} {Q : Exit → Act → World → Prop} (hgd : o.guard = none) (s x : Operand)
    (ho : o.op = .call { callee := .builtin .append, args := #[s, x], argTypes := #[26, 26] })
    (v : Value) (l : List Int) (hsv : a.eval s = v) (H : RowAt W 3 1 v l.length (intC l)) (xv : Value) (m : List Int) (hx : a.eval x = xv) (hxr : RowAt W 3 1 xv m.length (intC m)) (hf : Few (l.length + m.length))
    (h : ∀ a1 n1 c1 w', RowAt w' 3 1 (.slice a1 n1 c1) (l ++ m).length (intC (l ++ m)) → Chg (fun k => v.ownBlock = some k) W w' → (∀ k, (Value.slice a1 n1 c1).ownBlock = some k → v.ownBlock = some k ∨ W.heap.size ≤ k) → wpList Tryd.prog ops Q rest (a.put o.dst (.slice a1 n1 c1)) w') :
    wpList Tryd.prog ops Q (o :: rest) a W := by
  refine list_append_rows hgd s x 26 ho 3 1 8 Tryd.underlying26 elem_int (by decide) v l.length (intC l) hsv H xv m.length (intC m) hx hxr (intC_ones m) (by have := hf.lt; unfold maxLen; omega) (by have := hf.lt; omega) ?_
  intro a1 n1 c1 w' hrow hchg hold
  refine h a1 n1 c1 w' ?_ hchg hold
  have : intC l ++ intC m = intC (l ++ m) := by simp [intC]
  rw [List.length_append, ← this]; exact hrow
def shownP (h : Hist) (p : Int) : Bool := h.list.any (fun e => e.page == p)
def goneL (h : Hist) (l : List Int) : List Int := l.filter (fun p => !shownP h p)
def keptL (h : Hist) (l : List Int) : List Int := l.filter (shownP h)
/-- The sleeping row reads another list. -/
theorem HiAt.slept {w0 : Past} {w w1 : World} {b : Nat} {h : Hist} {vl vs : Value} {rs : List EntR} (H : HiAt w0 w b h vl vs rs) (hc : Chg (fun k => vs.ownBlock = some k) w w1) (cur : List Int) (hr : RowAt w1 3 1 vs cur.length (intC cur)) (hf : cur.length ≤ 1000) :
    HiAt w0 w1 b { h with sleeping := cur } vl vs rs :=
  ⟨hc.keep H.box H.sb, H.row.chg hc H.ls, hr, H.len, fun i a c => (H.each i a c).chg hc (fun k _ x => .inl (.inr (.inr x))) (fun _ _ x => x), H.lb, H.sb, H.ls, H.lo,
    H.chg.trans hc (fun _ _ x => x) (fun k hk x => by have := H.lo k (.inr (.inr x)); omega), H.ok, ⟨H.few.1, hf⟩, H.msgs, fun k hk => Nat.lt_of_lt_of_le (H.xl k hk) hc.size, H.xm⟩
/-- The sleeping slice is another one. -/
theorem HiAt.resleep {w0 : Past} {w w1 : World} {b : Nat} {h : Hist} {vl vs vs' : Value} {rs : List EntR} (H : HiAt w0 w b h vl vs rs) (hc : Chg (fun k => vs.ownBlock = some k) w w1) (cur : List Int) (hr : RowAt w1 3 1 vs' cur.length (intC cur)) (hf : cur.length ≤ 1000) (hold : ∀ k, vs'.ownBlock = some k → vs.ownBlock = some k ∨ w.heap.size ≤ k) :
    HiAt w0 (w1.setCell ⟨b, 4, none⟩ vs') b { h with sleeping := cur } vl vs' rs := by
  have hbl : b < w.heap.size := (Array.getElem?_eq_some_iff.1 H.box).1
  have hc2 : Chg (fun k => k = b) w1 (w1.setCell ⟨b, 4, none⟩ vs') := Chg.setCell w1 ⟨b, 4, none⟩ vs'
  have hb1 := hc.keep H.box H.sb
  have hb2 := setCell_block (i := 4) vs' hb1
  have hall : Chg (fun k => vs.ownBlock = some k ∨ k = b) w (w1.setCell ⟨b, 4, none⟩ vs') := hc.trans hc2 (fun _ _ x => .inl x) (fun _ _ x => .inr x)
  have hsb' : ¬ vs'.ownBlock = some b := fun e => by rcases hold b e with x | x; exact H.sb x; omega
  have hll : ∀ k, vl.ownBlock = some k → k < w.heap.size := H.row.lt
  refine ⟨by simpa using hb2, H.row.chg hall (fun k hk e => e.elim (fun x => H.ls k hk x) (fun x => H.lb (x ▸ hk))), hr.chg hc2 (fun k hk e => hsb' (e ▸ hk)), H.len, fun i a c => (H.each i a c).chg hall (fun k hk x => .inl (x.elim (fun y => .inr (.inr y)) .inl)) (fun k hk x => ?_), H.lb, hsb', fun k hk e => ?_, fun k hk => ?_, ?_, H.ok, ⟨H.few.1, hf⟩, H.msgs, fun k hk => Nat.lt_of_lt_of_le (H.xl k hk) hall.size, fun k hk x => ?_⟩
  · rcases x with (x | x | x) | x
    · exact .inl (.inl x)
    · exact .inl (.inr (.inl x))
    · rcases hold k x with y | y
      · exact .inl (.inr (.inr y))
      · omega
    · exact .inr x
  · rcases hold k e with y | y
    · exact H.ls k hk y
    · have := hll k hk; omega
  · rcases hk with x | x | x
    · exact H.lo k (.inl x)
    · exact H.lo k (.inr (.inl x))
    · rcases hold k x with y | y
      · exact H.lo k (.inr (.inr y))
      · exact Nat.le_trans H.chg.size y
  · exact H.chg.trans hall (fun _ _ x => x) (fun k hk x => by
      have := H.lo k (x.elim (fun y => .inr (.inr y)) .inl)
      omega)
  · rcases hk with y | y | y
    · exact H.xm k (.inl y) x
    · exact H.xm k (.inr (.inl y)) x
    · rcases hold k y with z | z
      · exact H.xm k (.inr (.inr z)) x
      · have := H.xl k x; omega
/-- clean under way: the row that sleeps reads cur, the pages found out. -/
structure ClI (ws : World) (b : Nat) (vs : Value) (pb ob : Nat) (W : World) (cur out : List Int) (vo : Value) : Prop where
  slp : RowAt W 3 1 vs cur.length (intC cur)
  few : cur.length ≤ 1000
  pbc : W.cell? ⟨pb, 0, none⟩ = some (.pointer (some ⟨b, 0, none⟩))
  obb : W.heap[ob]? = some (.cells #[vo] 26 (0, 0))
  row : RowAt W 3 1 vo out.length (intC out)
  new : ∀ k, vo.ownBlock = some k → ws.heap.size ≤ k ∧ k ≠ pb ∧ k ≠ ob
  lo : ws.heap.size ≤ pb ∧ ws.heap.size ≤ ob ∧ pb ≠ ob
  chg : Chg (fun k => vs.ownBlock = some k) ws W
theorem ClI.still {ws : World} {b : Nat} {vs : Value} {pb ob : Nat} {W W1 : World} {cur out : List Int} {vo : Value} (I : ClI ws b vs pb ob W cur out vo) (hc : Chg (fun _ => False) W W1) : ClI ws b vs pb ob W1 cur out vo :=
  ⟨I.slp.chg hc (fun _ _ x => x), I.few, hc.cell I.pbc, hc.keep I.obb (fun x => x), I.row.chg hc (fun _ _ x => x), I.new, I.lo, I.chg.trans hc (fun _ _ x => x) (fun _ _ x => x.elim)⟩
theorem ClI.more {ws : World} {b : Nat} {vs : Value} {pb ob : Nat} {W W1 : World} {cur out out' : List Int} {vo vo' : Value} (I : ClI ws b vs pb ob W cur out vo) (hsl : ∀ k, vs.ownBlock = some k → k < ws.heap.size) (hc : Chg (fun k => vo.ownBlock = some k) W W1) (hr : RowAt W1 3 1 vo' out'.length (intC out')) (hold : ∀ k, vo'.ownBlock = some k → vo.ownBlock = some k ∨ W.heap.size ≤ k) :
    ClI ws b vs pb ob (W1.setCell ⟨ob, 0, none⟩ vo') cur out' vo' := by
  have hc2 : Chg (fun k => k = ob) W1 (W1.setCell ⟨ob, 0, none⟩ vo') := Chg.setCell W1 ⟨ob, 0, none⟩ vo'
  have hall : Chg (fun k => vo.ownBlock = some k ∨ k = ob) W (W1.setCell ⟨ob, 0, none⟩ vo') := hc.trans hc2 (fun _ _ x => .inl x) (fun _ _ x => .inr x)
  have hob : ob < W.heap.size := (Array.getElem?_eq_some_iff.1 I.obb).1
  have hpb : pb < W.heap.size := World.block_lt_of_cell? W _ I.pbc
  have hb1 := hc.keep I.obb (fun e => (I.new ob e).2.2 rfl)
  have hb2 := setCell_block (i := 0) vo' hb1
  have hn : ∀ k, vo'.ownBlock = some k → ws.heap.size ≤ k ∧ k ≠ pb ∧ k ≠ ob := fun k hk => by
    rcases hold k hk with x | x
    · exact I.new k x
    · exact ⟨Nat.le_trans I.chg.size x, by omega, by omega⟩
  refine ⟨I.slp.chg hall (fun k hk e => ?_), I.few, hall.cellS I.pbc (fun e => ?_), by simpa using hb2, hr.chg hc2 (fun k hk e => (hn k hk).2.2 e), hn, I.lo, I.chg.trans hall (fun _ _ x => x) (fun k hk x => ?_)⟩
  · have := hsl k hk
    rcases e with e | e
    · have := (I.new k e).1; omega
    · have := I.lo.2.1; omega
  · rcases e with e | e
    · exact (I.new pb e).2.1 rfl
    · exact I.lo.2.2 e
  · rcases x with e | e
    · have := (I.new k e).1; omega
    · have := I.lo.2.1; omega
set_option maxHeartbeats 1600000 in
set_option maxRecDepth 100000 in
theorem clean1_any (w0 : Past) (ws : World) (b : Nat) (h : Hist) (vl vs : Value) (rs : List EntR) (H : HiAt w0 ws b h vl vs rs) (pb ob : Nat) (W : World) (cur out : List Int) (vo : Value) (I : ClI ws b vs pb ob W cur out vo) (p : Int) (ho : out.length ≤ 1000) :
    Calls Tryd.prog 55 #[.int .i64 p, .pointer (some ⟨pb, 0, none⟩), .pointer (some ⟨ob, 0, none⟩)] W fun e w' => e = .returned (.bool (!shownP h p)) ∧ ∃ vo', ClI ws b vs pb ob w' cur (out ++ goneL h [p]) vo' := by
  have hsl : ∀ k, vs.ownBlock = some k → k < ws.heap.size := H.slp.lt
  have hi := H.slept I.chg cur I.slp I.few
  have HSH := Lib.hid (shown_any w0 W b _ vl vs rs hi p)
  have c0 := I.pbc
  have HI := Lib.hid I
  have HSL := Lib.hid hsl
  have HO := Lib.hid ho
  have hgl : goneL h [p] = if shownP h p = true then [] else [p] := by
    unfold goneL
    by_cases hq : shownP h p = true
    · simp [hq]
    · simp only [Bool.not_eq_true] at hq; simp [hq]
  rw [hgl]
  have hsp : h.list.any (fun e => e.page == p) = shownP h p := rfl
  rw [hsp] at HSH
  generalize shownP h p = q at *
  clear hi hsl I H ho hgl hsp
  cases q with
  | true =>
    go_enter Tryd.func55, Tryd.ntmps55
    go_wp2_with (go_at_call 45; refine HSH.out.mono ?_; rintro _ w1 ⟨rfl, hc1⟩)
    go_ret
    exact ⟨rfl, vo, by simpa using HI.out.still hc1⟩
  | false =>
    go_enter Tryd.func55, Tryd.ntmps55
    go_upto_region 2 with (go_at_call 45; refine HSH.out.mono ?_; rintro _ w1 ⟨rfl, hc1⟩)
    have hi1 := HI.out.still hc1
    have d0 := cell_of_block (i := 0) hi1.obb rfl
    simp only [List.getElem_toArray, List.getElem_cons_zero] at d0
    have HI1 := Lib.hid hi1
    have FR : Hid (∀ W1, Chg (fun k => vo.ownBlock = some k) (w1.alloc (.cells #[.int .i64 p] 3)) W1 → (∃ u, W1.cell? ⟨ob, 0, none⟩ = some u) ∧ W1.frozen? ⟨ob, 0, none⟩ = false) := Lib.hid (fun W1 hc => by
      have hb := hc.keep ((Chg.alloc (fun _ => False) w1 _).keep hi1.obb (fun x => x)) (fun e => (hi1.new ob e).2.2 rfl)
      exact ⟨⟨_, cell_of_block (i := 0) hb rfl⟩, frozen_of_block hb⟩)
    obtain ⟨ao, co, rfl, -, -⟩ := hi1.row.slice
    clear hi1 HI HSH c0
    go_wp2_with (at_builtin; refine wpList_outR rfl (.tmp 11) (.tmp 13) rfl _ out rfl (HI1.out.row.alloc _) _ [p] rfl (RowAt.lit [.int .i64 p] rfl (by simp [maxLen])) (⟨by have := HO.out; simp only [List.length_cons, List.length_nil]; omega⟩ : Few _) ?_; intro a2 n2 c2 w2 hrow2 hchg2 hold2; obtain ⟨⟨u2, hu2⟩, hf2⟩ := FR.out w2 hchg2)
    go_ret
    have hx : Chg (fun k => (Value.slice ao out.length co).ownBlock = some k) w1 w2 := (Chg.alloc (fun _ => False) w1 _).trans hchg2 (fun _ _ x => x.elim) (fun _ _ x => x)
    refine ⟨rfl, .slice a2 n2 c2, ?_⟩
    refine HI1.out.more HSL.out hx hrow2 (fun k hk => ?_)
    rcases hold2 k hk with x | x
    · exact .inl x
    · exact .inr (by rw [World.size_alloc] at x; omega)
/-- Where the first page without an entry is. -/
def findG (h : Hist) : List Int → Nat → Option Nat
  | [], _ => none
  | p :: l, k => if shownP h p = true then findG h l (k + 1) else some k
def idxG : Option Nat → Int
  | none => -1
  | some i => (i : Int)
def outG (l : List Int) : Option Nat → List Int
  | none => []
  | some i => [l.getD i 0]
theorem findG_none (h : Hist) : ∀ (l : List Int) (k : Nat), findG h l k = none → goneL h l = [] ∧ keptL h l = l
  | [], k, _ => ⟨rfl, rfl⟩
  | p :: l, k, he => by
    by_cases hq : shownP h p = true
    · rw [findG, if_pos hq] at he
      obtain ⟨h1, h2⟩ := findG_none h l (k + 1) he
      unfold goneL keptL at *
      exact ⟨by simp [hq, h1], by simp [hq, h2]⟩
    · rw [findG, if_neg hq] at he
      cases he
theorem findG_some (h : Hist) : ∀ (l : List Int) (k i : Nat), findG h l k = some i → ∃ j, i = k + j ∧ ∃ hj : j < l.length, goneL h (l.take (j + 1)) = goneL h [l[j]] ∧ keptL h (l.take (j + 1)) = l.take j
  | [], k, i, he => by cases he
  | p :: l, k, i, he => by
    by_cases hq : shownP h p = true
    · rw [findG, if_pos hq] at he
      obtain ⟨j, h1, hj, h2, h3⟩ := findG_some h l (k + 1) i he
      refine ⟨j + 1, by omega, by simp; omega, ?_, ?_⟩
      · unfold goneL at *; simp only [List.take_succ_cons, List.getElem_cons_succ]; rw [List.filter_cons, if_neg (by simp [hq]), h2]
      · unfold keptL at *; simp only [List.take_succ_cons]; rw [List.filter_cons, if_pos hq, h3]
    · rw [findG, if_neg hq] at he
      cases he
      refine ⟨0, rfl, by simp, ?_, ?_⟩
      · simp [goneL]
      · simp [keptL, hq]
set_option maxHeartbeats 1600000 in
set_option maxRecDepth 100000 in
theorem indexFuncI_any (w0 : Past) (ws : World) (b : Nat) (h : Hist) (vl vs : Value) (rs : List EntR) (H : HiAt w0 ws b h vl vs rs) (pb ob : Nat) (W : World) (l : List Int) (vo : Value) (I : ClI ws b vs pb ob W l [] vo) :
    Calls Tryd.prog 70 #[vs, .func (.func 55) #[] #[.pointer (some ⟨pb, 0, none⟩), .pointer (some ⟨ob, 0, none⟩)]] W fun e w' => e = .returned (.int .i64 (idxG (findG h l 0))) ∧ ∃ vo', ClI ws b vs pb ob w' l (outG l (findG h l 0)) vo' := by
  have HH := Lib.hid H
  have HL := Lib.hid I.few
  obtain ⟨a, cap, rfl, hc1, hc2⟩ := I.slp.slice
  have HI := Lib.hid I
  clear H I hc1 hc2
  go_enter Tryd.func70, Tryd.ntmps70
  go_wp2_with fail
  go_loopw [5, 8] (fun _ i wr => ∃ k : Nat, k ≤ l.length ∧ i = .int .i64 k ∧ Hid (∃ vo', ClI ws b (.slice a l.length cap) pb ob wr l [] vo') ∧ Hid (findG h l 0 = findG h (l.drop k) k)) (fun _ i _ => l.length - (intOf i).toNat)
  case atStart => exact ⟨0, Nat.zero_le _, rfl, Lib.hid ⟨vo, HI.out⟩, rfl⟩
  case round =>
    obtain ⟨k, hk, rfl, HX, HF⟩ := hrel
    by_cases hlt : k < l.length
    · obtain ⟨vo1, hx⟩ := HX.out
      have HX1 := Lib.hid hx
      obtain ⟨g, off, cap', hv, -, -⟩ := hx.slp.addr (by omega)
      simp only [Value.slice.injEq] at hv
      obtain ⟨rfl, _, rfl⟩ := hv
      have c0 := hx.slp.cellAt k (.int .i64 l[k]) (by simp [intC, hlt])
      have hF := HF.out
      rw [List.drop_eq_getElem_cons hlt, findG] at hF
      have HG := Lib.hid (show l.getD k 0 = l[k] from by rw [List.getD_eq_getElem?_getD, List.getElem?_eq_getElem hlt]; rfl)
      have HC := Lib.hid (clean1_any w0 ws b h vl _ rs HH.out pb ob wr l [] vo1 hx l[k] (Nat.zero_le _))
      have hg1 : goneL h [l[k]] = if shownP h l[k] = true then [] else [l[k]] := by
        unfold goneL
        by_cases hq : shownP h l[k] = true
        · simp [hq]
        · simp only [Bool.not_eq_true] at hq; simp [hq]
      rw [hg1] at HC
      have w64 : IntKind.i64.wrap ((k : Int) + 1) = ((k + 1 : Nat) : Int) := IntWalk.i64_in _ (by have := HL.out; omega)
      have HNX : Hid (k + 1 ≤ l.length) := Lib.hid hlt
      clear HX hx hg1 HI
      generalize l[k] = p at *
      generalize shownP h p = q at *
      have HF2 := Lib.hid hF
      clear hF
      go_wp2_with fail
      refine HC.out.mono ?_
      rintro e w2 ⟨rfl, vo2, hI2⟩
      have hF := HF2.out
      have HI2 := Lib.hid hI2
      clear hI2
      cases q with
      | true =>
        rw [if_pos rfl] at hF
        have HF3 := Lib.hid hF
        clear hF HF HF2 c0
        go_wp2_with fail
        go_roundw
        case rel => exact ⟨k + 1, HNX.out, rfl, Lib.hid ⟨vo2, by simpa using HI2.out⟩, HF3⟩
        case measure => have := HNX.out; simp [intOf, w64]; omega
      | false =>
        rw [if_neg (by simp)] at hF
        have HF3 := Lib.hid hF
        clear hF HF HF2 c0
        go_wp2_with fail
        go_ret
        refine ⟨by rw [HF3.out]; rfl, vo2, ?_⟩
        rw [HF3.out]
        show ClI _ _ _ _ _ _ _ [l.getD k 0] _
        rw [HG.out]
        simpa using HI2.out
    · have i1 : ¬ (k : Int) < (l.length : Int) := by omega
      have hF := HF.out
      rw [List.drop_of_length_le (by omega), findG] at hF
      obtain ⟨vo1, hx⟩ := HX.out
      have HX1 := Lib.hid hx
      have HF2 := Lib.hid hF
      clear hF HF hx HX
      go_wp2_with fail
      go_ret
      refine ⟨by rw [HF2.out]; rfl, vo1, ?_⟩
      rw [HF2.out]
      exact HX1.out
end Go.Proofs.YtiecgbmeobpomaaDoor
namespace Go.Proofs.YtiecgbmeobpomaaDoor
open Go.RowKit
set_option linter.unusedVariables false
set_option linter.unusedSimpArgs false

def Msg0 : Msg := ⟨[], []⟩
def Ent0 : Ent := ⟨0, 0, ⟨#[]⟩, ⟨#[]⟩, Msg0, 0, 0⟩
/-- A move. -/
structure Mv where
  entry : Ent
  page : Int
  awake : Bool
  sleeps : Bool
  closed : List Int
def Mv0 : Mv := ⟨Ent0, 0, false, false, []⟩
def curE (h : Hist) : Ent := h.list.getD h.at_ Ent0
theorem curE_get (h : Hist) (ok : h.at_ < h.list.length) : h.list[h.at_]? = some (curE h) := by
  unfold curE
  rw [List.getD_eq_getElem?_getD, List.getElem?_eq_getElem ok]
  rfl
theorem curE_mem (h : Hist) (ok : h.at_ < h.list.length) : curE h ∈ h.list := List.mem_of_getElem? (curE_get h ok)
def cleanM (h : Hist) : Hist := { h with sleeping := keptL h h.sleeping }
def sleepM (h : Hist) (p : Int) : Hist := { h with sleeping := sorted (h.sleeping ++ [p]) }
def navE (h : Hist) (url : ByteArray) : Ent := ⟨0, h.nextPage, url, ⟨#[]⟩, Msg0, 0, 0⟩
def navH (h : Hist) (url : ByteArray) : Hist := { addM h (navE h url) with nextPage := h.nextPage + 1 }
def navS (h : Hist) (url : ByteArray) (keep : Bool) : Bool := keep && shownP (navH h url) (curE h).page
def navM (h : Hist) (url : ByteArray) (keep : Bool) : Hist := if navS h url keep = true then sleepM (cleanM (navH h url)) (curE h).page else cleanM (navH h url)
def navV (h : Hist) (url : ByteArray) (keep : Bool) : Mv := ⟨curE (navH h url), (curE (navH h url)).page, false, navS h url keep, if navS h url keep = true then goneL (navH h url) h.sleeping else sorted (goneL (navH h url) h.sleeping ++ [(curE h).page])⟩
def pushE (h : Hist) (url : ByteArray) (m : Msg) : Ent := { curE h with url := url, msg := m }
def pushH (h : Hist) (url : ByteArray) (m : Msg) : Hist := addM h (pushE h url m)
def pushM (h : Hist) (url : ByteArray) (m : Msg) : Hist := cleanM (pushH h url m)
def pushV (h : Hist) (url : ByteArray) (m : Msg) : Mv := ⟨curE (pushH h url m), (curE h).page, true, false, goneL (pushH h url m) h.sleeping⟩
def replM (h : Hist) (url : ByteArray) (m : Msg) : Hist := { h with list := h.list.set h.at_ (pushE h url m) }
def GoOk (h : Hist) (d : Int) : Prop := -(h.at_ : Int) ≤ d ∧ d ≤ (h.list.length : Int) - 1 - (h.at_ : Int)
def goH (h : Hist) (d : Int) : Hist := { h with at_ := ((h.at_ : Int) + d).toNat }
def goM (h : Hist) (d : Int) : Hist := if (curE (goH h d)).page = (curE h).page then goH h d else sleepM { goH h d with sleeping := h.sleeping.erase (curE (goH h d)).page } (curE h).page
def goV (h : Hist) (d : Int) : Mv := if (curE (goH h d)).page = (curE h).page then ⟨curE (goH h d), (curE (goH h d)).page, true, false, []⟩ else ⟨curE (goH h d), (curE (goH h d)).page, decide ((curE (goH h d)).page ∈ h.sleeping), true, []⟩
def scrollM (h : Hist) (x y : Int) : Hist := { h with list := h.list.set h.at_ { curE h with x := x, y := y } }
def nameM (h : Hist) (t : ByteArray) : Hist := { h with list := h.list.set h.at_ { curE h with title := t } }
def evictM (h : Hist) (p : Int) : Hist := { h with sleeping := h.sleeping.erase p }
theorem Few.of_le {n m : Nat} (h : n ≤ m) (hm : m ≤ 1000000) : Few n := ⟨by omega⟩
/-- The sizes behind n operations. -/
structure HOk (n : Nat) (h : Hist) : Prop where
  ok : h.at_ < h.list.length
  len : h.list.length ≤ 50
  slp : h.sleeping.length ≤ n
  next : 0 ≤ h.next ∧ h.next ≤ (n : Int) + 2
  page : 2 ≤ h.nextPage ∧ h.nextPage ≤ (n : Int) + 2
  msgs : ∀ e ∈ h.list, MsgOk e.msg
theorem msgOk0 : MsgOk Msg0 := ⟨⟨by decide⟩, ⟨by decide⟩, fun n hn => by cases hn⟩
theorem addL_mem {h : Hist} {e x : Ent} (hx : x ∈ addL h e) : x ∈ h.list ∨ x = { e with id := h.next } := by
  unfold addL at hx
  simp only at hx
  have h1 : ∀ x, x ∈ h.list.take (h.at_ + 1) ++ [{ e with id := h.next }] → x ∈ h.list ∨ x = { e with id := h.next } := fun x hx => by
    rcases List.mem_append.1 hx with a | a
    · exact .inl (List.mem_of_mem_take a)
    · exact .inr (List.mem_singleton.1 a)
  split at hx
  · exact h1 x (List.mem_of_mem_drop hx)
  · exact h1 x hx
theorem addL_length {h : Hist} {e : Ent} (ok : h.at_ < h.list.length) : (addL h e).length = min (h.at_ + 2) (if 50 < h.at_ + 2 then h.at_ + 1 else h.at_ + 2) := by
  unfold addL
  simp only
  have hl : (h.list.take (h.at_ + 1) ++ [{ e with id := h.next }]).length = h.at_ + 2 := by rw [List.length_append, List.length_take]; simp; omega
  rw [hl]
  split
  · rw [List.length_drop, hl]; omega
  · rw [hl]; omega
theorem addL_last (h : Hist) (e : Ent) : ∃ l, addL h e = l ++ [{ e with id := h.next }] := by
  unfold addL
  simp only
  split
  · rename_i hx
    by_cases h0 : h.list.take (h.at_ + 1) = []
    · rw [h0] at hx; simp at hx
    · refine ⟨(h.list.take (h.at_ + 1)).drop 1, ?_⟩
      rw [List.drop_append_of_le_length (List.length_pos_iff.2 h0)]
  · exact ⟨_, rfl⟩
theorem curE_add (h : Hist) (e : Ent) : curE (addM h e) = { e with id := h.next } := by
  obtain ⟨l, hl⟩ := addL_last h e
  unfold curE addM
  simp only
  rw [hl, List.length_append, List.getD_eq_getElem?_getD]
  simp
theorem addM_ok (h : Hist) (e : Ent) : (addM h e).at_ < (addM h e).list.length := by
  obtain ⟨l, hl⟩ := addL_last h e
  unfold addM
  simp only
  rw [hl, List.length_append]
  simp
theorem HOk.add {n : Nat} {h : Hist} (H : HOk n h) {e : Ent} (he : MsgOk e.msg) : HOk (n + 1) (addM h e) := by
  refine ⟨addM_ok h e, ?_, ?_, ?_, ?_, fun x hx => ?_⟩
  · show (addL h e).length ≤ 50
    rw [addL_length H.ok]
    have h1 := H.ok
    have h2 := H.len
    split <;> omega
  · show h.sleeping.length ≤ n + 1
    have := H.slp; omega
  · show 0 ≤ h.next + 1 ∧ h.next + 1 ≤ ((n + 1 : Nat) : Int) + 2
    have := H.next; omega
  · show 2 ≤ h.nextPage ∧ h.nextPage ≤ ((n + 1 : Nat) : Int) + 2
    have := H.page; omega
  · rcases addL_mem hx with a | rfl
    · exact H.msgs x a
    · exact he
theorem keptL_le (h : Hist) (l : List Int) : (keptL h l).length ≤ l.length := List.length_filter_le ..
theorem goneL_le (h : Hist) (l : List Int) : (goneL h l).length ≤ l.length := List.length_filter_le ..
theorem HOk.clean {n : Nat} {h : Hist} (H : HOk n h) : HOk n (cleanM h) :=
  ⟨H.ok, H.len, Nat.le_trans (keptL_le _ _) H.slp, H.next, H.page, H.msgs⟩
theorem HOk.navH {n : Nat} {h : Hist} (H : HOk n h) (url : ByteArray) : HOk (n + 1) (navH h url) ∧ (navH h url).sleeping.length ≤ n := by
  have k := H.add (e := navE h url) msgOk0
  refine ⟨⟨k.ok, k.len, k.slp, k.next, ?_, k.msgs⟩, H.slp⟩
  show 2 ≤ h.nextPage + 1 ∧ h.nextPage + 1 ≤ ((n + 1 : Nat) : Int) + 2
  have := H.page; omega
theorem HOk.nav {n : Nat} {h : Hist} (H : HOk n h) (url : ByteArray) (keep : Bool) : HOk (n + 1) (navM h url keep) := by
  obtain ⟨k, hs⟩ := H.navH url
  unfold navM
  split
  · refine ⟨k.ok, k.len, ?_, k.next, k.page, k.msgs⟩
    show (sorted (keptL _ _ ++ [_])).length ≤ n + 1
    rw [sorted_length, List.length_append]
    have := keptL_le (Go.Proofs.YtiecgbmeobpomaaDoor.navH h url) (Go.Proofs.YtiecgbmeobpomaaDoor.navH h url).sleeping
    simp only [List.length_singleton]
    exact Nat.succ_le_succ (Nat.le_trans this hs)
  · exact k.clean
theorem HOk.push {n : Nat} {h : Hist} (H : HOk n h) (url : ByteArray) {m : Msg} (hm : MsgOk m) : HOk (n + 1) (pushM h url m) := (H.add (e := pushE h url m) hm).clean
theorem HOk.mono {n m : Nat} {h : Hist} (H : HOk n h) (hm : n ≤ m) : HOk m h :=
  ⟨H.ok, H.len, Nat.le_trans H.slp hm, ⟨H.next.1, by have := H.next.2; omega⟩, ⟨H.page.1, by have := H.page.2; omega⟩, H.msgs⟩
theorem HOk.set {n : Nat} {h : Hist} (H : HOk n h) {e : Ent} (he : MsgOk e.msg) : HOk n { h with list := h.list.set h.at_ e } := by
  refine ⟨by show h.at_ < (h.list.set h.at_ e).length; rw [List.length_set]; exact H.ok, by show (h.list.set h.at_ e).length ≤ 50; rw [List.length_set]; exact H.len, H.slp, H.next, H.page, fun x hx => ?_⟩
  rcases List.mem_or_eq_of_mem_set hx with a | rfl
  · exact H.msgs x a
  · exact he
theorem HOk.repl {n : Nat} {h : Hist} (H : HOk n h) (url : ByteArray) {m : Msg} (hm : MsgOk m) : HOk n (replM h url m) := H.set (e := pushE h url m) hm
theorem HOk.scroll {n : Nat} {h : Hist} (H : HOk n h) (x y : Int) : HOk n (scrollM h x y) := H.set (e := { curE h with x := x, y := y }) (H.msgs (curE h) (curE_mem h H.ok))
theorem HOk.name {n : Nat} {h : Hist} (H : HOk n h) (t : ByteArray) : HOk n (nameM h t) := H.set (e := { curE h with title := t }) (H.msgs (curE h) (curE_mem h H.ok))
theorem HOk.evict {n : Nat} {h : Hist} (H : HOk n h) (p : Int) : HOk n (evictM h p) := ⟨H.ok, H.len, Nat.le_trans (List.length_erase_le) H.slp, H.next, H.page, H.msgs⟩
theorem HOk.goH {n : Nat} {h : Hist} (H : HOk n h) {d : Int} (hd : GoOk h d) : HOk n (goH h d) := by
  refine ⟨?_, H.len, H.slp, H.next, H.page, H.msgs⟩
  show ((h.at_ : Int) + d).toNat < h.list.length
  have := H.ok
  unfold GoOk at hd
  omega
theorem HOk.go {n : Nat} {h : Hist} (H : HOk n h) {d : Int} (hd : GoOk h d) : HOk (n + 1) (goM h d) := by
  have k := H.goH hd
  unfold goM
  split
  · exact k.mono (Nat.le_succ n)
  · refine ⟨k.ok, k.len, ?_, (k.mono (Nat.le_succ n)).next, (k.mono (Nat.le_succ n)).page, k.msgs⟩
    show (sorted (h.sleeping.erase _ ++ [_])).length ≤ n + 1
    rw [sorted_length, List.length_append, List.length_singleton]
    exact Nat.succ_le_succ (Nat.le_trans List.length_erase_le H.slp)
theorem sorted_perm (l : List Int) : (sorted l).Perm l := List.mergeSort_perm ..
theorem sorted_mem {l : List Int} {x : Int} : x ∈ sorted l ↔ x ∈ l := (sorted_perm l).mem_iff
theorem sorted_nodup {l : List Int} : (sorted l).Nodup ↔ l.Nodup := (sorted_perm l).nodup_iff
/-- The pages: those that sleep are distinct, not the current one, old ones, and have entries. -/
structure PgOk (h : Hist) : Prop where
  asc : h.sleeping.Pairwise (· < ·)
  cur : (curE h).page ∉ h.sleeping
  lt : ∀ p ∈ h.sleeping, 1 ≤ p ∧ p < h.nextPage
  old : ∀ e ∈ h.list, 1 ≤ e.page ∧ e.page < h.nextPage
theorem asc_nodup {l : List Int} (h : l.Pairwise (· < ·)) : l.Nodup := h.imp fun h e => by omega
theorem PgOk.nd {h : Hist} (P : PgOk h) : h.sleeping.Nodup := asc_nodup P.asc
theorem sorted_asc {l : List Int} (h : l.Nodup) : (sorted l).Pairwise (· < ·) := by
  have h1 : (sorted l).Pairwise fun x y => decide (x ≤ y) = true := List.pairwise_mergeSort (fun a b c h1 h2 => by simp at *; omega) (fun a b => by simp; omega) l
  have h2 : (sorted l).Pairwise (· ≠ ·) := sorted_nodup.2 h
  refine (h1.and h2).imp ?_
  rintro a b ⟨h3, h4⟩
  have : a ≤ b := by simpa using h3
  omega
theorem asc_snoc {l : List Int} {x : Int} (h : l.Pairwise (· < ·)) (hx : x ∉ l) : (sorted (l ++ [x])).Pairwise (· < ·) := by
  refine sorted_asc ?_
  rw [List.nodup_append]
  refine ⟨asc_nodup h, by simp, fun a ha b hb => ?_⟩
  rw [List.mem_singleton] at hb
  subst hb
  exact fun e => hx (e ▸ ha)
theorem mem_snoc {l : List Int} {x y : Int} : y ∈ sorted (l ++ [x]) ↔ y ∈ l ∨ y = x := by
  rw [sorted_mem, List.mem_append, List.mem_singleton]
theorem PgOk.nav {n : Nat} {h : Hist} (P : PgOk h) (H : HOk n h) (url : ByteArray) (keep : Bool) : PgOk (navM h url keep) := by
  have hc : curE (navH h url) = { navE h url with id := h.next } := curE_add h (navE h url)
  have hold : ∀ e ∈ (navH h url).list, 1 ≤ e.page ∧ e.page < h.nextPage + 1 := fun e he => by
    rcases addL_mem he with a | rfl
    · have := P.old e a; omega
    · show 1 ≤ h.nextPage ∧ h.nextPage < h.nextPage + 1
      have := H.page; omega
  have hk : ∀ p, p ∈ keptL (navH h url) h.sleeping → p ∈ h.sleeping := fun p hp => (List.mem_filter.1 hp).1
  have hcur := P.old _ (curE_mem h H.ok)
  have hnx : ∀ p ∈ keptL (navH h url) h.sleeping, 1 ≤ p ∧ p < h.nextPage := fun p hp => P.lt p (hk p hp)
  have hnd : (keptL (navH h url) h.sleeping).Pairwise (· < ·) := P.asc.filter _
  unfold navM
  split
  · refine ⟨asc_snoc hnd (fun hp => P.cur (hk _ hp)), fun hp => ?_, fun p hp => ?_, hold⟩
    · have hp : (curE (navH h url)).page ∈ sorted (keptL (navH h url) h.sleeping ++ [(curE h).page]) := hp
      rw [hc] at hp
      rcases mem_snoc.1 hp with a | a
      · have h1 : h.nextPage < h.nextPage := (hnx _ a).2
        omega
      · have a : h.nextPage = (curE h).page := a
        omega
    · show 1 ≤ p ∧ p < h.nextPage + 1
      rcases mem_snoc.1 hp with a | a
      · have := hnx p a; omega
      · subst a; omega
  · refine ⟨hnd, fun hp => ?_, fun p hp => ?_, hold⟩
    · have hp : (curE (navH h url)).page ∈ keptL (navH h url) h.sleeping := hp
      rw [hc] at hp
      have h1 : h.nextPage < h.nextPage := (hnx _ hp).2
      omega
    · show 1 ≤ p ∧ p < h.nextPage + 1
      have := hnx p hp; omega
theorem PgOk.push {n : Nat} {h : Hist} (P : PgOk h) (H : HOk n h) (url : ByteArray) (m : Msg) : PgOk (pushM h url m) := by
  have hc : curE (pushH h url m) = { pushE h url m with id := h.next } := curE_add h (pushE h url m)
  have hk : ∀ p, p ∈ keptL (pushH h url m) h.sleeping → p ∈ h.sleeping := fun p hp => (List.mem_filter.1 hp).1
  refine ⟨P.asc.filter _, fun hp => ?_, fun p hp => P.lt p (hk p hp), fun e he => ?_⟩
  · have hp : (curE (pushH h url m)).page ∈ keptL (pushH h url m) h.sleeping := hp
    rw [hc] at hp
    exact P.cur (hk _ hp)
  · rcases addL_mem he with a | rfl
    · exact P.old e a
    · exact P.old (curE h) (curE_mem h H.ok)
theorem PgOk.set {n : Nat} {h : Hist} (P : PgOk h) (H : HOk n h) {e : Ent} (he : e.page = (curE h).page) : PgOk { h with list := h.list.set h.at_ e } := by
  refine ⟨P.asc, ?_, P.lt, fun x hx => ?_⟩
  · show (List.getD (h.list.set h.at_ e) h.at_ Ent0).page ∉ h.sleeping
    rw [List.getD_eq_getElem?_getD, List.getElem?_set_self H.ok]
    show e.page ∉ h.sleeping
    rw [he]
    exact P.cur
  · rcases List.mem_or_eq_of_mem_set hx with a | rfl
    · exact P.old x a
    · rw [he]
      exact P.old _ (curE_mem h H.ok)
theorem PgOk.evict {h : Hist} (P : PgOk h) (p : Int) : PgOk (evictM h p) :=
  ⟨P.asc.sublist (List.erase_sublist ..), fun hp => P.cur (List.mem_of_mem_erase hp), fun q hq => P.lt q (List.mem_of_mem_erase hq), P.old⟩
theorem PgOk.go {n : Nat} {h : Hist} (P : PgOk h) (H : HOk n h) {d : Int} (hd : GoOk h d) : PgOk (goM h d) := by
  have k := H.goH hd
  have hcm : curE (goH h d) ∈ h.list := curE_mem (goH h d) k.ok
  unfold goM
  split
  · rename_i he
    exact ⟨P.asc, by show (curE (goH h d)).page ∉ h.sleeping; rw [he]; exact P.cur, P.lt, P.old⟩
  · rename_i hne
    refine ⟨asc_snoc (P.asc.sublist (List.erase_sublist ..)) (fun hp => P.cur (List.mem_of_mem_erase hp)), fun hp => ?_, fun p hp => ?_, P.old⟩
    · have hp : (curE (goH h d)).page ∈ sorted (h.sleeping.erase (curE (goH h d)).page ++ [(curE h).page]) := hp
      rcases mem_snoc.1 hp with a | a
      · exact (P.nd.mem_erase_iff.1 a).1 rfl
      · exact hne a
    · rcases mem_snoc.1 hp with a | a
      · exact P.lt p (List.mem_of_mem_erase a)
      · subst a; exact P.old _ (curE_mem h H.ok)
end Go.Proofs.YtiecgbmeobpomaaDoor
namespace Go.Proofs.YtiecgbmeobpomaaDoor
open Go.RowKit
set_option linter.unusedVariables false
set_option linter.unusedSimpArgs false

/-- Cells of a row (of one cell each) are written. -/
theorem put_cells {w : World} {g off n m cap e i : Nat} {xs zs : List Value} (h : RowAt w e 1 (.slice (some ⟨g, off, none⟩) m cap) n xs) (hi : i + zs.length ≤ n) :
    RowAt (w.setCells g (off + i) zs) e 1 (.slice (some ⟨g, off, none⟩) m cap) n (xs.take i ++ zs ++ xs.drop (i + zs.length)) := by
  obtain ⟨hl, hr⟩ := h
  rcases hr with ⟨h0, -⟩ | ⟨g', off', cap', cur, hv, hg, h1, h2, h3, h4⟩
  · cases h0
  cases hv
  refine ⟨by rw [List.length_append, List.length_append, List.length_take, List.length_drop]; omega, .inr ⟨g, off, cap, _, rfl, setCells_block zs _ hg, h1, h2, by rw [putAt_size]; exact h3, ?_⟩⟩
  have hcl : cur.toList.length = cur.size := Array.length_toList
  rw [putAt_toList _ _ _ (by omega)]
  have hA : (cur.toList.take (off + i)).length = off + i := by rw [List.length_take]; omega
  rw [List.append_assoc, List.drop_append_of_le_length (by omega)]
  have e1 : (cur.toList.take (off + i)).drop off = xs.take i := by
    rw [← h4, List.take_take, Nat.min_eq_left (by omega), List.drop_take]
    congr 1; omega
  have e2 : (cur.toList.drop (off + i + zs.length)).take (n - (i + zs.length)) = xs.drop (i + zs.length) := by
    rw [← h4, List.drop_take, List.drop_drop, Nat.mul_one, show off + i + zs.length = off + (i + zs.length) by omega]
  have hB : (xs.take i).length = i := by rw [List.length_take]; omega
  rw [e1, List.append_assoc, show n * 1 = (xs.take i).length + (n - i) by omega, List.take_length_add_append, show n - i = zs.length + (n - (i + zs.length)) by omega, List.take_length_add_append, e2]
theorem ClI.slept {ws : World} {b : Nat} {vs : Value} {pb ob : Nat} {W W1 : World} {cur cur' out : List Int} {vo : Value} (I : ClI ws b vs pb ob W cur out vo) (hsl : ∀ k, vs.ownBlock = some k → k < ws.heap.size) (hc : Chg (fun k => vs.ownBlock = some k) W W1) (hr : RowAt W1 3 1 vs cur'.length (intC cur')) (hf : cur'.length ≤ 1000) : ClI ws b vs pb ob W1 cur' out vo :=
  ⟨hr, hf, hc.cellS I.pbc (fun e => by have := hsl pb e; have := I.lo.1; omega), hc.keep I.obb (fun e => by have := hsl ob e; have := I.lo.2.1; omega), I.row.chg hc (fun k hk e => by have := hsl k e; have := (I.new k hk).1; omega), I.new, I.lo, I.chg.trans hc (fun _ _ x => x) (fun _ _ x => x)⟩
/-- The loop of DeleteFunc: i pages kept in front, the page j is next. -/
structure DfI (h : Hist) (l cur out : List Int) (i j : Nat) : Prop where
  len : cur.length = l.length
  lt : i < j ∧ j ≤ l.length
  front : cur.take i = keptL h (l.take j)
  rest : cur.drop j = l.drop j
  out : out = goneL h (l.take j)
theorem DfI.begin {h : Hist} {l : List Int} {i : Nat} (hf : findG h l 0 = some i) : DfI h l l (outG l (some i)) i (i + 1) := by
  obtain ⟨j, h1, hj, h2, h3⟩ := findG_some h l 0 i hf
  have hi : i = j := by omega
  subst hi
  refine ⟨rfl, ⟨Nat.lt_succ_self _, hj⟩, h3.symm, rfl, ?_⟩
  rw [h2]
  have hg : outG l (some i) = [l[i]] := by
    show [l.getD i 0] = [l[i]]
    rw [List.getD_eq_getElem?_getD, List.getElem?_eq_getElem hj]; rfl
  rw [hg]
  unfold goneL keptL at *
  rw [List.take_succ_eq_append_getElem hj, List.filter_append] at h3
  have hlen := congrArg List.length h3
  rw [List.length_append, List.length_take] at hlen
  have hle := List.length_filter_le (shownP h) (l.take i)
  rw [List.length_take] at hle
  by_cases hq : shownP h l[i] = true
  · exfalso
    have h5 : (List.filter (fun p => !shownP h p) (l.take (i + 1))) = [] := by rw [h2]; simp [hq]
    have h6 : List.filter (shownP h) (l.take (i + 1)) = l.take (i + 1) := List.filter_eq_self.2 fun a ha => by
      have := List.filter_eq_nil_iff.1 h5 a ha
      simpa using this
    rw [List.take_succ_eq_append_getElem hj, List.filter_append, h3] at h6
    have h7 := congrArg List.length h6
    rw [List.length_append, List.length_singleton] at h7
    omega
  · simp [hq]
theorem DfI.step {h : Hist} {l cur out : List Int} {i j : Nat} (I : DfI h l cur out i j) (hj : j < l.length) : cur[j]? = some l[j] ∧
    (shownP h l[j] = true → DfI h l (cur.take i ++ [l[j]] ++ cur.drop (i + 1)) (out ++ goneL h [l[j]]) (i + 1) (j + 1)) ∧ (¬ shownP h l[j] = true → DfI h l cur (out ++ goneL h [l[j]]) i (j + 1)) := by
  have h0 : cur[j]? = some l[j] := by
    have := congrArg (fun l : List Int => l[0]?) I.rest
    simp only [List.getElem?_drop, Nat.add_zero] at this
    rw [this, List.getElem?_eq_getElem hj]
  have hrest : cur.drop (j + 1) = l.drop (j + 1) := by rw [← List.drop_drop, ← List.drop_drop, I.rest]
  have hlt := I.lt.1
  have hl := I.len
  have hout : out ++ goneL h [l[j]] = goneL h (l.take (j + 1)) := by
    rw [I.out]; unfold goneL; rw [List.take_succ_eq_append_getElem hj, List.filter_append]
  have hkp : keptL h (l.take (j + 1)) = cur.take i ++ keptL h [l[j]] := by
    rw [I.front]; unfold keptL; rw [List.take_succ_eq_append_getElem hj, List.filter_append]
  have hti : (cur.take i).length = i := by rw [List.length_take]; omega
  refine ⟨h0, fun hq => ⟨?_, ⟨by omega, hj⟩, ?_, ?_, hout⟩, fun hq => ⟨hl, ⟨by omega, hj⟩, ?_, hrest, hout⟩⟩
  · rw [List.length_append, List.length_append, hti, List.length_drop, List.length_singleton]; omega
  · rw [hkp, List.append_assoc, show i + 1 = (cur.take i).length + 1 by omega, List.take_length_add_append]
    simp [keptL, hq]
  · rw [List.append_assoc, List.drop_append, List.drop_of_length_le (by omega), List.nil_append, hti, show j + 1 - i = 1 + (j - i) by omega, List.singleton_append, ← List.drop_drop, List.drop_succ_cons, List.drop_zero, List.drop_drop, show i + 1 + (j - i) = j + 1 by omega]
    exact hrest
  · rw [hkp]
    simp [keptL, hq]
theorem DfI.done {h : Hist} {l cur out : List Int} {i j : Nat} (I : DfI h l cur out i j) (hj : ¬ j < l.length) : cur.take i = keptL h l ∧ out = goneL h l ∧ i = (keptL h l).length := by
  have h1 := I.front
  have h2 := I.out
  rw [List.take_of_length_le (l := l) (i := j) (by omega)] at h1 h2
  refine ⟨h1, h2, ?_⟩
  rw [← h1, List.length_take]
  have := I.lt
  have := I.len
  omega
theorem zeroI {z : Value} (hz : z.cells.toList = [.int .i64 0]) (n : Nat) : (Builtin.zeroCells z.cells n).toList = intC (List.replicate n 0) := by
  have hs : z.cells.size = 1 := by rw [← Array.length_toList, hz]; rfl
  have h1 : (Builtin.zeroCells z.cells n).toList = List.replicate n (.int .i64 0) := by
    refine List.eq_replicate_iff.2 ⟨by rw [Array.length_toList, size_zeroCells, hs, Nat.mul_one], fun u hu => ?_⟩
    unfold Builtin.zeroCells at hu
    rw [Array.toList_map, List.mem_map] at hu
    obtain ⟨j, hj, rfl⟩ := hu
    have hj2 : j % z.cells.size < z.cells.size := Nat.mod_lt _ (by omega)
    rw [getElem!_pos z.cells (j % z.cells.size) hj2]
    have := Array.getElem_mem_toList hj2
    rw [hz] at this
    exact List.mem_singleton.1 this
  rw [h1, intC, List.map_replicate]
set_option maxHeartbeats 1600000 in
set_option maxRecDepth 100000 in
theorem deleteFuncI_any (w0 : Past) (ws : World) (b : Nat) (h : Hist) (vl vs : Value) (rs : List EntR) (H : HiAt w0 ws b h vl vs rs) (pb ob : Nat) (W : World) (l : List Int) (vo : Value) (I : ClI ws b vs pb ob W l [] vo) :
    Calls Tryd.prog 54 #[vs, .func (.func 55) #[] #[.pointer (some ⟨pb, 0, none⟩), .pointer (some ⟨ob, 0, none⟩)]] W fun e w' => ∃ v' cur vo', e = .returned v' ∧ ClI ws b vs pb ob w' cur (goneL h l) vo' ∧ RowAt w' 3 1 v' (keptL h l).length (intC (keptL h l)) ∧ ∀ k, v'.ownBlock = some k → vs.ownBlock = some k := by
  have HH := Lib.hid H
  have HSL := Lib.hid (show ∀ k, vs.ownBlock = some k → k < ws.heap.size from H.slp.lt)
  have HL := Lib.hid I.few
  have HIX := Lib.hid (indexFuncI_any w0 ws b h vl vs rs H pb ob W l vo I)
  have HFB := Lib.hid (fun i (e : findG h l 0 = some i) => DfI.begin e)
  cases hf : findG h l 0 with
  | none =>
    rw [hf] at HIX
    obtain ⟨hg, hk⟩ := findG_none h l 0 hf
    have HG := Lib.hid hg
    have HK := Lib.hid hk
    obtain ⟨a, cap, rfl, -, -⟩ := I.slp.slice
    have hix : idxG none = -1 := rfl
    rw [hix] at HIX
    clear H I hf hg hk HFB hix
    go_enter Tryd.func54, Tryd.ntmps54
    go_wp2_with (go_at_call 70; refine HIX.out.mono ?_; rintro _ w1 ⟨rfl, vo1, hI1⟩; have HI1 := Lib.hid hI1; clear hI1)
    go_ret
    refine ⟨_, l, vo1, rfl, ?_, ?_, fun k hk => hk⟩
    · rw [HG.out]; exact HI1.out
    · rw [HK.out]; exact HI1.out.slp
  | some i0 =>
    rw [hf] at HIX
    have HB := Lib.hid (HFB.out _ hf)
    have hpos : 0 < l.length := by have := HB.out.lt; omega
    obtain ⟨g, off, cap, rfl, hcap, hcm⟩ := I.slp.addr hpos
    have hix : idxG (some i0) = (i0 : Int) := rfl
    rw [hix] at HIX
    have HCM := Lib.hid hcm
    have ne0 : ¬ (i0 : Int) = -1 := by omega
    have ne1 : ((i0 : Int) == -1) = false := beq_false_of_ne ne0
    have wi0 : IntKind.i64.wrap ((i0 : Int) + 1) = ((i0 + 1 : Nat) : Int) := IntWalk.i64_in _ (by have := HB.out.lt; have := HL.out; omega)
    have wi1 : wrap64 ((i0 : Int) + 1) = ((i0 + 1 : Nat) : Int) := IntWalk.wrap64_in _ (by have := HB.out.lt; have := HL.out; omega)
    clear H I hf HFB hix hcap hcm hpos
    go_enter Tryd.func54, Tryd.ntmps54
    go_wp2_with (go_at_call 70; refine HIX.out.mono ?_; rintro _ w1 ⟨rfl, vo1, hI1⟩; have HI1 := Lib.hid hI1; clear hI1)
    go_loopw [5, 6, 7] (fun i j _ wr => ∃ ii jj : Nat, jj ≤ l.length ∧ i = .int .i64 ii ∧ j = .int .i64 jj ∧ Hid (∃ cur out vo', DfI h l cur out ii jj ∧ ClI ws b (.slice (some ⟨g, off, none⟩) l.length cap) pb ob wr cur out vo')) (fun _ j _ _ => l.length - (intOf j).toNat)
    case atStart => exact ⟨i0, i0 + 1, HB.out.lt.2, rfl, rfl, Lib.hid ⟨l, _, vo1, HB.out, HI1.out⟩⟩
    case round =>
      obtain ⟨ii, jj, hjl, rfl, rfl, HX⟩ := hrel
      by_cases hlt : jj < l.length
      · obtain ⟨cur, out, vo2, hD, hI2⟩ := HX.out
        obtain ⟨h0, hk, hg⟩ := hD.step hlt
        have HC := Lib.hid (clean1_any w0 ws b h vl _ rs HH.out pb ob wr cur out vo2 hI2 l[jj] (by rw [hD.out]; exact Nat.le_trans (goneL_le _ _) (by rw [List.length_take]; have := HL.out; omega)))
        have c0 := hI2.slp.cellAt jj (.int .i64 l[jj]) (by rw [intC, List.getElem?_map, h0]; rfl)
        have HK := Lib.hid hk
        have HG := Lib.hid hg
        have HCL := Lib.hid hD.len
        have HIJ := Lib.hid hD.lt.1
        have HNX : Hid (jj + 1 ≤ l.length) := Lib.hid hlt
        have w64 : IntKind.i64.wrap ((jj : Int) + 1) = ((jj + 1 : Nat) : Int) := IntWalk.i64_in _ (by have := HL.out; omega)
        have w65 : IntKind.i64.wrap ((ii : Int) + 1) = ((ii + 1 : Nat) : Int) := IntWalk.i64_in _ (by have := HL.out; have := hD.lt.1; omega)
        clear HX hD hI2 h0 hk hg HI1 HB HIX
        generalize l[jj] = p at *
        generalize shownP h p = q at *
        go_upto_region 8 with fail
        go_wp2_with fail
        refine HC.out.mono ?_
        rintro e w2 ⟨rfl, vo3, hI3⟩
        have HI3 := Lib.hid hI3
        have hbi : (ii : Int) < (l.length : Int) := by have := HIJ.out; omega
        have hil : ii < cur.length := by have := HIJ.out; have := HCL.out; omega
        obtain ⟨u0, d0⟩ : ∃ u, w2.cell? ⟨g, off + ii, none⟩ = some u := ⟨_, hI3.slp.cellAt ii (.int .i64 cur[ii]) (by rw [intC, List.getElem?_map, List.getElem?_eq_getElem hil]; rfl)⟩
        obtain ⟨curA, hgA⟩ : ∃ curA, w2.heap[g]? = some (.cells curA 3 (0, 0)) := by
          rcases hI3.slp.2 with ⟨hv, -⟩ | ⟨g', off', cap', curA, hv, hg', -⟩
          · cases hv
          · simp only [Value.slice.injEq, Option.some.injEq, Addr.mk.injEq] at hv
            obtain ⟨⟨rfl, -, -⟩, -, -⟩ := hv
            exact ⟨_, hg'⟩
        have f0 := frozen_of_block (i := off + ii) hgA
        clear hI3 c0 hil hgA HC
        cases q with
        | true =>
          have hK := HK.out rfl
          have HK2 := Lib.hid hK
          clear hK HK HG
          go_wp2_with fail
          go_roundw
          case rel =>
            have hI3 := HI3.out
            have hr := put_cells (zs := [.int .i64 p]) (i := ii) hI3.slp (by have := HIJ.out; have := HCL.out; simp only [List.length_singleton]; omega)
            have hx : intC (cur.take ii ++ [p] ++ cur.drop (ii + 1)) = (intC cur).take ii ++ [.int .i64 p] ++ (intC cur).drop (ii + ([.int .i64 p] : List Value).length) := by
              simp [intC]
            have hll : (cur.take ii ++ [p] ++ cur.drop (ii + 1)).length = cur.length := by
              have := HIJ.out
              have := HCL.out
              rw [List.length_append, List.length_append, List.length_take, List.length_drop, List.length_singleton]; omega
            refine ⟨ii + 1, jj + 1, HNX.out, rfl, rfl, Lib.hid ⟨_, _, vo3, HK2.out, hI3.slept HSL.out ((Chg.setCell w2 ⟨g, off + ii, none⟩ _).mono (fun k _ e => by have : k = g := e; subst this; rfl)) ?_ ?_⟩⟩
            · rw [hx, hll]; exact hr
            · rw [hll]; exact hI3.few
          case measure => have := HNX.out; simp [intOf, w64]; omega
        | false =>
          have hG := HG.out (by simp)
          have HG2 := Lib.hid hG
          clear hG HK HG
          go_wp2_with fail
          go_roundw
          case rel => exact ⟨ii, jj + 1, HNX.out, rfl, rfl, Lib.hid ⟨_, _, vo3, HG2.out, HI3.out⟩⟩
          case measure => have := HNX.out; simp [intOf, w64]; omega
      · have i1 : ¬ (jj : Int) < (l.length : Int) := by omega
        obtain ⟨cur, out, vo2, hD, hI2⟩ := HX.out
        obtain ⟨hd1, hd2, hd3⟩ := hD.done hlt
        have HD1 := Lib.hid hd1
        have HD2 := Lib.hid hd2
        have HD3 := Lib.hid hd3
        have HCL := Lib.hid hD.len
        have HIJ := Lib.hid hD.lt
        have HI2 := Lib.hid hI2
        have hbi : (ii : Int) ≤ (l.length : Int) := by have := HIJ.out; omega
        have hbi0 : (0 : Int) ≤ (ii : Int) := by omega
        clear hd1 hd2 hd3 hD hI2 hlt HX HI1 HB HIX
        obtain ⟨i0', z, hi, hz, hsz, hby, hzs, hzl⟩ := elemZ_int
        obtain ⟨curA, hgA, hA2, hA3, hA4⟩ : ∃ curA, wr.heap[g]? = some (.cells curA 3 (0, 0)) ∧ off + cap * 1 ≤ curA.size ∧ l.length ≤ cap ∧ cap ≤ maxLen := by
          have := HCL.out
          rcases HI2.out.slp.2 with ⟨hv, -⟩ | ⟨g', off', cap', curA, hv, hg', h1, h2, h3, -⟩
          · cases hv
          · simp only [Value.slice.injEq, Option.some.injEq, Addr.mk.injEq] at hv
            obtain ⟨⟨rfl, rfl, -⟩, -, rfl⟩ := hv
            exact ⟨_, hg', h3, by omega, h2⟩
        have hclr := run_clear_row (P := Tryd.prog) wr 26 3 0 i0' z 1 curA Tryd.underlying26 hi hz hsz hzs (fun u hu => by rw [hzl] at hu; simp only [List.mem_cons, List.not_mem_nil, or_false] at hu; subst hu; rfl) g (off + ii) (l.length - ii) (cap - ii) hgA (by have := HIJ.out; omega) (by have := HIJ.out; omega)
        rw [zeroI hzl] at hclr
        have hch : Chg (fun k => k = g) wr (wr.setCells g (off + ii) (intC (List.replicate (l.length - ii) 0))) := Chg.setCells (b := g) _ wr (off + ii)
        have hr := put_cells (zs := intC (List.replicate (l.length - ii) 0)) (i := ii) HI2.out.slp (by rw [intC_len, List.length_replicate]; have := HIJ.out; have := HCL.out; omega)
        have hcl := HCL.out
        have hx : (intC cur).take ii ++ intC (List.replicate (l.length - ii) 0) ++ (intC cur).drop (ii + (intC (List.replicate (l.length - ii) 0)).length) = intC (cur.take ii ++ List.replicate (l.length - ii) 0) := by
          rw [List.drop_of_length_le (by rw [intC_len, intC_len, List.length_replicate]; omega), List.append_nil]
          simp [intC]
        rw [hx] at hr
        have hll : (cur.take ii ++ List.replicate (l.length - ii) (0 : Int)).length = cur.length := by
          have := HIJ.out
          rw [List.length_append, List.length_take, List.length_replicate]; omega
        have hI4 := HI2.out.slept (cur' := cur.take ii ++ List.replicate (l.length - ii) 0) HSL.out (hch.mono (fun k _ e => by subst e; rfl)) (by rw [hll]; exact hr) (by rw [hll]; exact HI2.out.few)
        rw [hcl] at hr
        have hp := hr.prefix (m := ii) (by have := HIJ.out; omega)
        have hx2 : (intC (cur.take ii ++ List.replicate (l.length - ii) (0 : Int))).take (ii * 1) = intC (keptL h l) := by
          rw [Nat.mul_one, ← HD1.out]
          unfold intC
          rw [← List.map_take, List.take_left' (by rw [List.length_take]; have := HIJ.out; omega)]
        rw [hx2] at hp
        have HP := Lib.hid hp
        have HI4 := Lib.hid hI4
        have hic : (ii : Int) ≤ (cap : Int) := by have := HIJ.out; omega
        have ne3 : ¬ cap = ii := by have := HIJ.out; omega
        clear hch hr hx hll hI4 hp hx2 hgA hA2 hA3 hA4 hi hz hsz hby hzs hzl hcl HI2
        generalize wr.setCells g (off + ii) (intC (List.replicate (l.length - ii) 0)) = w5 at *
        go_wp2_with fail
        go_ret
        refine ⟨_, rfl, ⟨_, vo2, by rw [← HD2.out]; exact HI4.out⟩, ?_, fun k hk => hk⟩
        rw [← HD3.out]
        exact HP.out
end Go.Proofs.YtiecgbmeobpomaaDoor
namespace Go.Proofs.YtiecgbmeobpomaaDoor
open Go.RowKit
set_option linter.unusedVariables false
set_option linter.unusedSimpArgs false

set_option maxHeartbeats 6400000 in
set_option maxRecDepth 100000 in
theorem clean_any (w0 : Past) (w : World) (b : Nat) (h : Hist) (vl vs : Value) (rs : List EntR) (H : HiAt w0 w b h vl vs rs) :
    Calls Tryd.prog 44 #[.pointer (some ⟨b, 0, none⟩)] w fun z w' => ∃ vo vs', z = .returned vo ∧ HiAt w0 w' b (cleanM h) vl vs' rs ∧ Chg (Mut b vl vs) w w' ∧ (∀ k, Mut b vl vs' k → Mut b vl vs k) ∧ RowAt w' 3 1 vo (goneL h h.sleeping).length (intC (goneL h h.sleeping)) ∧ (∀ k, vo.ownBlock = some k → w.heap.size ≤ k) := by
  have hbl : b < w.heap.size := (Array.getElem?_eq_some_iff.1 H.box).1
  have HH := Lib.hid H
  have HW1 := Lib.hid (show Chg (fun _ => False) w (w.alloc (.cells #[.pointer (some ⟨b, 0, none⟩)] 46)) from Chg.alloc _ w _)
  have HW2 := Lib.hid (show Chg (fun _ => False) w ((w.alloc (.cells #[.pointer (some ⟨b, 0, none⟩)] 46)).alloc (.cells #[.slice none 0 0] 26)) from HW1.out.trans' (Chg.alloc _ _ _))
  have HB1 := Lib.hid (alloc_old (.cells #[.slice none 0 0] 26) (alloc_block w (.cells #[.pointer (some ⟨b, 0, none⟩)] 46)))
  have HB2 := Lib.hid (alloc_block (w.alloc (.cells #[.pointer (some ⟨b, 0, none⟩)] 46)) (.cells #[.slice none 0 0] 26))
  clear H
  go_enter Tryd.func44, Tryd.ntmps44
  go_upto_region 2 with fail
  have hs1 : (w.alloc (.cells #[.pointer (some ⟨b, 0, none⟩)] 46)).heap.size = w.heap.size + 1 := World.size_alloc ..
  rw [hs1] at HB2
  generalize (w.alloc (.cells #[.pointer (some ⟨b, 0, none⟩)] 46)).alloc (.cells #[.slice none 0 0] 26) = w2 at *
  have hI2 : ClI w b vs w.heap.size (w.heap.size + 1) w2 h.sleeping [] (.slice none 0 0) :=
    ⟨HH.out.slp.chg HW2.out (fun _ _ x => x), HH.out.few.2, cell_of_block (i := 0) HB1.out rfl, HB2.out, RowAt.nil _ _ _, fun k hk => by simp [Value.ownBlock] at hk, ⟨Nat.le_refl _, Nat.le_succ _, by omega⟩, HW2.out.mono (fun _ _ x => x.elim)⟩
  have HI2 := Lib.hid hI2
  have hb4 := cell_of_block (i := 4) HH.out.box rfl
  simp only [List.getElem_toArray, List.getElem_cons_zero, List.getElem_cons_succ] at hb4
  have HDF := Lib.hid (fun W (hc : Chg (fun _ => False) w2 W) => deleteFuncI_any w0 w b h vl vs rs HH.out _ _ W h.sleeping (.slice none 0 0) (hI2.still hc))
  have HS0 := Lib.hid (show w2.cell? ⟨w.heap.size, 0, none⟩ = some (.pointer (some ⟨b, 0, none⟩)) ∧ w2.cell? ⟨b, 4, none⟩ = some (vs) from ⟨hI2.pbc, HW2.out.cell hb4⟩)
  have CEL : Hid (∀ W, Chg (fun k => vs.ownBlock = some k) w W → W.cell? ⟨w.heap.size, 0, none⟩ = some (.pointer (some ⟨b, 0, none⟩)) → W.cell? ⟨w.heap.size, 0, none⟩ = some (.pointer (some ⟨b, 0, none⟩)) ∧ W.cell? ⟨b, 4, none⟩ = some (vs)) := Lib.hid (fun W h1 h2 => ⟨h2, h1.cellS hb4 HH.out.sb⟩)
  have FRZ : Hid (∀ W, Chg (fun k => vs.ownBlock = some k) w W → W.frozen? ⟨b, 4, none⟩ = false) := Lib.hid (fun W h1 => frozen_of_block (h1.keep HH.out.box HH.out.sb))
  clear hI2 hs1 hb4 HB1 HB2 HI2
  refine wp_region_held_split 9 (fun w' => w'.cell? ⟨w.heap.size, 0, none⟩ = some (.pointer (some ⟨b, 0, none⟩)) ∧ w'.cell? ⟨b, 4, none⟩ = some (vs)) (by kernel_rfl) (by kernel_rfl) ?_ (fun hHeld => ?_)
  · (first | exact HS0.out | exact HKS.out _ (Chg.refl _ _) | exact zc)
  simp only [List.take_succ_cons, List.take_zero]
  have HKS : Hid (∀ W, Chg (fun _ => False) w2.drew W → W.cell? ⟨w.heap.size, 0, none⟩ = some (.pointer (some ⟨b, 0, none⟩)) ∧ W.cell? ⟨b, 4, none⟩ = some (vs)) := Lib.hid (fun W hc => ⟨hc.cell HS0.out.1, hc.cell HS0.out.2⟩)
  have HWD : Hid (Chg (fun _ => False) w2 w2.drew) := Lib.hid (Chg.refl _ w2).drewR
  generalize w2.drew = wD at *
  refine wpAnyH_take (i := 0) (v := ?_) rfl (by kernel_rfl) (by kernel_rfl) (by kernel_rfl) (fun _ _ _ h => h) (Or.inl ⟨by rfl, ?_⟩) (by assumption) ?_
  rotate_left
  · (intro wq hSw; (try dsimp only at hSw); go_simp; (try with_reducible rfl))
  simp only [Act.put, List.getElem_toArray, List.getElem_cons_zero, List.getElem_cons_succ, List.setIfInBounds_toArray, List.set_cons_zero, List.set_cons_succ]
  refine wpAnyH_take (i := 1) (v := ?_) rfl (by kernel_rfl) (by kernel_rfl) (by kernel_rfl) (fun _ _ _ h => h) (Or.inl ⟨by rfl, ?_⟩) (by assumption) ?_
  rotate_left
  · (intro wq hSw; (try dsimp only at hSw); go_simp; (try with_reducible rfl))
  simp only [Act.put, List.getElem_toArray, List.getElem_cons_zero, List.getElem_cons_succ, List.setIfInBounds_toArray, List.set_cons_zero, List.set_cons_succ]
  refine wpAnyH_take (i := 2) (v := ?_) rfl (by kernel_rfl) (by kernel_rfl) (by kernel_rfl) (fun _ _ _ h => h) (Or.inl ⟨by rfl, ?_⟩) (by assumption) ?_
  rotate_left
  · (intro wq hSw; (try dsimp only at hSw); go_simp; (try with_reducible rfl))
  simp only [Act.put, List.getElem_toArray, List.getElem_cons_zero, List.getElem_cons_succ, List.setIfInBounds_toArray, List.set_cons_zero, List.set_cons_succ]
  refine wpAnyH_take (i := 3) (v := ?_) rfl (by kernel_rfl) (by kernel_rfl) (by kernel_rfl) (fun _ _ _ h => h) (Or.inl ⟨by rfl, ?_⟩) (by assumption) ?_
  rotate_left
  · (intro wq hSw; (try dsimp only at hSw); go_simp; (try with_reducible rfl))
  simp only [Act.put, List.getElem_toArray, List.getElem_cons_zero, List.getElem_cons_succ, List.setIfInBounds_toArray, List.set_cons_zero, List.set_cons_succ]
  refine wpAnyH_take (i := 4) (v := ?_) rfl (by kernel_rfl) (by kernel_rfl) (by kernel_rfl) (fun _ _ _ h => h) (Or.inl ⟨by rfl, ?_⟩) (by assumption) ?_
  rotate_left
  · (intro wq hSw; (try dsimp only at hSw); go_simp; (try with_reducible rfl))
  simp only [Act.put, List.getElem_toArray, List.getElem_cons_zero, List.getElem_cons_succ, List.setIfInBounds_toArray, List.set_cons_zero, List.set_cons_succ]
  refine wpAnyH_take (i := 5) (v := ?_) rfl (by kernel_rfl) (by kernel_rfl) (by kernel_rfl) (fun _ _ _ h => h) (Or.inl ⟨by rfl, ?_⟩) (by assumption) ?_
  rotate_left
  · (intro wq hSw; (try dsimp only at hSw); go_simp; (try with_reducible rfl))
  simp only [Act.put, List.getElem_toArray, List.getElem_cons_zero, List.getElem_cons_succ, List.setIfInBounds_toArray, List.set_cons_zero, List.set_cons_succ]
  refine wpAnyH_ready (rs := [6]) (by kernel_rfl) (by simp) ?_
  refine AllReadyH.cons (by simp only [List.getElem?_toArray, List.getElem?_cons_succ, List.getElem?_cons_zero]; rfl) (fun K hK => ?_) AllReadyH.nil
  (go_simp; go_at_call 54; refine (HDF.out _ HWD.out).mono ?_; rintro _ w5 ⟨v5, cur5, vo5, rfl, hI5, hrow5, hold5⟩; obtain ⟨a5, c5, rfl, -, -⟩ := hrow5.slice; have HI5 := Lib.hid hI5; have HROW5 := Lib.hid hrow5; have HOLD5 := Lib.hid hold5; have zc := CEL.out _ hI5.chg hI5.pbc; have zf := FRZ.out _ hI5.chg; clear hI5 hrow5 hold5; go_simp)
  refine hK.out _ _ ?_ (fun hHeld => ?_)
  · (first | exact HS0.out | exact HKS.out _ (Chg.refl _ _) | exact zc)
  clear hK K
  (try simp only [Act.put, List.getElem_toArray, List.getElem_cons_zero, List.getElem_cons_succ, List.setIfInBounds_toArray, List.set_cons_zero, List.set_cons_succ])
  refine wpAnyH_take (i := 7) (v := ?_) rfl (by kernel_rfl) (by kernel_rfl) (by kernel_rfl) (fun _ _ _ h => h) (Or.inl ⟨by rfl, ?_⟩) (by assumption) ?_
  rotate_left
  · (intro wq hSw; (try dsimp only at hSw); go_simp; (try with_reducible rfl))
  simp only [Act.put, List.getElem_toArray, List.getElem_cons_zero, List.getElem_cons_succ, List.setIfInBounds_toArray, List.set_cons_zero, List.set_cons_succ]
  refine wpAnyH_take (i := 8) (v := ?_) rfl (by kernel_rfl) (by kernel_rfl) (by kernel_rfl) (fun _ _ _ h => h) (Or.inl ⟨by rfl, ?_⟩) (by assumption) ?_
  rotate_left
  · (intro wq hSw; (try dsimp only at hSw); go_simp; (try with_reducible rfl))
  simp only [Act.put, List.getElem_toArray, List.getElem_cons_zero, List.getElem_cons_succ, List.setIfInBounds_toArray, List.set_cons_zero, List.set_cons_succ]
  refine wpAnyH_done (by kernel_rfl) ?_ _
  change wpList _ _ _ _ _ _
  simp only [List.drop_succ_cons, List.drop_zero]
  go_upto_region 3 with fail
  have hI5 := HI5.out
  have hcs : Chg (fun k => k = b) w5 (w5.setCell ⟨b, 4, none⟩ (.slice a5 (keptL h h.sleeping).length c5)) := Chg.setCell w5 ⟨b, 4, none⟩ _
  have hob := hcs.keep hI5.obb (by omega)
  have c0 := cell_of_block (i := 0) hob rfl
  simp only [List.getElem_toArray, List.getElem_cons_zero] at c0
  have HFI := Lib.hid (HH.out.resleep hI5.chg (keptL h h.sleeping) HROW5.out (Nat.le_trans (keptL_le _ _) HH.out.few.2) (fun k hk => .inl (HOLD5.out k hk)))
  have HVO := Lib.hid (hI5.row.chg hcs (fun k hk e => by have := (hI5.new k hk).1; omega))
  have HNW := Lib.hid (fun k (hk : vo5.ownBlock = some k) => (hI5.new k hk).1)
  have HCH := Lib.hid (hI5.chg.trans hcs (fun k _ x => (.inr (.inr x) : Mut b vl vs k)) (fun k _ x => .inl x))
  have HOL := Lib.hid (fun k (hk : (Value.slice a5 (keptL h h.sleeping).length c5).ownBlock = some k) => HOLD5.out k hk)
  clear hI5 hcs hob HKS HWD HDF HS0 CEL FRZ zc zf HI5
  generalize w5.setCell ⟨b, 4, none⟩ (.slice a5 (keptL h h.sleeping).length c5) = w6 at *
  go_wp2_with fail
  go_ret
  exact ⟨_, _, rfl, HFI.out, HCH.out, fun k x => x.elim .inl (fun y => .inr (y.elim .inl (fun z => .inr (HOL.out k z)))), HVO.out, HNW.out⟩
set_option maxHeartbeats 6400000 in
set_option maxRecDepth 100000 in
theorem sleep_any (w0 : Past) (w : World) (b : Nat) (h : Hist) (vl vs : Value) (rs : List EntR) (H : HiAt w0 w b h vl vs rs) (p : Int) (hn : h.sleeping.length < 1000) :
    Calls Tryd.prog 41 #[.pointer (some ⟨b, 0, none⟩), .int .i64 p] w fun z w' => z = .returned (.tuple #[]) ∧ OpX w0 w b (Mut b vl vs) (sleepM h p) w' := by
  have HH := Lib.hid H
  have HN := Lib.hid hn
  have d0 := cell_of_block (i := 4) H.box rfl
  simp only [List.getElem_toArray, List.getElem_cons_zero, List.getElem_cons_succ] at d0
  have FR : Hid (∀ W1, Chg (fun k => vs.ownBlock = some k) (w.alloc (.cells #[.int .i64 p] 3)) W1 → (∃ u, W1.cell? ⟨b, 4, none⟩ = some u) ∧ W1.frozen? ⟨b, 4, none⟩ = false) := Lib.hid (fun W1 hc => by
    have hb := hc.keep ((Chg.alloc (fun _ => False) w _).keep HH.out.box (fun x => x)) HH.out.sb
    exact ⟨⟨_, cell_of_block (i := 4) hb rfl⟩, frozen_of_block hb⟩)
  obtain ⟨ao, co, rfl, -, -⟩ := H.slp.slice
  clear H hn
  go_enter Tryd.func41, Tryd.ntmps41
  go_upto_region 1 with (at_builtin; refine wpList_outR rfl (.tmp 8) (.tmp 10) rfl _ h.sleeping rfl (HH.out.slp.alloc _) _ [p] rfl (RowAt.lit [.int .i64 p] rfl (by simp [maxLen])) (⟨by have := HN.out; simp only [List.length_cons, List.length_nil]; omega⟩ : Few _) ?_; intro a2 n2 c2 w2 hrow2 hchg2 hold2; obtain ⟨⟨u2, hu2⟩, hf2⟩ := FR.out w2 hchg2)
  have hx : Chg (fun k => (Value.slice ao h.sleeping.length co).ownBlock = some k) w w2 := (Chg.alloc (fun _ => False) w _).trans hchg2 (fun _ _ x => x.elim) (fun _ _ x => x)
  have hh3 := HH.out.resleep hx (h.sleeping ++ [p]) hrow2 (by rw [List.length_append]; simp only [List.length_cons, List.length_nil]; have := HN.out; omega) (fun k hk => by
    rcases hold2 k hk with x | x
    · exact .inl x
    · exact .inr (by rw [World.size_alloc] at x; omega))
  have HCS := Lib.hid (hx.trans (Chg.setCell w2 ⟨b, 4, none⟩ (.slice a2 n2 c2)) (fun k _ x => (.inr (.inr x) : Mut b vl (Value.slice ao h.sleeping.length co) k)) (fun k _ x => .inl x))
  have HOL := Lib.hid (fun k (hk : (Value.slice a2 n2 c2).ownBlock = some k) => (hold2 k hk : (Value.slice ao h.sleeping.length co).ownBlock = some k ∨ _ ≤ k))
  have HH3 := Lib.hid hh3
  have c0 := cell_of_block (i := 4) hh3.box rfl
  simp only [List.getElem_toArray, List.getElem_cons_zero, List.getElem_cons_succ] at c0
  have HSO := Lib.hid (sortRow _ _ (h.sleeping ++ [p]) hh3.slp ⟨by rw [List.length_append]; simp only [List.length_cons, List.length_nil]; have := HN.out; omega⟩)
  have HSB := Lib.hid hh3.sb
  clear hh3 hx hrow2 hchg2 hold2 hu2 hf2 FR d0
  generalize w2.setCell ⟨b, 4, none⟩ (.slice a2 n2 c2) = w3 at *
  go_wp2_with (go_at_call 46; refine HSO.out.mono ?_; rintro _ w4 ⟨rfl, hrow4, hch4⟩)
  go_end0
  refine ⟨rfl, _, _, _, (HH3.out.slept hch4 (sorted (h.sleeping ++ [p])) hrow4 (by rw [sorted_length, List.length_append]; simp only [List.length_cons, List.length_nil]; have := HN.out; omega)), HCS.out.trans hch4 (fun _ _ x => x) (fun k hk x => ?_), fun k hk x => ?_⟩
  · rcases HOL.out k x with y | y
    · exact .inr (.inr y)
    · rw [World.size_alloc] at y; omega
  · rcases x with x | x | x
    · exact .inl x
    · exact .inr (.inl x)
    · rcases HOL.out k x with y | y
      · exact .inr (.inr y)
      · rw [World.size_alloc] at y; omega
end Go.Proofs.YtiecgbmeobpomaaDoor
namespace Go.Proofs.YtiecgbmeobpomaaDoor
open Go.RowKit
set_option linter.unusedVariables false
set_option linter.unusedSimpArgs false

/-- Twelve cells of a block stored one after the other. -/
theorem store12 {w : World} {g T : Nat} {u0 u1 u2 u3 u4 u5 u6 u7 u8 u9 u10 u11 : Value} (b0 : w.heap[g]? = some (.cells #[u0, u1, u2, u3, u4, u5, u6, u7, u8, u9, u10, u11] T (0, 0))) (v0 v1 v2 v3 v4 v5 v6 v7 v8 v9 v10 v11 : Value) :
    w.cell? ⟨g, 0, none⟩ = some u0 ∧ w.frozen? ⟨g, 0, none⟩ = false ∧
    (w.setCell ⟨g, 0, none⟩ v0).cell? ⟨g, 1, none⟩ = some u1 ∧ (w.setCell ⟨g, 0, none⟩ v0).frozen? ⟨g, 1, none⟩ = false ∧
    ((w.setCell ⟨g, 0, none⟩ v0).setCell ⟨g, 1, none⟩ v1).cell? ⟨g, 2, none⟩ = some u2 ∧ ((w.setCell ⟨g, 0, none⟩ v0).setCell ⟨g, 1, none⟩ v1).frozen? ⟨g, 2, none⟩ = false ∧
    (((w.setCell ⟨g, 0, none⟩ v0).setCell ⟨g, 1, none⟩ v1).setCell ⟨g, 2, none⟩ v2).cell? ⟨g, 3, none⟩ = some u3 ∧ (((w.setCell ⟨g, 0, none⟩ v0).setCell ⟨g, 1, none⟩ v1).setCell ⟨g, 2, none⟩ v2).frozen? ⟨g, 3, none⟩ = false ∧
    ((((w.setCell ⟨g, 0, none⟩ v0).setCell ⟨g, 1, none⟩ v1).setCell ⟨g, 2, none⟩ v2).setCell ⟨g, 3, none⟩ v3).cell? ⟨g, 4, none⟩ = some u4 ∧ ((((w.setCell ⟨g, 0, none⟩ v0).setCell ⟨g, 1, none⟩ v1).setCell ⟨g, 2, none⟩ v2).setCell ⟨g, 3, none⟩ v3).frozen? ⟨g, 4, none⟩ = false ∧
    (((((w.setCell ⟨g, 0, none⟩ v0).setCell ⟨g, 1, none⟩ v1).setCell ⟨g, 2, none⟩ v2).setCell ⟨g, 3, none⟩ v3).setCell ⟨g, 4, none⟩ v4).cell? ⟨g, 5, none⟩ = some u5 ∧ (((((w.setCell ⟨g, 0, none⟩ v0).setCell ⟨g, 1, none⟩ v1).setCell ⟨g, 2, none⟩ v2).setCell ⟨g, 3, none⟩ v3).setCell ⟨g, 4, none⟩ v4).frozen? ⟨g, 5, none⟩ = false ∧
    ((((((w.setCell ⟨g, 0, none⟩ v0).setCell ⟨g, 1, none⟩ v1).setCell ⟨g, 2, none⟩ v2).setCell ⟨g, 3, none⟩ v3).setCell ⟨g, 4, none⟩ v4).setCell ⟨g, 5, none⟩ v5).cell? ⟨g, 6, none⟩ = some u6 ∧ ((((((w.setCell ⟨g, 0, none⟩ v0).setCell ⟨g, 1, none⟩ v1).setCell ⟨g, 2, none⟩ v2).setCell ⟨g, 3, none⟩ v3).setCell ⟨g, 4, none⟩ v4).setCell ⟨g, 5, none⟩ v5).frozen? ⟨g, 6, none⟩ = false ∧
    (((((((w.setCell ⟨g, 0, none⟩ v0).setCell ⟨g, 1, none⟩ v1).setCell ⟨g, 2, none⟩ v2).setCell ⟨g, 3, none⟩ v3).setCell ⟨g, 4, none⟩ v4).setCell ⟨g, 5, none⟩ v5).setCell ⟨g, 6, none⟩ v6).cell? ⟨g, 7, none⟩ = some u7 ∧ (((((((w.setCell ⟨g, 0, none⟩ v0).setCell ⟨g, 1, none⟩ v1).setCell ⟨g, 2, none⟩ v2).setCell ⟨g, 3, none⟩ v3).setCell ⟨g, 4, none⟩ v4).setCell ⟨g, 5, none⟩ v5).setCell ⟨g, 6, none⟩ v6).frozen? ⟨g, 7, none⟩ = false ∧
    ((((((((w.setCell ⟨g, 0, none⟩ v0).setCell ⟨g, 1, none⟩ v1).setCell ⟨g, 2, none⟩ v2).setCell ⟨g, 3, none⟩ v3).setCell ⟨g, 4, none⟩ v4).setCell ⟨g, 5, none⟩ v5).setCell ⟨g, 6, none⟩ v6).setCell ⟨g, 7, none⟩ v7).cell? ⟨g, 8, none⟩ = some u8 ∧ ((((((((w.setCell ⟨g, 0, none⟩ v0).setCell ⟨g, 1, none⟩ v1).setCell ⟨g, 2, none⟩ v2).setCell ⟨g, 3, none⟩ v3).setCell ⟨g, 4, none⟩ v4).setCell ⟨g, 5, none⟩ v5).setCell ⟨g, 6, none⟩ v6).setCell ⟨g, 7, none⟩ v7).frozen? ⟨g, 8, none⟩ = false ∧
    (((((((((w.setCell ⟨g, 0, none⟩ v0).setCell ⟨g, 1, none⟩ v1).setCell ⟨g, 2, none⟩ v2).setCell ⟨g, 3, none⟩ v3).setCell ⟨g, 4, none⟩ v4).setCell ⟨g, 5, none⟩ v5).setCell ⟨g, 6, none⟩ v6).setCell ⟨g, 7, none⟩ v7).setCell ⟨g, 8, none⟩ v8).cell? ⟨g, 9, none⟩ = some u9 ∧ (((((((((w.setCell ⟨g, 0, none⟩ v0).setCell ⟨g, 1, none⟩ v1).setCell ⟨g, 2, none⟩ v2).setCell ⟨g, 3, none⟩ v3).setCell ⟨g, 4, none⟩ v4).setCell ⟨g, 5, none⟩ v5).setCell ⟨g, 6, none⟩ v6).setCell ⟨g, 7, none⟩ v7).setCell ⟨g, 8, none⟩ v8).frozen? ⟨g, 9, none⟩ = false ∧
    ((((((((((w.setCell ⟨g, 0, none⟩ v0).setCell ⟨g, 1, none⟩ v1).setCell ⟨g, 2, none⟩ v2).setCell ⟨g, 3, none⟩ v3).setCell ⟨g, 4, none⟩ v4).setCell ⟨g, 5, none⟩ v5).setCell ⟨g, 6, none⟩ v6).setCell ⟨g, 7, none⟩ v7).setCell ⟨g, 8, none⟩ v8).setCell ⟨g, 9, none⟩ v9).cell? ⟨g, 10, none⟩ = some u10 ∧ ((((((((((w.setCell ⟨g, 0, none⟩ v0).setCell ⟨g, 1, none⟩ v1).setCell ⟨g, 2, none⟩ v2).setCell ⟨g, 3, none⟩ v3).setCell ⟨g, 4, none⟩ v4).setCell ⟨g, 5, none⟩ v5).setCell ⟨g, 6, none⟩ v6).setCell ⟨g, 7, none⟩ v7).setCell ⟨g, 8, none⟩ v8).setCell ⟨g, 9, none⟩ v9).frozen? ⟨g, 10, none⟩ = false ∧
    (((((((((((w.setCell ⟨g, 0, none⟩ v0).setCell ⟨g, 1, none⟩ v1).setCell ⟨g, 2, none⟩ v2).setCell ⟨g, 3, none⟩ v3).setCell ⟨g, 4, none⟩ v4).setCell ⟨g, 5, none⟩ v5).setCell ⟨g, 6, none⟩ v6).setCell ⟨g, 7, none⟩ v7).setCell ⟨g, 8, none⟩ v8).setCell ⟨g, 9, none⟩ v9).setCell ⟨g, 10, none⟩ v10).cell? ⟨g, 11, none⟩ = some u11 ∧ (((((((((((w.setCell ⟨g, 0, none⟩ v0).setCell ⟨g, 1, none⟩ v1).setCell ⟨g, 2, none⟩ v2).setCell ⟨g, 3, none⟩ v3).setCell ⟨g, 4, none⟩ v4).setCell ⟨g, 5, none⟩ v5).setCell ⟨g, 6, none⟩ v6).setCell ⟨g, 7, none⟩ v7).setCell ⟨g, 8, none⟩ v8).setCell ⟨g, 9, none⟩ v9).setCell ⟨g, 10, none⟩ v10).frozen? ⟨g, 11, none⟩ = false ∧
    ((((((((((((w.setCell ⟨g, 0, none⟩ v0).setCell ⟨g, 1, none⟩ v1).setCell ⟨g, 2, none⟩ v2).setCell ⟨g, 3, none⟩ v3).setCell ⟨g, 4, none⟩ v4).setCell ⟨g, 5, none⟩ v5).setCell ⟨g, 6, none⟩ v6).setCell ⟨g, 7, none⟩ v7).setCell ⟨g, 8, none⟩ v8).setCell ⟨g, 9, none⟩ v9).setCell ⟨g, 10, none⟩ v10).setCell ⟨g, 11, none⟩ v11).heap[g]? = some (.cells #[v0, v1, v2, v3, v4, v5, v6, v7, v8, v9, v10, v11] T (0, 0)) ∧ Chg (fun k => k = g) w ((((((((((((w.setCell ⟨g, 0, none⟩ v0).setCell ⟨g, 1, none⟩ v1).setCell ⟨g, 2, none⟩ v2).setCell ⟨g, 3, none⟩ v3).setCell ⟨g, 4, none⟩ v4).setCell ⟨g, 5, none⟩ v5).setCell ⟨g, 6, none⟩ v6).setCell ⟨g, 7, none⟩ v7).setCell ⟨g, 8, none⟩ v8).setCell ⟨g, 9, none⟩ v9).setCell ⟨g, 10, none⟩ v10).setCell ⟨g, 11, none⟩ v11) := by
  have b1 : (w.setCell ⟨g, 0, none⟩ v0).heap[g]? = some (.cells #[v0, u1, u2, u3, u4, u5, u6, u7, u8, u9, u10, u11] T (0, 0)) := setCell_block (i := 0) v0 b0
  have b2 : ((w.setCell ⟨g, 0, none⟩ v0).setCell ⟨g, 1, none⟩ v1).heap[g]? = some (.cells #[v0, v1, u2, u3, u4, u5, u6, u7, u8, u9, u10, u11] T (0, 0)) := setCell_block (i := 1) v1 b1
  have b3 : (((w.setCell ⟨g, 0, none⟩ v0).setCell ⟨g, 1, none⟩ v1).setCell ⟨g, 2, none⟩ v2).heap[g]? = some (.cells #[v0, v1, v2, u3, u4, u5, u6, u7, u8, u9, u10, u11] T (0, 0)) := setCell_block (i := 2) v2 b2
  have b4 : ((((w.setCell ⟨g, 0, none⟩ v0).setCell ⟨g, 1, none⟩ v1).setCell ⟨g, 2, none⟩ v2).setCell ⟨g, 3, none⟩ v3).heap[g]? = some (.cells #[v0, v1, v2, v3, u4, u5, u6, u7, u8, u9, u10, u11] T (0, 0)) := setCell_block (i := 3) v3 b3
  have b5 : (((((w.setCell ⟨g, 0, none⟩ v0).setCell ⟨g, 1, none⟩ v1).setCell ⟨g, 2, none⟩ v2).setCell ⟨g, 3, none⟩ v3).setCell ⟨g, 4, none⟩ v4).heap[g]? = some (.cells #[v0, v1, v2, v3, v4, u5, u6, u7, u8, u9, u10, u11] T (0, 0)) := setCell_block (i := 4) v4 b4
  have b6 : ((((((w.setCell ⟨g, 0, none⟩ v0).setCell ⟨g, 1, none⟩ v1).setCell ⟨g, 2, none⟩ v2).setCell ⟨g, 3, none⟩ v3).setCell ⟨g, 4, none⟩ v4).setCell ⟨g, 5, none⟩ v5).heap[g]? = some (.cells #[v0, v1, v2, v3, v4, v5, u6, u7, u8, u9, u10, u11] T (0, 0)) := setCell_block (i := 5) v5 b5
  have b7 : (((((((w.setCell ⟨g, 0, none⟩ v0).setCell ⟨g, 1, none⟩ v1).setCell ⟨g, 2, none⟩ v2).setCell ⟨g, 3, none⟩ v3).setCell ⟨g, 4, none⟩ v4).setCell ⟨g, 5, none⟩ v5).setCell ⟨g, 6, none⟩ v6).heap[g]? = some (.cells #[v0, v1, v2, v3, v4, v5, v6, u7, u8, u9, u10, u11] T (0, 0)) := setCell_block (i := 6) v6 b6
  have b8 : ((((((((w.setCell ⟨g, 0, none⟩ v0).setCell ⟨g, 1, none⟩ v1).setCell ⟨g, 2, none⟩ v2).setCell ⟨g, 3, none⟩ v3).setCell ⟨g, 4, none⟩ v4).setCell ⟨g, 5, none⟩ v5).setCell ⟨g, 6, none⟩ v6).setCell ⟨g, 7, none⟩ v7).heap[g]? = some (.cells #[v0, v1, v2, v3, v4, v5, v6, v7, u8, u9, u10, u11] T (0, 0)) := setCell_block (i := 7) v7 b7
  have b9 : (((((((((w.setCell ⟨g, 0, none⟩ v0).setCell ⟨g, 1, none⟩ v1).setCell ⟨g, 2, none⟩ v2).setCell ⟨g, 3, none⟩ v3).setCell ⟨g, 4, none⟩ v4).setCell ⟨g, 5, none⟩ v5).setCell ⟨g, 6, none⟩ v6).setCell ⟨g, 7, none⟩ v7).setCell ⟨g, 8, none⟩ v8).heap[g]? = some (.cells #[v0, v1, v2, v3, v4, v5, v6, v7, v8, u9, u10, u11] T (0, 0)) := setCell_block (i := 8) v8 b8
  have b10 : ((((((((((w.setCell ⟨g, 0, none⟩ v0).setCell ⟨g, 1, none⟩ v1).setCell ⟨g, 2, none⟩ v2).setCell ⟨g, 3, none⟩ v3).setCell ⟨g, 4, none⟩ v4).setCell ⟨g, 5, none⟩ v5).setCell ⟨g, 6, none⟩ v6).setCell ⟨g, 7, none⟩ v7).setCell ⟨g, 8, none⟩ v8).setCell ⟨g, 9, none⟩ v9).heap[g]? = some (.cells #[v0, v1, v2, v3, v4, v5, v6, v7, v8, v9, u10, u11] T (0, 0)) := setCell_block (i := 9) v9 b9
  have b11 : (((((((((((w.setCell ⟨g, 0, none⟩ v0).setCell ⟨g, 1, none⟩ v1).setCell ⟨g, 2, none⟩ v2).setCell ⟨g, 3, none⟩ v3).setCell ⟨g, 4, none⟩ v4).setCell ⟨g, 5, none⟩ v5).setCell ⟨g, 6, none⟩ v6).setCell ⟨g, 7, none⟩ v7).setCell ⟨g, 8, none⟩ v8).setCell ⟨g, 9, none⟩ v9).setCell ⟨g, 10, none⟩ v10).heap[g]? = some (.cells #[v0, v1, v2, v3, v4, v5, v6, v7, v8, v9, v10, u11] T (0, 0)) := setCell_block (i := 10) v10 b10
  have b12 : ((((((((((((w.setCell ⟨g, 0, none⟩ v0).setCell ⟨g, 1, none⟩ v1).setCell ⟨g, 2, none⟩ v2).setCell ⟨g, 3, none⟩ v3).setCell ⟨g, 4, none⟩ v4).setCell ⟨g, 5, none⟩ v5).setCell ⟨g, 6, none⟩ v6).setCell ⟨g, 7, none⟩ v7).setCell ⟨g, 8, none⟩ v8).setCell ⟨g, 9, none⟩ v9).setCell ⟨g, 10, none⟩ v10).setCell ⟨g, 11, none⟩ v11).heap[g]? = some (.cells #[v0, v1, v2, v3, v4, v5, v6, v7, v8, v9, v10, v11] T (0, 0)) := setCell_block (i := 11) v11 b11
  exact ⟨cell_of_block b0 rfl, frozen_of_block b0, cell_of_block b1 rfl, frozen_of_block b1, cell_of_block b2 rfl, frozen_of_block b2, cell_of_block b3 rfl, frozen_of_block b3, cell_of_block b4 rfl, frozen_of_block b4, cell_of_block b5 rfl, frozen_of_block b5, cell_of_block b6 rfl, frozen_of_block b6, cell_of_block b7 rfl, frozen_of_block b7, cell_of_block b8 rfl, frozen_of_block b8, cell_of_block b9 rfl, frozen_of_block b9, cell_of_block b10 rfl, frozen_of_block b10, cell_of_block b11 rfl, frozen_of_block b11, b12, chg_put4 (chg_put4 (chg_put4 (chg_put4 (chg_put4 (chg_put4 (chg_put4 (chg_put4 (chg_put4 (chg_put4 (chg_put4 (chg_put4 (Chg.refl _ _))))))))))))⟩
theorem store12n (w : World) (g T : Nat) (hg : w.heap.size = g) (u0 u1 u2 u3 u4 u5 u6 u7 u8 u9 u10 u11 v0 v1 v2 v3 v4 v5 v6 v7 v8 v9 v10 v11 : Value) :
    (w.alloc (.cells #[u0, u1, u2, u3, u4, u5, u6, u7, u8, u9, u10, u11] T)).cell? ⟨g, 0, none⟩ = some u0 ∧ (w.alloc (.cells #[u0, u1, u2, u3, u4, u5, u6, u7, u8, u9, u10, u11] T)).frozen? ⟨g, 0, none⟩ = false ∧
    ((w.alloc (.cells #[u0, u1, u2, u3, u4, u5, u6, u7, u8, u9, u10, u11] T)).setCell ⟨g, 0, none⟩ v0).cell? ⟨g, 1, none⟩ = some u1 ∧ ((w.alloc (.cells #[u0, u1, u2, u3, u4, u5, u6, u7, u8, u9, u10, u11] T)).setCell ⟨g, 0, none⟩ v0).frozen? ⟨g, 1, none⟩ = false ∧
    (((w.alloc (.cells #[u0, u1, u2, u3, u4, u5, u6, u7, u8, u9, u10, u11] T)).setCell ⟨g, 0, none⟩ v0).setCell ⟨g, 1, none⟩ v1).cell? ⟨g, 2, none⟩ = some u2 ∧ (((w.alloc (.cells #[u0, u1, u2, u3, u4, u5, u6, u7, u8, u9, u10, u11] T)).setCell ⟨g, 0, none⟩ v0).setCell ⟨g, 1, none⟩ v1).frozen? ⟨g, 2, none⟩ = false ∧
    ((((w.alloc (.cells #[u0, u1, u2, u3, u4, u5, u6, u7, u8, u9, u10, u11] T)).setCell ⟨g, 0, none⟩ v0).setCell ⟨g, 1, none⟩ v1).setCell ⟨g, 2, none⟩ v2).cell? ⟨g, 3, none⟩ = some u3 ∧ ((((w.alloc (.cells #[u0, u1, u2, u3, u4, u5, u6, u7, u8, u9, u10, u11] T)).setCell ⟨g, 0, none⟩ v0).setCell ⟨g, 1, none⟩ v1).setCell ⟨g, 2, none⟩ v2).frozen? ⟨g, 3, none⟩ = false ∧
    (((((w.alloc (.cells #[u0, u1, u2, u3, u4, u5, u6, u7, u8, u9, u10, u11] T)).setCell ⟨g, 0, none⟩ v0).setCell ⟨g, 1, none⟩ v1).setCell ⟨g, 2, none⟩ v2).setCell ⟨g, 3, none⟩ v3).cell? ⟨g, 4, none⟩ = some u4 ∧ (((((w.alloc (.cells #[u0, u1, u2, u3, u4, u5, u6, u7, u8, u9, u10, u11] T)).setCell ⟨g, 0, none⟩ v0).setCell ⟨g, 1, none⟩ v1).setCell ⟨g, 2, none⟩ v2).setCell ⟨g, 3, none⟩ v3).frozen? ⟨g, 4, none⟩ = false ∧
    ((((((w.alloc (.cells #[u0, u1, u2, u3, u4, u5, u6, u7, u8, u9, u10, u11] T)).setCell ⟨g, 0, none⟩ v0).setCell ⟨g, 1, none⟩ v1).setCell ⟨g, 2, none⟩ v2).setCell ⟨g, 3, none⟩ v3).setCell ⟨g, 4, none⟩ v4).cell? ⟨g, 5, none⟩ = some u5 ∧ ((((((w.alloc (.cells #[u0, u1, u2, u3, u4, u5, u6, u7, u8, u9, u10, u11] T)).setCell ⟨g, 0, none⟩ v0).setCell ⟨g, 1, none⟩ v1).setCell ⟨g, 2, none⟩ v2).setCell ⟨g, 3, none⟩ v3).setCell ⟨g, 4, none⟩ v4).frozen? ⟨g, 5, none⟩ = false ∧
    (((((((w.alloc (.cells #[u0, u1, u2, u3, u4, u5, u6, u7, u8, u9, u10, u11] T)).setCell ⟨g, 0, none⟩ v0).setCell ⟨g, 1, none⟩ v1).setCell ⟨g, 2, none⟩ v2).setCell ⟨g, 3, none⟩ v3).setCell ⟨g, 4, none⟩ v4).setCell ⟨g, 5, none⟩ v5).cell? ⟨g, 6, none⟩ = some u6 ∧ (((((((w.alloc (.cells #[u0, u1, u2, u3, u4, u5, u6, u7, u8, u9, u10, u11] T)).setCell ⟨g, 0, none⟩ v0).setCell ⟨g, 1, none⟩ v1).setCell ⟨g, 2, none⟩ v2).setCell ⟨g, 3, none⟩ v3).setCell ⟨g, 4, none⟩ v4).setCell ⟨g, 5, none⟩ v5).frozen? ⟨g, 6, none⟩ = false ∧
    ((((((((w.alloc (.cells #[u0, u1, u2, u3, u4, u5, u6, u7, u8, u9, u10, u11] T)).setCell ⟨g, 0, none⟩ v0).setCell ⟨g, 1, none⟩ v1).setCell ⟨g, 2, none⟩ v2).setCell ⟨g, 3, none⟩ v3).setCell ⟨g, 4, none⟩ v4).setCell ⟨g, 5, none⟩ v5).setCell ⟨g, 6, none⟩ v6).cell? ⟨g, 7, none⟩ = some u7 ∧ ((((((((w.alloc (.cells #[u0, u1, u2, u3, u4, u5, u6, u7, u8, u9, u10, u11] T)).setCell ⟨g, 0, none⟩ v0).setCell ⟨g, 1, none⟩ v1).setCell ⟨g, 2, none⟩ v2).setCell ⟨g, 3, none⟩ v3).setCell ⟨g, 4, none⟩ v4).setCell ⟨g, 5, none⟩ v5).setCell ⟨g, 6, none⟩ v6).frozen? ⟨g, 7, none⟩ = false ∧
    (((((((((w.alloc (.cells #[u0, u1, u2, u3, u4, u5, u6, u7, u8, u9, u10, u11] T)).setCell ⟨g, 0, none⟩ v0).setCell ⟨g, 1, none⟩ v1).setCell ⟨g, 2, none⟩ v2).setCell ⟨g, 3, none⟩ v3).setCell ⟨g, 4, none⟩ v4).setCell ⟨g, 5, none⟩ v5).setCell ⟨g, 6, none⟩ v6).setCell ⟨g, 7, none⟩ v7).cell? ⟨g, 8, none⟩ = some u8 ∧ (((((((((w.alloc (.cells #[u0, u1, u2, u3, u4, u5, u6, u7, u8, u9, u10, u11] T)).setCell ⟨g, 0, none⟩ v0).setCell ⟨g, 1, none⟩ v1).setCell ⟨g, 2, none⟩ v2).setCell ⟨g, 3, none⟩ v3).setCell ⟨g, 4, none⟩ v4).setCell ⟨g, 5, none⟩ v5).setCell ⟨g, 6, none⟩ v6).setCell ⟨g, 7, none⟩ v7).frozen? ⟨g, 8, none⟩ = false ∧
    ((((((((((w.alloc (.cells #[u0, u1, u2, u3, u4, u5, u6, u7, u8, u9, u10, u11] T)).setCell ⟨g, 0, none⟩ v0).setCell ⟨g, 1, none⟩ v1).setCell ⟨g, 2, none⟩ v2).setCell ⟨g, 3, none⟩ v3).setCell ⟨g, 4, none⟩ v4).setCell ⟨g, 5, none⟩ v5).setCell ⟨g, 6, none⟩ v6).setCell ⟨g, 7, none⟩ v7).setCell ⟨g, 8, none⟩ v8).cell? ⟨g, 9, none⟩ = some u9 ∧ ((((((((((w.alloc (.cells #[u0, u1, u2, u3, u4, u5, u6, u7, u8, u9, u10, u11] T)).setCell ⟨g, 0, none⟩ v0).setCell ⟨g, 1, none⟩ v1).setCell ⟨g, 2, none⟩ v2).setCell ⟨g, 3, none⟩ v3).setCell ⟨g, 4, none⟩ v4).setCell ⟨g, 5, none⟩ v5).setCell ⟨g, 6, none⟩ v6).setCell ⟨g, 7, none⟩ v7).setCell ⟨g, 8, none⟩ v8).frozen? ⟨g, 9, none⟩ = false ∧
    (((((((((((w.alloc (.cells #[u0, u1, u2, u3, u4, u5, u6, u7, u8, u9, u10, u11] T)).setCell ⟨g, 0, none⟩ v0).setCell ⟨g, 1, none⟩ v1).setCell ⟨g, 2, none⟩ v2).setCell ⟨g, 3, none⟩ v3).setCell ⟨g, 4, none⟩ v4).setCell ⟨g, 5, none⟩ v5).setCell ⟨g, 6, none⟩ v6).setCell ⟨g, 7, none⟩ v7).setCell ⟨g, 8, none⟩ v8).setCell ⟨g, 9, none⟩ v9).cell? ⟨g, 10, none⟩ = some u10 ∧ (((((((((((w.alloc (.cells #[u0, u1, u2, u3, u4, u5, u6, u7, u8, u9, u10, u11] T)).setCell ⟨g, 0, none⟩ v0).setCell ⟨g, 1, none⟩ v1).setCell ⟨g, 2, none⟩ v2).setCell ⟨g, 3, none⟩ v3).setCell ⟨g, 4, none⟩ v4).setCell ⟨g, 5, none⟩ v5).setCell ⟨g, 6, none⟩ v6).setCell ⟨g, 7, none⟩ v7).setCell ⟨g, 8, none⟩ v8).setCell ⟨g, 9, none⟩ v9).frozen? ⟨g, 10, none⟩ = false ∧
    ((((((((((((w.alloc (.cells #[u0, u1, u2, u3, u4, u5, u6, u7, u8, u9, u10, u11] T)).setCell ⟨g, 0, none⟩ v0).setCell ⟨g, 1, none⟩ v1).setCell ⟨g, 2, none⟩ v2).setCell ⟨g, 3, none⟩ v3).setCell ⟨g, 4, none⟩ v4).setCell ⟨g, 5, none⟩ v5).setCell ⟨g, 6, none⟩ v6).setCell ⟨g, 7, none⟩ v7).setCell ⟨g, 8, none⟩ v8).setCell ⟨g, 9, none⟩ v9).setCell ⟨g, 10, none⟩ v10).cell? ⟨g, 11, none⟩ = some u11 ∧ ((((((((((((w.alloc (.cells #[u0, u1, u2, u3, u4, u5, u6, u7, u8, u9, u10, u11] T)).setCell ⟨g, 0, none⟩ v0).setCell ⟨g, 1, none⟩ v1).setCell ⟨g, 2, none⟩ v2).setCell ⟨g, 3, none⟩ v3).setCell ⟨g, 4, none⟩ v4).setCell ⟨g, 5, none⟩ v5).setCell ⟨g, 6, none⟩ v6).setCell ⟨g, 7, none⟩ v7).setCell ⟨g, 8, none⟩ v8).setCell ⟨g, 9, none⟩ v9).setCell ⟨g, 10, none⟩ v10).frozen? ⟨g, 11, none⟩ = false ∧
    (((((((((((((w.alloc (.cells #[u0, u1, u2, u3, u4, u5, u6, u7, u8, u9, u10, u11] T)).setCell ⟨g, 0, none⟩ v0).setCell ⟨g, 1, none⟩ v1).setCell ⟨g, 2, none⟩ v2).setCell ⟨g, 3, none⟩ v3).setCell ⟨g, 4, none⟩ v4).setCell ⟨g, 5, none⟩ v5).setCell ⟨g, 6, none⟩ v6).setCell ⟨g, 7, none⟩ v7).setCell ⟨g, 8, none⟩ v8).setCell ⟨g, 9, none⟩ v9).setCell ⟨g, 10, none⟩ v10).setCell ⟨g, 11, none⟩ v11).heap[g]? = some (.cells #[v0, v1, v2, v3, v4, v5, v6, v7, v8, v9, v10, v11] T (0, 0)) ∧ Chg (fun _ => False) w (((((((((((((w.alloc (.cells #[u0, u1, u2, u3, u4, u5, u6, u7, u8, u9, u10, u11] T)).setCell ⟨g, 0, none⟩ v0).setCell ⟨g, 1, none⟩ v1).setCell ⟨g, 2, none⟩ v2).setCell ⟨g, 3, none⟩ v3).setCell ⟨g, 4, none⟩ v4).setCell ⟨g, 5, none⟩ v5).setCell ⟨g, 6, none⟩ v6).setCell ⟨g, 7, none⟩ v7).setCell ⟨g, 8, none⟩ v8).setCell ⟨g, 9, none⟩ v9).setCell ⟨g, 10, none⟩ v10).setCell ⟨g, 11, none⟩ v11) := by
  subst hg
  have h0 := alloc_block w (.cells #[u0, u1, u2, u3, u4, u5, u6, u7, u8, u9, u10, u11] T)
  obtain ⟨z0, q0, z1, q1, z2, q2, z3, q3, z4, q4, z5, q5, z6, q6, z7, q7, z8, q8, z9, q9, z10, q10, z11, q11, hb, hc⟩ := store12 h0 v0 v1 v2 v3 v4 v5 v6 v7 v8 v9 v10 v11
  exact ⟨z0, q0, z1, q1, z2, q2, z3, q3, z4, q4, z5, q5, z6, q6, z7, q7, z8, q8, z9, q9, z10, q10, z11, q11, hb, (Chg.alloc (fun _ => False) w _).trans hc (fun _ _ x => x) (fun k hk e => by have : k = w.heap.size := e; omega)⟩
/-- The cells of a move. -/
def MvC (e : Ent) (vn vp : Value) (pg : Int) (aw sl : Bool) (vc : Value) : Array Value := #[.int .i64 e.id, .int .i64 e.page, .string e.url, .string e.title, vn, vp, .int .i64 e.x, .int .i64 e.y, .int .i64 pg, .bool aw, .bool sl, vc]
/-- A move: its memory is none of D's. -/
def MvAt (D : Nat → Prop) (w : World) (z : Value) (m : Mv) : Prop :=
  ∃ vn vp vc, z = .agg (MvC m.entry vn vp m.page m.awake m.sleeps vc) ∧ MsgAt D w vn vp m.entry.msg ∧ RowAt w 3 1 vc m.closed.length (intC m.closed) ∧ ∀ k, vc.ownBlock = some k → ¬ D k
theorem MvAt.chg {D D' S : Nat → Prop} {w w' : World} {z : Value} {m : Mv} (h : MvAt D w z m) (hc : Chg S w w') (hS : ∀ k, k < w.heap.size → S k → D k) (hD : ∀ k, k < w.heap.size → D' k → D k) : MvAt D' w' z m := by
  obtain ⟨vn, vp, vc, rfl, h1, h2, h3⟩ := h
  have hlt := h2.lt
  exact ⟨vn, vp, vc, rfl, h1.chg hc hS hD, h2.chg hc (fun k hk x => h3 k hk (hS k (hlt k hk) x)), fun k hk x => h3 k hk (hD k (hlt k hk) x)⟩
theorem SeenN.none (D : Nat → Prop) (w : World) (size : Nat) : SeenN D w size (.slice none 0 0) 0 [] :=
  ⟨_, _, rfl, Nat.le_refl _, by simp, by simp, fun _ => rfl, fun h => by omega⟩
theorem MsgAt.none (D : Nat → Prop) (w : World) : MsgAt D w (.slice none 0 0) (.slice none 0 0) Msg0 :=
  ⟨⟨[], rfl, (fun i a => by cases a), SeenN.none _ _ _⟩, SeenN.none _ _ _⟩
theorem MvAt.zero (D : Nat → Prop) (w : World) : MvAt D w (.agg #[.int .i64 0, .int .i64 0, .string ⟨#[]⟩, .string ⟨#[]⟩, .slice none 0 0, .slice none 0 0, .int .i64 0, .int .i64 0, .int .i64 0, .bool false, .bool false, .slice none 0 0]) Mv0 :=
  ⟨_, _, _, rfl, MsgAt.none _ _, RowAt.nil _ _ _, fun k hk => by simp [Value.ownBlock] at hk⟩
/-- A history and the move z behind an operation. -/
def OpV (w0 : Past) (w : World) (b : Nat) (M : Nat → Prop) (h : Hist) (m : Mv) (z : Value) (w' : World) : Prop := ∃ vl vs rs, HiAt w0 w' b h vl vs rs ∧ Chg M w w' ∧ (∀ k, k < w.heap.size → Mut b vl vs k → M k) ∧ MvAt (fun k => k < w.heap.size ∨ Mut b vl vs k) w' z m
theorem OpV.opx {w0 : Past} {w : World} {b : Nat} {M : Nat → Prop} {h : Hist} {m : Mv} {z : Value} {w' : World} (X : OpV w0 w b M h m z w') : OpX w0 w b M h w' := by
  obtain ⟨vl, vs, rs, h1, h2, h3, -⟩ := X
  exact ⟨vl, vs, rs, h1, h2, h3⟩
end Go.Proofs.YtiecgbmeobpomaaDoor
