/-
  The marks over a heap that has changed since; arena.Drop.
  What collect.Sweep makes of a heap, plainly.
  heap.place: the place of a property.
  arena.Get, heap.Get.
  heap.Own of an object that is no array.
  heap.Own of an array; value.Normal of an integer.
-/
import Derived.Test.YtjianickjahdnaaDoorPHeapKeysd
import Derived.Test.YtjianickjahdnaaDoorPHeapKeysb
import Derived.Test.YtjianickjahdnaaDoorPHeapKeysc
import Derived.Laws.ResultCell
import Derived.Test.YtjianickjahdnaaDoorPHeapKeysa
namespace Go.Proofs.YtjianickjahdnaaDoor
open Go.RowKit
set_option linter.unusedVariables false
set_option linter.unusedSimpArgs false

/-- The block of a row in a field lies in the thing's footprint. -/
theorem Here.ownIn2 {α β : Type} {A : Rep α} {B : Rep β} {e : TypeId} {w : World} {b o k : Nat} {a : α} {F : List Nat} {get : α → List β} {set : α → List β → α} (fl : FieldOf A (B.row e) k get set) (hA : 0 < A.n) (H : Here A w b o a F) {v : Value} (hc : w.cell? ⟨b, o + k, none⟩ = some v) {j : Nat} (hj : v.ownBlock = some j) : j ∈ F := by
  obtain ⟨G, h1, h2, -⟩ := H.field fl hA
  obtain ⟨v', xs, Fs, hc', hopen⟩ := h1.openRow
  rw [hc] at hc'
  cases hc'
  exact h2 _ (by rw [hopen.fp]; exact List.mem_append_left _ (mem_ownL.2 hj))
section
variable {β : Type} {B : Rep β} {w : World} {b o : Nat}
/-- All cells of a thing stored anew: what was behind it may have changed before. -/
theorem Here.putAll {x y : β} {G G' : List Nat} {w2 : World} {cs : List Value} (h : Here B w b o x G) (hc : Chg (fun k => k ∈ G) w w2) (hn : 0 < B.n) (hy : B.own w2 cs y G') (nd : G'.Nodup) (new : ∀ k ∈ G', k ∈ G ∨ w.heap.size ≤ k) :
    Here B (w2.setCells b o cs) b o y G' ∧ Step w (w2.setCells b o cs) b o B.n G G' := by
  obtain ⟨c, T, h1, h2⟩ := h.box
  have hl := B.len h2
  have hl2 := B.len hy
  simp only [List.length_take, List.length_drop, Array.length_toList] at hl
  have hsz : o + B.n ≤ c.size := by omega
  have hb : b < w.heap.size := lt_of_block h1
  have nb : b ∉ G' := fun hx => (new b hx).elim h.nb (fun e => by omega)
  have h3 := setCells_block cs o (hc.keep h1 h.nb)
  have hch : Chg (· = b) w2 (w2.setCells b o cs) := Chg.setCells cs w2 o
  refine ⟨⟨⟨_, T, h3, ?_⟩, nb, nd⟩, ⟨?_, new, ?_⟩⟩
  · rw [putAt_toList cs c o (by omega), List.append_assoc, List.drop_left' (by rw [List.length_take, Array.length_toList]; omega), List.take_left' hl2]
    exact B.chg hy hch (fun k hk e => nb (by have e' : k = b := e; rwa [e'] at hk))
  · exact (hc.mono (S' := fun k => k = b ∨ k ∈ G) (fun _ _ x => .inr x)).trans (hch.mono (S' := fun k => k = b ∨ k ∈ G) (fun _ _ x => .inl x)) (fun _ _ x => x) (fun _ _ x => x)
  · intro d U hd
    have h4 := setCells_block cs o (hc.keep hd h.nb)
    rw [h1] at hd
    cases hd
    refine ⟨_, h4, by rw [putAt_size], fun j hj => ?_⟩
    have e : (putAt c o cs)[j]? = (putAt c o cs).toList[j]? := by simp
    rw [e, putAt_toList cs c o (by omega)]
    have e2 : c[j]? = c.toList[j]? := by simp
    rw [e2]
    have ht : (c.toList.take o).length = o := by rw [List.length_take]; simp; omega
    rcases hj with hj | hj
    · rw [List.append_assoc, List.getElem?_append_left (by rw [ht]; exact hj), List.getElem?_take, if_pos hj]
    · rw [List.getElem?_append_right (by rw [List.length_append, ht]; omega), List.length_append, ht, List.getElem?_drop]
      have e5 : o + cs.length + (j - (o + cs.length)) = j := by omega
      rw [e5]
end
/-- A cell that is not stored yet. -/
theorem storeCell {w : World} {g so T : Nat} {c : Array Value} (h : w.heap[g]? = some (.cells c T (0, 0))) (vs : List Value) (hs : so + vs.length ≤ c.size) {u : Value} (hu : c[so + vs.length]? = some u) : (w.setCells g so vs).cell? ⟨g, so + vs.length, none⟩ = some u ∧ (w.setCells g so vs).frozen? ⟨g, so + vs.length, none⟩ = false := by
  have h3 := setCells_block vs so h
  refine ⟨cell_of_block h3 ?_, frozen_of_block h3⟩
  have e : (putAt c so vs)[so + vs.length]? = (putAt c so vs).toList[so + vs.length]? := by simp
  have ht : (c.toList.take so).length = so := by rw [List.length_take]; simp; omega
  rw [e, putAt_toList vs c so hs, List.getElem?_append_right (by rw [List.length_append, ht]; exact Nat.le_refl _), List.length_append, ht, List.getElem?_drop, Nat.sub_self, Nat.add_zero, ← hu]
  simp
theorem setCells_cons (w : World) (b o : Nat) (v : Value) (vs : List Value) : w.setCells b o (v :: vs) = (w.setCell ⟨b, o, none⟩ v).setCells b (o + 1) vs := rfl
theorem setCells_nil (w : World) (b o : Nat) : w.setCells b o [] = w := rfl
/-- Eleven cells stored one after the other. -/
theorem store11 {w : World} {g so T : Nat} {c : Array Value} (b0 : w.heap[g]? = some (.cells c T (0, 0))) (v0 v1 v2 v3 v4 v5 v6 v7 v8 v9 v10 : Value) {u0 u1 u2 u3 u4 u5 u6 u7 u8 u9 u10 : Value} (hu : c[so]? = some u0 ∧ c[so + 1]? = some u1 ∧ c[so + 2]? = some u2 ∧ c[so + 3]? = some u3 ∧ c[so + 4]? = some u4 ∧ c[so + 5]? = some u5 ∧ c[so + 6]? = some u6 ∧ c[so + 7]? = some u7 ∧ c[so + 8]? = some u8 ∧ c[so + 9]? = some u9 ∧ c[so + 10]? = some u10) :
    w.cell? ⟨g, so, none⟩ = some u0 ∧ w.frozen? ⟨g, so, none⟩ = false ∧
    (w.setCell ⟨g, so, none⟩ v0).cell? ⟨g, so + 1, none⟩ = some u1 ∧ (w.setCell ⟨g, so, none⟩ v0).frozen? ⟨g, so + 1, none⟩ = false ∧
    ((w.setCell ⟨g, so, none⟩ v0).setCell ⟨g, so + 1, none⟩ v1).cell? ⟨g, so + 2, none⟩ = some u2 ∧ ((w.setCell ⟨g, so, none⟩ v0).setCell ⟨g, so + 1, none⟩ v1).frozen? ⟨g, so + 2, none⟩ = false ∧
    (((w.setCell ⟨g, so, none⟩ v0).setCell ⟨g, so + 1, none⟩ v1).setCell ⟨g, so + 2, none⟩ v2).cell? ⟨g, so + 3, none⟩ = some u3 ∧ (((w.setCell ⟨g, so, none⟩ v0).setCell ⟨g, so + 1, none⟩ v1).setCell ⟨g, so + 2, none⟩ v2).frozen? ⟨g, so + 3, none⟩ = false ∧
    ((((w.setCell ⟨g, so, none⟩ v0).setCell ⟨g, so + 1, none⟩ v1).setCell ⟨g, so + 2, none⟩ v2).setCell ⟨g, so + 3, none⟩ v3).cell? ⟨g, so + 4, none⟩ = some u4 ∧ ((((w.setCell ⟨g, so, none⟩ v0).setCell ⟨g, so + 1, none⟩ v1).setCell ⟨g, so + 2, none⟩ v2).setCell ⟨g, so + 3, none⟩ v3).frozen? ⟨g, so + 4, none⟩ = false ∧
    (((((w.setCell ⟨g, so, none⟩ v0).setCell ⟨g, so + 1, none⟩ v1).setCell ⟨g, so + 2, none⟩ v2).setCell ⟨g, so + 3, none⟩ v3).setCell ⟨g, so + 4, none⟩ v4).cell? ⟨g, so + 5, none⟩ = some u5 ∧ (((((w.setCell ⟨g, so, none⟩ v0).setCell ⟨g, so + 1, none⟩ v1).setCell ⟨g, so + 2, none⟩ v2).setCell ⟨g, so + 3, none⟩ v3).setCell ⟨g, so + 4, none⟩ v4).frozen? ⟨g, so + 5, none⟩ = false ∧
    ((((((w.setCell ⟨g, so, none⟩ v0).setCell ⟨g, so + 1, none⟩ v1).setCell ⟨g, so + 2, none⟩ v2).setCell ⟨g, so + 3, none⟩ v3).setCell ⟨g, so + 4, none⟩ v4).setCell ⟨g, so + 5, none⟩ v5).cell? ⟨g, so + 6, none⟩ = some u6 ∧ ((((((w.setCell ⟨g, so, none⟩ v0).setCell ⟨g, so + 1, none⟩ v1).setCell ⟨g, so + 2, none⟩ v2).setCell ⟨g, so + 3, none⟩ v3).setCell ⟨g, so + 4, none⟩ v4).setCell ⟨g, so + 5, none⟩ v5).frozen? ⟨g, so + 6, none⟩ = false ∧
    (((((((w.setCell ⟨g, so, none⟩ v0).setCell ⟨g, so + 1, none⟩ v1).setCell ⟨g, so + 2, none⟩ v2).setCell ⟨g, so + 3, none⟩ v3).setCell ⟨g, so + 4, none⟩ v4).setCell ⟨g, so + 5, none⟩ v5).setCell ⟨g, so + 6, none⟩ v6).cell? ⟨g, so + 7, none⟩ = some u7 ∧ (((((((w.setCell ⟨g, so, none⟩ v0).setCell ⟨g, so + 1, none⟩ v1).setCell ⟨g, so + 2, none⟩ v2).setCell ⟨g, so + 3, none⟩ v3).setCell ⟨g, so + 4, none⟩ v4).setCell ⟨g, so + 5, none⟩ v5).setCell ⟨g, so + 6, none⟩ v6).frozen? ⟨g, so + 7, none⟩ = false ∧
    ((((((((w.setCell ⟨g, so, none⟩ v0).setCell ⟨g, so + 1, none⟩ v1).setCell ⟨g, so + 2, none⟩ v2).setCell ⟨g, so + 3, none⟩ v3).setCell ⟨g, so + 4, none⟩ v4).setCell ⟨g, so + 5, none⟩ v5).setCell ⟨g, so + 6, none⟩ v6).setCell ⟨g, so + 7, none⟩ v7).cell? ⟨g, so + 8, none⟩ = some u8 ∧ ((((((((w.setCell ⟨g, so, none⟩ v0).setCell ⟨g, so + 1, none⟩ v1).setCell ⟨g, so + 2, none⟩ v2).setCell ⟨g, so + 3, none⟩ v3).setCell ⟨g, so + 4, none⟩ v4).setCell ⟨g, so + 5, none⟩ v5).setCell ⟨g, so + 6, none⟩ v6).setCell ⟨g, so + 7, none⟩ v7).frozen? ⟨g, so + 8, none⟩ = false ∧
    (((((((((w.setCell ⟨g, so, none⟩ v0).setCell ⟨g, so + 1, none⟩ v1).setCell ⟨g, so + 2, none⟩ v2).setCell ⟨g, so + 3, none⟩ v3).setCell ⟨g, so + 4, none⟩ v4).setCell ⟨g, so + 5, none⟩ v5).setCell ⟨g, so + 6, none⟩ v6).setCell ⟨g, so + 7, none⟩ v7).setCell ⟨g, so + 8, none⟩ v8).cell? ⟨g, so + 9, none⟩ = some u9 ∧ (((((((((w.setCell ⟨g, so, none⟩ v0).setCell ⟨g, so + 1, none⟩ v1).setCell ⟨g, so + 2, none⟩ v2).setCell ⟨g, so + 3, none⟩ v3).setCell ⟨g, so + 4, none⟩ v4).setCell ⟨g, so + 5, none⟩ v5).setCell ⟨g, so + 6, none⟩ v6).setCell ⟨g, so + 7, none⟩ v7).setCell ⟨g, so + 8, none⟩ v8).frozen? ⟨g, so + 9, none⟩ = false ∧
    ((((((((((w.setCell ⟨g, so, none⟩ v0).setCell ⟨g, so + 1, none⟩ v1).setCell ⟨g, so + 2, none⟩ v2).setCell ⟨g, so + 3, none⟩ v3).setCell ⟨g, so + 4, none⟩ v4).setCell ⟨g, so + 5, none⟩ v5).setCell ⟨g, so + 6, none⟩ v6).setCell ⟨g, so + 7, none⟩ v7).setCell ⟨g, so + 8, none⟩ v8).setCell ⟨g, so + 9, none⟩ v9).cell? ⟨g, so + 10, none⟩ = some u10 ∧ ((((((((((w.setCell ⟨g, so, none⟩ v0).setCell ⟨g, so + 1, none⟩ v1).setCell ⟨g, so + 2, none⟩ v2).setCell ⟨g, so + 3, none⟩ v3).setCell ⟨g, so + 4, none⟩ v4).setCell ⟨g, so + 5, none⟩ v5).setCell ⟨g, so + 6, none⟩ v6).setCell ⟨g, so + 7, none⟩ v7).setCell ⟨g, so + 8, none⟩ v8).setCell ⟨g, so + 9, none⟩ v9).frozen? ⟨g, so + 10, none⟩ = false ∧
    (((((((((((w.setCell ⟨g, so, none⟩ v0).setCell ⟨g, so + 1, none⟩ v1).setCell ⟨g, so + 2, none⟩ v2).setCell ⟨g, so + 3, none⟩ v3).setCell ⟨g, so + 4, none⟩ v4).setCell ⟨g, so + 5, none⟩ v5).setCell ⟨g, so + 6, none⟩ v6).setCell ⟨g, so + 7, none⟩ v7).setCell ⟨g, so + 8, none⟩ v8).setCell ⟨g, so + 9, none⟩ v9).setCell ⟨g, so + 10, none⟩ v10) = w.setCells g so [v0, v1, v2, v3, v4, v5, v6, v7, v8, v9, v10] := by
  obtain ⟨q0, q1, q2, q3, q4, q5, q6, q7, q8, q9, q10⟩ := hu
  have c0 : w.cell? ⟨g, so, none⟩ = some u0 := cell_of_block b0 q0
  have f0 : w.frozen? ⟨g, so, none⟩ = false := frozen_of_block b0
  have b1 := setCell_block (i := so) v0 b0
  have c1 : (w.setCell ⟨g, so, none⟩ v0).cell? ⟨g, so + 1, none⟩ = some u1 := cell_of_block b1 (by rw [Array.getElem?_setIfInBounds_ne (by omega)]; exact q1)
  have f1 : (w.setCell ⟨g, so, none⟩ v0).frozen? ⟨g, so + 1, none⟩ = false := frozen_of_block b1
  have b2 := setCell_block (i := so + 1) v1 b1
  have c2 : ((w.setCell ⟨g, so, none⟩ v0).setCell ⟨g, so + 1, none⟩ v1).cell? ⟨g, so + 2, none⟩ = some u2 := cell_of_block b2 (by rw [Array.getElem?_setIfInBounds_ne (by omega), Array.getElem?_setIfInBounds_ne (by omega)]; exact q2)
  have f2 : ((w.setCell ⟨g, so, none⟩ v0).setCell ⟨g, so + 1, none⟩ v1).frozen? ⟨g, so + 2, none⟩ = false := frozen_of_block b2
  have b3 := setCell_block (i := so + 2) v2 b2
  have c3 : (((w.setCell ⟨g, so, none⟩ v0).setCell ⟨g, so + 1, none⟩ v1).setCell ⟨g, so + 2, none⟩ v2).cell? ⟨g, so + 3, none⟩ = some u3 := cell_of_block b3 (by rw [Array.getElem?_setIfInBounds_ne (by omega), Array.getElem?_setIfInBounds_ne (by omega), Array.getElem?_setIfInBounds_ne (by omega)]; exact q3)
  have f3 : (((w.setCell ⟨g, so, none⟩ v0).setCell ⟨g, so + 1, none⟩ v1).setCell ⟨g, so + 2, none⟩ v2).frozen? ⟨g, so + 3, none⟩ = false := frozen_of_block b3
  have b4 := setCell_block (i := so + 3) v3 b3
  have c4 : ((((w.setCell ⟨g, so, none⟩ v0).setCell ⟨g, so + 1, none⟩ v1).setCell ⟨g, so + 2, none⟩ v2).setCell ⟨g, so + 3, none⟩ v3).cell? ⟨g, so + 4, none⟩ = some u4 := cell_of_block b4 (by rw [Array.getElem?_setIfInBounds_ne (by omega), Array.getElem?_setIfInBounds_ne (by omega), Array.getElem?_setIfInBounds_ne (by omega), Array.getElem?_setIfInBounds_ne (by omega)]; exact q4)
  have f4 : ((((w.setCell ⟨g, so, none⟩ v0).setCell ⟨g, so + 1, none⟩ v1).setCell ⟨g, so + 2, none⟩ v2).setCell ⟨g, so + 3, none⟩ v3).frozen? ⟨g, so + 4, none⟩ = false := frozen_of_block b4
  have b5 := setCell_block (i := so + 4) v4 b4
  have c5 : (((((w.setCell ⟨g, so, none⟩ v0).setCell ⟨g, so + 1, none⟩ v1).setCell ⟨g, so + 2, none⟩ v2).setCell ⟨g, so + 3, none⟩ v3).setCell ⟨g, so + 4, none⟩ v4).cell? ⟨g, so + 5, none⟩ = some u5 := cell_of_block b5 (by rw [Array.getElem?_setIfInBounds_ne (by omega), Array.getElem?_setIfInBounds_ne (by omega), Array.getElem?_setIfInBounds_ne (by omega), Array.getElem?_setIfInBounds_ne (by omega), Array.getElem?_setIfInBounds_ne (by omega)]; exact q5)
  have f5 : (((((w.setCell ⟨g, so, none⟩ v0).setCell ⟨g, so + 1, none⟩ v1).setCell ⟨g, so + 2, none⟩ v2).setCell ⟨g, so + 3, none⟩ v3).setCell ⟨g, so + 4, none⟩ v4).frozen? ⟨g, so + 5, none⟩ = false := frozen_of_block b5
  have b6 := setCell_block (i := so + 5) v5 b5
  have c6 : ((((((w.setCell ⟨g, so, none⟩ v0).setCell ⟨g, so + 1, none⟩ v1).setCell ⟨g, so + 2, none⟩ v2).setCell ⟨g, so + 3, none⟩ v3).setCell ⟨g, so + 4, none⟩ v4).setCell ⟨g, so + 5, none⟩ v5).cell? ⟨g, so + 6, none⟩ = some u6 := cell_of_block b6 (by rw [Array.getElem?_setIfInBounds_ne (by omega), Array.getElem?_setIfInBounds_ne (by omega), Array.getElem?_setIfInBounds_ne (by omega), Array.getElem?_setIfInBounds_ne (by omega), Array.getElem?_setIfInBounds_ne (by omega), Array.getElem?_setIfInBounds_ne (by omega)]; exact q6)
  have f6 : ((((((w.setCell ⟨g, so, none⟩ v0).setCell ⟨g, so + 1, none⟩ v1).setCell ⟨g, so + 2, none⟩ v2).setCell ⟨g, so + 3, none⟩ v3).setCell ⟨g, so + 4, none⟩ v4).setCell ⟨g, so + 5, none⟩ v5).frozen? ⟨g, so + 6, none⟩ = false := frozen_of_block b6
  have b7 := setCell_block (i := so + 6) v6 b6
  have c7 : (((((((w.setCell ⟨g, so, none⟩ v0).setCell ⟨g, so + 1, none⟩ v1).setCell ⟨g, so + 2, none⟩ v2).setCell ⟨g, so + 3, none⟩ v3).setCell ⟨g, so + 4, none⟩ v4).setCell ⟨g, so + 5, none⟩ v5).setCell ⟨g, so + 6, none⟩ v6).cell? ⟨g, so + 7, none⟩ = some u7 := cell_of_block b7 (by rw [Array.getElem?_setIfInBounds_ne (by omega), Array.getElem?_setIfInBounds_ne (by omega), Array.getElem?_setIfInBounds_ne (by omega), Array.getElem?_setIfInBounds_ne (by omega), Array.getElem?_setIfInBounds_ne (by omega), Array.getElem?_setIfInBounds_ne (by omega), Array.getElem?_setIfInBounds_ne (by omega)]; exact q7)
  have f7 : (((((((w.setCell ⟨g, so, none⟩ v0).setCell ⟨g, so + 1, none⟩ v1).setCell ⟨g, so + 2, none⟩ v2).setCell ⟨g, so + 3, none⟩ v3).setCell ⟨g, so + 4, none⟩ v4).setCell ⟨g, so + 5, none⟩ v5).setCell ⟨g, so + 6, none⟩ v6).frozen? ⟨g, so + 7, none⟩ = false := frozen_of_block b7
  have b8 := setCell_block (i := so + 7) v7 b7
  have c8 : ((((((((w.setCell ⟨g, so, none⟩ v0).setCell ⟨g, so + 1, none⟩ v1).setCell ⟨g, so + 2, none⟩ v2).setCell ⟨g, so + 3, none⟩ v3).setCell ⟨g, so + 4, none⟩ v4).setCell ⟨g, so + 5, none⟩ v5).setCell ⟨g, so + 6, none⟩ v6).setCell ⟨g, so + 7, none⟩ v7).cell? ⟨g, so + 8, none⟩ = some u8 := cell_of_block b8 (by rw [Array.getElem?_setIfInBounds_ne (by omega), Array.getElem?_setIfInBounds_ne (by omega), Array.getElem?_setIfInBounds_ne (by omega), Array.getElem?_setIfInBounds_ne (by omega), Array.getElem?_setIfInBounds_ne (by omega), Array.getElem?_setIfInBounds_ne (by omega), Array.getElem?_setIfInBounds_ne (by omega), Array.getElem?_setIfInBounds_ne (by omega)]; exact q8)
  have f8 : ((((((((w.setCell ⟨g, so, none⟩ v0).setCell ⟨g, so + 1, none⟩ v1).setCell ⟨g, so + 2, none⟩ v2).setCell ⟨g, so + 3, none⟩ v3).setCell ⟨g, so + 4, none⟩ v4).setCell ⟨g, so + 5, none⟩ v5).setCell ⟨g, so + 6, none⟩ v6).setCell ⟨g, so + 7, none⟩ v7).frozen? ⟨g, so + 8, none⟩ = false := frozen_of_block b8
  have b9 := setCell_block (i := so + 8) v8 b8
  have c9 : (((((((((w.setCell ⟨g, so, none⟩ v0).setCell ⟨g, so + 1, none⟩ v1).setCell ⟨g, so + 2, none⟩ v2).setCell ⟨g, so + 3, none⟩ v3).setCell ⟨g, so + 4, none⟩ v4).setCell ⟨g, so + 5, none⟩ v5).setCell ⟨g, so + 6, none⟩ v6).setCell ⟨g, so + 7, none⟩ v7).setCell ⟨g, so + 8, none⟩ v8).cell? ⟨g, so + 9, none⟩ = some u9 := cell_of_block b9 (by rw [Array.getElem?_setIfInBounds_ne (by omega), Array.getElem?_setIfInBounds_ne (by omega), Array.getElem?_setIfInBounds_ne (by omega), Array.getElem?_setIfInBounds_ne (by omega), Array.getElem?_setIfInBounds_ne (by omega), Array.getElem?_setIfInBounds_ne (by omega), Array.getElem?_setIfInBounds_ne (by omega), Array.getElem?_setIfInBounds_ne (by omega), Array.getElem?_setIfInBounds_ne (by omega)]; exact q9)
  have f9 : (((((((((w.setCell ⟨g, so, none⟩ v0).setCell ⟨g, so + 1, none⟩ v1).setCell ⟨g, so + 2, none⟩ v2).setCell ⟨g, so + 3, none⟩ v3).setCell ⟨g, so + 4, none⟩ v4).setCell ⟨g, so + 5, none⟩ v5).setCell ⟨g, so + 6, none⟩ v6).setCell ⟨g, so + 7, none⟩ v7).setCell ⟨g, so + 8, none⟩ v8).frozen? ⟨g, so + 9, none⟩ = false := frozen_of_block b9
  have b10 := setCell_block (i := so + 9) v9 b9
  have c10 : ((((((((((w.setCell ⟨g, so, none⟩ v0).setCell ⟨g, so + 1, none⟩ v1).setCell ⟨g, so + 2, none⟩ v2).setCell ⟨g, so + 3, none⟩ v3).setCell ⟨g, so + 4, none⟩ v4).setCell ⟨g, so + 5, none⟩ v5).setCell ⟨g, so + 6, none⟩ v6).setCell ⟨g, so + 7, none⟩ v7).setCell ⟨g, so + 8, none⟩ v8).setCell ⟨g, so + 9, none⟩ v9).cell? ⟨g, so + 10, none⟩ = some u10 := cell_of_block b10 (by rw [Array.getElem?_setIfInBounds_ne (by omega), Array.getElem?_setIfInBounds_ne (by omega), Array.getElem?_setIfInBounds_ne (by omega), Array.getElem?_setIfInBounds_ne (by omega), Array.getElem?_setIfInBounds_ne (by omega), Array.getElem?_setIfInBounds_ne (by omega), Array.getElem?_setIfInBounds_ne (by omega), Array.getElem?_setIfInBounds_ne (by omega), Array.getElem?_setIfInBounds_ne (by omega), Array.getElem?_setIfInBounds_ne (by omega)]; exact q10)
  have f10 : ((((((((((w.setCell ⟨g, so, none⟩ v0).setCell ⟨g, so + 1, none⟩ v1).setCell ⟨g, so + 2, none⟩ v2).setCell ⟨g, so + 3, none⟩ v3).setCell ⟨g, so + 4, none⟩ v4).setCell ⟨g, so + 5, none⟩ v5).setCell ⟨g, so + 6, none⟩ v6).setCell ⟨g, so + 7, none⟩ v7).setCell ⟨g, so + 8, none⟩ v8).setCell ⟨g, so + 9, none⟩ v9).frozen? ⟨g, so + 10, none⟩ = false := frozen_of_block b10
  exact ⟨c0, f0, c1, f1, c2, f2, c3, f3, c4, f4, c5, f5, c6, f6, c7, f7, c8, f8, c9, f9, c10, f10, rfl⟩

theorem noSlt_own (w : World) : sltR.own w [.bool false, .int .i64 0, .int .i64 0, .slice none 0 0, .slice none 0 0, .slice none 0 0, .int .i64 0, .int .i64 0, .int .i64 0, .int .i64 0, .slice none 0 0] noSlt [] := ⟨_, rfl, newObj_own w 0 0⟩
def dropH (hp : Hp) (i : Nat) : Hp := { hp with slots := hp.slots.set i noSlt, free := hp.free ++ [(i : Int)], live := hp.live - 1 }
end Go.Proofs.YtjianickjahdnaaDoor
namespace Go.Proofs.YtjianickjahdnaaDoor
open Go.RowKit
set_option linter.unusedVariables false
set_option linter.unusedSimpArgs false

theorem sd_get {α : Type} {l : List α} {i : Nat} (hi : i < l.length) (x d : α) (j : Nat) : (l.set i x).getD j d = if i = j then x else l.getD j d := by
  rw [List.getD_eq_getElem?_getD, List.getElem?_set]
  by_cases e : i = j
  · rw [if_pos e, if_pos e, if_pos hi]; rfl
  · rw [if_neg e, if_neg e, List.getD_eq_getElem?_getD]
theorem sd_out {α : Type} {l : List α} {i : Nat} (hi : ¬ i < l.length) (x d : α) (j : Nat) : (l.set i x).getD j d = l.getD j d := by
  rw [List.set_eq_of_length_le (by omega)]
def dropIf (Lv : List Nat) (hp : Hp) (i : Nat) : Hp := if (hp.slots.getD i noSlt).used = true ∧ i ∉ Lv then dropH hp i else hp
def dropN (hp : Hp) (Lv : List Nat) (k : Nat) : Hp := (List.range k).foldl (dropIf Lv) hp
def cntN (hp : Hp) (Lv : List Nat) : Nat → Nat
  | 0 => 0
  | k + 1 => cntN hp Lv k + if (hp.slots.getD k noSlt).used = true ∧ k ∉ Lv then 1 else 0
def restM (hs : Int → Bool) (d : List Val) : List Val := (pairsM d).flatMap fun p => if p.1.kind = 5 ∧ hs p.1.ref = true then [p.1, p.2] else []
def weakD (Lv : List Nat) (hp : Hp) (i : Nat) : Hp := if (hp.slots.getD i noSlt).obj.kind = 5 then putO hp i { (hp.slots.getD i noSlt).obj with data := restM (hasK hp Lv) (hp.slots.getD i noSlt).obj.data } else hp
def weakN (Lv : List Nat) (hp : Hp) (K : List Nat) : Hp := K.foldl (weakD Lv) hp
def sweepM (hp : Hp) (Lv : List Nat) : Hp := weakN Lv (dropN hp Lv hp.slots.length) Lv
theorem dropN_succ (hp : Hp) (Lv : List Nat) (k : Nat) : dropN hp Lv (k + 1) = dropIf Lv (dropN hp Lv k) k := by unfold dropN; rw [List.range_succ, List.foldl_append]; rfl
theorem cntN_succ (hp : Hp) (Lv : List Nat) (k : Nat) : cntN hp Lv (k + 1) = cntN hp Lv k + if (hp.slots.getD k noSlt).used = true ∧ k ∉ Lv then 1 else 0 := rfl
theorem cntN_le (hp : Hp) (Lv : List Nat) : ∀ k, cntN hp Lv k ≤ k
  | 0 => Nat.le_refl _
  | k + 1 => by have := cntN_le hp Lv k; rw [cntN_succ]; split <;> omega
structure DropOk (hp : Hp) (Lv : List Nat) (k : Nat) (h : Hp) : Prop where
  base : h.base = hp.base
  stride : h.stride = hp.stride
  len : h.slots.length = hp.slots.length
  same : ∀ i, k ≤ i ∨ i ∈ Lv → h.slots.getD i noSlt = hp.slots.getD i noSlt
  gone : ∀ i, i < k → i < hp.slots.length → i ∉ Lv → (h.slots.getD i noSlt).used = false
  zero : ∀ i, i < k → i < hp.slots.length → i ∉ Lv → (hp.slots.getD i noSlt).used = true → h.slots.getD i noSlt = noSlt
  free : h.free.length = hp.free.length + cntN hp Lv k
  live : h.live = hp.live - (cntN hp Lv k : Int)
  glob : h.global = hp.global
  text : h.texts = hp.texts
  prot : h.protos = hp.protos
theorem dropN_ok (hp : Hp) (Lv : List Nat) : ∀ k, k ≤ hp.slots.length → DropOk hp Lv k (dropN hp Lv k)
  | 0, _ => ⟨rfl, rfl, rfl, fun _ _ => rfl, fun i h => by omega, fun i h => by omega, rfl, by simp [dropN, cntN], rfl, rfl, rfl⟩
  | k + 1, hk => by
    have ih := dropN_ok hp Lv k (by omega)
    rw [dropN_succ]
    unfold dropIf
    have hs := ih.same k (.inl (Nat.le_refl _))
    rw [hs]
    by_cases c : (hp.slots.getD k noSlt).used = true ∧ k ∉ Lv
    · rw [if_pos c]
      have hkl : k < (dropN hp Lv k).slots.length := by rw [ih.len]; omega
      refine ⟨ih.base, ih.stride, ?_, fun i hi => ?_, fun i hi hl hn => ?_, fun i hi hl hn hu => ?_, ?_, ?_, ih.glob, ih.text, ih.prot⟩
      · show ((dropN hp Lv k).slots.set k noSlt).length = _
        rw [List.length_set]; exact ih.len
      · show ((dropN hp Lv k).slots.set k noSlt).getD i noSlt = _
        rw [sd_get hkl, if_neg (fun e => hi.elim (fun x => by omega) (fun x => c.2 (by rw [e]; exact x)))]
        exact ih.same i (hi.imp (by omega) id)
      · show (((dropN hp Lv k).slots.set k noSlt).getD i noSlt).used = false
        rw [sd_get hkl]
        by_cases e : k = i
        · rw [if_pos e]; rfl
        · rw [if_neg e]; exact ih.gone i (by omega) hl hn
      · show ((dropN hp Lv k).slots.set k noSlt).getD i noSlt = _
        rw [sd_get hkl]
        by_cases e : k = i
        · rw [if_pos e]
        · rw [if_neg e]; exact ih.zero i (by omega) hl hn hu
      · show ((dropN hp Lv k).free ++ [(k : Int)]).length = _
        rw [List.length_append, ih.free, cntN_succ, if_pos c]; simp; omega
      · show (dropN hp Lv k).live - 1 = _
        rw [ih.live, cntN_succ, if_pos c]; omega
    · rw [if_neg c]
      refine ⟨ih.base, ih.stride, ih.len, fun i hi => ih.same i (hi.imp (by omega) id), fun i hi hl hn => ?_, fun i hi hl hn hu => ?_, by rw [ih.free, cntN_succ, if_neg c]; omega, by rw [ih.live, cntN_succ, if_neg c]; omega, ih.glob, ih.text, ih.prot⟩
      by_cases e : i = k
      · subst e
        rw [hs]
        cases hu : (hp.slots.getD i noSlt).used with
        | false => rfl
        | true => exact absurd ⟨hu, hn⟩ c
      · exact ih.gone i (by omega) hl hn
      by_cases e : i = k
      · subst e
        exact absurd ⟨hu, hn⟩ c
      · exact ih.zero i (by omega) hl hn hu
theorem putO_getD (hp : Hp) (i : Nat) (o : Obj) (j : Nat) : (putO hp i o).slots.getD j noSlt = if i = j ∧ i < hp.slots.length then { hp.slots.getD i noSlt with obj := o } else hp.slots.getD j noSlt := by
  show (hp.slots.set i _).getD j noSlt = _
  by_cases h : i < hp.slots.length
  · rw [sd_get h]
    by_cases e : i = j
    · rw [if_pos e, if_pos ⟨e, h⟩]
    · rw [if_neg e, if_neg (fun x => e x.1)]
  · rw [sd_out h, if_neg (fun x => h x.2)]
structure WeakOk (h : Hp) (Lv K : List Nat) (h' : Hp) : Prop where
  base : h'.base = h.base
  stride : h'.stride = h.stride
  len : h'.slots.length = h.slots.length
  used : ∀ i, (h'.slots.getD i noSlt).used = (h.slots.getD i noSlt).used
  same : ∀ i, i ∉ K → h'.slots.getD i noSlt = h.slots.getD i noSlt
  free : h'.free = h.free
  live : h'.live = h.live
  glob : h'.global = h.global
  text : h'.texts = h.texts
  prot : h'.protos = h.protos
theorem weakD_ok (Lv : List Nat) (h : Hp) (i : Nat) : WeakOk h Lv [i] (weakD Lv h i) := by
  unfold weakD
  split
  · refine ⟨rfl, rfl, by show (h.slots.set i _).length = _; rw [List.length_set], fun j => ?_, fun j hj => ?_, rfl, rfl, rfl, rfl, rfl⟩
    · rw [putO_getD]; split
      · rename_i e; rw [← e.1]
      · rfl
    · rw [putO_getD, if_neg (fun x => hj (by rw [x.1]; simp))]
  · exact ⟨rfl, rfl, rfl, fun _ => rfl, fun _ _ => rfl, rfl, rfl, rfl, rfl, rfl⟩
theorem WeakOk.trans {h h1 h2 : Hp} {Lv K K2 : List Nat} (a : WeakOk h Lv K h1) (b : WeakOk h1 Lv K2 h2) : WeakOk h Lv (K ++ K2) h2 :=
  ⟨b.base.trans a.base, b.stride.trans a.stride, b.len.trans a.len, fun i => (b.used i).trans (a.used i), fun i hi => (b.same i (fun x => hi (by simp [x]))).trans (a.same i (fun x => hi (by simp [x]))), b.free.trans a.free, b.live.trans a.live, b.glob.trans a.glob, b.text.trans a.text, b.prot.trans a.prot⟩
theorem weakN_ok (Lv : List Nat) : ∀ (K : List Nat) (h : Hp), WeakOk h Lv K (weakN Lv h K)
  | [], h => ⟨rfl, rfl, rfl, fun _ => rfl, fun _ _ => rfl, rfl, rfl, rfl, rfl, rfl⟩
  | i :: K, h => by
    have h1 := weakD_ok Lv h i
    have h2 := weakN_ok Lv K (weakD Lv h i)
    exact h1.trans h2
theorem weakN_take {Lv : List Nat} {h : Hp} {K : List Nat} {k : Nat} (hk : k < K.length) : weakN Lv h (K.take (k + 1)) = weakD Lv (weakN Lv h (K.take k)) K[k] := by
  unfold weakN
  rw [List.take_succ_eq_append_getElem hk, List.foldl_append]; rfl
theorem slotOf_eq {h h' : Hp} (e1 : h'.base = h.base) (e2 : h'.stride = h.stride) (e3 : h'.slots.length = h.slots.length) (e4 : ∀ i, (h'.slots.getD i noSlt).used = (h.slots.getD i noSlt).used) (x : Int) : slotOf h' x = slotOf h x := by
  unfold slotOf; rw [e1, e2, e3, e4]
theorem hasK_eq {h h' : Hp} (e1 : h'.base = h.base) (e2 : h'.stride = h.stride) (e3 : h'.slots.length = h.slots.length) (e4 : ∀ i, (h'.slots.getD i noSlt).used = (h.slots.getD i noSlt).used) (K : List Nat) : hasK h' K = hasK h K := by
  funext x; unfold hasK; rw [slotOf_eq e1 e2 e3 e4]
theorem mkOf_eq {h h' : Hp} (e1 : h'.base = h.base) (e2 : h'.stride = h.stride) (e3 : h'.slots.length = h.slots.length) (bh : Nat) (K : List Nat) : mkOf bh h' K = mkOf bh h K := by unfold mkOf; rw [e1, e2, e3]
theorem rest_take {hs : Int → Bool} {d : List Val} {q : Nat} (h : q < d.length / 2) :
    ((pairsM d).take (q + 1)).flatMap (fun p => if p.1.kind = 5 ∧ hs p.1.ref = true then [p.1, p.2] else []) = ((pairsM d).take q).flatMap (fun p => if p.1.kind = 5 ∧ hs p.1.ref = true then [p.1, p.2] else []) ++ (if (d.getD (2 * q) noVal).kind = 5 ∧ hs (d.getD (2 * q) noVal).ref = true then [d.getD (2 * q) noVal, d.getD (2 * q + 1) noVal] else []) := by
  rw [pairs_take h, List.flatMap_append]; simp
theorem rest_len {hs : Int → Bool} : ∀ l : List (Val × Val), (l.flatMap (fun p => if p.1.kind = 5 ∧ hs p.1.ref = true then [p.1, p.2] else [])).length ≤ 2 * l.length
  | [] => by simp
  | a :: l => by
    have := rest_len (hs := hs) l
    have h2 : (if a.1.kind = 5 ∧ hs a.1.ref = true then [a.1, a.2] else []).length ≤ 2 := by split <;> simp
    rw [List.flatMap_cons, List.length_append, List.length_cons]
    omega
/-- A list of values made behind w0. -/
structure VOut (w0 W : World) (v : Value) (l : List Val) : Prop where
  row : RowAt W 36 4 v l.length (l.flatMap Val.cells)
  lo : ∀ k, v.ownBlock = some k → w0.heap.size ≤ k
  chg : Chg (fun _ => False) w0 W
theorem VOut.still {w0 W W' : World} {v : Value} {l : List Val} (h : VOut w0 W v l) (hc : Chg (fun _ => False) W W') : VOut w0 W' v l := ⟨h.row.chg hc (fun _ _ x => x), h.lo, h.chg.trans' hc⟩
theorem VOut.nil (w : World) : VOut w w (.slice none 0 0) [] := ⟨RowAt.nil _ _ _, (fun k hk => by simp [Value.ownBlock] at hk), Chg.refl _ _⟩
/-- An object of a heap, and what a change of it makes of the whole. -/
theorem hpPut {W : World} {b : Nat} {hp : Hp} {F : List Nat} (H : Here hpR W b 0 hp F) {i : Nat} (hi : i < hp.slots.length) : ∃ g off cap, W.cell? ⟨b, 2, none⟩ = some (.slice (some ⟨g, off, none⟩) hp.slots.length cap) ∧
    ∃ G, Here objR W g (off + i * 11 + 1) hp.slots[i].obj G ∧ (∀ k ∈ G, k ∈ F) ∧ ∀ W' y, Post objR W g (off + i * 11 + 1) y G W' → Post hpR W b 0 (putO hp i y) F W' := by
  obtain ⟨-, -, ⟨a, cap, c2⟩, -⟩ := hpCells H
  obtain ⟨g, off, rfl, G0, h1, -, -, -, hin, hback⟩ := hpSlot H c2 hi
  obtain ⟨G, h2, h4, h3⟩ := h1.field sltR_obj (by show 0 < 11; decide)
  rw [Nat.zero_add] at c2
  refine ⟨g, off, cap, c2, G, h2, fun k hk => hin k (h4 k hk), fun W' y hp1 => ?_⟩
  obtain ⟨G', k1, k2⟩ := hp1
  obtain ⟨F2, m1, m2⟩ := h3 W' y G' k1 k2
  have hpost := (hback W' _ F2 m1 m2).1
  have e : { hp with slots := hp.slots.set i { hp.slots[i] with obj := y } } = putO hp i y := by
    unfold putO
    rw [List.getD_eq_getElem?_getD, List.getElem?_eq_getElem hi]
    rfl
  rw [e] at hpost
  exact hpost
end Go.Proofs.YtjianickjahdnaaDoor
namespace Go.Proofs.YtjianickjahdnaaDoor
open Go.RowKit
set_option linter.unusedVariables false
set_option linter.unusedSimpArgs false

/-- Where the property with a key is, from place k on. -/
def findP (key : ByteArray) : List Prp → Nat → Option Nat
  | [], _ => none
  | s :: l, k => if (s.key.toList == key.toList) = true then some k else findP key l (k + 1)
def idxP : Option Nat → Int
  | none => -1
  | some i => (i : Int)
theorem findP_some (key : ByteArray) : ∀ (l : List Prp) (k i : Nat), findP key l k = some i → k ≤ i ∧ ∃ h : i - k < l.length, (l[i - k].key.toList == key.toList) = true
  | [], _, _, h => by simp [findP] at h
  | s :: l, k, i, h => by
    rw [findP] at h
    split at h
    · rename_i hq
      simp at h; subst h
      exact ⟨Nat.le_refl _, by simp, by simpa using hq⟩
    · obtain ⟨h1, h2, h3⟩ := findP_some key l (k + 1) i h
      refine ⟨by omega, by simp only [List.length_cons]; omega, ?_⟩
      have e : i - k = (i - (k + 1)) + 1 := by omega
      simp only [e, List.getElem_cons_succ]
      exact h3
theorem findP_lt {key : ByteArray} {l : List Prp} {i : Nat} (h : findP key l 0 = some i) : i < l.length := by
  obtain ⟨-, h2, -⟩ := findP_some key l 0 i h
  omega
set_option maxHeartbeats 400000 in
set_option maxRecDepth 100000 in
theorem propIs_any (s : Prp) (key : ByteArray) (pb : Nat) (w : World) (hp : w.cell? ⟨pb, 0, none⟩ = some (.string key)) :
    Calls Tryd.prog 58 #[.agg s.cells.toArray, .pointer (some ⟨pb, 0, none⟩)] w fun e w' => e = .returned (.bool (s.key.toList == key.toList)) ∧ Chg (fun _ => False) w w' := by
  have hlt := World.block_lt_of_cell? w _ hp
  unfold Prp.cells
  go_enter Tryd.func58, Tryd.ntmps58
  go_wp2_with fail
  go_ret
  exact ⟨rfl, Chg.alloc _ _ _⟩
set_option maxHeartbeats 1600000 in
set_option maxRecDepth 100000 in
theorem indexFuncP_any (l : List Prp) (key : ByteArray) (pb : Nat) (v : Value) (w : World) (hp : w.cell? ⟨pb, 0, none⟩ = some (.string key)) (hr : RowAt w 86 5 v l.length (l.flatMap Prp.cells)) :
    Calls Tryd.prog 57 #[v, .func (.func 58) #[] #[.pointer (some ⟨pb, 0, none⟩)]] w fun e w' => e = .returned (.int .i64 (idxP (findP key l 0))) ∧ Chg (fun _ => False) w w' := by
  obtain ⟨a, cap, rfl, hc1, hc2⟩ := hr.slice
  have HR := Lib.hid hr
  clear hr
  go_enter Tryd.func57, Tryd.ntmps57
  go_wp2_with fail
  go_loopw [5, 8] (fun _ i wr => ∃ k : Nat, k ≤ l.length ∧ i = .int .i64 k ∧ Chg (fun _ => False) w wr ∧ Hid (findP key l 0 = findP key (l.drop k) k)) (fun _ i _ => l.length - (intOf i).toNat)
  case atStart => exact ⟨0, Nat.zero_le _, rfl, Chg.refl _ _, rfl⟩
  case round =>
    obtain ⟨k, hk, rfl, hch, HF⟩ := hrel
    unfold maxLen at hc2
    by_cases hlt : k < l.length
    · have hr2 := HR.out.chg hch (fun _ _ x => x)
      obtain ⟨g, off, cap', hv, -, -⟩ := hr2.addr (by omega)
      simp only [Value.slice.injEq] at hv
      obtain ⟨rfl, _, rfl⟩ := hv
      have hcells : ∀ t u, l[k].cells[t]? = some u → t < 5 → wr.cell? ⟨g, off + k * 5 + t, none⟩ = some u := fun t u hu ht => by
        rw [Nat.add_assoc]
        exact hr2.cellAt (k * 5 + t) u (by rw [flat_get _ 5 Prp.len l k t hlt ht]; exact hu)
      have c0 := hcells 0 _ rfl (by omega)
      rw [Nat.add_zero] at c0
      have c1 := hcells 1 _ rfl (by omega)
      have c2 := hcells 2 _ rfl (by omega)
      have c3 := hcells 3 _ rfl (by omega)
      have c4 := hcells 4 _ rfl (by omega)
      have hF := HF.out
      rw [List.drop_eq_getElem_cons hlt, findP] at hF
      have HPI := Lib.hid (fun (W : World) (h : Chg (fun _ => False) w W) => propIs_any l[k] key pb W (h.cell hp))
      clear hcells hr2
      generalize l[k] = s at *
      unfold Prp.cells at HPI
      have HF2 := Lib.hid hF
      clear hF
      go_wp2_with fail
      refine (HPI.out wr hch).mono ?_
      rintro e w2 ⟨rfl, hc2⟩
      have hF := HF2.out
      by_cases hq : (s.key.toList == key.toList) = true
      · rw [if_pos hq] at hF
        rw [hq]
        have HF3 := Lib.hid hF
        clear hF HF HF2 c0 c1 c2 c3 c4
        go_wp2_with fail
        go_ret
        exact ⟨by rw [HF3.out]; rfl, hch.trans' hc2⟩
      · rw [if_neg hq] at hF
        rw [Bool.not_eq_true] at hq
        rw [hq]
        have HF3 := Lib.hid hF
        clear hF HF HF2 c0 c1 c2 c3 c4
        go_wp2_with fail
        go_roundw
        case rel => exact ⟨k + 1, by omega, by go_num, hch.trans' hc2, HF3⟩
        case measure => simp [intOf]; omega
    · have hF := HF.out
      rw [List.drop_of_length_le (by omega), findP] at hF
      have HF2 := Lib.hid hF
      clear hF HF
      go_wp2_with fail
      go_ret
      exact ⟨by rw [HF2.out]; rfl, hch⟩
set_option maxHeartbeats 1600000 in
set_option maxRecDepth 100000 in
theorem place_any (w : World) (g o : Nat) (v : Value) (l : List Prp) (key : ByteArray) (c2 : w.cell? ⟨g, o + 2, none⟩ = some v) (hr : RowAt w 86 5 v l.length (l.flatMap Prp.cells)) :
    Calls Tryd.prog 43 #[.pointer (some ⟨g, o, none⟩), .string key] w fun e w' => e = .returned (.int .i64 (idxP (findP key l 0))) ∧ Chg (fun _ => False) w w' := by
  have hp := cell_of_block (i := 0) (alloc_block w (.cells #[.string key] 9)) rfl
  have hp : (w.alloc (.cells #[.string key] 9)).cell? ⟨w.heap.size, 0, none⟩ = some (.string key) := hp
  have hchA := Chg.alloc (fun _ => False) w (.cells #[.string key] 9)
  have HI := Lib.hid (indexFuncP_any l key w.heap.size v _ hp (hr.alloc _))
  have c2' := hchA.cell c2
  have HC := Lib.hid hchA
  clear hp hr c2 hchA
  go_enter Tryd.func43, Tryd.ntmps43
  go_upto_region 1 with fail
  generalize w.alloc (.cells #[.string key] 9) = w1 at *
  generalize w.heap.size = b at *
  go_wp2_with fail
  refine HI.out.mono ?_
  rintro e w2 ⟨rfl, hc2⟩
  go_wp2_with fail
  go_ret
  exact ⟨rfl, HC.out.trans' hc2⟩
end Go.Proofs.YtjianickjahdnaaDoor
namespace Go.Proofs.YtjianickjahdnaaDoor
open Go.RowKit
set_option linter.unusedVariables false
set_option linter.unusedSimpArgs false

theorem chg_put {W W' : World} {b k : Nat} {v : Value} (h : Chg (fun j => j = b) W W') : Chg (fun j => j = b) W (W'.setCell ⟨b, k, none⟩ v) := h.trans' (show Chg (fun j => j = b) W' (W'.setCell ⟨b, k, none⟩ v) from Chg.setCell W' ⟨b, k, none⟩ v)
theorem results_cell_row_tmp {fn : Func} {p u : Tmp} {ty : TypeId} {P : Program} (h : fn.results = #[.cell p ty, .tmp u]) (tmps : Array Value) (w : World) (g : Nat) (cs : Array Value)
    (hp : tmps.getD p undef = .pointer (some ⟨g, 0, none⟩)) (hl : (loadVar ty ⟨g, 0, none⟩).run P w = .ok (.agg cs) w) :
    (results fn tmps).run P w = .ok (.tuple #[.agg cs, tmps.getD u undef]) w := by
  have hp' : tmps[p]?.getD undef = .pointer (some ⟨g, 0, none⟩) := by simpa using hp
  rw [results_cell_tmp h]
  simp [hp', asAddr, hl, Result.andThen]
/-- Ten cells of a block stored one after the other. -/
theorem store10 {w : World} {g T : Nat} {u0 u1 u2 u3 u4 u5 u6 u7 u8 u9 : Value} (b0 : w.heap[g]? = some (.cells #[u0, u1, u2, u3, u4, u5, u6, u7, u8, u9] T (0, 0))) (v0 v1 v2 v3 v4 v5 v6 v7 v8 v9 : Value) :
    w.cell? ⟨g, 0, none⟩ = some u0 ∧ w.frozen? ⟨g, 0, none⟩ = false ∧
    (w.setCell ⟨g, 0, none⟩ v0).cell? ⟨g, 1, none⟩ = some u1 ∧ (w.setCell ⟨g, 0, none⟩ v0).frozen? ⟨g, 1, none⟩ = false ∧
    ((w.setCell ⟨g, 0, none⟩ v0).setCell ⟨g, 1, none⟩ v1).cell? ⟨g, 2, none⟩ = some u2 ∧ ((w.setCell ⟨g, 0, none⟩ v0).setCell ⟨g, 1, none⟩ v1).frozen? ⟨g, 2, none⟩ = false ∧
    (((w.setCell ⟨g, 0, none⟩ v0).setCell ⟨g, 1, none⟩ v1).setCell ⟨g, 2, none⟩ v2).cell? ⟨g, 3, none⟩ = some u3 ∧ (((w.setCell ⟨g, 0, none⟩ v0).setCell ⟨g, 1, none⟩ v1).setCell ⟨g, 2, none⟩ v2).frozen? ⟨g, 3, none⟩ = false ∧
    ((((w.setCell ⟨g, 0, none⟩ v0).setCell ⟨g, 1, none⟩ v1).setCell ⟨g, 2, none⟩ v2).setCell ⟨g, 3, none⟩ v3).cell? ⟨g, 4, none⟩ = some u4 ∧ ((((w.setCell ⟨g, 0, none⟩ v0).setCell ⟨g, 1, none⟩ v1).setCell ⟨g, 2, none⟩ v2).setCell ⟨g, 3, none⟩ v3).frozen? ⟨g, 4, none⟩ = false ∧
    (((((w.setCell ⟨g, 0, none⟩ v0).setCell ⟨g, 1, none⟩ v1).setCell ⟨g, 2, none⟩ v2).setCell ⟨g, 3, none⟩ v3).setCell ⟨g, 4, none⟩ v4).cell? ⟨g, 5, none⟩ = some u5 ∧ (((((w.setCell ⟨g, 0, none⟩ v0).setCell ⟨g, 1, none⟩ v1).setCell ⟨g, 2, none⟩ v2).setCell ⟨g, 3, none⟩ v3).setCell ⟨g, 4, none⟩ v4).frozen? ⟨g, 5, none⟩ = false ∧
    ((((((w.setCell ⟨g, 0, none⟩ v0).setCell ⟨g, 1, none⟩ v1).setCell ⟨g, 2, none⟩ v2).setCell ⟨g, 3, none⟩ v3).setCell ⟨g, 4, none⟩ v4).setCell ⟨g, 5, none⟩ v5).cell? ⟨g, 6, none⟩ = some u6 ∧ ((((((w.setCell ⟨g, 0, none⟩ v0).setCell ⟨g, 1, none⟩ v1).setCell ⟨g, 2, none⟩ v2).setCell ⟨g, 3, none⟩ v3).setCell ⟨g, 4, none⟩ v4).setCell ⟨g, 5, none⟩ v5).frozen? ⟨g, 6, none⟩ = false ∧
    (((((((w.setCell ⟨g, 0, none⟩ v0).setCell ⟨g, 1, none⟩ v1).setCell ⟨g, 2, none⟩ v2).setCell ⟨g, 3, none⟩ v3).setCell ⟨g, 4, none⟩ v4).setCell ⟨g, 5, none⟩ v5).setCell ⟨g, 6, none⟩ v6).cell? ⟨g, 7, none⟩ = some u7 ∧ (((((((w.setCell ⟨g, 0, none⟩ v0).setCell ⟨g, 1, none⟩ v1).setCell ⟨g, 2, none⟩ v2).setCell ⟨g, 3, none⟩ v3).setCell ⟨g, 4, none⟩ v4).setCell ⟨g, 5, none⟩ v5).setCell ⟨g, 6, none⟩ v6).frozen? ⟨g, 7, none⟩ = false ∧
    ((((((((w.setCell ⟨g, 0, none⟩ v0).setCell ⟨g, 1, none⟩ v1).setCell ⟨g, 2, none⟩ v2).setCell ⟨g, 3, none⟩ v3).setCell ⟨g, 4, none⟩ v4).setCell ⟨g, 5, none⟩ v5).setCell ⟨g, 6, none⟩ v6).setCell ⟨g, 7, none⟩ v7).cell? ⟨g, 8, none⟩ = some u8 ∧ ((((((((w.setCell ⟨g, 0, none⟩ v0).setCell ⟨g, 1, none⟩ v1).setCell ⟨g, 2, none⟩ v2).setCell ⟨g, 3, none⟩ v3).setCell ⟨g, 4, none⟩ v4).setCell ⟨g, 5, none⟩ v5).setCell ⟨g, 6, none⟩ v6).setCell ⟨g, 7, none⟩ v7).frozen? ⟨g, 8, none⟩ = false ∧
    (((((((((w.setCell ⟨g, 0, none⟩ v0).setCell ⟨g, 1, none⟩ v1).setCell ⟨g, 2, none⟩ v2).setCell ⟨g, 3, none⟩ v3).setCell ⟨g, 4, none⟩ v4).setCell ⟨g, 5, none⟩ v5).setCell ⟨g, 6, none⟩ v6).setCell ⟨g, 7, none⟩ v7).setCell ⟨g, 8, none⟩ v8).cell? ⟨g, 9, none⟩ = some u9 ∧ (((((((((w.setCell ⟨g, 0, none⟩ v0).setCell ⟨g, 1, none⟩ v1).setCell ⟨g, 2, none⟩ v2).setCell ⟨g, 3, none⟩ v3).setCell ⟨g, 4, none⟩ v4).setCell ⟨g, 5, none⟩ v5).setCell ⟨g, 6, none⟩ v6).setCell ⟨g, 7, none⟩ v7).setCell ⟨g, 8, none⟩ v8).frozen? ⟨g, 9, none⟩ = false ∧
    ((((((((((w.setCell ⟨g, 0, none⟩ v0).setCell ⟨g, 1, none⟩ v1).setCell ⟨g, 2, none⟩ v2).setCell ⟨g, 3, none⟩ v3).setCell ⟨g, 4, none⟩ v4).setCell ⟨g, 5, none⟩ v5).setCell ⟨g, 6, none⟩ v6).setCell ⟨g, 7, none⟩ v7).setCell ⟨g, 8, none⟩ v8).setCell ⟨g, 9, none⟩ v9).heap[g]? = some (.cells #[v0, v1, v2, v3, v4, v5, v6, v7, v8, v9] T (0, 0)) ∧ Chg (fun k => k = g) w ((((((((((w.setCell ⟨g, 0, none⟩ v0).setCell ⟨g, 1, none⟩ v1).setCell ⟨g, 2, none⟩ v2).setCell ⟨g, 3, none⟩ v3).setCell ⟨g, 4, none⟩ v4).setCell ⟨g, 5, none⟩ v5).setCell ⟨g, 6, none⟩ v6).setCell ⟨g, 7, none⟩ v7).setCell ⟨g, 8, none⟩ v8).setCell ⟨g, 9, none⟩ v9) := by
  have c0 : w.cell? ⟨g, 0, none⟩ = some u0 := cell_of_block b0 rfl
  have f0 : w.frozen? ⟨g, 0, none⟩ = false := frozen_of_block b0
  have b1 : (w.setCell ⟨g, 0, none⟩ v0).heap[g]? = some (.cells #[v0, u1, u2, u3, u4, u5, u6, u7, u8, u9] T (0, 0)) := setCell_block (i := 0) v0 b0
  have c1 : (w.setCell ⟨g, 0, none⟩ v0).cell? ⟨g, 1, none⟩ = some u1 := cell_of_block b1 rfl
  have f1 : (w.setCell ⟨g, 0, none⟩ v0).frozen? ⟨g, 1, none⟩ = false := frozen_of_block b1
  have b2 : ((w.setCell ⟨g, 0, none⟩ v0).setCell ⟨g, 1, none⟩ v1).heap[g]? = some (.cells #[v0, v1, u2, u3, u4, u5, u6, u7, u8, u9] T (0, 0)) := setCell_block (i := 1) v1 b1
  have c2 : ((w.setCell ⟨g, 0, none⟩ v0).setCell ⟨g, 1, none⟩ v1).cell? ⟨g, 2, none⟩ = some u2 := cell_of_block b2 rfl
  have f2 : ((w.setCell ⟨g, 0, none⟩ v0).setCell ⟨g, 1, none⟩ v1).frozen? ⟨g, 2, none⟩ = false := frozen_of_block b2
  have b3 : (((w.setCell ⟨g, 0, none⟩ v0).setCell ⟨g, 1, none⟩ v1).setCell ⟨g, 2, none⟩ v2).heap[g]? = some (.cells #[v0, v1, v2, u3, u4, u5, u6, u7, u8, u9] T (0, 0)) := setCell_block (i := 2) v2 b2
  have c3 : (((w.setCell ⟨g, 0, none⟩ v0).setCell ⟨g, 1, none⟩ v1).setCell ⟨g, 2, none⟩ v2).cell? ⟨g, 3, none⟩ = some u3 := cell_of_block b3 rfl
  have f3 : (((w.setCell ⟨g, 0, none⟩ v0).setCell ⟨g, 1, none⟩ v1).setCell ⟨g, 2, none⟩ v2).frozen? ⟨g, 3, none⟩ = false := frozen_of_block b3
  have b4 : ((((w.setCell ⟨g, 0, none⟩ v0).setCell ⟨g, 1, none⟩ v1).setCell ⟨g, 2, none⟩ v2).setCell ⟨g, 3, none⟩ v3).heap[g]? = some (.cells #[v0, v1, v2, v3, u4, u5, u6, u7, u8, u9] T (0, 0)) := setCell_block (i := 3) v3 b3
  have c4 : ((((w.setCell ⟨g, 0, none⟩ v0).setCell ⟨g, 1, none⟩ v1).setCell ⟨g, 2, none⟩ v2).setCell ⟨g, 3, none⟩ v3).cell? ⟨g, 4, none⟩ = some u4 := cell_of_block b4 rfl
  have f4 : ((((w.setCell ⟨g, 0, none⟩ v0).setCell ⟨g, 1, none⟩ v1).setCell ⟨g, 2, none⟩ v2).setCell ⟨g, 3, none⟩ v3).frozen? ⟨g, 4, none⟩ = false := frozen_of_block b4
  have b5 : (((((w.setCell ⟨g, 0, none⟩ v0).setCell ⟨g, 1, none⟩ v1).setCell ⟨g, 2, none⟩ v2).setCell ⟨g, 3, none⟩ v3).setCell ⟨g, 4, none⟩ v4).heap[g]? = some (.cells #[v0, v1, v2, v3, v4, u5, u6, u7, u8, u9] T (0, 0)) := setCell_block (i := 4) v4 b4
  have c5 : (((((w.setCell ⟨g, 0, none⟩ v0).setCell ⟨g, 1, none⟩ v1).setCell ⟨g, 2, none⟩ v2).setCell ⟨g, 3, none⟩ v3).setCell ⟨g, 4, none⟩ v4).cell? ⟨g, 5, none⟩ = some u5 := cell_of_block b5 rfl
  have f5 : (((((w.setCell ⟨g, 0, none⟩ v0).setCell ⟨g, 1, none⟩ v1).setCell ⟨g, 2, none⟩ v2).setCell ⟨g, 3, none⟩ v3).setCell ⟨g, 4, none⟩ v4).frozen? ⟨g, 5, none⟩ = false := frozen_of_block b5
  have b6 : ((((((w.setCell ⟨g, 0, none⟩ v0).setCell ⟨g, 1, none⟩ v1).setCell ⟨g, 2, none⟩ v2).setCell ⟨g, 3, none⟩ v3).setCell ⟨g, 4, none⟩ v4).setCell ⟨g, 5, none⟩ v5).heap[g]? = some (.cells #[v0, v1, v2, v3, v4, v5, u6, u7, u8, u9] T (0, 0)) := setCell_block (i := 5) v5 b5
  have c6 : ((((((w.setCell ⟨g, 0, none⟩ v0).setCell ⟨g, 1, none⟩ v1).setCell ⟨g, 2, none⟩ v2).setCell ⟨g, 3, none⟩ v3).setCell ⟨g, 4, none⟩ v4).setCell ⟨g, 5, none⟩ v5).cell? ⟨g, 6, none⟩ = some u6 := cell_of_block b6 rfl
  have f6 : ((((((w.setCell ⟨g, 0, none⟩ v0).setCell ⟨g, 1, none⟩ v1).setCell ⟨g, 2, none⟩ v2).setCell ⟨g, 3, none⟩ v3).setCell ⟨g, 4, none⟩ v4).setCell ⟨g, 5, none⟩ v5).frozen? ⟨g, 6, none⟩ = false := frozen_of_block b6
  have b7 : (((((((w.setCell ⟨g, 0, none⟩ v0).setCell ⟨g, 1, none⟩ v1).setCell ⟨g, 2, none⟩ v2).setCell ⟨g, 3, none⟩ v3).setCell ⟨g, 4, none⟩ v4).setCell ⟨g, 5, none⟩ v5).setCell ⟨g, 6, none⟩ v6).heap[g]? = some (.cells #[v0, v1, v2, v3, v4, v5, v6, u7, u8, u9] T (0, 0)) := setCell_block (i := 6) v6 b6
  have c7 : (((((((w.setCell ⟨g, 0, none⟩ v0).setCell ⟨g, 1, none⟩ v1).setCell ⟨g, 2, none⟩ v2).setCell ⟨g, 3, none⟩ v3).setCell ⟨g, 4, none⟩ v4).setCell ⟨g, 5, none⟩ v5).setCell ⟨g, 6, none⟩ v6).cell? ⟨g, 7, none⟩ = some u7 := cell_of_block b7 rfl
  have f7 : (((((((w.setCell ⟨g, 0, none⟩ v0).setCell ⟨g, 1, none⟩ v1).setCell ⟨g, 2, none⟩ v2).setCell ⟨g, 3, none⟩ v3).setCell ⟨g, 4, none⟩ v4).setCell ⟨g, 5, none⟩ v5).setCell ⟨g, 6, none⟩ v6).frozen? ⟨g, 7, none⟩ = false := frozen_of_block b7
  have b8 : ((((((((w.setCell ⟨g, 0, none⟩ v0).setCell ⟨g, 1, none⟩ v1).setCell ⟨g, 2, none⟩ v2).setCell ⟨g, 3, none⟩ v3).setCell ⟨g, 4, none⟩ v4).setCell ⟨g, 5, none⟩ v5).setCell ⟨g, 6, none⟩ v6).setCell ⟨g, 7, none⟩ v7).heap[g]? = some (.cells #[v0, v1, v2, v3, v4, v5, v6, v7, u8, u9] T (0, 0)) := setCell_block (i := 7) v7 b7
  have c8 : ((((((((w.setCell ⟨g, 0, none⟩ v0).setCell ⟨g, 1, none⟩ v1).setCell ⟨g, 2, none⟩ v2).setCell ⟨g, 3, none⟩ v3).setCell ⟨g, 4, none⟩ v4).setCell ⟨g, 5, none⟩ v5).setCell ⟨g, 6, none⟩ v6).setCell ⟨g, 7, none⟩ v7).cell? ⟨g, 8, none⟩ = some u8 := cell_of_block b8 rfl
  have f8 : ((((((((w.setCell ⟨g, 0, none⟩ v0).setCell ⟨g, 1, none⟩ v1).setCell ⟨g, 2, none⟩ v2).setCell ⟨g, 3, none⟩ v3).setCell ⟨g, 4, none⟩ v4).setCell ⟨g, 5, none⟩ v5).setCell ⟨g, 6, none⟩ v6).setCell ⟨g, 7, none⟩ v7).frozen? ⟨g, 8, none⟩ = false := frozen_of_block b8
  have b9 : (((((((((w.setCell ⟨g, 0, none⟩ v0).setCell ⟨g, 1, none⟩ v1).setCell ⟨g, 2, none⟩ v2).setCell ⟨g, 3, none⟩ v3).setCell ⟨g, 4, none⟩ v4).setCell ⟨g, 5, none⟩ v5).setCell ⟨g, 6, none⟩ v6).setCell ⟨g, 7, none⟩ v7).setCell ⟨g, 8, none⟩ v8).heap[g]? = some (.cells #[v0, v1, v2, v3, v4, v5, v6, v7, v8, u9] T (0, 0)) := setCell_block (i := 8) v8 b8
  have c9 : (((((((((w.setCell ⟨g, 0, none⟩ v0).setCell ⟨g, 1, none⟩ v1).setCell ⟨g, 2, none⟩ v2).setCell ⟨g, 3, none⟩ v3).setCell ⟨g, 4, none⟩ v4).setCell ⟨g, 5, none⟩ v5).setCell ⟨g, 6, none⟩ v6).setCell ⟨g, 7, none⟩ v7).setCell ⟨g, 8, none⟩ v8).cell? ⟨g, 9, none⟩ = some u9 := cell_of_block b9 rfl
  have f9 : (((((((((w.setCell ⟨g, 0, none⟩ v0).setCell ⟨g, 1, none⟩ v1).setCell ⟨g, 2, none⟩ v2).setCell ⟨g, 3, none⟩ v3).setCell ⟨g, 4, none⟩ v4).setCell ⟨g, 5, none⟩ v5).setCell ⟨g, 6, none⟩ v6).setCell ⟨g, 7, none⟩ v7).setCell ⟨g, 8, none⟩ v8).frozen? ⟨g, 9, none⟩ = false := frozen_of_block b9
  have b10 : ((((((((((w.setCell ⟨g, 0, none⟩ v0).setCell ⟨g, 1, none⟩ v1).setCell ⟨g, 2, none⟩ v2).setCell ⟨g, 3, none⟩ v3).setCell ⟨g, 4, none⟩ v4).setCell ⟨g, 5, none⟩ v5).setCell ⟨g, 6, none⟩ v6).setCell ⟨g, 7, none⟩ v7).setCell ⟨g, 8, none⟩ v8).setCell ⟨g, 9, none⟩ v9).heap[g]? = some (.cells #[v0, v1, v2, v3, v4, v5, v6, v7, v8, v9] T (0, 0)) := setCell_block (i := 9) v9 b9
  exact ⟨c0, f0, c1, f1, c2, f2, c3, f3, c4, f4, c5, f5, c6, f6, c7, f7, c8, f8, c9, f9, b10, chg_put (chg_put (chg_put (chg_put (chg_put (chg_put (chg_put (chg_put (chg_put (chg_put (Chg.refl _ _))))))))))⟩

def getO (hp : Hp) (h : Int) : Obj := match slotOf hp h with | some i => (hp.slots.getD i noSlt).obj | none => noSlt.obj
theorem objCells {w : World} {g o : Nat} {x : Obj} {G : List Nat} (H : Here objR w g o x G) : ∃ a1 n1 c1 a2 n2 c2 a3 n3 c3 a4 n4 c4, RowAt w 36 4 (.slice a3 n3 c3) x.data.length (x.data.flatMap Val.cells) ∧ (∀ k, (Value.slice a3 n3 c3).ownBlock = some k → k ∈ G) ∧ w.cell? ⟨g, o, none⟩ = some (.int .i64 x.kind) ∧ w.cell? ⟨g, o + 1, none⟩ = some (.int .i64 x.proto) ∧ w.cell? ⟨g, o + 2, none⟩ = some (.slice a1 n1 c1) ∧ w.cell? ⟨g, o + 3, none⟩ = some (.slice a2 n2 c2) ∧ w.cell? ⟨g, o + 4, none⟩ = some (.slice a3 n3 c3) ∧ w.cell? ⟨g, o + 5, none⟩ = some (.int .i64 x.code) ∧ w.cell? ⟨g, o + 6, none⟩ = some (.int .i64 x.env) ∧ w.cell? ⟨g, o + 7, none⟩ = some (.int .i64 x.cls) ∧ w.cell? ⟨g, o + 8, none⟩ = some (.int .i64 x.ref) ∧ w.cell? ⟨g, o + 9, none⟩ = some (.slice a4 n4 c4) := by
  obtain ⟨cs, ⟨vp, ve, vd, vs, F1, F2, F3, F4, rfl, h1, h2, h3, h4, hG⟩, hc⟩ := H.cell
  obtain ⟨v3, e3, r3, eF3⟩ := row_flat.1 h3
  obtain rfl : vd = v3 := by simpa using e3
  obtain ⟨_, _, p1⟩ := Rep.opened h1
  obtain ⟨a1, c1, rfl, -, -⟩ := p1.val
  obtain ⟨_, _, p2⟩ := Rep.opened h2
  obtain ⟨a2, c2, rfl, -, -⟩ := p2.val
  obtain ⟨a3, c3, rfl, -⟩ := r3.slice
  obtain ⟨_, _, p4⟩ := Rep.opened h4
  obtain ⟨a4, c4, rfl, -, -⟩ := p4.val
  exact ⟨a1, _, c1, a2, _, c2, a3, _, c3, a4, _, c4, r3, (fun k hk => by rw [hG, eF3]; simp [mem_ownL, hk]), hc 0 _ rfl, hc 1 _ rfl, hc 2 _ rfl, hc 3 _ rfl, hc 4 _ rfl, hc 5 _ rfl, hc 6 _ rfl, hc 7 _ rfl, hc 8 _ rfl, hc 9 _ rfl⟩
end Go.Proofs.YtjianickjahdnaaDoor
namespace Go.Proofs.YtjianickjahdnaaDoor
open Go.RowKit
set_option linter.unusedVariables false
set_option linter.unusedSimpArgs false

set_option maxHeartbeats 6400000 in
set_option maxRecDepth 100000 in
theorem own_not (w : World) (b : Nat) (hp : Hp) (F : List Nat) (h : Int) (i : Nat) (key : ByteArray) (H : Here hpR w b 0 hp F) (hi : -9223372036854775808 ≤ h ∧ h ≤ 9223372036854775807) (hs : slotOf hp h = some i) (hl : i < hp.slots.length) (hk : hp.slots[i].obj.kind ≠ 1)
    (hf : findP key hp.slots[i].obj.props 0 = none) :
    Calls Tryd.prog 23 #[.pointer (some ⟨b, 0, none⟩), .int .i64 h, .string key] w fun e w' => e = .returned (.tuple #[.agg #[.int .i64 0, .int .i64 0, .string ⟨#[]⟩, .int .i64 0], .bool false]) ∧ Chg (fun _ => False) w w' := by
  have hca := Chg.alloc (fun _ => False) w (.cells #[.int .i64 0, .int .i64 0, .string ⟨#[]⟩, .int .i64 0] 36)
  have kb := alloc_block w (.cells #[.int .i64 0, .int .i64 0, .string ⟨#[]⟩, .int .i64 0] 36)
  have HKB := Lib.hid kb
  obtain ⟨gh, oh, kh, c2, G, HOBJ0, hGF, hput⟩ := hpPut H hl
  obtain ⟨vp, ve, vd, vs, HOC⟩ := objOpen HOBJ0
  have z1 : (hp.slots[i].obj.kind == 1) = false := beq_false_of_ne hk
  have hat := hat_any _ b 0 hp F h _ (H.still hca) (by rw [Nat.zero_add]; exact hca.cell c2) hi
  rw [hs, show objPtr (.slice (some ⟨gh, oh, none⟩) hp.slots.length kh) (some i) = some ⟨gh, oh + i * 11 + 1, none⟩ from rfl] at hat
  have HAT := Lib.hid hat
  have HC0 := Lib.hid HOC.c0
  have HC2 := Lib.hid HOC.c2
  have HRP := Lib.hid HOC.rp
  generalize hp.slots[i].obj = x at *
  have HCA := Lib.hid hca
  have HF := Lib.hid hf
  clear kb hca HOBJ0 hGF hput HOC c2 hi hs H hk hat hf
  go_enter Tryd.func23, Tryd.ntmps23
  go_upto_region 1 with fail
  generalize w.alloc (.cells #[.int .i64 0, .int .i64 0, .string ⟨#[]⟩, .int .i64 0] 36) = w1 at *
  generalize hb6 : w.heap.size = b6 at *
  have HB6 := Lib.hid hb6
  clear hb6
  go_upto_region 4 with (go_at_call 35; refine HAT.out.mono ?_; rintro e wa ⟨rfl, hca⟩)
  have HC1 := Lib.hid (HCA.out.trans' hca)
  have HKB2 := Lib.hid (hca.keep HKB.out (fun x => x))
  have c0 := HC1.out.cell HC0.out
  have HPL := Lib.hid (place_any wa gh (oh + i * 11 + 1) _ x.props key (HC1.out.cell HC2.out) (HRP.out.chg HC1.out (fun _ _ x => x)))
  rw [HF.out] at HPL
  clear hca HAT HKB HCA
  go_upto_region 13 with (go_at_call 43; refine HPL.out.mono ?_; rintro e w5 ⟨rfl, hc5⟩)
  have HC5 := Lib.hid (HC1.out.trans' hc5)
  have HK5 := Lib.hid (hc5.keep HKB2.out (fun x => x))
  clear hc5 HPL c0 z1
  rw [show idxP none = -1 from rfl]
  obtain ⟨z0, q0, z1, q1, z2, q2, z3, q3, hbf, hcs⟩ := store4 HK5.out (.int .i64 0) (.int .i64 0) (.string ⟨#[]⟩) (.int .i64 0)
  go_wp2_with fail
  generalize ((((w5.setCell ⟨b6, 0, none⟩ (.int .i64 0)).setCell ⟨b6, 1, none⟩ (.int .i64 0)).setCell ⟨b6, 2, none⟩ (.string ⟨#[]⟩)).setCell ⟨b6, 3, none⟩ (.int .i64 0)) = wz at *
  refine bodyPost_ret (results_cell_row_tmp rfl _ _ b6 #[.int .i64 0, .int .i64 0, .string ⟨#[]⟩, .int .i64 0] (by rfl) (run_loadVar_row _ b6 36 36 _ _ _ hbf Tryd.underlying36 rfl (by kernel_rfl))) rfl ?_
  exact ⟨rfl, HC5.out.trans hcs (fun _ _ x => x) (fun k hk e => by have := HB6.out; omega)⟩
set_option maxHeartbeats 6400000 in
set_option maxRecDepth 100000 in
theorem own_has (w : World) (b : Nat) (hp : Hp) (F : List Nat) (h : Int) (i : Nat) (key : ByteArray) (j : Nat) (H : Here hpR w b 0 hp F) (hi : -9223372036854775808 ≤ h ∧ h ≤ 9223372036854775807) (hs : slotOf hp h = some i) (hl : i < hp.slots.length) (hk : hp.slots[i].obj.kind ≠ 1)
    (hf : findP key hp.slots[i].obj.props 0 = some j) (hj : j < hp.slots[i].obj.props.length) (hlp : hp.slots[i].obj.props.length ≤ 1000000) :
    Calls Tryd.prog 23 #[.pointer (some ⟨b, 0, none⟩), .int .i64 h, .string key] w fun e w' => e = .returned (.tuple #[.agg #[.int .i64 hp.slots[i].obj.props[j].vkind, .int .i64 hp.slots[i].obj.props[j].vint, .string hp.slots[i].obj.props[j].vstr, .int .i64 hp.slots[i].obj.props[j].vref], .bool true]) ∧ Chg (fun _ => False) w w' := by
  have hca := Chg.alloc (fun _ => False) w (.cells #[.int .i64 0, .int .i64 0, .string ⟨#[]⟩, .int .i64 0] 36)
  have kb := alloc_block w (.cells #[.int .i64 0, .int .i64 0, .string ⟨#[]⟩, .int .i64 0] 36)
  have HKB := Lib.hid kb
  obtain ⟨gh, oh, kh, c2, G, HOBJ0, hGF, hput⟩ := hpPut H hl
  obtain ⟨vp, ve, vd, vs, HOC⟩ := objOpen HOBJ0
  have z1 : (hp.slots[i].obj.kind == 1) = false := beq_false_of_ne hk
  have hat := hat_any _ b 0 hp F h _ (H.still hca) (by rw [Nat.zero_add]; exact hca.cell c2) hi
  rw [hs, show objPtr (.slice (some ⟨gh, oh, none⟩) hp.slots.length kh) (some i) = some ⟨gh, oh + i * 11 + 1, none⟩ from rfl] at hat
  have HAT := Lib.hid hat
  have HC0 := Lib.hid HOC.c0
  have HC2 := Lib.hid HOC.c2
  have HRP := Lib.hid HOC.rp
  generalize hp.slots[i].obj = x at *
  have HCA := Lib.hid hca
  have HF := Lib.hid hf
  clear kb hca HOBJ0 hGF hput HOC c2 hi hs H hk hat hf
  go_enter Tryd.func23, Tryd.ntmps23
  go_upto_region 1 with fail
  generalize w.alloc (.cells #[.int .i64 0, .int .i64 0, .string ⟨#[]⟩, .int .i64 0] 36) = w1 at *
  generalize hb6 : w.heap.size = b6 at *
  have HB6 := Lib.hid hb6
  clear hb6
  go_upto_region 4 with (go_at_call 35; refine HAT.out.mono ?_; rintro e wa ⟨rfl, hca⟩)
  have HC1 := Lib.hid (HCA.out.trans' hca)
  have HKB2 := Lib.hid (hca.keep HKB.out (fun x => x))
  have c0 := HC1.out.cell HC0.out
  have HPL := Lib.hid (place_any wa gh (oh + i * 11 + 1) _ x.props key (HC1.out.cell HC2.out) (HRP.out.chg HC1.out (fun _ _ x => x)))
  rw [HF.out] at HPL
  clear hca HAT HKB HCA
  go_upto_region 13 with (go_at_call 43; refine HPL.out.mono ?_; rintro e w5 ⟨rfl, hc5⟩)
  have HC5 := Lib.hid (HC1.out.trans' hc5)
  have HK5 := Lib.hid (hc5.keep HKB2.out (fun x => x))
  have c2 := HC5.out.cell HC2.out
  clear hc5 HPL c0 z1
  rw [show idxP (some j) = (j : Int) from rfl]
  have hr2 := HRP.out.chg HC5.out (fun _ _ x => x)
  obtain ⟨gp, opp, cp, rfl, -, -⟩ := hr2.addr (by omega)
  have hcells : ∀ t u, x.props[j].cells[t]? = some u → t < 5 → w5.cell? ⟨gp, opp + j * 5 + t, none⟩ = some u := fun t u hu ht => by
    rw [Nat.add_assoc]
    exact hr2.cellAt (j * 5 + t) u (by rw [flat_get _ 5 Prp.len x.props j t hj ht]; exact hu)
  have p1 := hcells 1 _ rfl (by omega)
  have p2 := hcells 2 _ rfl (by omega)
  have p3 := hcells 3 _ rfl (by omega)
  have p4 := hcells 4 _ rfl (by omega)
  have j0 : (0 : Int) ≤ (j : Int) := by omega
  have j1 : (j : Int) < (x.props.length : Int) := by omega
  obtain ⟨z0, q0, z1, q1, z2, q2, z3, q3, hbf, hcs⟩ := store4 HK5.out (.int .i64 x.props[j].vkind) (.int .i64 x.props[j].vint) (.string x.props[j].vstr) (.int .i64 x.props[j].vref)
  clear hcells hr2
  go_wp2_with fail
  generalize ((((w5.setCell ⟨b6, 0, none⟩ (.int .i64 x.props[j].vkind)).setCell ⟨b6, 1, none⟩ (.int .i64 x.props[j].vint)).setCell ⟨b6, 2, none⟩ (.string x.props[j].vstr)).setCell ⟨b6, 3, none⟩ (.int .i64 x.props[j].vref)) = wz at *
  refine bodyPost_ret (results_cell_row_tmp rfl _ _ b6 #[.int .i64 x.props[j].vkind, .int .i64 x.props[j].vint, .string x.props[j].vstr, .int .i64 x.props[j].vref] (by rfl) (run_loadVar_row _ b6 36 36 _ _ _ hbf Tryd.underlying36 rfl (by kernel_rfl))) rfl ?_
  exact ⟨rfl, HC5.out.trans hcs (fun _ _ x => x) (fun k hk e => by have := HB6.out; omega)⟩
set_option maxHeartbeats 6400000 in
set_option maxRecDepth 100000 in
theorem own_nil (w : World) (b : Nat) (hp : Hp) (F : List Nat) (h : Int) (key : ByteArray) (H : Here hpR w b 0 hp F) (hi : -9223372036854775808 ≤ h ∧ h ≤ 9223372036854775807) (hs : slotOf hp h = none) :
    Calls Tryd.prog 23 #[.pointer (some ⟨b, 0, none⟩), .int .i64 h, .string key] w fun e w' => e = .returned (.tuple #[.agg #[.int .i64 0, .int .i64 0, .string ⟨#[]⟩, .int .i64 0], .bool false]) ∧ Chg (fun _ => False) w w' := by
  have hca := Chg.alloc (fun _ => False) w (.cells #[.int .i64 0, .int .i64 0, .string ⟨#[]⟩, .int .i64 0] 36)
  have kb := alloc_block w (.cells #[.int .i64 0, .int .i64 0, .string ⟨#[]⟩, .int .i64 0] 36)
  have HKB := Lib.hid kb
  obtain ⟨-, -, ⟨a, cap, c2⟩, -⟩ := hpCells H
  have hat := hat_any _ b 0 hp F h _ (H.still hca) (hca.cell c2) hi
  rw [hs, show objPtr (.slice a hp.slots.length cap) none = none by unfold objPtr; split <;> simp_all] at hat
  have HAT := Lib.hid hat
  have HCA := Lib.hid hca
  clear kb hca c2 hi hs H hat
  go_enter Tryd.func23, Tryd.ntmps23
  go_upto_region 1 with fail
  generalize w.alloc (.cells #[.int .i64 0, .int .i64 0, .string ⟨#[]⟩, .int .i64 0] 36) = w1 at *
  generalize hb6 : w.heap.size = b6 at *
  have HB6 := Lib.hid hb6
  clear hb6
  go_upto_region 2 with (go_at_call 35; refine HAT.out.mono ?_; rintro e wa ⟨rfl, hca⟩)
  have HC1 := Lib.hid (HCA.out.trans' hca)
  have HK5 := Lib.hid (hca.keep HKB.out (fun x => x))
  clear hca HAT HKB HCA
  obtain ⟨z0, q0, z1, q1, z2, q2, z3, q3, hbf, hcs⟩ := store4 HK5.out (.int .i64 0) (.int .i64 0) (.string ⟨#[]⟩) (.int .i64 0)
  go_wp2_with fail
  generalize ((((wa.setCell ⟨b6, 0, none⟩ (.int .i64 0)).setCell ⟨b6, 1, none⟩ (.int .i64 0)).setCell ⟨b6, 2, none⟩ (.string ⟨#[]⟩)).setCell ⟨b6, 3, none⟩ (.int .i64 0)) = wz at *
  refine bodyPost_ret (results_cell_row_tmp rfl _ _ b6 #[.int .i64 0, .int .i64 0, .string ⟨#[]⟩, .int .i64 0] (by rfl) (run_loadVar_row _ b6 36 36 _ _ _ hbf Tryd.underlying36 rfl (by kernel_rfl))) rfl ?_
  exact ⟨rfl, HC1.out.trans hcs (fun _ _ x => x) (fun k hk e => by have := HB6.out; omega)⟩
end Go.Proofs.YtjianickjahdnaaDoor
namespace Go.Proofs.YtjianickjahdnaaDoor
open Go.RowKit
set_option linter.unusedVariables false
set_option linter.unusedSimpArgs false

set_option maxHeartbeats 400000 in
set_option maxRecDepth 100000 in
theorem vofA (h : Int) (w : World) :
    Calls Tryd.prog 25 #[.int .i64 h] w fun e w' => e = .returned (.agg #[.int .i64 3, .int .i64 h, .string ⟨#[]⟩, .int .i64 0]) ∧ Chg (fun _ => False) w w' := by
  go_enter Tryd.func25, Tryd.ntmps25
  go_wp2_with fail
  refine bodyPost_ret (results_cell_row rfl _ _ w.heap.size _ _ _ _ (by rfl) (heap_alloc_new _ _) Tryd.underlying36 rfl (by kernel_rfl)) rfl ?_
  exact ⟨rfl, Chg.alloc _ _ _⟩
set_option maxHeartbeats 3200000 in
set_option maxRecDepth 100000 in
theorem normal_int (h : Int) (w : World) :
    Calls Tryd.prog 37 #[.agg #[.int .i64 3, .int .i64 h, .string ⟨#[]⟩, .int .i64 0]] w fun e w' => e = .returned (.agg #[.int .i64 3, .int .i64 h, .string ⟨#[]⟩, .int .i64 0]) ∧ Chg (fun _ => False) w w' := by
  have hc2 := (Chg.alloc (fun _ => False) w (.cells #[.int .i64 3, .int .i64 h, .string ⟨#[]⟩, .int .i64 0] 36)).allocR (.cells #[.int .i64 0, .int .i64 0, .string ⟨#[]⟩, .int .i64 0] 36)
  have hb := alloc_block (w.alloc (.cells #[.int .i64 3, .int .i64 h, .string ⟨#[]⟩, .int .i64 0] 36)) (.cells #[.int .i64 0, .int .i64 0, .string ⟨#[]⟩, .int .i64 0] 36)
  have hs1 : (w.alloc (.cells #[.int .i64 3, .int .i64 h, .string ⟨#[]⟩, .int .i64 0] 36)).heap.size = w.heap.size + 1 := Array.size_push ..
  rw [hs1] at hb
  have HB := Lib.hid hb
  have HC := Lib.hid hc2
  have kb := alloc_block w (.cells #[.int .i64 3, .int .i64 h, .string ⟨#[]⟩, .int .i64 0] 36)
  have k0 := (Chg.alloc (fun _ => False) (w.alloc (.cells #[.int .i64 3, .int .i64 h, .string ⟨#[]⟩, .int .i64 0] 36)) (.cells #[.int .i64 0, .int .i64 0, .string ⟨#[]⟩, .int .i64 0] 36)).cell (cell_of_block (i := 0) kb rfl)
  have k1 := (Chg.alloc (fun _ => False) (w.alloc (.cells #[.int .i64 3, .int .i64 h, .string ⟨#[]⟩, .int .i64 0] 36)) (.cells #[.int .i64 0, .int .i64 0, .string ⟨#[]⟩, .int .i64 0] 36)).cell (cell_of_block (i := 1) kb rfl)
  simp only [List.getElem_toArray, List.getElem_cons_zero, List.getElem_cons_succ] at k0 k1
  have HK0 := Lib.hid k0
  have HK1 := Lib.hid k1
  clear hb hc2 hs1 kb k0 k1
  go_enter Tryd.func37, Tryd.ntmps37
  go_upto_region 1 with fail
  generalize ((w.alloc (.cells #[.int .i64 3, .int .i64 h, .string ⟨#[]⟩, .int .i64 0] 36)).alloc (.cells #[.int .i64 0, .int .i64 0, .string ⟨#[]⟩, .int .i64 0] 36)) = w3 at *
  generalize hb2e : w.heap.size + 1 = b2 at *
  have HB2 := Lib.hid hb2e
  have k0 := HK0.out
  have k1 := HK1.out
  clear hb2e
  go_wp2_with fail
  refine (vofA h _).mono ?_
  rintro e wf ⟨rfl, hcf⟩
  have hb4 := hcf.keep HB.out (fun x => x)
  obtain ⟨z0, q0, z1, q1, z2, q2, z3, q3, hbf, hcs⟩ := store4 hb4 (.int .i64 3) (.int .i64 h) (.string ⟨#[]⟩) (.int .i64 0)
  go_wp2_with fail
  generalize ((((wf.setCell ⟨b2, 0, none⟩ (.int .i64 3)).setCell ⟨b2, 1, none⟩ (.int .i64 h)).setCell ⟨b2, 2, none⟩ (.string ⟨#[]⟩)).setCell ⟨b2, 3, none⟩ (.int .i64 0)) = wz at *
  refine bodyPost_ret (results_cell_row rfl _ _ b2 _ _ _ _ (by rfl) hbf Tryd.underlying36 rfl (by kernel_rfl)) rfl ?_
  exact ⟨rfl, (HC.out.trans' hcf).trans hcs (fun _ _ x => x) (fun k hk e => by have := HB2.out; omega)⟩
set_option maxHeartbeats 6400000 in
set_option maxRecDepth 100000 in
theorem own_len (w : World) (b : Nat) (hp : Hp) (F : List Nat) (h : Int) (i : Nat) (H : Here hpR w b 0 hp F) (hi : -9223372036854775808 ≤ h ∧ h ≤ 9223372036854775807) (hs : slotOf hp h = some i) (hl : i < hp.slots.length) (hk : hp.slots[i].obj.kind = 1) :
    Calls Tryd.prog 23 #[.pointer (some ⟨b, 0, none⟩), .int .i64 h, .string ⟨#[108, 101, 110, 103, 116, 104]⟩] w fun e w' => e = .returned (.tuple #[.agg #[.int .i64 3, .int .i64 hp.slots[i].obj.elems.length, .string ⟨#[]⟩, .int .i64 0], .bool true]) ∧ Chg (fun _ => False) w w' := by
  have hca := Chg.alloc (fun _ => False) w (.cells #[.int .i64 0, .int .i64 0, .string ⟨#[]⟩, .int .i64 0] 36)
  have kb := alloc_block w (.cells #[.int .i64 0, .int .i64 0, .string ⟨#[]⟩, .int .i64 0] 36)
  have HKB := Lib.hid kb
  obtain ⟨gh, oh, kh, c2, G, HOBJ0, hGF, hput⟩ := hpPut H hl
  obtain ⟨vp, ve, vd, vs, HOC⟩ := objOpen HOBJ0
  obtain ⟨ae, cape, rfl, -, -⟩ := HOC.re.slice
  have hat := hat_any _ b 0 hp F h _ (H.still hca) (by rw [Nat.zero_add]; exact hca.cell c2) hi
  rw [hs, show objPtr (.slice (some ⟨gh, oh, none⟩) hp.slots.length kh) (some i) = some ⟨gh, oh + i * 11 + 1, none⟩ from rfl] at hat
  have HAT := Lib.hid hat
  have HRE := Lib.hid HOC.re
  have k0 := HOC.c0
  rw [hk] at k0
  have HC0 := Lib.hid k0
  have HC3 := Lib.hid HOC.c3
  generalize hp.slots[i].obj = x at *
  have HCA := Lib.hid hca
  clear kb hca HOBJ0 hGF hput HOC c2 hi hs H hk hat k0
  go_enter Tryd.func23, Tryd.ntmps23
  go_upto_region 1 with fail
  generalize w.alloc (.cells #[.int .i64 0, .int .i64 0, .string ⟨#[]⟩, .int .i64 0] 36) = w1 at *
  generalize hb6 : w.heap.size = b6 at *
  have HB6 := Lib.hid hb6
  clear hb6
  go_upto_region 4 with (go_at_call 35; refine HAT.out.mono ?_; rintro e wa ⟨rfl, hca⟩)
  have HC1 := Lib.hid (HCA.out.trans' hca)
  have HKB2 := Lib.hid (hca.keep HKB.out (fun x => x))
  have c0 := HC1.out.cell HC0.out
  have c3 := HC1.out.cell HC3.out
  clear hca HAT HKB HCA
  go_wp2_with fail
  refine (vofA x.elems.length _).mono ?_
  rintro e w5 ⟨rfl, hc5⟩
  have HC5 := Lib.hid (HC1.out.trans' hc5)
  have HK5 := Lib.hid (hc5.keep HKB2.out (fun x => x))
  obtain ⟨z0, q0, z1, q1, z2, q2, z3, q3, hbf, hcs⟩ := store4 HK5.out (.int .i64 3) (.int .i64 (x.elems.length : Int)) (.string ⟨#[]⟩) (.int .i64 0)
  go_wp2_with fail
  generalize ((((w5.setCell ⟨b6, 0, none⟩ (.int .i64 3)).setCell ⟨b6, 1, none⟩ (.int .i64 (x.elems.length : Int))).setCell ⟨b6, 2, none⟩ (.string ⟨#[]⟩)).setCell ⟨b6, 3, none⟩ (.int .i64 0)) = wz at *
  refine bodyPost_ret (results_cell_row_tmp rfl _ _ b6 #[.int .i64 3, .int .i64 (x.elems.length : Int), .string ⟨#[]⟩, .int .i64 0] (by rfl) (run_loadVar_row _ b6 36 36 _ _ _ hbf Tryd.underlying36 rfl (by kernel_rfl))) rfl ?_
  exact ⟨rfl, HC5.out.trans hcs (fun _ _ x => x) (fun k hk e => by have := HB6.out; omega)⟩
set_option maxHeartbeats 6400000 in
set_option maxRecDepth 100000 in
theorem own_elem (w : World) (b : Nat) (hp : Hp) (F : List Nat) (h : Int) (i : Nat) (key : ByteArray) (H : Here hpR w b 0 hp F) (hi : -9223372036854775808 ≤ h ∧ h ≤ 9223372036854775807) (hs : slotOf hp h = some i) (hl : i < hp.slots.length) (hk : hp.slots[i].obj.kind = 1) (hkl : ¬ key.toList = [108, 101, 110, 103, 116, 104]) (hks : key.size ≤ 1000000) (HT : Tabs w) (j : Nat) (hj : j < hp.slots[i].obj.elems.length) (hlp : hp.slots[i].obj.elems.length ≤ 1000000) (hpz : posM key = (j : Int)) :
    Calls Tryd.prog 23 #[.pointer (some ⟨b, 0, none⟩), .int .i64 h, .string key] w fun e w' => e = .returned (.tuple #[.agg #[.int .i64 hp.slots[i].obj.elems[j].kind, .int .i64 hp.slots[i].obj.elems[j].int, .string hp.slots[i].obj.elems[j].str, .int .i64 hp.slots[i].obj.elems[j].ref], .bool true]) ∧ Chg (fun _ => False) w w' := by
  have hca := Chg.alloc (fun _ => False) w (.cells #[.int .i64 0, .int .i64 0, .string ⟨#[]⟩, .int .i64 0] 36)
  have kb := alloc_block w (.cells #[.int .i64 0, .int .i64 0, .string ⟨#[]⟩, .int .i64 0] 36)
  have HKB := Lib.hid kb
  obtain ⟨gh, oh, kh, c2, G, HOBJ0, hGF, hput⟩ := hpPut H hl
  obtain ⟨vp, ve, vd, vs, HOC⟩ := objOpen HOBJ0
  obtain ⟨ae, cape, rfl, -, -⟩ := HOC.re.slice
  have hat := hat_any _ b 0 hp F h _ (H.still hca) (by rw [Nat.zero_add]; exact hca.cell c2) hi
  rw [hs, show objPtr (.slice (some ⟨gh, oh, none⟩) hp.slots.length kh) (some i) = some ⟨gh, oh + i * 11 + 1, none⟩ from rfl] at hat
  have HAT := Lib.hid hat
  have HRE := Lib.hid HOC.re
  have k0 := HOC.c0
  rw [hk] at k0
  have HC0 := Lib.hid k0
  have HC3 := Lib.hid HOC.c3
  generalize hp.slots[i].obj = x at *
  have HCA := Lib.hid hca
  clear kb hca HOBJ0 hGF hput HOC c2 hi hs H hk hat k0
  have HPS := Lib.hid (fun W (hc : Chg (fun _ => False) w W) => position_any key W hks (HT.still hc))
  have s1 : (key.toList == [108, 101, 110, 103, 116, 104]) = false := beq_false_of_ne hkl
  clear HT hks
  rw [hpz] at HPS
  clear hpz
  go_enter Tryd.func23, Tryd.ntmps23
  go_upto_region 1 with fail
  generalize w.alloc (.cells #[.int .i64 0, .int .i64 0, .string ⟨#[]⟩, .int .i64 0] 36) = w1 at *
  generalize hb6 : w.heap.size = b6 at *
  have HB6 := Lib.hid hb6
  clear hb6
  go_upto_region 4 with (go_at_call 35; refine HAT.out.mono ?_; rintro e wa ⟨rfl, hca⟩)
  have HC1 := Lib.hid (HCA.out.trans' hca)
  have HKB2 := Lib.hid (hca.keep HKB.out (fun x => x))
  have c0 := HC1.out.cell HC0.out
  have c3 := HC1.out.cell HC3.out
  clear hca HAT HKB HCA
  go_upto_region 8 with (go_at_call 21; refine (HPS.out _ HC1.out).mono ?_; rintro e w5 ⟨rfl, hc5⟩)
  have HC5 := Lib.hid (HC1.out.trans' hc5)
  have HK5 := Lib.hid (hc5.keep HKB2.out (fun x => x))
  have c3 := HC5.out.cell HC3.out
  clear hc5 HPS
  have hr2 := HRE.out.chg HC5.out (fun _ _ x => x)
  obtain ⟨gp, opp, cp, hve, -, -⟩ := hr2.addr (by omega)
  cases hve
  have hcells : ∀ t u, x.elems[j].cells[t]? = some u → t < 4 → w5.cell? ⟨gp, opp + j * 4 + t, none⟩ = some u := fun t u hu ht => by
    rw [Nat.add_assoc]
    exact hr2.cellAt (j * 4 + t) u (by rw [flat_get _ 4 Val.len x.elems j t hj ht]; exact hu)
  have p1 : w5.cell? ⟨gp, opp + j * 4, none⟩ = some (.int .i64 x.elems[j].kind) := hcells 0 _ rfl (by omega)
  have p2 := hcells 1 _ rfl (by omega)
  have p3 := hcells 2 _ rfl (by omega)
  have p4 := hcells 3 _ rfl (by omega)
  have j0 : (0 : Int) ≤ (j : Int) := by omega
  have j1 : (j : Int) < (x.elems.length : Int) := by omega
  obtain ⟨z0, q0, z1, q1, z2, q2, z3, q3, hbf, hcs⟩ := store4 HK5.out (.int .i64 x.elems[j].kind) (.int .i64 x.elems[j].int) (.string x.elems[j].str) (.int .i64 x.elems[j].ref)
  clear hcells hr2
  go_wp2_with fail
  generalize ((((w5.setCell ⟨b6, 0, none⟩ (.int .i64 x.elems[j].kind)).setCell ⟨b6, 1, none⟩ (.int .i64 x.elems[j].int)).setCell ⟨b6, 2, none⟩ (.string x.elems[j].str)).setCell ⟨b6, 3, none⟩ (.int .i64 x.elems[j].ref)) = wz at *
  refine bodyPost_ret (results_cell_row_tmp rfl _ _ b6 #[.int .i64 x.elems[j].kind, .int .i64 x.elems[j].int, .string x.elems[j].str, .int .i64 x.elems[j].ref] (by rfl) (run_loadVar_row _ b6 36 36 _ _ _ hbf Tryd.underlying36 rfl (by kernel_rfl))) rfl ?_
  exact ⟨rfl, HC5.out.trans hcs (fun _ _ x => x) (fun k hk e => by have := HB6.out; omega)⟩
set_option maxHeartbeats 6400000 in
set_option maxRecDepth 100000 in
theorem own_beyond (w : World) (b : Nat) (hp : Hp) (F : List Nat) (h : Int) (i : Nat) (key : ByteArray) (H : Here hpR w b 0 hp F) (hi : -9223372036854775808 ≤ h ∧ h ≤ 9223372036854775807) (hs : slotOf hp h = some i) (hl : i < hp.slots.length) (hk : hp.slots[i].obj.kind = 1) (hkl : ¬ key.toList = [108, 101, 110, 103, 116, 104]) (hks : key.size ≤ 1000000) (HT : Tabs w) (j : Nat) (hj : hp.slots[i].obj.elems.length ≤ j) (hlp : hp.slots[i].obj.elems.length ≤ 1000000) (hpz : posM key = (j : Int)) :
    Calls Tryd.prog 23 #[.pointer (some ⟨b, 0, none⟩), .int .i64 h, .string key] w fun e w' => e = .returned (.tuple #[.agg #[.int .i64 0, .int .i64 0, .string ⟨#[]⟩, .int .i64 0], .bool false]) ∧ Chg (fun _ => False) w w' := by
  have hca := Chg.alloc (fun _ => False) w (.cells #[.int .i64 0, .int .i64 0, .string ⟨#[]⟩, .int .i64 0] 36)
  have kb := alloc_block w (.cells #[.int .i64 0, .int .i64 0, .string ⟨#[]⟩, .int .i64 0] 36)
  have HKB := Lib.hid kb
  obtain ⟨gh, oh, kh, c2, G, HOBJ0, hGF, hput⟩ := hpPut H hl
  obtain ⟨vp, ve, vd, vs, HOC⟩ := objOpen HOBJ0
  obtain ⟨ae, cape, rfl, -, -⟩ := HOC.re.slice
  have hat := hat_any _ b 0 hp F h _ (H.still hca) (by rw [Nat.zero_add]; exact hca.cell c2) hi
  rw [hs, show objPtr (.slice (some ⟨gh, oh, none⟩) hp.slots.length kh) (some i) = some ⟨gh, oh + i * 11 + 1, none⟩ from rfl] at hat
  have HAT := Lib.hid hat
  have HRE := Lib.hid HOC.re
  have k0 := HOC.c0
  rw [hk] at k0
  have HC0 := Lib.hid k0
  have HC3 := Lib.hid HOC.c3
  generalize hp.slots[i].obj = x at *
  have HCA := Lib.hid hca
  clear kb hca HOBJ0 hGF hput HOC c2 hi hs H hk hat k0
  have HPS := Lib.hid (fun W (hc : Chg (fun _ => False) w W) => position_any key W hks (HT.still hc))
  have s1 : (key.toList == [108, 101, 110, 103, 116, 104]) = false := beq_false_of_ne hkl
  clear HT hks
  rw [hpz] at HPS
  clear hpz
  go_enter Tryd.func23, Tryd.ntmps23
  go_upto_region 1 with fail
  generalize w.alloc (.cells #[.int .i64 0, .int .i64 0, .string ⟨#[]⟩, .int .i64 0] 36) = w1 at *
  generalize hb6 : w.heap.size = b6 at *
  have HB6 := Lib.hid hb6
  clear hb6
  go_upto_region 4 with (go_at_call 35; refine HAT.out.mono ?_; rintro e wa ⟨rfl, hca⟩)
  have HC1 := Lib.hid (HCA.out.trans' hca)
  have HKB2 := Lib.hid (hca.keep HKB.out (fun x => x))
  have c0 := HC1.out.cell HC0.out
  have c3 := HC1.out.cell HC3.out
  clear hca HAT HKB HCA
  go_upto_region 8 with (go_at_call 21; refine (HPS.out _ HC1.out).mono ?_; rintro e w5 ⟨rfl, hc5⟩)
  have HC5 := Lib.hid (HC1.out.trans' hc5)
  have HK5 := Lib.hid (hc5.keep HKB2.out (fun x => x))
  have c3 := HC5.out.cell HC3.out
  clear hc5 HPS
  have j0 : (0 : Int) ≤ (j : Int) := by omega
  have j1 : ¬ (j : Int) < (x.elems.length : Int) := by omega
  have hr2 := HRE.out.chg HC5.out (fun _ _ x => x)
  obtain ⟨z0, q0, z1, q1, z2, q2, z3, q3, hbf, hcs⟩ := store4 HK5.out (.int .i64 0) (.int .i64 0) (.string ⟨#[]⟩) (.int .i64 0)
  go_wp2_with fail
  generalize ((((w5.setCell ⟨b6, 0, none⟩ (.int .i64 0)).setCell ⟨b6, 1, none⟩ (.int .i64 0)).setCell ⟨b6, 2, none⟩ (.string ⟨#[]⟩)).setCell ⟨b6, 3, none⟩ (.int .i64 0)) = wz at *
  refine bodyPost_ret (results_cell_row_tmp rfl _ _ b6 #[.int .i64 0, .int .i64 0, .string ⟨#[]⟩, .int .i64 0] (by rfl) (run_loadVar_row _ b6 36 36 _ _ _ hbf Tryd.underlying36 rfl (by kernel_rfl))) rfl ?_
  exact ⟨rfl, HC5.out.trans hcs (fun _ _ x => x) (fun k hk e => by have := HB6.out; omega)⟩
end Go.Proofs.YtjianickjahdnaaDoor
