/-
  The marks over a heap that has changed since; arena.Drop.
  What collect.Sweep makes of a heap, plainly.
  heap.place: the place of a property.
  References as values: value.Normal, value.Same; heap.table; heap.entry.
  heap.Put of a property (an object that is no array).
-/
import Derived.Test.YthiiehanlconeaaDoorPCollectRingsc
import Derived.Test.YthiiehanlconeaaDoorPCollectRingsb
import Derived.Test.YthiiehanlconeaaDoorPCollectRingse
import Derived.Test.YthiiehanlconeaaDoorPCollectRingsd
import Derived.Laws.ResultCell
import Derived.Test.YthiiehanlconeaaDoorPCollectRingsa
import Derived.Test.YthiiehanlconeaaDoorPCollectRingsf
namespace Go.Proofs.YthiiehanlconeaaDoor
open Go.RowKit
set_option linter.unusedVariables false
set_option linter.unusedSimpArgs false

set_option maxHeartbeats 3200000 in
set_option maxRecDepth 100000 in
theorem slot_gen (w : World) (bm bh : Nat) (hp : Hp) (F : List Nat) (K Fm : List Nat) (h : Int) (H : Here hpR w bh 0 hp F) (HM : Here mkR w bm 0 (mkOf bh hp K) Fm) (hi : -9223372036854775808 ≤ h ∧ h ≤ 9223372036854775807) :
    Calls Tryd.prog 38 #[.pointer (some ⟨bm, 0, none⟩), .int .i64 h] w fun e w' => e = .returned (.int .i64 (slotI (slotOf hp h))) ∧ Chg (fun _ => False) w w' := by
  obtain ⟨m0, ⟨am, cm, m1⟩, -⟩ := mkCells HM
  have hsl : (mkOf bh hp K).set.length = hp.slots.length := by unfold mkOf; simp
  rw [hsl] at m1
  change w.cell? ⟨bm, 0, none⟩ = some (.pointer (some ⟨bh, 0, none⟩)) at m0
  obtain ⟨c0, c1, ⟨a, cap, c2⟩, -⟩ := hpCells H
  simp only [Nat.zero_add] at c0 c1 c2
  have HX := Lib.hid (index_any hp.base hp.stride h w hi)
  have HS : Hid (∀ i, i < hp.slots.length → ∃ g off, a = some ⟨g, off, none⟩ ∧ w.cell? ⟨g, off + i * 11, none⟩ = some (.bool (hp.slots.getD i noSlt).used)) := Lib.hid (fun i hi => by
    obtain ⟨g, off, e, G, -, h1, -⟩ := hpSlot H (by simpa using c2) hi
    refine ⟨g, off, e, ?_⟩
    rw [List.getD_eq_getElem?_getD, List.getElem?_eq_getElem hi]
    exact h1)
  have HLN : Hid ((hp.slots.length : Int) ≤ 9223372036854775807) := Lib.hid (by
    obtain ⟨v, xs, Fs, hc, hop⟩ := (H.field hpR_slots (by show 0 < 8; decide)).choose_spec.1.openRow
    obtain ⟨a', cap', -, h1, h2⟩ := hop.val
    have : hp.slots.length ≤ maxLen := Nat.le_trans h1 h2
    unfold maxLen at this
    omega)
  unfold slotOf
  generalize indexM hp.base hp.stride h = i at *
  generalize hrs : slotI (if 0 ≤ i ∧ i.toNat < hp.slots.length ∧ (hp.slots.getD i.toNat noSlt).used = true then some i.toNat else none) = rs at *
  have HRS := Lib.hid hrs
  have HM1 := Lib.hid m1
  have HM0 := Lib.hid m0
  have HC2 := Lib.hid c2
  clear H hi hrs hsl HM
  go_enter Tryd.func38, Tryd.ntmps38
  go_wp2_with fail
  refine HX.out.mono ?_
  rintro e w2 ⟨rfl, hc⟩
  have HCH := Lib.hid hc
  have m0 := hc.cell HM0.out
  have m1 := hc.cell HM1.out
  have c2 := hc.cell HC2.out
  clear c0 c1 HX
  by_cases h0 : 0 ≤ i
  · have n0 : ¬ i < 0 := by omega
    obtain ⟨k, rfl⟩ : ∃ k : Nat, i = (k : Int) := ⟨i.toNat, by omega⟩
    have hrs := HRS.out
    rw [Int.toNat_natCast] at hrs
    by_cases hl : k < hp.slots.length
    · have l1 : (k : Int) < (hp.slots.length : Int) := by omega
      obtain ⟨g, off, rfl, hu⟩ := HS.out k hl
      have hu2 := hc.cell hu
      clear hc hu
      cases hused : (hp.slots.getD k noSlt).used with
      | true =>
        rw [hused] at hu2
        rw [if_pos ⟨h0, hl, hused⟩] at hrs
        subst hrs
        clear hl n0 HRS hused
        go_wp2_with fail
        go_ret
        exact ⟨rfl, HCH.out⟩
      | false =>
        rw [hused] at hu2
        rw [if_neg (by rw [hused]; simp)] at hrs
        subst hrs
        clear hl n0 HRS hused
        go_wp2_with fail
        go_ret
        exact ⟨rfl, HCH.out⟩
    · have l1 : ¬ (k : Int) < (hp.slots.length : Int) := by omega
      rw [if_neg (fun x => hl x.2.1)] at hrs
      subst hrs
      clear hl n0 hc HRS
      go_wp2_with fail
      go_ret
      exact ⟨rfl, HCH.out⟩
  · have n0 : i < 0 := by omega
    have hrs := HRS.out
    rw [if_neg (fun x => h0 x.1)] at hrs
    subst hrs
    clear h0 hc HRS
    go_wp2_with fail
    go_ret
    exact ⟨rfl, HCH.out⟩

set_option maxHeartbeats 3200000 in
set_option maxRecDepth 100000 in
theorem has_gen (w : World) (bm bh : Nat) (hp : Hp) (F : List Nat) (K Fm : List Nat) (h : Int) (H : Here hpR w bh 0 hp F) (HM : Here mkR w bm 0 (mkOf bh hp K) Fm) (hi : -9223372036854775808 ≤ h ∧ h ≤ 9223372036854775807) :
    Calls Tryd.prog 31 #[.pointer (some ⟨bm, 0, none⟩), .int .i64 h] w fun e w' => e = .returned (.bool (hasK hp K h)) ∧ Chg (fun _ => False) w w' := by
  have hs := slot_gen w bm bh hp F K Fm h H HM hi
  unfold hasK
  cases hsl : slotOf hp h with
  | none =>
    rw [hsl] at hs
    have HS := Lib.hid hs
    clear hs hsl HM H hi
    go_enter Tryd.func31, Tryd.ntmps31
    go_wp2_with fail
    refine HS.out.mono ?_
    rintro e w2 ⟨rfl, hc⟩
    have HC := Lib.hid hc
    clear hc HS
    rw [show slotI none = -1 from rfl]
    go_wp2_with fail
    go_ret
    exact ⟨rfl, HC.out⟩
  | some i =>
    rw [hsl] at hs
    obtain ⟨hlt, -, -⟩ := slotOf_lt hsl
    obtain ⟨g, off, cap, m1, hset⟩ := mkSet HM (by rw [mkOf_setlen]; omega)
    obtain ⟨q1, -, -⟩ := hset i (by rw [mkOf_setlen]; exact hlt)
    rw [mkOf_set] at q1
    rw [mkOf_setlen] at m1
    have HS := Lib.hid hs
    have h0 : (0 : Int) ≤ (i : Int) := by omega
    have h1 : (i : Int) < (hp.slots.length : Int) := by omega
    have HM1 := Lib.hid m1
    have HQ1 := Lib.hid q1
    clear hs hsl HM H hi hset m1 q1 hlt
    go_enter Tryd.func31, Tryd.ntmps31
    go_wp2_with fail
    refine HS.out.mono ?_
    rintro e w2 ⟨rfl, hc⟩
    have m1 := hc.cell HM1.out
    have q1 := hc.cell HQ1.out
    have HC := Lib.hid hc
    clear hc HS
    rw [show slotI (some i) = (i : Int) from rfl]
    go_wp2_with fail
    go_ret
    exact ⟨rfl, HC.out⟩


/-- The block of a row in a field lies in the thing's footprint. -/
theorem Here.ownIn2 {α β : Type} {A : Rep α} {B : Rep β} {e : TypeId} {w : World} {b o k : Nat} {a : α} {F : List Nat} {get : α → List β} {set : α → List β → α} (fl : FieldOf A (B.row e) k get set) (hA : 0 < A.n) (H : Here A w b o a F) {v : Value} (hc : w.cell? ⟨b, o + k, none⟩ = some v) {j : Nat} (hj : v.ownBlock = some j) : j ∈ F := by
  obtain ⟨G, h1, h2, -⟩ := H.field fl hA
  obtain ⟨v', xs, Fs, hc', hopen⟩ := h1.openRow
  rw [hc] at hc'
  cases hc'
  exact h2 _ (by rw [hopen.fp]; exact List.mem_append_left _ (mem_ownL.2 hj))
section
variable {β : Type} {B : Rep β} {w : World} {b o : Nat}
/-- All cells of a thing stored anew: what was behind it may have changed before. -/
theorem Here.putAll {x y : β} {G G' : List Nat} {w2 : World} {cs : List Value} (h : Here B w b o x G) (hc : Chg (fun k => k ∈ G) w w2) (hn : 0 < B.n) (hy : B.own w2 cs y G') (nd : G'.Nodup) (new : ∀ k ∈ G', k ∈ G ∨ w.heap.size ≤ k) :
    Here B (w2.setCells b o cs) b o y G' ∧ Step w (w2.setCells b o cs) b o B.n G G' := by
  obtain ⟨c, T, h1, h2⟩ := h.box
  have hl := B.len h2
  have hl2 := B.len hy
  simp only [List.length_take, List.length_drop, Array.length_toList] at hl
  have hsz : o + B.n ≤ c.size := by omega
  have hb : b < w.heap.size := lt_of_block h1
  have nb : b ∉ G' := fun hx => (new b hx).elim h.nb (fun e => by omega)
  have h3 := setCells_block cs o (hc.keep h1 h.nb)
  have hch : Chg (· = b) w2 (w2.setCells b o cs) := Chg.setCells cs w2 o
  refine ⟨⟨⟨_, T, h3, ?_⟩, nb, nd⟩, ⟨?_, new, ?_⟩⟩
  · rw [putAt_toList cs c o (by omega), List.append_assoc, List.drop_left' (by rw [List.length_take, Array.length_toList]; omega), List.take_left' hl2]
    exact B.chg hy hch (fun k hk e => nb (by have e' : k = b := e; rwa [e'] at hk))
  · exact (hc.mono (S' := fun k => k = b ∨ k ∈ G) (fun _ _ x => .inr x)).trans (hch.mono (S' := fun k => k = b ∨ k ∈ G) (fun _ _ x => .inl x)) (fun _ _ x => x) (fun _ _ x => x)
  · intro d U hd
    have h4 := setCells_block cs o (hc.keep hd h.nb)
    rw [h1] at hd
    cases hd
    refine ⟨_, h4, by rw [putAt_size], fun j hj => ?_⟩
    have e : (putAt c o cs)[j]? = (putAt c o cs).toList[j]? := by simp
    rw [e, putAt_toList cs c o (by omega)]
    have e2 : c[j]? = c.toList[j]? := by simp
    rw [e2]
    have ht : (c.toList.take o).length = o := by rw [List.length_take]; simp; omega
    rcases hj with hj | hj
    · rw [List.append_assoc, List.getElem?_append_left (by rw [ht]; exact hj), List.getElem?_take, if_pos hj]
    · rw [List.getElem?_append_right (by rw [List.length_append, ht]; omega), List.length_append, ht, List.getElem?_drop]
      have e5 : o + cs.length + (j - (o + cs.length)) = j := by omega
      rw [e5]
end
/-- A cell that is not stored yet. -/
theorem storeCell {w : World} {g so T : Nat} {c : Array Value} (h : w.heap[g]? = some (.cells c T (0, 0))) (vs : List Value) (hs : so + vs.length ≤ c.size) {u : Value} (hu : c[so + vs.length]? = some u) : (w.setCells g so vs).cell? ⟨g, so + vs.length, none⟩ = some u ∧ (w.setCells g so vs).frozen? ⟨g, so + vs.length, none⟩ = false := by
  have h3 := setCells_block vs so h
  refine ⟨cell_of_block h3 ?_, frozen_of_block h3⟩
  have e : (putAt c so vs)[so + vs.length]? = (putAt c so vs).toList[so + vs.length]? := by simp
  have ht : (c.toList.take so).length = so := by rw [List.length_take]; simp; omega
  rw [e, putAt_toList vs c so hs, List.getElem?_append_right (by rw [List.length_append, ht]; exact Nat.le_refl _), List.length_append, ht, List.getElem?_drop, Nat.sub_self, Nat.add_zero, ← hu]
  simp
theorem setCells_cons (w : World) (b o : Nat) (v : Value) (vs : List Value) : w.setCells b o (v :: vs) = (w.setCell ⟨b, o, none⟩ v).setCells b (o + 1) vs := rfl
theorem setCells_nil (w : World) (b o : Nat) : w.setCells b o [] = w := rfl
/-- Eleven cells stored one after the other. -/
theorem store11 {w : World} {g so T : Nat} {c : Array Value} (b0 : w.heap[g]? = some (.cells c T (0, 0))) (v0 v1 v2 v3 v4 v5 v6 v7 v8 v9 v10 : Value) {u0 u1 u2 u3 u4 u5 u6 u7 u8 u9 u10 : Value} (hu : c[so]? = some u0 ∧ c[so + 1]? = some u1 ∧ c[so + 2]? = some u2 ∧ c[so + 3]? = some u3 ∧ c[so + 4]? = some u4 ∧ c[so + 5]? = some u5 ∧ c[so + 6]? = some u6 ∧ c[so + 7]? = some u7 ∧ c[so + 8]? = some u8 ∧ c[so + 9]? = some u9 ∧ c[so + 10]? = some u10) :
    w.cell? ⟨g, so, none⟩ = some u0 ∧ w.frozen? ⟨g, so, none⟩ = false ∧
    (w.setCell ⟨g, so, none⟩ v0).cell? ⟨g, so + 1, none⟩ = some u1 ∧ (w.setCell ⟨g, so, none⟩ v0).frozen? ⟨g, so + 1, none⟩ = false ∧
    ((w.setCell ⟨g, so, none⟩ v0).setCell ⟨g, so + 1, none⟩ v1).cell? ⟨g, so + 2, none⟩ = some u2 ∧ ((w.setCell ⟨g, so, none⟩ v0).setCell ⟨g, so + 1, none⟩ v1).frozen? ⟨g, so + 2, none⟩ = false ∧
    (((w.setCell ⟨g, so, none⟩ v0).setCell ⟨g, so + 1, none⟩ v1).setCell ⟨g, so + 2, none⟩ v2).cell? ⟨g, so + 3, none⟩ = some u3 ∧ (((w.setCell ⟨g, so, none⟩ v0).setCell ⟨g, so + 1, none⟩ v1).setCell ⟨g, so + 2, none⟩ v2).frozen? ⟨g, so + 3, none⟩ = false ∧
    ((((w.setCell ⟨g, so, none⟩ v0).setCell ⟨g, so + 1, none⟩ v1).setCell ⟨g, so + 2, none⟩ v2).setCell ⟨g, so + 3, none⟩ v3).cell? ⟨g, so + 4, none⟩ = some u4 ∧ ((((w.setCell ⟨g, so, none⟩ v0).setCell ⟨g, so + 1, none⟩ v1).setCell ⟨g, so + 2, none⟩ v2).setCell ⟨g, so + 3, none⟩ v3).frozen? ⟨g, so + 4, none⟩ = false ∧
    (((((w.setCell ⟨g, so, none⟩ v0).setCell ⟨g, so + 1, none⟩ v1).setCell ⟨g, so + 2, none⟩ v2).setCell ⟨g, so + 3, none⟩ v3).setCell ⟨g, so + 4, none⟩ v4).cell? ⟨g, so + 5, none⟩ = some u5 ∧ (((((w.setCell ⟨g, so, none⟩ v0).setCell ⟨g, so + 1, none⟩ v1).setCell ⟨g, so + 2, none⟩ v2).setCell ⟨g, so + 3, none⟩ v3).setCell ⟨g, so + 4, none⟩ v4).frozen? ⟨g, so + 5, none⟩ = false ∧
    ((((((w.setCell ⟨g, so, none⟩ v0).setCell ⟨g, so + 1, none⟩ v1).setCell ⟨g, so + 2, none⟩ v2).setCell ⟨g, so + 3, none⟩ v3).setCell ⟨g, so + 4, none⟩ v4).setCell ⟨g, so + 5, none⟩ v5).cell? ⟨g, so + 6, none⟩ = some u6 ∧ ((((((w.setCell ⟨g, so, none⟩ v0).setCell ⟨g, so + 1, none⟩ v1).setCell ⟨g, so + 2, none⟩ v2).setCell ⟨g, so + 3, none⟩ v3).setCell ⟨g, so + 4, none⟩ v4).setCell ⟨g, so + 5, none⟩ v5).frozen? ⟨g, so + 6, none⟩ = false ∧
    (((((((w.setCell ⟨g, so, none⟩ v0).setCell ⟨g, so + 1, none⟩ v1).setCell ⟨g, so + 2, none⟩ v2).setCell ⟨g, so + 3, none⟩ v3).setCell ⟨g, so + 4, none⟩ v4).setCell ⟨g, so + 5, none⟩ v5).setCell ⟨g, so + 6, none⟩ v6).cell? ⟨g, so + 7, none⟩ = some u7 ∧ (((((((w.setCell ⟨g, so, none⟩ v0).setCell ⟨g, so + 1, none⟩ v1).setCell ⟨g, so + 2, none⟩ v2).setCell ⟨g, so + 3, none⟩ v3).setCell ⟨g, so + 4, none⟩ v4).setCell ⟨g, so + 5, none⟩ v5).setCell ⟨g, so + 6, none⟩ v6).frozen? ⟨g, so + 7, none⟩ = false ∧
    ((((((((w.setCell ⟨g, so, none⟩ v0).setCell ⟨g, so + 1, none⟩ v1).setCell ⟨g, so + 2, none⟩ v2).setCell ⟨g, so + 3, none⟩ v3).setCell ⟨g, so + 4, none⟩ v4).setCell ⟨g, so + 5, none⟩ v5).setCell ⟨g, so + 6, none⟩ v6).setCell ⟨g, so + 7, none⟩ v7).cell? ⟨g, so + 8, none⟩ = some u8 ∧ ((((((((w.setCell ⟨g, so, none⟩ v0).setCell ⟨g, so + 1, none⟩ v1).setCell ⟨g, so + 2, none⟩ v2).setCell ⟨g, so + 3, none⟩ v3).setCell ⟨g, so + 4, none⟩ v4).setCell ⟨g, so + 5, none⟩ v5).setCell ⟨g, so + 6, none⟩ v6).setCell ⟨g, so + 7, none⟩ v7).frozen? ⟨g, so + 8, none⟩ = false ∧
    (((((((((w.setCell ⟨g, so, none⟩ v0).setCell ⟨g, so + 1, none⟩ v1).setCell ⟨g, so + 2, none⟩ v2).setCell ⟨g, so + 3, none⟩ v3).setCell ⟨g, so + 4, none⟩ v4).setCell ⟨g, so + 5, none⟩ v5).setCell ⟨g, so + 6, none⟩ v6).setCell ⟨g, so + 7, none⟩ v7).setCell ⟨g, so + 8, none⟩ v8).cell? ⟨g, so + 9, none⟩ = some u9 ∧ (((((((((w.setCell ⟨g, so, none⟩ v0).setCell ⟨g, so + 1, none⟩ v1).setCell ⟨g, so + 2, none⟩ v2).setCell ⟨g, so + 3, none⟩ v3).setCell ⟨g, so + 4, none⟩ v4).setCell ⟨g, so + 5, none⟩ v5).setCell ⟨g, so + 6, none⟩ v6).setCell ⟨g, so + 7, none⟩ v7).setCell ⟨g, so + 8, none⟩ v8).frozen? ⟨g, so + 9, none⟩ = false ∧
    ((((((((((w.setCell ⟨g, so, none⟩ v0).setCell ⟨g, so + 1, none⟩ v1).setCell ⟨g, so + 2, none⟩ v2).setCell ⟨g, so + 3, none⟩ v3).setCell ⟨g, so + 4, none⟩ v4).setCell ⟨g, so + 5, none⟩ v5).setCell ⟨g, so + 6, none⟩ v6).setCell ⟨g, so + 7, none⟩ v7).setCell ⟨g, so + 8, none⟩ v8).setCell ⟨g, so + 9, none⟩ v9).cell? ⟨g, so + 10, none⟩ = some u10 ∧ ((((((((((w.setCell ⟨g, so, none⟩ v0).setCell ⟨g, so + 1, none⟩ v1).setCell ⟨g, so + 2, none⟩ v2).setCell ⟨g, so + 3, none⟩ v3).setCell ⟨g, so + 4, none⟩ v4).setCell ⟨g, so + 5, none⟩ v5).setCell ⟨g, so + 6, none⟩ v6).setCell ⟨g, so + 7, none⟩ v7).setCell ⟨g, so + 8, none⟩ v8).setCell ⟨g, so + 9, none⟩ v9).frozen? ⟨g, so + 10, none⟩ = false ∧
    (((((((((((w.setCell ⟨g, so, none⟩ v0).setCell ⟨g, so + 1, none⟩ v1).setCell ⟨g, so + 2, none⟩ v2).setCell ⟨g, so + 3, none⟩ v3).setCell ⟨g, so + 4, none⟩ v4).setCell ⟨g, so + 5, none⟩ v5).setCell ⟨g, so + 6, none⟩ v6).setCell ⟨g, so + 7, none⟩ v7).setCell ⟨g, so + 8, none⟩ v8).setCell ⟨g, so + 9, none⟩ v9).setCell ⟨g, so + 10, none⟩ v10) = w.setCells g so [v0, v1, v2, v3, v4, v5, v6, v7, v8, v9, v10] := by
  obtain ⟨q0, q1, q2, q3, q4, q5, q6, q7, q8, q9, q10⟩ := hu
  have c0 : w.cell? ⟨g, so, none⟩ = some u0 := cell_of_block b0 q0
  have f0 : w.frozen? ⟨g, so, none⟩ = false := frozen_of_block b0
  have b1 := setCell_block (i := so) v0 b0
  have c1 : (w.setCell ⟨g, so, none⟩ v0).cell? ⟨g, so + 1, none⟩ = some u1 := cell_of_block b1 (by rw [Array.getElem?_setIfInBounds_ne (by omega)]; exact q1)
  have f1 : (w.setCell ⟨g, so, none⟩ v0).frozen? ⟨g, so + 1, none⟩ = false := frozen_of_block b1
  have b2 := setCell_block (i := so + 1) v1 b1
  have c2 : ((w.setCell ⟨g, so, none⟩ v0).setCell ⟨g, so + 1, none⟩ v1).cell? ⟨g, so + 2, none⟩ = some u2 := cell_of_block b2 (by rw [Array.getElem?_setIfInBounds_ne (by omega), Array.getElem?_setIfInBounds_ne (by omega)]; exact q2)
  have f2 : ((w.setCell ⟨g, so, none⟩ v0).setCell ⟨g, so + 1, none⟩ v1).frozen? ⟨g, so + 2, none⟩ = false := frozen_of_block b2
  have b3 := setCell_block (i := so + 2) v2 b2
  have c3 : (((w.setCell ⟨g, so, none⟩ v0).setCell ⟨g, so + 1, none⟩ v1).setCell ⟨g, so + 2, none⟩ v2).cell? ⟨g, so + 3, none⟩ = some u3 := cell_of_block b3 (by rw [Array.getElem?_setIfInBounds_ne (by omega), Array.getElem?_setIfInBounds_ne (by omega), Array.getElem?_setIfInBounds_ne (by omega)]; exact q3)
  have f3 : (((w.setCell ⟨g, so, none⟩ v0).setCell ⟨g, so + 1, none⟩ v1).setCell ⟨g, so + 2, none⟩ v2).frozen? ⟨g, so + 3, none⟩ = false := frozen_of_block b3
  have b4 := setCell_block (i := so + 3) v3 b3
  have c4 : ((((w.setCell ⟨g, so, none⟩ v0).setCell ⟨g, so + 1, none⟩ v1).setCell ⟨g, so + 2, none⟩ v2).setCell ⟨g, so + 3, none⟩ v3).cell? ⟨g, so + 4, none⟩ = some u4 := cell_of_block b4 (by rw [Array.getElem?_setIfInBounds_ne (by omega), Array.getElem?_setIfInBounds_ne (by omega), Array.getElem?_setIfInBounds_ne (by omega), Array.getElem?_setIfInBounds_ne (by omega)]; exact q4)
  have f4 : ((((w.setCell ⟨g, so, none⟩ v0).setCell ⟨g, so + 1, none⟩ v1).setCell ⟨g, so + 2, none⟩ v2).setCell ⟨g, so + 3, none⟩ v3).frozen? ⟨g, so + 4, none⟩ = false := frozen_of_block b4
  have b5 := setCell_block (i := so + 4) v4 b4
  have c5 : (((((w.setCell ⟨g, so, none⟩ v0).setCell ⟨g, so + 1, none⟩ v1).setCell ⟨g, so + 2, none⟩ v2).setCell ⟨g, so + 3, none⟩ v3).setCell ⟨g, so + 4, none⟩ v4).cell? ⟨g, so + 5, none⟩ = some u5 := cell_of_block b5 (by rw [Array.getElem?_setIfInBounds_ne (by omega), Array.getElem?_setIfInBounds_ne (by omega), Array.getElem?_setIfInBounds_ne (by omega), Array.getElem?_setIfInBounds_ne (by omega), Array.getElem?_setIfInBounds_ne (by omega)]; exact q5)
  have f5 : (((((w.setCell ⟨g, so, none⟩ v0).setCell ⟨g, so + 1, none⟩ v1).setCell ⟨g, so + 2, none⟩ v2).setCell ⟨g, so + 3, none⟩ v3).setCell ⟨g, so + 4, none⟩ v4).frozen? ⟨g, so + 5, none⟩ = false := frozen_of_block b5
  have b6 := setCell_block (i := so + 5) v5 b5
  have c6 : ((((((w.setCell ⟨g, so, none⟩ v0).setCell ⟨g, so + 1, none⟩ v1).setCell ⟨g, so + 2, none⟩ v2).setCell ⟨g, so + 3, none⟩ v3).setCell ⟨g, so + 4, none⟩ v4).setCell ⟨g, so + 5, none⟩ v5).cell? ⟨g, so + 6, none⟩ = some u6 := cell_of_block b6 (by rw [Array.getElem?_setIfInBounds_ne (by omega), Array.getElem?_setIfInBounds_ne (by omega), Array.getElem?_setIfInBounds_ne (by omega), Array.getElem?_setIfInBounds_ne (by omega), Array.getElem?_setIfInBounds_ne (by omega), Array.getElem?_setIfInBounds_ne (by omega)]; exact q6)
  have f6 : ((((((w.setCell ⟨g, so, none⟩ v0).setCell ⟨g, so + 1, none⟩ v1).setCell ⟨g, so + 2, none⟩ v2).setCell ⟨g, so + 3, none⟩ v3).setCell ⟨g, so + 4, none⟩ v4).setCell ⟨g, so + 5, none⟩ v5).frozen? ⟨g, so + 6, none⟩ = false := frozen_of_block b6
  have b7 := setCell_block (i := so + 6) v6 b6
  have c7 : (((((((w.setCell ⟨g, so, none⟩ v0).setCell ⟨g, so + 1, none⟩ v1).setCell ⟨g, so + 2, none⟩ v2).setCell ⟨g, so + 3, none⟩ v3).setCell ⟨g, so + 4, none⟩ v4).setCell ⟨g, so + 5, none⟩ v5).setCell ⟨g, so + 6, none⟩ v6).cell? ⟨g, so + 7, none⟩ = some u7 := cell_of_block b7 (by rw [Array.getElem?_setIfInBounds_ne (by omega), Array.getElem?_setIfInBounds_ne (by omega), Array.getElem?_setIfInBounds_ne (by omega), Array.getElem?_setIfInBounds_ne (by omega), Array.getElem?_setIfInBounds_ne (by omega), Array.getElem?_setIfInBounds_ne (by omega), Array.getElem?_setIfInBounds_ne (by omega)]; exact q7)
  have f7 : (((((((w.setCell ⟨g, so, none⟩ v0).setCell ⟨g, so + 1, none⟩ v1).setCell ⟨g, so + 2, none⟩ v2).setCell ⟨g, so + 3, none⟩ v3).setCell ⟨g, so + 4, none⟩ v4).setCell ⟨g, so + 5, none⟩ v5).setCell ⟨g, so + 6, none⟩ v6).frozen? ⟨g, so + 7, none⟩ = false := frozen_of_block b7
  have b8 := setCell_block (i := so + 7) v7 b7
  have c8 : ((((((((w.setCell ⟨g, so, none⟩ v0).setCell ⟨g, so + 1, none⟩ v1).setCell ⟨g, so + 2, none⟩ v2).setCell ⟨g, so + 3, none⟩ v3).setCell ⟨g, so + 4, none⟩ v4).setCell ⟨g, so + 5, none⟩ v5).setCell ⟨g, so + 6, none⟩ v6).setCell ⟨g, so + 7, none⟩ v7).cell? ⟨g, so + 8, none⟩ = some u8 := cell_of_block b8 (by rw [Array.getElem?_setIfInBounds_ne (by omega), Array.getElem?_setIfInBounds_ne (by omega), Array.getElem?_setIfInBounds_ne (by omega), Array.getElem?_setIfInBounds_ne (by omega), Array.getElem?_setIfInBounds_ne (by omega), Array.getElem?_setIfInBounds_ne (by omega), Array.getElem?_setIfInBounds_ne (by omega), Array.getElem?_setIfInBounds_ne (by omega)]; exact q8)
  have f8 : ((((((((w.setCell ⟨g, so, none⟩ v0).setCell ⟨g, so + 1, none⟩ v1).setCell ⟨g, so + 2, none⟩ v2).setCell ⟨g, so + 3, none⟩ v3).setCell ⟨g, so + 4, none⟩ v4).setCell ⟨g, so + 5, none⟩ v5).setCell ⟨g, so + 6, none⟩ v6).setCell ⟨g, so + 7, none⟩ v7).frozen? ⟨g, so + 8, none⟩ = false := frozen_of_block b8
  have b9 := setCell_block (i := so + 8) v8 b8
  have c9 : (((((((((w.setCell ⟨g, so, none⟩ v0).setCell ⟨g, so + 1, none⟩ v1).setCell ⟨g, so + 2, none⟩ v2).setCell ⟨g, so + 3, none⟩ v3).setCell ⟨g, so + 4, none⟩ v4).setCell ⟨g, so + 5, none⟩ v5).setCell ⟨g, so + 6, none⟩ v6).setCell ⟨g, so + 7, none⟩ v7).setCell ⟨g, so + 8, none⟩ v8).cell? ⟨g, so + 9, none⟩ = some u9 := cell_of_block b9 (by rw [Array.getElem?_setIfInBounds_ne (by omega), Array.getElem?_setIfInBounds_ne (by omega), Array.getElem?_setIfInBounds_ne (by omega), Array.getElem?_setIfInBounds_ne (by omega), Array.getElem?_setIfInBounds_ne (by omega), Array.getElem?_setIfInBounds_ne (by omega), Array.getElem?_setIfInBounds_ne (by omega), Array.getElem?_setIfInBounds_ne (by omega), Array.getElem?_setIfInBounds_ne (by omega)]; exact q9)
  have f9 : (((((((((w.setCell ⟨g, so, none⟩ v0).setCell ⟨g, so + 1, none⟩ v1).setCell ⟨g, so + 2, none⟩ v2).setCell ⟨g, so + 3, none⟩ v3).setCell ⟨g, so + 4, none⟩ v4).setCell ⟨g, so + 5, none⟩ v5).setCell ⟨g, so + 6, none⟩ v6).setCell ⟨g, so + 7, none⟩ v7).setCell ⟨g, so + 8, none⟩ v8).frozen? ⟨g, so + 9, none⟩ = false := frozen_of_block b9
  have b10 := setCell_block (i := so + 9) v9 b9
  have c10 : ((((((((((w.setCell ⟨g, so, none⟩ v0).setCell ⟨g, so + 1, none⟩ v1).setCell ⟨g, so + 2, none⟩ v2).setCell ⟨g, so + 3, none⟩ v3).setCell ⟨g, so + 4, none⟩ v4).setCell ⟨g, so + 5, none⟩ v5).setCell ⟨g, so + 6, none⟩ v6).setCell ⟨g, so + 7, none⟩ v7).setCell ⟨g, so + 8, none⟩ v8).setCell ⟨g, so + 9, none⟩ v9).cell? ⟨g, so + 10, none⟩ = some u10 := cell_of_block b10 (by rw [Array.getElem?_setIfInBounds_ne (by omega), Array.getElem?_setIfInBounds_ne (by omega), Array.getElem?_setIfInBounds_ne (by omega), Array.getElem?_setIfInBounds_ne (by omega), Array.getElem?_setIfInBounds_ne (by omega), Array.getElem?_setIfInBounds_ne (by omega), Array.getElem?_setIfInBounds_ne (by omega), Array.getElem?_setIfInBounds_ne (by omega), Array.getElem?_setIfInBounds_ne (by omega), Array.getElem?_setIfInBounds_ne (by omega)]; exact q10)
  have f10 : ((((((((((w.setCell ⟨g, so, none⟩ v0).setCell ⟨g, so + 1, none⟩ v1).setCell ⟨g, so + 2, none⟩ v2).setCell ⟨g, so + 3, none⟩ v3).setCell ⟨g, so + 4, none⟩ v4).setCell ⟨g, so + 5, none⟩ v5).setCell ⟨g, so + 6, none⟩ v6).setCell ⟨g, so + 7, none⟩ v7).setCell ⟨g, so + 8, none⟩ v8).setCell ⟨g, so + 9, none⟩ v9).frozen? ⟨g, so + 10, none⟩ = false := frozen_of_block b10
  exact ⟨c0, f0, c1, f1, c2, f2, c3, f3, c4, f4, c5, f5, c6, f6, c7, f7, c8, f8, c9, f9, c10, f10, rfl⟩

theorem noSlt_own (w : World) : sltR.own w [.bool false, .int .i64 0, .int .i64 0, .slice none 0 0, .slice none 0 0, .slice none 0 0, .int .i64 0, .int .i64 0, .int .i64 0, .int .i64 0, .slice none 0 0] noSlt [] := ⟨_, rfl, newObj_own w 0 0⟩
def dropH (hp : Hp) (i : Nat) : Hp := { hp with slots := hp.slots.set i noSlt, free := hp.free ++ [(i : Int)], live := hp.live - 1 }
set_option maxHeartbeats 3200000 in
set_option maxRecDepth 100000 in
theorem drop_any (w : World) (b : Nat) (hp : Hp) (F : List Nat) (h : Int) (i : Nat) (H : Here hpR w b 0 hp F) (hs : slotOf hp h = some i) (hi : -9223372036854775808 ≤ h ∧ h ≤ 9223372036854775807) (hfl : hp.free.length ≤ 100000) (hlv : 0 ≤ hp.live ∧ hp.live ≤ 1000000) :
    Calls Tryd.prog 29 #[.pointer (some ⟨b, 0, none⟩), .int .i64 h] w fun e w' => e = .returned (.bool true) ∧ Post hpR w b 0 (dropH hp i) F w' := by
  obtain ⟨hlt, -, hix⟩ := slotOf_lt hs
  obtain ⟨-, -, ⟨a, ca, c2⟩, -⟩ := hpCells H
  obtain ⟨g, off, rfl, -⟩ := hpSlot H c2 hlt
  have hf := find_any w b 0 hp F h _ H c2 hi
  rw [hs, rowPtr_some] at hf
  have HF := Lib.hid hf
  have HH := Lib.hid H
  have HC2 := Lib.hid c2
  have HFL := Lib.hid hfl
  have HLT := Lib.hid hlt
  have HLV := Lib.hid hlv
  have HIX := Lib.hid (fun W => (by have q := index_any hp.base hp.stride h W hi; rw [hix] at q; exact q : Calls Tryd.prog 46 #[.agg #[.int .i64 hp.base, .int .i64 hp.stride], .int .i64 h] W fun e w' => e = .returned (.int .i64 (i : Int)) ∧ Chg (fun _ => False) W w'))
  clear hf H c2 hfl hlt hs hi hix hlv
  go_enter Tryd.func29, Tryd.ntmps29
  go_upto_region 4 with (go_at_call 45; refine HF.out.mono ?_; rintro e wf ⟨rfl, hcf⟩)
  obtain ⟨g', off', e, G, hsl, -, -, -, -, hback⟩ := hpSlot (HH.out.still hcf) (hcf.cell HC2.out) HLT.out
  cases e
  obtain ⟨c, T, hbx, hown⟩ := hsl.box
  have hlen := sltR.len hown
  rw [show sltR.n = 11 from rfl, List.length_take, List.length_drop, Array.length_toList] at hlen
  have hget : ∀ k, k < 11 → c[off + i * 11 + k]? = some (c[off + i * 11 + k]?.getD undef) := fun k hk => by
    rw [Array.getElem?_eq_getElem (by omega)]; rfl
  obtain ⟨z0, y0, z1, y1, z2, y2, z3, y3, z4, y4, z5, y5, z6, y6, z7, y7, z8, y8, z9, y9, z10, y10, hw⟩ := store11 (so := off + i * 11) hbx (.bool false) (.int .i64 0) (.int .i64 0) (.slice none 0 0) (.slice none 0 0) (.slice none 0 0) (.int .i64 0) (.int .i64 0) (.int .i64 0) (.int .i64 0) (.slice none 0 0) ⟨hget 0 (by omega), hget 1 (by omega), hget 2 (by omega), hget 3 (by omega), hget 4 (by omega), hget 5 (by omega), hget 6 (by omega), hget 7 (by omega), hget 8 (by omega), hget 9 (by omega), hget 10 (by omega)⟩
  obtain ⟨HSP, SSP⟩ := hsl.putAll (Chg.refl _ _) (by show 0 < 11; decide) (noSlt_own wf) List.nodup_nil (fun k hk => by cases hk)
  obtain ⟨hpost, -⟩ := hback _ _ _ HSP SSP
  have HP1 := Lib.hid (Post.pre hcf hpost)
  clear hback HSP SSP hsl hown hbx hlen hget HF hpost
  go_upto_region 5 with fail
  clear hw z0 y0 z1 y1 z2 y2 z3 y3 z4 y4 z5 y5 z6 y6 z7 y7 z8 y8 z9 y9 z10 y10
  generalize wf.setCells g (off + i * 11) [.bool false, .int .i64 0, .int .i64 0, .slice none 0 0, .slice none 0 0, .slice none 0 0, .int .i64 0, .int .i64 0, .int .i64 0, .int .i64 0, .slice none 0 0] = W3 at *
  obtain ⟨F1, HH1, S1⟩ := HP1.out
  have HS1 := Lib.hid S1
  obtain ⟨p, cap, xs, Fs, Fr, c0, hopen, fz, hst, hbk⟩ := HH1.fieldAppending hpR_free (by show 0 < 8; decide)
  obtain ⟨b0, b1, -⟩ := hpCells HH1
  rw [Nat.zero_add] at c0 fz b1
  simp only [Nat.zero_add] at hst hbk
  have hfx : xs.flatten = hp.free.flatMap fun i : Int => [Value.int .i64 i] := (each_flat (n := 1) (f := fun i : Int => [Value.int .i64 i]) (hf := fun _ => rfl) hopen.each).1
  have hrw := hopen.row
  rw [hfx] at hrw
  have HRW := Lib.hid hrw
  have HFX := Lib.hid hfx
  have HST := Lib.hid hst
  have HBA := Lib.hid hbk
  have HN1 : Hid (¬ (Value.slice p hp.free.length cap).ownBlock = some b) := Lib.hid (fun hj => HH1.nb (HH1.ownIn2 hpR_free (by show 0 < 8; decide) (by rw [Nat.zero_add]; exact c0) hj))
  have HS0 : Hid (W3.cell? ⟨b, 3, none⟩ = some (.slice p hp.free.length cap) ∧ W3.cell? ⟨b, 0, none⟩ = some (.int .i64 hp.base) ∧ W3.cell? ⟨b, 1, none⟩ = some (.int .i64 hp.stride)) := Lib.hid ⟨c0, b0, b1⟩
  clear HP1 HH1 S1 c0 b0 b1 hst hbk hfx hrw hopen HH HC2 HLT hcf
  refine wp_region_held_split 15 (fun w' => w'.cell? ⟨b, 3, none⟩ = some (.slice p hp.free.length cap) ∧ w'.cell? ⟨b, 0, none⟩ = some (.int .i64 hp.base) ∧ w'.cell? ⟨b, 1, none⟩ = some (.int .i64 hp.stride)) (by kernel_rfl) (by kernel_rfl) ?_ (fun hHeld => ?_)
  · (first | exact HS0.out | exact HKS.out _ (Chg.refl _ _) | exact HKS.out _ HCD.out | exact HKS.out _ (HCD.out.allocR _) | exact ⟨cc2, hchg2.cellS (HKS.out _ (HCD.out.allocR _)).2.1 HN1.out, hchg2.cellS (HKS.out _ (HCD.out.allocR _)).2.2 HN1.out⟩)
  simp only [List.take_succ_cons, List.take_zero]
  have HKS : Hid (∀ W, Chg (fun _ => False) W3.drew W → W.cell? ⟨b, 3, none⟩ = some (.slice p hp.free.length cap) ∧ W.cell? ⟨b, 0, none⟩ = some (.int .i64 hp.base) ∧ W.cell? ⟨b, 1, none⟩ = some (.int .i64 hp.stride)) := Lib.hid (fun W hc => ⟨hc.cell HS0.out.1, hc.cell HS0.out.2.1, hc.cell HS0.out.2.2⟩)
  have HRA : Hid (∀ W, Chg (fun _ => False) W3.drew W → RowAt W 3 1 (.slice p hp.free.length cap) hp.free.length (hp.free.flatMap fun i : Int => [Value.int .i64 i])) := Lib.hid (fun W hc => HRW.out.drew.chg hc (fun _ _ x => x))
  have HWD : Hid (Chg (fun _ => False) W3 W3.drew) := Lib.hid (Chg.refl _ W3).drewR
  generalize W3.drew = wD at *
  refine wpAnyH_take (i := 0) (v := ?_) rfl (by kernel_rfl) (by kernel_rfl) (by kernel_rfl) (fun _ _ _ h => h) (Or.inl ⟨by rfl, ?_⟩) (by assumption) ?_
  rotate_left
  · (intro wq hSw; (try dsimp only at hSw); go_simp; (try with_reducible rfl))
  simp only [Act.put, List.getElem_toArray, List.getElem_cons_zero, List.getElem_cons_succ, List.setIfInBounds_toArray, List.set_cons_zero, List.set_cons_succ]
  refine wpAnyH_take (i := 1) (v := ?_) rfl (by kernel_rfl) (by kernel_rfl) (by kernel_rfl) (fun _ _ _ h => h) (Or.inl ⟨by rfl, ?_⟩) (by assumption) ?_
  rotate_left
  · (intro wq hSw; (try dsimp only at hSw); go_simp; (try with_reducible rfl))
  simp only [Act.put, List.getElem_toArray, List.getElem_cons_zero, List.getElem_cons_succ, List.setIfInBounds_toArray, List.set_cons_zero, List.set_cons_succ]
  refine wpAnyH_take (i := 2) (v := ?_) rfl (by kernel_rfl) (by kernel_rfl) (by kernel_rfl) (fun _ _ _ h => h) (Or.inl ⟨by rfl, ?_⟩) (by assumption) ?_
  rotate_left
  · (intro wq hSw; (try dsimp only at hSw); go_simp; (try with_reducible rfl))
  simp only [Act.put, List.getElem_toArray, List.getElem_cons_zero, List.getElem_cons_succ, List.setIfInBounds_toArray, List.set_cons_zero, List.set_cons_succ]
  refine wpAnyH_take (i := 3) (v := ?_) rfl (by kernel_rfl) (by kernel_rfl) (by kernel_rfl) (fun _ _ _ h => h) (Or.inl ⟨by rfl, ?_⟩) (by assumption) ?_
  rotate_left
  · (intro wq hSw; (try dsimp only at hSw); go_simp; (try with_reducible rfl))
  simp only [Act.put, List.getElem_toArray, List.getElem_cons_zero, List.getElem_cons_succ, List.setIfInBounds_toArray, List.set_cons_zero, List.set_cons_succ]
  refine wpAnyH_take (i := 4) (v := ?_) rfl (by kernel_rfl) (by kernel_rfl) (by kernel_rfl) (fun _ _ _ h => h) (Or.inl ⟨by rfl, ?_⟩) (by assumption) ?_
  rotate_left
  · (intro wq hSw; (try dsimp only at hSw); go_simp; (try with_reducible rfl))
  simp only [Act.put, List.getElem_toArray, List.getElem_cons_zero, List.getElem_cons_succ, List.setIfInBounds_toArray, List.set_cons_zero, List.set_cons_succ]
  refine wpAnyH_take (i := 5) (v := ?_) rfl (by kernel_rfl) (by kernel_rfl) (by kernel_rfl) (fun _ _ _ h => h) (Or.inl ⟨by rfl, ?_⟩) (by assumption) ?_
  rotate_left
  · (intro wq hSw; (try dsimp only at hSw); go_simp; (try with_reducible rfl))
  simp only [Act.put, List.getElem_toArray, List.getElem_cons_zero, List.getElem_cons_succ, List.setIfInBounds_toArray, List.set_cons_zero, List.set_cons_succ]
  refine wpAnyH_take (i := 6) (v := ?_) rfl (by kernel_rfl) (by kernel_rfl) (by kernel_rfl) (fun _ _ _ h => h) (Or.inl ⟨by rfl, ?_⟩) (by assumption) ?_
  rotate_left
  · (intro wq hSw; (try dsimp only at hSw); go_simp; (try with_reducible rfl))
  simp only [Act.put, List.getElem_toArray, List.getElem_cons_zero, List.getElem_cons_succ, List.setIfInBounds_toArray, List.set_cons_zero, List.set_cons_succ]
  refine wpAnyH_take (i := 7) (v := ?_) rfl (by kernel_rfl) (by kernel_rfl) (by kernel_rfl) (fun _ _ _ h => h) (Or.inl ⟨by rfl, ?_⟩) (by assumption) ?_
  rotate_left
  · (intro wq hSw; (try dsimp only at hSw); go_simp; (try with_reducible rfl))
  simp only [Act.put, List.getElem_toArray, List.getElem_cons_zero, List.getElem_cons_succ, List.setIfInBounds_toArray, List.set_cons_zero, List.set_cons_succ]
  refine wpAnyH_take (i := 8) (v := ?_) rfl (by kernel_rfl) (by kernel_rfl) (by kernel_rfl) (fun _ _ _ h => h) (Or.inl ⟨by rfl, ?_⟩) (by assumption) ?_
  rotate_left
  · (intro wq hSw; (try dsimp only at hSw); go_simp; (try with_reducible rfl))
  simp only [Act.put, List.getElem_toArray, List.getElem_cons_zero, List.getElem_cons_succ, List.setIfInBounds_toArray, List.set_cons_zero, List.set_cons_succ]
  refine wpAnyH_take (i := 9) (v := ?_) rfl (by kernel_rfl) (by kernel_rfl) (by kernel_rfl) (fun _ _ _ h => h) (Or.inl ⟨by rfl, ?_⟩) (by assumption) ?_
  rotate_left
  · (intro wq hSw; (try dsimp only at hSw); go_simp; (try with_reducible rfl))
  simp only [Act.put, List.getElem_toArray, List.getElem_cons_zero, List.getElem_cons_succ, List.setIfInBounds_toArray, List.set_cons_zero, List.set_cons_succ]
  refine wpAnyH_ready (rs := [10]) (by kernel_rfl) (by simp) ?_
  refine AllReadyH.cons (by simp only [List.getElem?_toArray, List.getElem?_cons_succ, List.getElem?_cons_zero]; rfl) (fun K hK => ?_) AllReadyH.nil
  (first
    | (go_simp; go_at_call 46; refine (HIX.out _).mono ?_; rintro _ wd ⟨rfl, hcd⟩; have HCD := Lib.hid hcd; clear hcd; go_simp)
    | (refine step_append_rows (by rfl) _ _ 27 (by rfl) 3 1 8 Tryd.underlying27 elem_int (by decide) _ hp.free.length _ (by rfl) (HRA.out _ (HCD.out.allocR (.cells #[.int .i64 (i : Int)] 3))) _ 1 [.int .i64 (i : Int)] (by rfl) (RowAt.lit [.int .i64 (i : Int)] rfl (by simp [maxLen])) (by intro u hu; rw [List.mem_singleton.1 hu]; rfl) (by have := HFL.out; unfold maxLen; omega) (by have := HFL.out; omega) ?_; intro a2 n2 cp2 w2 hrow2 hchg2 hold2; have cc2 := (HST.out _ _ (HWD.out.trans' (HCD.out.allocR (.cells #[.int .i64 (i : Int)] 3))) hchg2).1; have f2 := (HST.out _ _ (HWD.out.trans' (HCD.out.allocR (.cells #[.int .i64 (i : Int)] 3))) hchg2).2))
  refine hK.out _ _ ?_ (fun hHeld => ?_)
  · (first | exact HS0.out | exact HKS.out _ (Chg.refl _ _) | exact HKS.out _ HCD.out | exact HKS.out _ (HCD.out.allocR _) | exact ⟨cc2, hchg2.cellS (HKS.out _ (HCD.out.allocR _)).2.1 HN1.out, hchg2.cellS (HKS.out _ (HCD.out.allocR _)).2.2 HN1.out⟩)
  clear hK K
  (try simp only [Act.put, List.getElem_toArray, List.getElem_cons_zero, List.getElem_cons_succ, List.setIfInBounds_toArray, List.set_cons_zero, List.set_cons_succ])
  refine wpAnyH_ready (rs := [11]) (by kernel_rfl) (by simp) ?_
  refine AllReadyH.cons (by simp only [List.getElem?_toArray, List.getElem?_cons_succ, List.getElem?_cons_zero]; rfl) (fun K hK => ?_) AllReadyH.nil
  go_simp
  refine hK.out _ _ ?_ (fun hHeld => ?_)
  · (first | exact HS0.out | exact HKS.out _ (Chg.refl _ _) | exact HKS.out _ HCD.out | exact HKS.out _ (HCD.out.allocR _) | exact ⟨cc2, hchg2.cellS (HKS.out _ (HCD.out.allocR _)).2.1 HN1.out, hchg2.cellS (HKS.out _ (HCD.out.allocR _)).2.2 HN1.out⟩)
  clear hK K
  (try simp only [Act.put, List.getElem_toArray, List.getElem_cons_zero, List.getElem_cons_succ, List.setIfInBounds_toArray, List.set_cons_zero, List.set_cons_succ])
  refine wpAnyH_ready (rs := [12]) (by kernel_rfl) (by simp) ?_
  refine AllReadyH.cons (by simp only [List.getElem?_toArray, List.getElem?_cons_succ, List.getElem?_cons_zero]; rfl) (fun K hK => ?_) AllReadyH.nil
  (first
    | (go_simp; go_at_call 46; refine (HIX.out _).mono ?_; rintro _ wd ⟨rfl, hcd⟩; have HCD := Lib.hid hcd; clear hcd; go_simp)
    | (refine step_append_rows (by rfl) _ _ 27 (by rfl) 3 1 8 Tryd.underlying27 elem_int (by decide) _ hp.free.length _ (by rfl) (HRA.out _ (HCD.out.allocR (.cells #[.int .i64 (i : Int)] 3))) _ 1 [.int .i64 (i : Int)] (by rfl) (RowAt.lit [.int .i64 (i : Int)] rfl (by simp [maxLen])) (by intro u hu; rw [List.mem_singleton.1 hu]; rfl) (by have := HFL.out; unfold maxLen; omega) (by have := HFL.out; omega) ?_; intro a2 n2 cp2 w2 hrow2 hchg2 hold2; have cc2 := (HST.out _ _ (HWD.out.trans' (HCD.out.allocR (.cells #[.int .i64 (i : Int)] 3))) hchg2).1; have f2 := (HST.out _ _ (HWD.out.trans' (HCD.out.allocR (.cells #[.int .i64 (i : Int)] 3))) hchg2).2))
  refine hK.out _ _ ?_ (fun hHeld => ?_)
  · (first | exact HS0.out | exact HKS.out _ (Chg.refl _ _) | exact HKS.out _ HCD.out | exact HKS.out _ (HCD.out.allocR _) | exact ⟨cc2, hchg2.cellS (HKS.out _ (HCD.out.allocR _)).2.1 HN1.out, hchg2.cellS (HKS.out _ (HCD.out.allocR _)).2.2 HN1.out⟩)
  clear hK K
  (try simp only [Act.put, List.getElem_toArray, List.getElem_cons_zero, List.getElem_cons_succ, List.setIfInBounds_toArray, List.set_cons_zero, List.set_cons_succ])
  refine wpAnyH_take (i := 13) (v := ?_) rfl (by kernel_rfl) (by kernel_rfl) (by kernel_rfl) (fun _ _ _ h => h) (Or.inl ⟨by rfl, ?_⟩) (by assumption) ?_
  rotate_left
  · (intro wq hSw; (try dsimp only at hSw); go_simp; (try with_reducible rfl))
  simp only [Act.put, List.getElem_toArray, List.getElem_cons_zero, List.getElem_cons_succ, List.setIfInBounds_toArray, List.set_cons_zero, List.set_cons_succ]
  refine wpAnyH_take (i := 14) (v := ?_) rfl (by kernel_rfl) (by kernel_rfl) (by kernel_rfl) (fun _ _ _ h => h) (Or.inl ⟨by rfl, ?_⟩) (by assumption) ?_
  rotate_left
  · (intro wq hSw; (try dsimp only at hSw); go_simp; (try with_reducible rfl))
  simp only [Act.put, List.getElem_toArray, List.getElem_cons_zero, List.getElem_cons_succ, List.setIfInBounds_toArray, List.set_cons_zero, List.set_cons_succ]
  refine wpAnyH_done (by kernel_rfl) ?_ _
  change wpList _ _ _ _ _ _
  simp only [List.drop_succ_cons, List.drop_zero]
  have P9 := HBA.out _ _ [.int .i64 (i : Int)] (i : Int) [] _ (HWD.out.trans' (HCD.out.allocR (.cells #[.int .i64 (i : Int)] 3))) ⟨rfl, rfl⟩ (by simp) (by simp) (by rw [HFX.out]; exact hrow2) hchg2 hold2
  have HP9 := Lib.hid P9
  clear P9 hrow2 hchg2 hold2
  go_upto_region 6 with fail
  generalize w2.setCell ⟨b, 3, none⟩ (.slice a2 n2 cp2) = W4 at *
  obtain ⟨F2, HH2, S2⟩ := HP9.out
  obtain ⟨-, -, -, -, c4, -⟩ := hpCells HH2
  rw [Nat.zero_add] at c4
  have f4 := HH2.frozen 4
  have w64 : IntKind.i64.wrap (hp.live - 1) = hp.live - 1 := IntWalk.i64_in _ (by have := HLV.out; omega)
  have P10 := HH2.setPost hpR_live (y := hp.live - 1) (v := .int .i64 (hp.live - 1)) rfl
  rw [Nat.zero_add] at P10
  have HP10 := Lib.hid P10
  have HS2 := Lib.hid S2
  clear HH2 P10 S2 HP9 cc2 f2 HS0 HKS HRA
  go_wp2_with fail
  go_ret
  obtain ⟨F3, HH3, S3⟩ := HP10.out
  exact ⟨rfl, F3, HH3, (HS1.out.trans HS2.out).trans S3⟩
end Go.Proofs.YthiiehanlconeaaDoor
namespace Go.Proofs.YthiiehanlconeaaDoor
open Go.RowKit
set_option linter.unusedVariables false
set_option linter.unusedSimpArgs false

theorem sd_get {α : Type} {l : List α} {i : Nat} (hi : i < l.length) (x d : α) (j : Nat) : (l.set i x).getD j d = if i = j then x else l.getD j d := by
  rw [List.getD_eq_getElem?_getD, List.getElem?_set]
  by_cases e : i = j
  · rw [if_pos e, if_pos e, if_pos hi]; rfl
  · rw [if_neg e, if_neg e, List.getD_eq_getElem?_getD]
theorem sd_out {α : Type} {l : List α} {i : Nat} (hi : ¬ i < l.length) (x d : α) (j : Nat) : (l.set i x).getD j d = l.getD j d := by
  rw [List.set_eq_of_length_le (by omega)]
def dropIf (Lv : List Nat) (hp : Hp) (i : Nat) : Hp := if (hp.slots.getD i noSlt).used = true ∧ i ∉ Lv then dropH hp i else hp
def dropN (hp : Hp) (Lv : List Nat) (k : Nat) : Hp := (List.range k).foldl (dropIf Lv) hp
def cntN (hp : Hp) (Lv : List Nat) : Nat → Nat
  | 0 => 0
  | k + 1 => cntN hp Lv k + if (hp.slots.getD k noSlt).used = true ∧ k ∉ Lv then 1 else 0
def restM (hs : Int → Bool) (d : List Val) : List Val := (pairsM d).flatMap fun p => if p.1.kind = 5 ∧ hs p.1.ref = true then [p.1, p.2] else []
def weakD (Lv : List Nat) (hp : Hp) (i : Nat) : Hp := if (hp.slots.getD i noSlt).obj.kind = 5 then putO hp i { (hp.slots.getD i noSlt).obj with data := restM (hasK hp Lv) (hp.slots.getD i noSlt).obj.data } else hp
def weakN (Lv : List Nat) (hp : Hp) (K : List Nat) : Hp := K.foldl (weakD Lv) hp
def sweepM (hp : Hp) (Lv : List Nat) : Hp := weakN Lv (dropN hp Lv hp.slots.length) Lv
theorem dropN_succ (hp : Hp) (Lv : List Nat) (k : Nat) : dropN hp Lv (k + 1) = dropIf Lv (dropN hp Lv k) k := by unfold dropN; rw [List.range_succ, List.foldl_append]; rfl
theorem cntN_succ (hp : Hp) (Lv : List Nat) (k : Nat) : cntN hp Lv (k + 1) = cntN hp Lv k + if (hp.slots.getD k noSlt).used = true ∧ k ∉ Lv then 1 else 0 := rfl
theorem cntN_le (hp : Hp) (Lv : List Nat) : ∀ k, cntN hp Lv k ≤ k
  | 0 => Nat.le_refl _
  | k + 1 => by have := cntN_le hp Lv k; rw [cntN_succ]; split <;> omega
structure DropOk (hp : Hp) (Lv : List Nat) (k : Nat) (h : Hp) : Prop where
  base : h.base = hp.base
  stride : h.stride = hp.stride
  len : h.slots.length = hp.slots.length
  same : ∀ i, k ≤ i ∨ i ∈ Lv → h.slots.getD i noSlt = hp.slots.getD i noSlt
  gone : ∀ i, i < k → i < hp.slots.length → i ∉ Lv → (h.slots.getD i noSlt).used = false
  zero : ∀ i, i < k → i < hp.slots.length → i ∉ Lv → (hp.slots.getD i noSlt).used = true → h.slots.getD i noSlt = noSlt
  free : h.free.length = hp.free.length + cntN hp Lv k
  live : h.live = hp.live - (cntN hp Lv k : Int)
  glob : h.global = hp.global
  text : h.texts = hp.texts
  prot : h.protos = hp.protos
theorem dropN_ok (hp : Hp) (Lv : List Nat) : ∀ k, k ≤ hp.slots.length → DropOk hp Lv k (dropN hp Lv k)
  | 0, _ => ⟨rfl, rfl, rfl, fun _ _ => rfl, fun i h => by omega, fun i h => by omega, rfl, by simp [dropN, cntN], rfl, rfl, rfl⟩
  | k + 1, hk => by
    have ih := dropN_ok hp Lv k (by omega)
    rw [dropN_succ]
    unfold dropIf
    have hs := ih.same k (.inl (Nat.le_refl _))
    rw [hs]
    by_cases c : (hp.slots.getD k noSlt).used = true ∧ k ∉ Lv
    · rw [if_pos c]
      have hkl : k < (dropN hp Lv k).slots.length := by rw [ih.len]; omega
      refine ⟨ih.base, ih.stride, ?_, fun i hi => ?_, fun i hi hl hn => ?_, fun i hi hl hn hu => ?_, ?_, ?_, ih.glob, ih.text, ih.prot⟩
      · show ((dropN hp Lv k).slots.set k noSlt).length = _
        rw [List.length_set]; exact ih.len
      · show ((dropN hp Lv k).slots.set k noSlt).getD i noSlt = _
        rw [sd_get hkl, if_neg (fun e => hi.elim (fun x => by omega) (fun x => c.2 (by rw [e]; exact x)))]
        exact ih.same i (hi.imp (by omega) id)
      · show (((dropN hp Lv k).slots.set k noSlt).getD i noSlt).used = false
        rw [sd_get hkl]
        by_cases e : k = i
        · rw [if_pos e]; rfl
        · rw [if_neg e]; exact ih.gone i (by omega) hl hn
      · show ((dropN hp Lv k).slots.set k noSlt).getD i noSlt = _
        rw [sd_get hkl]
        by_cases e : k = i
        · rw [if_pos e]
        · rw [if_neg e]; exact ih.zero i (by omega) hl hn hu
      · show ((dropN hp Lv k).free ++ [(k : Int)]).length = _
        rw [List.length_append, ih.free, cntN_succ, if_pos c]; simp; omega
      · show (dropN hp Lv k).live - 1 = _
        rw [ih.live, cntN_succ, if_pos c]; omega
    · rw [if_neg c]
      refine ⟨ih.base, ih.stride, ih.len, fun i hi => ih.same i (hi.imp (by omega) id), fun i hi hl hn => ?_, fun i hi hl hn hu => ?_, by rw [ih.free, cntN_succ, if_neg c]; omega, by rw [ih.live, cntN_succ, if_neg c]; omega, ih.glob, ih.text, ih.prot⟩
      by_cases e : i = k
      · subst e
        rw [hs]
        cases hu : (hp.slots.getD i noSlt).used with
        | false => rfl
        | true => exact absurd ⟨hu, hn⟩ c
      · exact ih.gone i (by omega) hl hn
      by_cases e : i = k
      · subst e
        exact absurd ⟨hu, hn⟩ c
      · exact ih.zero i (by omega) hl hn hu
theorem putO_getD (hp : Hp) (i : Nat) (o : Obj) (j : Nat) : (putO hp i o).slots.getD j noSlt = if i = j ∧ i < hp.slots.length then { hp.slots.getD i noSlt with obj := o } else hp.slots.getD j noSlt := by
  show (hp.slots.set i _).getD j noSlt = _
  by_cases h : i < hp.slots.length
  · rw [sd_get h]
    by_cases e : i = j
    · rw [if_pos e, if_pos ⟨e, h⟩]
    · rw [if_neg e, if_neg (fun x => e x.1)]
  · rw [sd_out h, if_neg (fun x => h x.2)]
structure WeakOk (h : Hp) (Lv K : List Nat) (h' : Hp) : Prop where
  base : h'.base = h.base
  stride : h'.stride = h.stride
  len : h'.slots.length = h.slots.length
  used : ∀ i, (h'.slots.getD i noSlt).used = (h.slots.getD i noSlt).used
  same : ∀ i, i ∉ K → h'.slots.getD i noSlt = h.slots.getD i noSlt
  free : h'.free = h.free
  live : h'.live = h.live
  glob : h'.global = h.global
  text : h'.texts = h.texts
  prot : h'.protos = h.protos
theorem weakD_ok (Lv : List Nat) (h : Hp) (i : Nat) : WeakOk h Lv [i] (weakD Lv h i) := by
  unfold weakD
  split
  · refine ⟨rfl, rfl, by show (h.slots.set i _).length = _; rw [List.length_set], fun j => ?_, fun j hj => ?_, rfl, rfl, rfl, rfl, rfl⟩
    · rw [putO_getD]; split
      · rename_i e; rw [← e.1]
      · rfl
    · rw [putO_getD, if_neg (fun x => hj (by rw [x.1]; simp))]
  · exact ⟨rfl, rfl, rfl, fun _ => rfl, fun _ _ => rfl, rfl, rfl, rfl, rfl, rfl⟩
theorem WeakOk.trans {h h1 h2 : Hp} {Lv K K2 : List Nat} (a : WeakOk h Lv K h1) (b : WeakOk h1 Lv K2 h2) : WeakOk h Lv (K ++ K2) h2 :=
  ⟨b.base.trans a.base, b.stride.trans a.stride, b.len.trans a.len, fun i => (b.used i).trans (a.used i), fun i hi => (b.same i (fun x => hi (by simp [x]))).trans (a.same i (fun x => hi (by simp [x]))), b.free.trans a.free, b.live.trans a.live, b.glob.trans a.glob, b.text.trans a.text, b.prot.trans a.prot⟩
theorem weakN_ok (Lv : List Nat) : ∀ (K : List Nat) (h : Hp), WeakOk h Lv K (weakN Lv h K)
  | [], h => ⟨rfl, rfl, rfl, fun _ => rfl, fun _ _ => rfl, rfl, rfl, rfl, rfl, rfl⟩
  | i :: K, h => by
    have h1 := weakD_ok Lv h i
    have h2 := weakN_ok Lv K (weakD Lv h i)
    exact h1.trans h2
theorem weakN_take {Lv : List Nat} {h : Hp} {K : List Nat} {k : Nat} (hk : k < K.length) : weakN Lv h (K.take (k + 1)) = weakD Lv (weakN Lv h (K.take k)) K[k] := by
  unfold weakN
  rw [List.take_succ_eq_append_getElem hk, List.foldl_append]; rfl
theorem slotOf_eq {h h' : Hp} (e1 : h'.base = h.base) (e2 : h'.stride = h.stride) (e3 : h'.slots.length = h.slots.length) (e4 : ∀ i, (h'.slots.getD i noSlt).used = (h.slots.getD i noSlt).used) (x : Int) : slotOf h' x = slotOf h x := by
  unfold slotOf; rw [e1, e2, e3, e4]
theorem hasK_eq {h h' : Hp} (e1 : h'.base = h.base) (e2 : h'.stride = h.stride) (e3 : h'.slots.length = h.slots.length) (e4 : ∀ i, (h'.slots.getD i noSlt).used = (h.slots.getD i noSlt).used) (K : List Nat) : hasK h' K = hasK h K := by
  funext x; unfold hasK; rw [slotOf_eq e1 e2 e3 e4]
theorem mkOf_eq {h h' : Hp} (e1 : h'.base = h.base) (e2 : h'.stride = h.stride) (e3 : h'.slots.length = h.slots.length) (bh : Nat) (K : List Nat) : mkOf bh h' K = mkOf bh h K := by unfold mkOf; rw [e1, e2, e3]
theorem rest_take {hs : Int → Bool} {d : List Val} {q : Nat} (h : q < d.length / 2) :
    ((pairsM d).take (q + 1)).flatMap (fun p => if p.1.kind = 5 ∧ hs p.1.ref = true then [p.1, p.2] else []) = ((pairsM d).take q).flatMap (fun p => if p.1.kind = 5 ∧ hs p.1.ref = true then [p.1, p.2] else []) ++ (if (d.getD (2 * q) noVal).kind = 5 ∧ hs (d.getD (2 * q) noVal).ref = true then [d.getD (2 * q) noVal, d.getD (2 * q + 1) noVal] else []) := by
  rw [pairs_take h, List.flatMap_append]; simp
theorem rest_len {hs : Int → Bool} : ∀ l : List (Val × Val), (l.flatMap (fun p => if p.1.kind = 5 ∧ hs p.1.ref = true then [p.1, p.2] else [])).length ≤ 2 * l.length
  | [] => by simp
  | a :: l => by
    have := rest_len (hs := hs) l
    have h2 : (if a.1.kind = 5 ∧ hs a.1.ref = true then [a.1, a.2] else []).length ≤ 2 := by split <;> simp
    rw [List.flatMap_cons, List.length_append, List.length_cons]
    omega
/-- A list of values made behind w0. -/
structure VOut (w0 W : World) (v : Value) (l : List Val) : Prop where
  row : RowAt W 38 4 v l.length (l.flatMap Val.cells)
  lo : ∀ k, v.ownBlock = some k → w0.heap.size ≤ k
  chg : Chg (fun _ => False) w0 W
theorem VOut.still {w0 W W' : World} {v : Value} {l : List Val} (h : VOut w0 W v l) (hc : Chg (fun _ => False) W W') : VOut w0 W' v l := ⟨h.row.chg hc (fun _ _ x => x), h.lo, h.chg.trans' hc⟩
theorem VOut.nil (w : World) : VOut w w (.slice none 0 0) [] := ⟨RowAt.nil _ _ _, (fun k hk => by simp [Value.ownBlock] at hk), Chg.refl _ _⟩
/-- An object of a heap, and what a change of it makes of the whole. -/
theorem hpPut {W : World} {b : Nat} {hp : Hp} {F : List Nat} (H : Here hpR W b 0 hp F) {i : Nat} (hi : i < hp.slots.length) : ∃ g off cap, W.cell? ⟨b, 2, none⟩ = some (.slice (some ⟨g, off, none⟩) hp.slots.length cap) ∧
    ∃ G, Here objR W g (off + i * 11 + 1) hp.slots[i].obj G ∧ (∀ k ∈ G, k ∈ F) ∧ ∀ W' y, Post objR W g (off + i * 11 + 1) y G W' → Post hpR W b 0 (putO hp i y) F W' := by
  obtain ⟨-, -, ⟨a, cap, c2⟩, -⟩ := hpCells H
  obtain ⟨g, off, rfl, G0, h1, -, -, -, hin, hback⟩ := hpSlot H c2 hi
  obtain ⟨G, h2, h4, h3⟩ := h1.field sltR_obj (by show 0 < 11; decide)
  rw [Nat.zero_add] at c2
  refine ⟨g, off, cap, c2, G, h2, fun k hk => hin k (h4 k hk), fun W' y hp1 => ?_⟩
  obtain ⟨G', k1, k2⟩ := hp1
  obtain ⟨F2, m1, m2⟩ := h3 W' y G' k1 k2
  have hpost := (hback W' _ F2 m1 m2).1
  have e : { hp with slots := hp.slots.set i { hp.slots[i] with obj := y } } = putO hp i y := by
    unfold putO
    rw [List.getD_eq_getElem?_getD, List.getElem?_eq_getElem hi]
    rfl
  rw [e] at hpost
  exact hpost
end Go.Proofs.YthiiehanlconeaaDoor
namespace Go.Proofs.YthiiehanlconeaaDoor
open Go.RowKit
set_option linter.unusedVariables false
set_option linter.unusedSimpArgs false

/-- Where the property with a key is, from place k on. -/
def findP (key : ByteArray) : List Prp → Nat → Option Nat
  | [], _ => none
  | s :: l, k => if (s.key.toList == key.toList) = true then some k else findP key l (k + 1)
def idxP : Option Nat → Int
  | none => -1
  | some i => (i : Int)
theorem findP_some (key : ByteArray) : ∀ (l : List Prp) (k i : Nat), findP key l k = some i → k ≤ i ∧ ∃ h : i - k < l.length, (l[i - k].key.toList == key.toList) = true
  | [], _, _, h => by simp [findP] at h
  | s :: l, k, i, h => by
    rw [findP] at h
    split at h
    · rename_i hq
      simp at h; subst h
      exact ⟨Nat.le_refl _, by simp, by simpa using hq⟩
    · obtain ⟨h1, h2, h3⟩ := findP_some key l (k + 1) i h
      refine ⟨by omega, by simp only [List.length_cons]; omega, ?_⟩
      have e : i - k = (i - (k + 1)) + 1 := by omega
      simp only [e, List.getElem_cons_succ]
      exact h3
theorem findP_lt {key : ByteArray} {l : List Prp} {i : Nat} (h : findP key l 0 = some i) : i < l.length := by
  obtain ⟨-, h2, -⟩ := findP_some key l 0 i h
  omega
set_option maxHeartbeats 400000 in
set_option maxRecDepth 100000 in
theorem propIs_any (s : Prp) (key : ByteArray) (pb : Nat) (w : World) (hp : w.cell? ⟨pb, 0, none⟩ = some (.string key)) :
    Calls Tryd.prog 44 #[.agg s.cells.toArray, .pointer (some ⟨pb, 0, none⟩)] w fun e w' => e = .returned (.bool (s.key.toList == key.toList)) ∧ Chg (fun _ => False) w w' := by
  have hlt := World.block_lt_of_cell? w _ hp
  unfold Prp.cells
  go_enter Tryd.func44, Tryd.ntmps44
  go_wp2_with fail
  go_ret
  exact ⟨rfl, Chg.alloc _ _ _⟩
set_option maxHeartbeats 1600000 in
set_option maxRecDepth 100000 in
theorem indexFuncP_any (l : List Prp) (key : ByteArray) (pb : Nat) (v : Value) (w : World) (hp : w.cell? ⟨pb, 0, none⟩ = some (.string key)) (hr : RowAt w 81 5 v l.length (l.flatMap Prp.cells)) :
    Calls Tryd.prog 43 #[v, .func (.func 44) #[] #[.pointer (some ⟨pb, 0, none⟩)]] w fun e w' => e = .returned (.int .i64 (idxP (findP key l 0))) ∧ Chg (fun _ => False) w w' := by
  obtain ⟨a, cap, rfl, hc1, hc2⟩ := hr.slice
  have HR := Lib.hid hr
  clear hr
  go_enter Tryd.func43, Tryd.ntmps43
  go_wp2_with fail
  go_loopw [5, 8] (fun _ i wr => ∃ k : Nat, k ≤ l.length ∧ i = .int .i64 k ∧ Chg (fun _ => False) w wr ∧ Hid (findP key l 0 = findP key (l.drop k) k)) (fun _ i _ => l.length - (intOf i).toNat)
  case atStart => exact ⟨0, Nat.zero_le _, rfl, Chg.refl _ _, rfl⟩
  case round =>
    obtain ⟨k, hk, rfl, hch, HF⟩ := hrel
    unfold maxLen at hc2
    by_cases hlt : k < l.length
    · have hr2 := HR.out.chg hch (fun _ _ x => x)
      obtain ⟨g, off, cap', hv, -, -⟩ := hr2.addr (by omega)
      simp only [Value.slice.injEq] at hv
      obtain ⟨rfl, _, rfl⟩ := hv
      have hcells : ∀ t u, l[k].cells[t]? = some u → t < 5 → wr.cell? ⟨g, off + k * 5 + t, none⟩ = some u := fun t u hu ht => by
        rw [Nat.add_assoc]
        exact hr2.cellAt (k * 5 + t) u (by rw [flat_get _ 5 Prp.len l k t hlt ht]; exact hu)
      have c0 := hcells 0 _ rfl (by omega)
      rw [Nat.add_zero] at c0
      have c1 := hcells 1 _ rfl (by omega)
      have c2 := hcells 2 _ rfl (by omega)
      have c3 := hcells 3 _ rfl (by omega)
      have c4 := hcells 4 _ rfl (by omega)
      have hF := HF.out
      rw [List.drop_eq_getElem_cons hlt, findP] at hF
      have HPI := Lib.hid (fun (W : World) (h : Chg (fun _ => False) w W) => propIs_any l[k] key pb W (h.cell hp))
      clear hcells hr2
      generalize l[k] = s at *
      unfold Prp.cells at HPI
      have HF2 := Lib.hid hF
      clear hF
      go_wp2_with fail
      refine (HPI.out wr hch).mono ?_
      rintro e w2 ⟨rfl, hc2⟩
      have hF := HF2.out
      by_cases hq : (s.key.toList == key.toList) = true
      · rw [if_pos hq] at hF
        rw [hq]
        have HF3 := Lib.hid hF
        clear hF HF HF2 c0 c1 c2 c3 c4
        go_wp2_with fail
        go_ret
        exact ⟨by rw [HF3.out]; rfl, hch.trans' hc2⟩
      · rw [if_neg hq] at hF
        rw [Bool.not_eq_true] at hq
        rw [hq]
        have HF3 := Lib.hid hF
        clear hF HF HF2 c0 c1 c2 c3 c4
        go_wp2_with fail
        go_roundw
        case rel => exact ⟨k + 1, by omega, by go_num, hch.trans' hc2, HF3⟩
        case measure => simp [intOf]; omega
    · have hF := HF.out
      rw [List.drop_of_length_le (by omega), findP] at hF
      have HF2 := Lib.hid hF
      clear hF HF
      go_wp2_with fail
      go_ret
      exact ⟨by rw [HF2.out]; rfl, hch⟩
set_option maxHeartbeats 1600000 in
set_option maxRecDepth 100000 in
theorem place_any (w : World) (g o : Nat) (v : Value) (l : List Prp) (key : ByteArray) (c2 : w.cell? ⟨g, o + 2, none⟩ = some v) (hr : RowAt w 81 5 v l.length (l.flatMap Prp.cells)) :
    Calls Tryd.prog 28 #[.pointer (some ⟨g, o, none⟩), .string key] w fun e w' => e = .returned (.int .i64 (idxP (findP key l 0))) ∧ Chg (fun _ => False) w w' := by
  have hp := cell_of_block (i := 0) (alloc_block w (.cells #[.string key] 9)) rfl
  have hp : (w.alloc (.cells #[.string key] 9)).cell? ⟨w.heap.size, 0, none⟩ = some (.string key) := hp
  have hchA := Chg.alloc (fun _ => False) w (.cells #[.string key] 9)
  have HI := Lib.hid (indexFuncP_any l key w.heap.size v _ hp (hr.alloc _))
  have c2' := hchA.cell c2
  have HC := Lib.hid hchA
  clear hp hr c2 hchA
  go_enter Tryd.func28, Tryd.ntmps28
  go_upto_region 1 with fail
  generalize w.alloc (.cells #[.string key] 9) = w1 at *
  generalize w.heap.size = b at *
  go_wp2_with fail
  refine HI.out.mono ?_
  rintro e w2 ⟨rfl, hc2⟩
  go_wp2_with fail
  go_ret
  exact ⟨rfl, HC.out.trans' hc2⟩
end Go.Proofs.YthiiehanlconeaaDoor
namespace Go.Proofs.YthiiehanlconeaaDoor
open Go.RowKit
set_option linter.unusedVariables false
set_option linter.unusedSimpArgs false

theorem chg_put4 {W W' : World} {b k : Nat} {v : Value} (h : Chg (fun j => j = b) W W') : Chg (fun j => j = b) W (W'.setCell ⟨b, k, none⟩ v) := h.trans' (show Chg (fun j => j = b) W' (W'.setCell ⟨b, k, none⟩ v) from Chg.setCell W' ⟨b, k, none⟩ v)
/-- The cells of a block stored one after the other. -/
theorem store4 {w : World} {g T : Nat} {u0 u1 u2 u3 : Value} (b0 : w.heap[g]? = some (.cells #[u0, u1, u2, u3] T (0, 0))) (v0 v1 v2 v3 : Value) :
    w.cell? ⟨g, 0, none⟩ = some u0 ∧ w.frozen? ⟨g, 0, none⟩ = false ∧
    (w.setCell ⟨g, 0, none⟩ v0).cell? ⟨g, 1, none⟩ = some u1 ∧ (w.setCell ⟨g, 0, none⟩ v0).frozen? ⟨g, 1, none⟩ = false ∧
    ((w.setCell ⟨g, 0, none⟩ v0).setCell ⟨g, 1, none⟩ v1).cell? ⟨g, 2, none⟩ = some u2 ∧ ((w.setCell ⟨g, 0, none⟩ v0).setCell ⟨g, 1, none⟩ v1).frozen? ⟨g, 2, none⟩ = false ∧
    (((w.setCell ⟨g, 0, none⟩ v0).setCell ⟨g, 1, none⟩ v1).setCell ⟨g, 2, none⟩ v2).cell? ⟨g, 3, none⟩ = some u3 ∧ (((w.setCell ⟨g, 0, none⟩ v0).setCell ⟨g, 1, none⟩ v1).setCell ⟨g, 2, none⟩ v2).frozen? ⟨g, 3, none⟩ = false ∧
    ((((w.setCell ⟨g, 0, none⟩ v0).setCell ⟨g, 1, none⟩ v1).setCell ⟨g, 2, none⟩ v2).setCell ⟨g, 3, none⟩ v3).heap[g]? = some (.cells #[v0, v1, v2, v3] T (0, 0)) ∧ Chg (fun k => k = g) w ((((w.setCell ⟨g, 0, none⟩ v0).setCell ⟨g, 1, none⟩ v1).setCell ⟨g, 2, none⟩ v2).setCell ⟨g, 3, none⟩ v3) := by
  have c0 : w.cell? ⟨g, 0, none⟩ = some u0 := cell_of_block b0 rfl
  have f0 : w.frozen? ⟨g, 0, none⟩ = false := frozen_of_block b0
  have b1 : (w.setCell ⟨g, 0, none⟩ v0).heap[g]? = some (.cells #[v0, u1, u2, u3] T (0, 0)) := setCell_block (i := 0) v0 b0
  have c1 : (w.setCell ⟨g, 0, none⟩ v0).cell? ⟨g, 1, none⟩ = some u1 := cell_of_block b1 rfl
  have f1 : (w.setCell ⟨g, 0, none⟩ v0).frozen? ⟨g, 1, none⟩ = false := frozen_of_block b1
  have b2 : ((w.setCell ⟨g, 0, none⟩ v0).setCell ⟨g, 1, none⟩ v1).heap[g]? = some (.cells #[v0, v1, u2, u3] T (0, 0)) := setCell_block (i := 1) v1 b1
  have c2 : ((w.setCell ⟨g, 0, none⟩ v0).setCell ⟨g, 1, none⟩ v1).cell? ⟨g, 2, none⟩ = some u2 := cell_of_block b2 rfl
  have f2 : ((w.setCell ⟨g, 0, none⟩ v0).setCell ⟨g, 1, none⟩ v1).frozen? ⟨g, 2, none⟩ = false := frozen_of_block b2
  have b3 : (((w.setCell ⟨g, 0, none⟩ v0).setCell ⟨g, 1, none⟩ v1).setCell ⟨g, 2, none⟩ v2).heap[g]? = some (.cells #[v0, v1, v2, u3] T (0, 0)) := setCell_block (i := 2) v2 b2
  have c3 : (((w.setCell ⟨g, 0, none⟩ v0).setCell ⟨g, 1, none⟩ v1).setCell ⟨g, 2, none⟩ v2).cell? ⟨g, 3, none⟩ = some u3 := cell_of_block b3 rfl
  have f3 : (((w.setCell ⟨g, 0, none⟩ v0).setCell ⟨g, 1, none⟩ v1).setCell ⟨g, 2, none⟩ v2).frozen? ⟨g, 3, none⟩ = false := frozen_of_block b3
  have b4 : ((((w.setCell ⟨g, 0, none⟩ v0).setCell ⟨g, 1, none⟩ v1).setCell ⟨g, 2, none⟩ v2).setCell ⟨g, 3, none⟩ v3).heap[g]? = some (.cells #[v0, v1, v2, v3] T (0, 0)) := setCell_block (i := 3) v3 b3
  exact ⟨c0, f0, c1, f1, c2, f2, c3, f3, b4, chg_put4 (chg_put4 (chg_put4 (chg_put4 (Chg.refl _ _))))⟩

set_option maxHeartbeats 3200000 in
set_option maxRecDepth 100000 in
theorem normal_ref (h : Int) (w : World) :
    Calls Tryd.prog 20 #[.agg #[.int .i64 5, .int .i64 0, .string ⟨#[]⟩, .int .i64 h]] w fun e w' => e = .returned (.agg #[.int .i64 5, .int .i64 0, .string ⟨#[]⟩, .int .i64 h]) ∧ Chg (fun _ => False) w w' := by
  have hc2 := (Chg.alloc (fun _ => False) w (.cells #[.int .i64 5, .int .i64 0, .string ⟨#[]⟩, .int .i64 h] 38)).allocR (.cells #[.int .i64 0, .int .i64 0, .string ⟨#[]⟩, .int .i64 0] 38)
  have hb := alloc_block (w.alloc (.cells #[.int .i64 5, .int .i64 0, .string ⟨#[]⟩, .int .i64 h] 38)) (.cells #[.int .i64 0, .int .i64 0, .string ⟨#[]⟩, .int .i64 0] 38)
  have hs1 : (w.alloc (.cells #[.int .i64 5, .int .i64 0, .string ⟨#[]⟩, .int .i64 h] 38)).heap.size = w.heap.size + 1 := Array.size_push ..
  rw [hs1] at hb
  have HB := Lib.hid hb
  have HC := Lib.hid hc2
  have kb := alloc_block w (.cells #[.int .i64 5, .int .i64 0, .string ⟨#[]⟩, .int .i64 h] 38)
  have k0 := (Chg.alloc (fun _ => False) (w.alloc (.cells #[.int .i64 5, .int .i64 0, .string ⟨#[]⟩, .int .i64 h] 38)) (.cells #[.int .i64 0, .int .i64 0, .string ⟨#[]⟩, .int .i64 0] 38)).cell (cell_of_block (i := 0) kb rfl)
  have k3 := (Chg.alloc (fun _ => False) (w.alloc (.cells #[.int .i64 5, .int .i64 0, .string ⟨#[]⟩, .int .i64 h] 38)) (.cells #[.int .i64 0, .int .i64 0, .string ⟨#[]⟩, .int .i64 0] 38)).cell (cell_of_block (i := 3) kb rfl)
  simp only [List.getElem_toArray, List.getElem_cons_zero, List.getElem_cons_succ] at k0 k3
  have HK0 := Lib.hid k0
  have HK3 := Lib.hid k3
  clear hb hc2 hs1 kb k0 k3
  go_enter Tryd.func20, Tryd.ntmps20
  go_upto_region 1 with fail
  generalize ((w.alloc (.cells #[.int .i64 5, .int .i64 0, .string ⟨#[]⟩, .int .i64 h] 38)).alloc (.cells #[.int .i64 0, .int .i64 0, .string ⟨#[]⟩, .int .i64 0] 38)) = w3 at *
  generalize hb2e : w.heap.size + 1 = b2 at *
  have HB2 := Lib.hid hb2e
  have k0 := HK0.out
  have k3 := HK3.out
  clear hb2e
  go_wp2_with fail
  refine (vref_any h _).mono ?_
  rintro e wf ⟨rfl, hcf⟩
  have hb4 := hcf.keep HB.out (fun x => x)
  obtain ⟨z0, q0, z1, q1, z2, q2, z3, q3, hbf, hcs⟩ := store4 hb4 (.int .i64 5) (.int .i64 0) (.string ⟨#[]⟩) (.int .i64 h)
  go_wp2_with fail
  generalize ((((wf.setCell ⟨b2, 0, none⟩ (.int .i64 5)).setCell ⟨b2, 1, none⟩ (.int .i64 0)).setCell ⟨b2, 2, none⟩ (.string ⟨#[]⟩)).setCell ⟨b2, 3, none⟩ (.int .i64 h)) = wz at *
  refine bodyPost_ret (results_cell_row rfl _ _ b2 _ _ _ _ (by rfl) hbf Tryd.underlying38 rfl (by kernel_rfl)) rfl ?_
  exact ⟨rfl, (HC.out.trans' hcf).trans hcs (fun _ _ x => x) (fun k hk e => by have := HB2.out; omega)⟩
set_option maxHeartbeats 3200000 in
set_option maxRecDepth 100000 in
theorem same_no (a b : Int) (w : World) (hab : ¬ a = b) :
    Calls Tryd.prog 35 #[.agg #[.int .i64 5, .int .i64 0, .string ⟨#[]⟩, .int .i64 a], .agg #[.int .i64 5, .int .i64 0, .string ⟨#[]⟩, .int .i64 b]] w fun e w' => e = .returned (.bool false) ∧ Chg (fun _ => False) w w' := by
  have HN := Lib.hid (fun (h : Int) (W : World) => normal_ref h W)
  have hca := (Chg.alloc (fun _ => False) w (.cells #[.int .i64 5, .int .i64 0, .string ⟨#[]⟩, .int .i64 a] 38)).allocR (.cells #[.int .i64 5, .int .i64 0, .string ⟨#[]⟩, .int .i64 b] 38)
  have kb := alloc_block w (.cells #[.int .i64 5, .int .i64 0, .string ⟨#[]⟩, .int .i64 a] 38)
  have kb2 := alloc_block (w.alloc (.cells #[.int .i64 5, .int .i64 0, .string ⟨#[]⟩, .int .i64 a] 38)) (.cells #[.int .i64 5, .int .i64 0, .string ⟨#[]⟩, .int .i64 b] 38)
  have hs1 : (w.alloc (.cells #[.int .i64 5, .int .i64 0, .string ⟨#[]⟩, .int .i64 a] 38)).heap.size = w.heap.size + 1 := Array.size_push ..
  rw [hs1] at kb2
  have a0 := (Chg.alloc (fun _ => False) (w.alloc (.cells #[.int .i64 5, .int .i64 0, .string ⟨#[]⟩, .int .i64 a] 38)) (.cells #[.int .i64 5, .int .i64 0, .string ⟨#[]⟩, .int .i64 b] 38)).cell (cell_of_block (i := 0) kb rfl)
  have a1 := (Chg.alloc (fun _ => False) (w.alloc (.cells #[.int .i64 5, .int .i64 0, .string ⟨#[]⟩, .int .i64 a] 38)) (.cells #[.int .i64 5, .int .i64 0, .string ⟨#[]⟩, .int .i64 b] 38)).cell (cell_of_block (i := 1) kb rfl)
  have a2 := (Chg.alloc (fun _ => False) (w.alloc (.cells #[.int .i64 5, .int .i64 0, .string ⟨#[]⟩, .int .i64 a] 38)) (.cells #[.int .i64 5, .int .i64 0, .string ⟨#[]⟩, .int .i64 b] 38)).cell (cell_of_block (i := 2) kb rfl)
  have a3 := (Chg.alloc (fun _ => False) (w.alloc (.cells #[.int .i64 5, .int .i64 0, .string ⟨#[]⟩, .int .i64 a] 38)) (.cells #[.int .i64 5, .int .i64 0, .string ⟨#[]⟩, .int .i64 b] 38)).cell (cell_of_block (i := 3) kb rfl)
  have b0 := cell_of_block (i := 0) kb2 rfl
  have b1 := cell_of_block (i := 1) kb2 rfl
  have b2 := cell_of_block (i := 2) kb2 rfl
  have b3 := cell_of_block (i := 3) kb2 rfl
  simp only [List.getElem_toArray, List.getElem_cons_zero, List.getElem_cons_succ] at a0 a1 a2 a3 b0 b1 b2 b3
  have HS00 := Lib.hid (And.intro a0 (And.intro a1 (And.intro a2 (And.intro a3 (And.intro b0 (And.intro b1 (And.intro b2 b3)))))))
  have HCA := Lib.hid hca
  clear a0 a1 a2 a3 b0 b1 b2 b3 hca kb kb2 hs1
  go_enter Tryd.func35, Tryd.ntmps35
  go_upto_region 1 with fail
  generalize ((w.alloc (.cells #[.int .i64 5, .int .i64 0, .string ⟨#[]⟩, .int .i64 a] 38)).alloc (.cells #[.int .i64 5, .int .i64 0, .string ⟨#[]⟩, .int .i64 b] 38)) = W0 at *
  generalize w.heap.size + 1 = bb at *
  generalize w.heap.size = ba at *
  have HS0 : Hid (W0.cell? ⟨ba, 0, none⟩ = some (.int .i64 5) ∧ W0.cell? ⟨ba, 1, none⟩ = some (.int .i64 0) ∧ W0.cell? ⟨ba, 2, none⟩ = some (.string ⟨#[]⟩) ∧ W0.cell? ⟨ba, 3, none⟩ = some (.int .i64 a) ∧ W0.cell? ⟨bb, 0, none⟩ = some (.int .i64 5) ∧ W0.cell? ⟨bb, 1, none⟩ = some (.int .i64 0) ∧ W0.cell? ⟨bb, 2, none⟩ = some (.string ⟨#[]⟩) ∧ W0.cell? ⟨bb, 3, none⟩ = some (.int .i64 b)) := HS00
  clear HS00
  refine wp_region_held_split 5 (fun w' => w'.cell? ⟨ba, 0, none⟩ = some (.int .i64 5) ∧ w'.cell? ⟨ba, 1, none⟩ = some (.int .i64 0) ∧ w'.cell? ⟨ba, 2, none⟩ = some (.string ⟨#[]⟩) ∧ w'.cell? ⟨ba, 3, none⟩ = some (.int .i64 a) ∧ w'.cell? ⟨bb, 0, none⟩ = some (.int .i64 5) ∧ w'.cell? ⟨bb, 1, none⟩ = some (.int .i64 0) ∧ w'.cell? ⟨bb, 2, none⟩ = some (.string ⟨#[]⟩) ∧ w'.cell? ⟨bb, 3, none⟩ = some (.int .i64 b)) (by kernel_rfl) (by kernel_rfl) ?_ (fun hHeld => ?_)
  · (first | exact HS0.out | exact HKS.out _ HCC.out)
  simp only [List.take_succ_cons, List.take_zero]
  have HKS : Hid (∀ W, Chg (fun _ => False) W0.drew W → W.cell? ⟨ba, 0, none⟩ = some (.int .i64 5) ∧ W.cell? ⟨ba, 1, none⟩ = some (.int .i64 0) ∧ W.cell? ⟨ba, 2, none⟩ = some (.string ⟨#[]⟩) ∧ W.cell? ⟨ba, 3, none⟩ = some (.int .i64 a) ∧ W.cell? ⟨bb, 0, none⟩ = some (.int .i64 5) ∧ W.cell? ⟨bb, 1, none⟩ = some (.int .i64 0) ∧ W.cell? ⟨bb, 2, none⟩ = some (.string ⟨#[]⟩) ∧ W.cell? ⟨bb, 3, none⟩ = some (.int .i64 b)) := Lib.hid (fun W hc => ⟨hc.cell HS0.out.1, hc.cell HS0.out.2.1, hc.cell HS0.out.2.2.1, hc.cell HS0.out.2.2.2.1, hc.cell HS0.out.2.2.2.2.1, hc.cell HS0.out.2.2.2.2.2.1, hc.cell HS0.out.2.2.2.2.2.2.1, hc.cell HS0.out.2.2.2.2.2.2.2⟩)
  have HWD : Hid (Chg (fun _ => False) W0 W0.drew) := Lib.hid (Chg.refl _ W0).drewR
  generalize W0.drew = wD at *
  have HCC := Lib.hid (Chg.refl (fun _ => False) wD)
  refine wpAnyH_take (i := 0) (v := ?_) rfl (by kernel_rfl) (by kernel_rfl) (by kernel_rfl) (fun _ _ _ h => h) (Or.inl ⟨by rfl, ?_⟩) (by assumption) ?_
  rotate_left
  · (intro wq hSw; (try dsimp only at hSw); go_simp; (try with_reducible rfl))
  simp only [Act.put, List.getElem_toArray, List.getElem_cons_zero, List.getElem_cons_succ, List.setIfInBounds_toArray, List.set_cons_zero, List.set_cons_succ]
  refine wpAnyH_take (i := 2) (v := ?_) rfl (by kernel_rfl) (by kernel_rfl) (by kernel_rfl) (fun _ _ _ h => h) (Or.inl ⟨by rfl, ?_⟩) (by assumption) ?_
  rotate_left
  · (intro wq hSw; (try dsimp only at hSw); go_simp; (try with_reducible rfl))
  simp only [Act.put, List.getElem_toArray, List.getElem_cons_zero, List.getElem_cons_succ, List.setIfInBounds_toArray, List.set_cons_zero, List.set_cons_succ]
  refine wpAnyH_ready (rs := [1]) (by kernel_rfl) (by simp) ?_
  refine AllReadyH.cons (by simp only [List.getElem?_toArray, List.getElem?_cons_succ, List.getElem?_cons_zero]; rfl) (fun K hK => ?_) AllReadyH.nil
  (go_simp; go_at_call 20; refine (HN.out _ _).mono ?_; rintro _ wd ⟨rfl, hcd⟩; have HCC := Lib.hid (HCC.out.trans' hcd); clear hcd; go_simp)
  refine hK.out _ _ ?_ (fun hHeld => ?_)
  · (first | exact HS0.out | exact HKS.out _ HCC.out)
  clear hK K
  (try simp only [Act.put, List.getElem_toArray, List.getElem_cons_zero, List.getElem_cons_succ, List.setIfInBounds_toArray, List.set_cons_zero, List.set_cons_succ])
  refine wpAnyH_ready (rs := [3]) (by kernel_rfl) (by simp) ?_
  refine AllReadyH.cons (by simp only [List.getElem?_toArray, List.getElem?_cons_succ, List.getElem?_cons_zero]; rfl) (fun K hK => ?_) AllReadyH.nil
  (go_simp; go_at_call 20; refine (HN.out _ _).mono ?_; rintro _ wd ⟨rfl, hcd⟩; have HCC := Lib.hid (HCC.out.trans' hcd); clear hcd; go_simp)
  refine hK.out _ _ ?_ (fun hHeld => ?_)
  · (first | exact HS0.out | exact HKS.out _ HCC.out)
  clear hK K
  (try simp only [Act.put, List.getElem_toArray, List.getElem_cons_zero, List.getElem_cons_succ, List.setIfInBounds_toArray, List.set_cons_zero, List.set_cons_succ])
  refine wpAnyH_take (i := 4) (v := ?_) rfl (by kernel_rfl) (by kernel_rfl) (by kernel_rfl) (fun _ _ _ h => h) (Or.inl ⟨by rfl, ?_⟩) (by assumption) ?_
  rotate_left
  · (intro wq hSw; (try dsimp only at hSw); go_simp; (try with_reducible rfl))
  simp only [Act.put, List.getElem_toArray, List.getElem_cons_zero, List.getElem_cons_succ, List.setIfInBounds_toArray, List.set_cons_zero, List.set_cons_succ]
  refine wpAnyH_done (by kernel_rfl) ?_ _
  change wpList _ _ _ _ _ _
  simp only [List.drop_succ_cons, List.drop_zero]
  go_wp2_with fail
  go_ret
  exact ⟨rfl, (HCA.out.trans' HWD.out).trans' HCC.out⟩
set_option maxHeartbeats 3200000 in
set_option maxRecDepth 100000 in
theorem same_yes (a : Int) (w : World) :
    Calls Tryd.prog 35 #[.agg #[.int .i64 5, .int .i64 0, .string ⟨#[]⟩, .int .i64 a], .agg #[.int .i64 5, .int .i64 0, .string ⟨#[]⟩, .int .i64 a]] w fun e w' => e = .returned (.bool true) ∧ Chg (fun _ => False) w w' := by
  have HN := Lib.hid (fun (h : Int) (W : World) => normal_ref h W)
  have hca := (Chg.alloc (fun _ => False) w (.cells #[.int .i64 5, .int .i64 0, .string ⟨#[]⟩, .int .i64 a] 38)).allocR (.cells #[.int .i64 5, .int .i64 0, .string ⟨#[]⟩, .int .i64 a] 38)
  have kb := alloc_block w (.cells #[.int .i64 5, .int .i64 0, .string ⟨#[]⟩, .int .i64 a] 38)
  have kb2 := alloc_block (w.alloc (.cells #[.int .i64 5, .int .i64 0, .string ⟨#[]⟩, .int .i64 a] 38)) (.cells #[.int .i64 5, .int .i64 0, .string ⟨#[]⟩, .int .i64 a] 38)
  have hs1 : (w.alloc (.cells #[.int .i64 5, .int .i64 0, .string ⟨#[]⟩, .int .i64 a] 38)).heap.size = w.heap.size + 1 := Array.size_push ..
  rw [hs1] at kb2
  have a0 := (Chg.alloc (fun _ => False) (w.alloc (.cells #[.int .i64 5, .int .i64 0, .string ⟨#[]⟩, .int .i64 a] 38)) (.cells #[.int .i64 5, .int .i64 0, .string ⟨#[]⟩, .int .i64 a] 38)).cell (cell_of_block (i := 0) kb rfl)
  have a1 := (Chg.alloc (fun _ => False) (w.alloc (.cells #[.int .i64 5, .int .i64 0, .string ⟨#[]⟩, .int .i64 a] 38)) (.cells #[.int .i64 5, .int .i64 0, .string ⟨#[]⟩, .int .i64 a] 38)).cell (cell_of_block (i := 1) kb rfl)
  have a2 := (Chg.alloc (fun _ => False) (w.alloc (.cells #[.int .i64 5, .int .i64 0, .string ⟨#[]⟩, .int .i64 a] 38)) (.cells #[.int .i64 5, .int .i64 0, .string ⟨#[]⟩, .int .i64 a] 38)).cell (cell_of_block (i := 2) kb rfl)
  have a3 := (Chg.alloc (fun _ => False) (w.alloc (.cells #[.int .i64 5, .int .i64 0, .string ⟨#[]⟩, .int .i64 a] 38)) (.cells #[.int .i64 5, .int .i64 0, .string ⟨#[]⟩, .int .i64 a] 38)).cell (cell_of_block (i := 3) kb rfl)
  have b0 := cell_of_block (i := 0) kb2 rfl
  have b1 := cell_of_block (i := 1) kb2 rfl
  have b2 := cell_of_block (i := 2) kb2 rfl
  have b3 := cell_of_block (i := 3) kb2 rfl
  simp only [List.getElem_toArray, List.getElem_cons_zero, List.getElem_cons_succ] at a0 a1 a2 a3 b0 b1 b2 b3
  have HS00 := Lib.hid (And.intro a0 (And.intro a1 (And.intro a2 (And.intro a3 (And.intro b0 (And.intro b1 (And.intro b2 b3)))))))
  have HCA := Lib.hid hca
  clear a0 a1 a2 a3 b0 b1 b2 b3 hca kb kb2 hs1
  go_enter Tryd.func35, Tryd.ntmps35
  go_upto_region 1 with fail
  generalize ((w.alloc (.cells #[.int .i64 5, .int .i64 0, .string ⟨#[]⟩, .int .i64 a] 38)).alloc (.cells #[.int .i64 5, .int .i64 0, .string ⟨#[]⟩, .int .i64 a] 38)) = W0 at *
  generalize w.heap.size + 1 = bb at *
  generalize w.heap.size = ba at *
  have HS0 : Hid (W0.cell? ⟨ba, 0, none⟩ = some (.int .i64 5) ∧ W0.cell? ⟨ba, 1, none⟩ = some (.int .i64 0) ∧ W0.cell? ⟨ba, 2, none⟩ = some (.string ⟨#[]⟩) ∧ W0.cell? ⟨ba, 3, none⟩ = some (.int .i64 a) ∧ W0.cell? ⟨bb, 0, none⟩ = some (.int .i64 5) ∧ W0.cell? ⟨bb, 1, none⟩ = some (.int .i64 0) ∧ W0.cell? ⟨bb, 2, none⟩ = some (.string ⟨#[]⟩) ∧ W0.cell? ⟨bb, 3, none⟩ = some (.int .i64 a)) := HS00
  clear HS00
  refine wp_region_held_split 5 (fun w' => w'.cell? ⟨ba, 0, none⟩ = some (.int .i64 5) ∧ w'.cell? ⟨ba, 1, none⟩ = some (.int .i64 0) ∧ w'.cell? ⟨ba, 2, none⟩ = some (.string ⟨#[]⟩) ∧ w'.cell? ⟨ba, 3, none⟩ = some (.int .i64 a) ∧ w'.cell? ⟨bb, 0, none⟩ = some (.int .i64 5) ∧ w'.cell? ⟨bb, 1, none⟩ = some (.int .i64 0) ∧ w'.cell? ⟨bb, 2, none⟩ = some (.string ⟨#[]⟩) ∧ w'.cell? ⟨bb, 3, none⟩ = some (.int .i64 a)) (by kernel_rfl) (by kernel_rfl) ?_ (fun hHeld => ?_)
  · (first | exact HS0.out | exact HKS.out _ HCC.out)
  simp only [List.take_succ_cons, List.take_zero]
  have HKS : Hid (∀ W, Chg (fun _ => False) W0.drew W → W.cell? ⟨ba, 0, none⟩ = some (.int .i64 5) ∧ W.cell? ⟨ba, 1, none⟩ = some (.int .i64 0) ∧ W.cell? ⟨ba, 2, none⟩ = some (.string ⟨#[]⟩) ∧ W.cell? ⟨ba, 3, none⟩ = some (.int .i64 a) ∧ W.cell? ⟨bb, 0, none⟩ = some (.int .i64 5) ∧ W.cell? ⟨bb, 1, none⟩ = some (.int .i64 0) ∧ W.cell? ⟨bb, 2, none⟩ = some (.string ⟨#[]⟩) ∧ W.cell? ⟨bb, 3, none⟩ = some (.int .i64 a)) := Lib.hid (fun W hc => ⟨hc.cell HS0.out.1, hc.cell HS0.out.2.1, hc.cell HS0.out.2.2.1, hc.cell HS0.out.2.2.2.1, hc.cell HS0.out.2.2.2.2.1, hc.cell HS0.out.2.2.2.2.2.1, hc.cell HS0.out.2.2.2.2.2.2.1, hc.cell HS0.out.2.2.2.2.2.2.2⟩)
  have HWD : Hid (Chg (fun _ => False) W0 W0.drew) := Lib.hid (Chg.refl _ W0).drewR
  generalize W0.drew = wD at *
  have HCC := Lib.hid (Chg.refl (fun _ => False) wD)
  refine wpAnyH_take (i := 0) (v := ?_) rfl (by kernel_rfl) (by kernel_rfl) (by kernel_rfl) (fun _ _ _ h => h) (Or.inl ⟨by rfl, ?_⟩) (by assumption) ?_
  rotate_left
  · (intro wq hSw; (try dsimp only at hSw); go_simp; (try with_reducible rfl))
  simp only [Act.put, List.getElem_toArray, List.getElem_cons_zero, List.getElem_cons_succ, List.setIfInBounds_toArray, List.set_cons_zero, List.set_cons_succ]
  refine wpAnyH_take (i := 2) (v := ?_) rfl (by kernel_rfl) (by kernel_rfl) (by kernel_rfl) (fun _ _ _ h => h) (Or.inl ⟨by rfl, ?_⟩) (by assumption) ?_
  rotate_left
  · (intro wq hSw; (try dsimp only at hSw); go_simp; (try with_reducible rfl))
  simp only [Act.put, List.getElem_toArray, List.getElem_cons_zero, List.getElem_cons_succ, List.setIfInBounds_toArray, List.set_cons_zero, List.set_cons_succ]
  refine wpAnyH_ready (rs := [1]) (by kernel_rfl) (by simp) ?_
  refine AllReadyH.cons (by simp only [List.getElem?_toArray, List.getElem?_cons_succ, List.getElem?_cons_zero]; rfl) (fun K hK => ?_) AllReadyH.nil
  (go_simp; go_at_call 20; refine (HN.out _ _).mono ?_; rintro _ wd ⟨rfl, hcd⟩; have HCC := Lib.hid (HCC.out.trans' hcd); clear hcd; go_simp)
  refine hK.out _ _ ?_ (fun hHeld => ?_)
  · (first | exact HS0.out | exact HKS.out _ HCC.out)
  clear hK K
  (try simp only [Act.put, List.getElem_toArray, List.getElem_cons_zero, List.getElem_cons_succ, List.setIfInBounds_toArray, List.set_cons_zero, List.set_cons_succ])
  refine wpAnyH_ready (rs := [3]) (by kernel_rfl) (by simp) ?_
  refine AllReadyH.cons (by simp only [List.getElem?_toArray, List.getElem?_cons_succ, List.getElem?_cons_zero]; rfl) (fun K hK => ?_) AllReadyH.nil
  (go_simp; go_at_call 20; refine (HN.out _ _).mono ?_; rintro _ wd ⟨rfl, hcd⟩; have HCC := Lib.hid (HCC.out.trans' hcd); clear hcd; go_simp)
  refine hK.out _ _ ?_ (fun hHeld => ?_)
  · (first | exact HS0.out | exact HKS.out _ HCC.out)
  clear hK K
  (try simp only [Act.put, List.getElem_toArray, List.getElem_cons_zero, List.getElem_cons_succ, List.setIfInBounds_toArray, List.set_cons_zero, List.set_cons_succ])
  refine wpAnyH_take (i := 4) (v := ?_) rfl (by kernel_rfl) (by kernel_rfl) (by kernel_rfl) (fun _ _ _ h => h) (Or.inl ⟨by rfl, ?_⟩) (by assumption) ?_
  rotate_left
  · (intro wq hSw; (try dsimp only at hSw); go_simp; (try with_reducible rfl))
  simp only [Act.put, List.getElem_toArray, List.getElem_cons_zero, List.getElem_cons_succ, List.setIfInBounds_toArray, List.set_cons_zero, List.set_cons_succ]
  refine wpAnyH_done (by kernel_rfl) ?_ _
  change wpList _ _ _ _ _ _
  simp only [List.drop_succ_cons, List.drop_zero]
  go_wp2_with fail
  go_ret
  exact ⟨rfl, (HCA.out.trans' HWD.out).trans' HCC.out⟩
theorem same_ref (a b : Int) (w : World) :
    Calls Tryd.prog 35 #[.agg #[.int .i64 5, .int .i64 0, .string ⟨#[]⟩, .int .i64 a], .agg #[.int .i64 5, .int .i64 0, .string ⟨#[]⟩, .int .i64 b]] w fun e w' => e = .returned (.bool (decide (a = b))) ∧ Chg (fun _ => False) w w' := by
  by_cases h : a = b
  · subst h; rw [decide_eq_true rfl]; exact same_yes a w
  · rw [decide_eq_false h]; exact same_no a b w h
end Go.Proofs.YthiiehanlconeaaDoor
namespace Go.Proofs.YthiiehanlconeaaDoor
open Go.RowKit
set_option linter.unusedVariables false
set_option linter.unusedSimpArgs false

/-- Four cells of a block stored one after the other. -/
theorem store4At {w : World} {g T o : Nat} {c : Array Value} (b0 : w.heap[g]? = some (.cells c T (0, 0))) (hc : o + 4 ≤ c.size) (v0 v1 v2 v3 : Value) : ∃ u0 u1 u2 u3,
    (w.cell? ⟨g, o, none⟩ = some u0 ∧ w.frozen? ⟨g, o, none⟩ = false) ∧
    ((w.setCell ⟨g, o, none⟩ v0).cell? ⟨g, o + 1, none⟩ = some u1 ∧ (w.setCell ⟨g, o, none⟩ v0).frozen? ⟨g, o + 1, none⟩ = false) ∧
    (((w.setCell ⟨g, o, none⟩ v0).setCell ⟨g, o + 1, none⟩ v1).cell? ⟨g, o + 2, none⟩ = some u2 ∧ ((w.setCell ⟨g, o, none⟩ v0).setCell ⟨g, o + 1, none⟩ v1).frozen? ⟨g, o + 2, none⟩ = false) ∧
    ((((w.setCell ⟨g, o, none⟩ v0).setCell ⟨g, o + 1, none⟩ v1).setCell ⟨g, o + 2, none⟩ v2).cell? ⟨g, o + 3, none⟩ = some u3 ∧ (((w.setCell ⟨g, o, none⟩ v0).setCell ⟨g, o + 1, none⟩ v1).setCell ⟨g, o + 2, none⟩ v2).frozen? ⟨g, o + 3, none⟩ = false) := by
  have b1 := setCell_block (i := o) v0 b0
  have b2 := setCell_block (i := o + 1) v1 b1
  have b3 := setCell_block (i := o + 2) v2 b2
  have get : ∀ (d : Array Value) (k : Nat), k < d.size → d[k]? = some d[k]! := fun d k hk => by
    rw [Array.getElem?_eq_getElem hk]; simp [hk]
  exact ⟨_, _, _, _, ⟨cell_of_block b0 (get _ _ (by omega)), frozen_of_block b0⟩, ⟨cell_of_block b1 (get _ _ (by simp; omega)), frozen_of_block b1⟩, ⟨cell_of_block b2 (get _ _ (by simp; omega)), frozen_of_block b2⟩, ⟨cell_of_block b3 (get _ _ (by simp; omega)), frozen_of_block b3⟩⟩
set_option maxHeartbeats 6400000 in
set_option maxRecDepth 100000 in
theorem put_new (w : World) (b : Nat) (hp : Hp) (F : List Nat) (h : Int) (i : Nat) (key : ByteArray) (x y : Val) (H : Here hpR w b 0 hp F) (hi : -9223372036854775808 ≤ h ∧ h ≤ 9223372036854775807) (hs : slotOf hp h = some i) (hl : i < hp.slots.length) (hk : hp.slots[i].obj.kind ≠ 1)
    (HN : ∀ W, Chg (fun _ => False) w W → Calls Tryd.prog 20 #[.agg #[.int .i64 x.kind, .int .i64 x.int, .string x.str, .int .i64 x.ref]] W fun e w' => e = .returned (.agg #[.int .i64 y.kind, .int .i64 y.int, .string y.str, .int .i64 y.ref]) ∧ Chg (fun _ => False) W w') (hf : findP key hp.slots[i].obj.props 0 = none) (hlp : hp.slots[i].obj.props.length < 10000) :
    Calls Tryd.prog 11 #[.pointer (some ⟨b, 0, none⟩), .int .i64 h, .string key, .agg #[.int .i64 x.kind, .int .i64 x.int, .string x.str, .int .i64 x.ref]] w fun e w' => e = .returned (.int .i64 0) ∧ Post hpR w b 0 (putO hp i { hp.slots[i].obj with props := hp.slots[i].obj.props ++ [⟨key, y.kind, y.int, y.str, y.ref⟩] }) F w' := by
  have hca := Chg.alloc (fun _ => False) w (.cells #[.int .i64 x.kind, .int .i64 x.int, .string x.str, .int .i64 x.ref] 38)
  have kb := alloc_block w (.cells #[.int .i64 x.kind, .int .i64 x.int, .string x.str, .int .i64 x.ref] 38)
  have HKB := Lib.hid kb
  have H2 := H.still hca
  obtain ⟨gh, oh, kh, c2, G, HOBJ0, hGF, hput⟩ := hpPut H hl
  obtain ⟨vp, ve, vd, vs, HOC⟩ := objOpen HOBJ0
  obtain ⟨p, cap, rfl, -⟩ := HOC.rp.slice
  have hrlt := HOC.rp.lt
  have c0 := HOC.c0
  have z1 : (hp.slots[i].obj.kind == 1) = false := beq_false_of_ne hk
  have hat := hat_any _ b 0 hp F h _ H2 (by rw [Nat.zero_add]; exact hca.cell c2) hi
  rw [hs, show objPtr (.slice (some ⟨gh, oh, none⟩) hp.slots.length kh) (some i) = some ⟨gh, oh + i * 11 + 1, none⟩ from rfl] at hat
  have HAT := Lib.hid hat
  have HNN := Lib.hid HN
  have HC2 := Lib.hid HOC.c2
  have HRP := Lib.hid HOC.rp
  generalize hx : hp.slots[i].obj = o_ at *
  have HX := Lib.hid hx
  have HC0 := Lib.hid c0
  have HCA := Lib.hid hca
  have HOB := Lib.hid HOBJ0
  have HPT := Lib.hid hput
  have HRLT := Lib.hid hrlt
  have HBS : Hid (∀ k ∈ G, k < w.heap.size) := Lib.hid (fun k hk => H.lt.2 k (hGF k hk))
  clear kb hca H2 c2 HOBJ0 hrlt hGF hput HOC c0 hi hs H hx hk hat HN
  go_enter Tryd.func11, Tryd.ntmps11
  go_upto_region 1 with fail
  generalize hw2 : w.alloc (.cells #[.int .i64 x.kind, .int .i64 x.int, .string x.str, .int .i64 x.ref] 38) = w1 at *
  generalize hb7 : w.heap.size = b7 at *
  have HB7E := Lib.hid hb7
  clear hw2 hb7
  go_upto_region 4 with (go_at_call 24; refine HAT.out.mono ?_; rintro e wa ⟨rfl, hca⟩)
  have HC1 := Lib.hid (HCA.out.trans' hca)
  have HKB2 := Lib.hid (hca.keep HKB.out (fun x => x))
  have k0 := cell_of_block (i := 0) HKB2.out rfl
  have k1 := cell_of_block (i := 1) HKB2.out rfl
  have k2 := cell_of_block (i := 2) HKB2.out rfl
  have k3 := cell_of_block (i := 3) HKB2.out rfl
  simp only [List.getElem_toArray, List.getElem_cons_zero, List.getElem_cons_succ] at k0 k1 k2 k3
  clear hca HAT HKB
  go_upto_region 5 with (go_at_call 20; refine (HNN.out _ HC1.out).mono ?_; rintro e wn ⟨rfl, hcn⟩; have hbn := hcn.keep HKB2.out (fun x => x); obtain ⟨z10, q0, z11, q1, z12, q2, z13, q3, hbf, hcs⟩ := store4 hbn (.int .i64 y.kind) (.int .i64 y.int) (.string y.str) (.int .i64 y.ref))
  have HB7 := Lib.hid hbf
  have hc4 : Chg (fun _ => False) w (((((wn.setCell ⟨b7, 0, none⟩ (.int .i64 y.kind)).setCell ⟨b7, 1, none⟩ (.int .i64 y.int)).setCell ⟨b7, 2, none⟩ (.string y.str)).setCell ⟨b7, 3, none⟩ (.int .i64 y.ref))) := (HC1.out.trans' hcn).trans hcs (fun _ _ x => x) (fun k hk e => by have := HB7E.out; omega)
  clear hbf hcs hcn hbn z10 q0 z11 q1 z12 q2 z13 q3 k0 k1 k2 k3
  generalize ((((wn.setCell ⟨b7, 0, none⟩ (.int .i64 y.kind)).setCell ⟨b7, 1, none⟩ (.int .i64 y.int)).setCell ⟨b7, 2, none⟩ (.string y.str)).setCell ⟨b7, 3, none⟩ (.int .i64 y.ref)) = w4 at *
  have c0 := hc4.cell HC0.out
  have HPL := Lib.hid (place_any w4 gh (oh + i * 11 + 1) _ o_.props key (hc4.cell HC2.out) (HRP.out.chg hc4 (fun _ _ x => x)))
  have HF := Lib.hid hf
  have HC4 := Lib.hid hc4
  clear hc4 hf HNN HKB2 HC1 HCA
  rw [HF.out] at HPL
  go_upto_region 18 with (go_at_call 28; refine HPL.out.mono ?_; rintro e w5 ⟨rfl, hc5⟩)
  have HC5 := Lib.hid (HC4.out.trans' hc5)
  have HY7 := Lib.hid (hc5.keep HB7.out (fun x => x))
  have c2 := HC5.out.cell HC2.out
  clear hc5 HPL c0 z1
  have HOB5 := Lib.hid (HOB.out.still HC5.out)
  have n0 := cell_of_block (i := 0) HY7.out rfl
  have n1 := cell_of_block (i := 1) HY7.out rfl
  have n2 := cell_of_block (i := 2) HY7.out rfl
  have n3 := cell_of_block (i := 3) HY7.out rfl
  simp only [List.getElem_toArray, List.getElem_cons_zero, List.getElem_cons_succ] at n0 n1 n2 n3
  have HS0 : Hid (w5.cell? ⟨gh, oh + i * 11 + 1 + 2, none⟩ = some (.slice p o_.props.length cap) ∧ w5.cell? ⟨b7, 0, none⟩ = some (.int .i64 y.kind) ∧ w5.cell? ⟨b7, 1, none⟩ = some (.int .i64 y.int) ∧ w5.cell? ⟨b7, 2, none⟩ = some (.string y.str) ∧ w5.cell? ⟨b7, 3, none⟩ = some (.int .i64 y.ref)) := Lib.hid ⟨c2, n0, n1, n2, n3⟩
  clear n0 n1 n2 n3
  have pl : (o_.props.length : Int) < 10000 := by omega
  have HLE := Lib.hid hlp
  clear hlp
  rw [show idxP none = -1 from rfl]
  obtain ⟨p', cap', xs', Fs, Fr, c2', hopen, ff0, hstay, hback⟩ := HOB5.out.fieldAppending objR_props (by show 0 < 10; decide)
  have hpe : p' = p ∧ cap' = cap := by
    rw [c2] at c2'
    cases c2'
    exact ⟨rfl, rfl⟩
  obtain ⟨rfl, rfl⟩ := hpe
  clear c2'
  have HE := Lib.hid elem_prop
  have HST := Lib.hid hstay
  have HBA := Lib.hid hback
  have HOPN := Lib.hid hopen
  have HN1 : Hid (¬ (Value.slice p' o_.props.length cap').ownBlock = some b7) := Lib.hid (fun hj => by
    have h2 := HRLT.out b7 hj
    have := HB7E.out
    omega)
  clear hstay hback hopen ff0
  go_upto_region 23 with fail
  clear c2 pl
  refine wp_region_held_split 12 (fun w' => w'.cell? ⟨gh, oh + i * 11 + 1 + 2, none⟩ = some (.slice p' o_.props.length cap') ∧ w'.cell? ⟨b7, 0, none⟩ = some (.int .i64 y.kind) ∧ w'.cell? ⟨b7, 1, none⟩ = some (.int .i64 y.int) ∧ w'.cell? ⟨b7, 2, none⟩ = some (.string y.str) ∧ w'.cell? ⟨b7, 3, none⟩ = some (.int .i64 y.ref)) (by kernel_rfl) (by kernel_rfl) ?_ (fun hHeld => ?_)
  · (first | exact HS0.out | exact HKS.out _ (Chg.refl _ _) | exact HKS.out _ (Chg.alloc _ _ _) | exact ⟨cc2, hchg2.cellS (HKS.out _ (Chg.alloc _ wD (.cells #[.string key, .int .i64 y.kind, .int .i64 y.int, .string y.str, .int .i64 y.ref] 81))).2.1 HN1.out, hchg2.cellS (HKS.out _ (Chg.alloc _ wD (.cells #[.string key, .int .i64 y.kind, .int .i64 y.int, .string y.str, .int .i64 y.ref] 81))).2.2.1 HN1.out, hchg2.cellS (HKS.out _ (Chg.alloc _ wD (.cells #[.string key, .int .i64 y.kind, .int .i64 y.int, .string y.str, .int .i64 y.ref] 81))).2.2.2.1 HN1.out, hchg2.cellS (HKS.out _ (Chg.alloc _ wD (.cells #[.string key, .int .i64 y.kind, .int .i64 y.int, .string y.str, .int .i64 y.ref] 81))).2.2.2.2 HN1.out⟩)
  simp only [List.take_succ_cons, List.take_zero]
  have HKS : Hid (∀ W, Chg (fun _ => False) w5.drew W → W.cell? ⟨gh, oh + i * 11 + 1 + 2, none⟩ = some (.slice p' o_.props.length cap') ∧ W.cell? ⟨b7, 0, none⟩ = some (.int .i64 y.kind) ∧ W.cell? ⟨b7, 1, none⟩ = some (.int .i64 y.int) ∧ W.cell? ⟨b7, 2, none⟩ = some (.string y.str) ∧ W.cell? ⟨b7, 3, none⟩ = some (.int .i64 y.ref)) := Lib.hid (fun W hc => ⟨hc.cell HS0.out.1, hc.cell HS0.out.2.1, hc.cell HS0.out.2.2.1, hc.cell HS0.out.2.2.2.1, hc.cell HS0.out.2.2.2.2⟩)
  have HWD : Hid (Chg (fun _ => False) w5 w5.drew) := Lib.hid (Chg.refl _ w5).drewR
  have HRA : Hid (RowAt w5.drew 81 5 (.slice p' o_.props.length cap') o_.props.length xs'.flatten) := Lib.hid HOPN.out.row.drew
  generalize w5.drew = wD at *
  refine wpAnyH_take (i := 0) (v := ?_) rfl (by kernel_rfl) (by kernel_rfl) (by kernel_rfl) (fun _ _ _ h => h) (Or.inl ⟨by rfl, ?_⟩) (by assumption) ?_
  rotate_left
  · (intro wq hSw; (try dsimp only at hSw); go_simp; (try with_reducible rfl))
  simp only [Act.put, List.getElem_toArray, List.getElem_cons_zero, List.getElem_cons_succ, List.setIfInBounds_toArray, List.set_cons_zero, List.set_cons_succ]
  refine wpAnyH_take (i := 1) (v := ?_) rfl (by kernel_rfl) (by kernel_rfl) (by kernel_rfl) (fun _ _ _ h => h) (Or.inl ⟨by rfl, ?_⟩) (by assumption) ?_
  rotate_left
  · (intro wq hSw; (try dsimp only at hSw); go_simp; (try with_reducible rfl))
  simp only [Act.put, List.getElem_toArray, List.getElem_cons_zero, List.getElem_cons_succ, List.setIfInBounds_toArray, List.set_cons_zero, List.set_cons_succ]
  refine wpAnyH_take (i := 2) (v := ?_) rfl (by kernel_rfl) (by kernel_rfl) (by kernel_rfl) (fun _ _ _ h => h) (Or.inl ⟨by rfl, ?_⟩) (by assumption) ?_
  rotate_left
  · (intro wq hSw; (try dsimp only at hSw); go_simp; (try with_reducible rfl))
  simp only [Act.put, List.getElem_toArray, List.getElem_cons_zero, List.getElem_cons_succ, List.setIfInBounds_toArray, List.set_cons_zero, List.set_cons_succ]
  refine wpAnyH_take (i := 3) (v := ?_) rfl (by kernel_rfl) (by kernel_rfl) (by kernel_rfl) (fun _ _ _ h => h) (Or.inl ⟨by rfl, ?_⟩) (by assumption) ?_
  rotate_left
  · (intro wq hSw; (try dsimp only at hSw); go_simp; (try with_reducible rfl))
  simp only [Act.put, List.getElem_toArray, List.getElem_cons_zero, List.getElem_cons_succ, List.setIfInBounds_toArray, List.set_cons_zero, List.set_cons_succ]
  refine wpAnyH_take (i := 4) (v := ?_) rfl (by kernel_rfl) (by kernel_rfl) (by kernel_rfl) (fun _ _ _ h => h) (Or.inl ⟨by rfl, ?_⟩) (by assumption) ?_
  rotate_left
  · (intro wq hSw; (try dsimp only at hSw); go_simp; (try with_reducible rfl))
  simp only [Act.put, List.getElem_toArray, List.getElem_cons_zero, List.getElem_cons_succ, List.setIfInBounds_toArray, List.set_cons_zero, List.set_cons_succ]
  refine wpAnyH_take (i := 5) (v := ?_) rfl (by kernel_rfl) (by kernel_rfl) (by kernel_rfl) (fun _ _ _ h => h) (Or.inl ⟨by rfl, ?_⟩) (by assumption) ?_
  rotate_left
  · (intro wq hSw; (try dsimp only at hSw); go_simp; (try with_reducible rfl))
  simp only [Act.put, List.getElem_toArray, List.getElem_cons_zero, List.getElem_cons_succ, List.setIfInBounds_toArray, List.set_cons_zero, List.set_cons_succ]
  refine wpAnyH_take (i := 6) (v := ?_) rfl (by kernel_rfl) (by kernel_rfl) (by kernel_rfl) (fun _ _ _ h => h) (Or.inl ⟨by rfl, ?_⟩) (by assumption) ?_
  rotate_left
  · (intro wq hSw; (try dsimp only at hSw); go_simp; (try with_reducible rfl))
  simp only [Act.put, List.getElem_toArray, List.getElem_cons_zero, List.getElem_cons_succ, List.setIfInBounds_toArray, List.set_cons_zero, List.set_cons_succ]
  refine wpAnyH_take (i := 7) (v := ?_) rfl (by kernel_rfl) (by kernel_rfl) (by kernel_rfl) (fun _ _ _ h => h) (Or.inl ⟨by rfl, ?_⟩) (by assumption) ?_
  rotate_left
  · (intro wq hSw; (try dsimp only at hSw); go_simp; (try with_reducible rfl))
  simp only [Act.put, List.getElem_toArray, List.getElem_cons_zero, List.getElem_cons_succ, List.setIfInBounds_toArray, List.set_cons_zero, List.set_cons_succ]
  refine wpAnyH_ready (rs := [8]) (by kernel_rfl) (by simp) ?_
  refine AllReadyH.cons (by simp only [List.getElem?_toArray, List.getElem?_cons_succ, List.getElem?_cons_zero]; rfl) (fun K hK => ?_) AllReadyH.nil
  go_simp
  refine hK.out _ _ ?_ (fun hHeld => ?_)
  · (first | exact HS0.out | exact HKS.out _ (Chg.refl _ _) | exact HKS.out _ (Chg.alloc _ _ _) | exact ⟨cc2, hchg2.cellS (HKS.out _ (Chg.alloc _ wD (.cells #[.string key, .int .i64 y.kind, .int .i64 y.int, .string y.str, .int .i64 y.ref] 81))).2.1 HN1.out, hchg2.cellS (HKS.out _ (Chg.alloc _ wD (.cells #[.string key, .int .i64 y.kind, .int .i64 y.int, .string y.str, .int .i64 y.ref] 81))).2.2.1 HN1.out, hchg2.cellS (HKS.out _ (Chg.alloc _ wD (.cells #[.string key, .int .i64 y.kind, .int .i64 y.int, .string y.str, .int .i64 y.ref] 81))).2.2.2.1 HN1.out, hchg2.cellS (HKS.out _ (Chg.alloc _ wD (.cells #[.string key, .int .i64 y.kind, .int .i64 y.int, .string y.str, .int .i64 y.ref] 81))).2.2.2.2 HN1.out⟩)
  clear hK K
  (try simp only [Act.put, List.getElem_toArray, List.getElem_cons_zero, List.getElem_cons_succ, List.setIfInBounds_toArray, List.set_cons_zero, List.set_cons_succ])
  refine wpAnyH_ready (rs := [9]) (by kernel_rfl) (by simp) ?_
  refine AllReadyH.cons (by simp only [List.getElem?_toArray, List.getElem?_cons_succ, List.getElem?_cons_zero]; rfl) (fun K hK => ?_) AllReadyH.nil
  (refine step_append_elem (by rfl) _ _ _ (by rfl) 81 5 56 Tryd.underlying58 HE.out (by decide) _ o_.props.length xs'.flatten (by rfl) (HRA.out.alloc (.cells #[.string key, .int .i64 y.kind, .int .i64 y.int, .string y.str, .int .i64 y.ref] 81)) [.string key, .int .i64 y.kind, .int .i64 y.int, .string y.str, .int .i64 y.ref] rfl wD.heap.size 81 (0, 0) (by rfl) (alloc_block wD _) (by simp [Value.oneCell']) (by have := HLE.out; unfold maxLen; omega) (by have := HLE.out; omega) ?_; intro a2 n2 cp2 w2_ hrow2 hchg2 hold2; have cc2 := (HST.out _ _ (HWD.out.allocR (.cells #[.string key, .int .i64 y.kind, .int .i64 y.int, .string y.str, .int .i64 y.ref] 81)) hchg2).1; have f2 := (HST.out _ _ (HWD.out.allocR (.cells #[.string key, .int .i64 y.kind, .int .i64 y.int, .string y.str, .int .i64 y.ref] 81)) hchg2).2)
  refine hK.out _ _ ?_ (fun hHeld => ?_)
  · (first | exact HS0.out | exact HKS.out _ (Chg.refl _ _) | exact HKS.out _ (Chg.alloc _ _ _) | exact ⟨cc2, hchg2.cellS (HKS.out _ (Chg.alloc _ wD (.cells #[.string key, .int .i64 y.kind, .int .i64 y.int, .string y.str, .int .i64 y.ref] 81))).2.1 HN1.out, hchg2.cellS (HKS.out _ (Chg.alloc _ wD (.cells #[.string key, .int .i64 y.kind, .int .i64 y.int, .string y.str, .int .i64 y.ref] 81))).2.2.1 HN1.out, hchg2.cellS (HKS.out _ (Chg.alloc _ wD (.cells #[.string key, .int .i64 y.kind, .int .i64 y.int, .string y.str, .int .i64 y.ref] 81))).2.2.2.1 HN1.out, hchg2.cellS (HKS.out _ (Chg.alloc _ wD (.cells #[.string key, .int .i64 y.kind, .int .i64 y.int, .string y.str, .int .i64 y.ref] 81))).2.2.2.2 HN1.out⟩)
  clear hK K
  (try simp only [Act.put, List.getElem_toArray, List.getElem_cons_zero, List.getElem_cons_succ, List.setIfInBounds_toArray, List.set_cons_zero, List.set_cons_succ])
  refine wpAnyH_take (i := 10) (v := ?_) rfl (by kernel_rfl) (by kernel_rfl) (by kernel_rfl) (fun _ _ _ h => h) (Or.inl ⟨by rfl, ?_⟩) (by assumption) ?_
  rotate_left
  · (intro wq hSw; (try dsimp only at hSw); go_simp; (try with_reducible rfl))
  simp only [Act.put, List.getElem_toArray, List.getElem_cons_zero, List.getElem_cons_succ, List.setIfInBounds_toArray, List.set_cons_zero, List.set_cons_succ]
  refine wpAnyH_take (i := 11) (v := ?_) rfl (by kernel_rfl) (by kernel_rfl) (by kernel_rfl) (fun _ _ _ h => h) (Or.inl ⟨by rfl, ?_⟩) (by assumption) ?_
  rotate_left
  · (intro wq hSw; (try dsimp only at hSw); go_simp; (try with_reducible rfl))
  simp only [Act.put, List.getElem_toArray, List.getElem_cons_zero, List.getElem_cons_succ, List.setIfInBounds_toArray, List.set_cons_zero, List.set_cons_succ]
  refine wpAnyH_done (by kernel_rfl) ?_ _
  change wpList _ _ _ _ _ _
  simp only [List.drop_succ_cons, List.drop_zero]
  have P9 := HBA.out _ _ [.string key, .int .i64 y.kind, .int .i64 y.int, .string y.str, .int .i64 y.ref] ⟨key, y.kind, y.int, y.str, y.ref⟩ [] _ (HWD.out.allocR (.cells #[.string key, .int .i64 y.kind, .int .i64 y.int, .string y.str, .int .i64 y.ref] 81)) ⟨rfl, rfl⟩ (by simp) (by simp) hrow2 hchg2 hold2
  clear hHeld
  go_wp2_with fail
  go_ret
  exact ⟨rfl, HPT.out _ _ (Post.pre HC5.out P9)⟩
set_option maxHeartbeats 6400000 in
set_option maxRecDepth 100000 in
theorem put_old (w : World) (b : Nat) (hp : Hp) (F : List Nat) (h : Int) (i : Nat) (key : ByteArray) (x y : Val) (H : Here hpR w b 0 hp F) (hi : -9223372036854775808 ≤ h ∧ h ≤ 9223372036854775807) (hs : slotOf hp h = some i) (hl : i < hp.slots.length) (hk : hp.slots[i].obj.kind ≠ 1)
    (HN : ∀ W, Chg (fun _ => False) w W → Calls Tryd.prog 20 #[.agg #[.int .i64 x.kind, .int .i64 x.int, .string x.str, .int .i64 x.ref]] W fun e w' => e = .returned (.agg #[.int .i64 y.kind, .int .i64 y.int, .string y.str, .int .i64 y.ref]) ∧ Chg (fun _ => False) W w') (j : Nat) (hf : findP key hp.slots[i].obj.props 0 = some j) (hj : j < hp.slots[i].obj.props.length) (hlp : hp.slots[i].obj.props.length ≤ 10000) :
    Calls Tryd.prog 11 #[.pointer (some ⟨b, 0, none⟩), .int .i64 h, .string key, .agg #[.int .i64 x.kind, .int .i64 x.int, .string x.str, .int .i64 x.ref]] w fun e w' => e = .returned (.int .i64 0) ∧ Post hpR w b 0 (putO hp i { hp.slots[i].obj with props := hp.slots[i].obj.props.set j ⟨hp.slots[i].obj.props[j].key, y.kind, y.int, y.str, y.ref⟩ }) F w' := by
  have hca := Chg.alloc (fun _ => False) w (.cells #[.int .i64 x.kind, .int .i64 x.int, .string x.str, .int .i64 x.ref] 38)
  have kb := alloc_block w (.cells #[.int .i64 x.kind, .int .i64 x.int, .string x.str, .int .i64 x.ref] 38)
  have HKB := Lib.hid kb
  have H2 := H.still hca
  obtain ⟨gh, oh, kh, c2, G, HOBJ0, hGF, hput⟩ := hpPut H hl
  obtain ⟨vp, ve, vd, vs, HOC⟩ := objOpen HOBJ0
  obtain ⟨p, cap, rfl, -⟩ := HOC.rp.slice
  have hrlt := HOC.rp.lt
  have c0 := HOC.c0
  have z1 : (hp.slots[i].obj.kind == 1) = false := beq_false_of_ne hk
  have hat := hat_any _ b 0 hp F h _ H2 (by rw [Nat.zero_add]; exact hca.cell c2) hi
  rw [hs, show objPtr (.slice (some ⟨gh, oh, none⟩) hp.slots.length kh) (some i) = some ⟨gh, oh + i * 11 + 1, none⟩ from rfl] at hat
  have HAT := Lib.hid hat
  have HNN := Lib.hid HN
  have HC2 := Lib.hid HOC.c2
  have HRP := Lib.hid HOC.rp
  generalize hx : hp.slots[i].obj = o_ at *
  have HX := Lib.hid hx
  have HC0 := Lib.hid c0
  have HCA := Lib.hid hca
  have HOB := Lib.hid HOBJ0
  have HPT := Lib.hid hput
  have HRLT := Lib.hid hrlt
  have HBS : Hid (∀ k ∈ G, k < w.heap.size) := Lib.hid (fun k hk => H.lt.2 k (hGF k hk))
  clear kb hca H2 c2 HOBJ0 hrlt hGF hput HOC c0 hi hs H hx hk hat HN
  go_enter Tryd.func11, Tryd.ntmps11
  go_upto_region 1 with fail
  generalize hw2 : w.alloc (.cells #[.int .i64 x.kind, .int .i64 x.int, .string x.str, .int .i64 x.ref] 38) = w1 at *
  generalize hb7 : w.heap.size = b7 at *
  have HB7E := Lib.hid hb7
  clear hw2 hb7
  go_upto_region 4 with (go_at_call 24; refine HAT.out.mono ?_; rintro e wa ⟨rfl, hca⟩)
  have HC1 := Lib.hid (HCA.out.trans' hca)
  have HKB2 := Lib.hid (hca.keep HKB.out (fun x => x))
  have k0 := cell_of_block (i := 0) HKB2.out rfl
  have k1 := cell_of_block (i := 1) HKB2.out rfl
  have k2 := cell_of_block (i := 2) HKB2.out rfl
  have k3 := cell_of_block (i := 3) HKB2.out rfl
  simp only [List.getElem_toArray, List.getElem_cons_zero, List.getElem_cons_succ] at k0 k1 k2 k3
  clear hca HAT HKB
  go_upto_region 5 with (go_at_call 20; refine (HNN.out _ HC1.out).mono ?_; rintro e wn ⟨rfl, hcn⟩; have hbn := hcn.keep HKB2.out (fun x => x); obtain ⟨z10, q0, z11, q1, z12, q2, z13, q3, hbf, hcs⟩ := store4 hbn (.int .i64 y.kind) (.int .i64 y.int) (.string y.str) (.int .i64 y.ref))
  have HB7 := Lib.hid hbf
  have hc4 : Chg (fun _ => False) w (((((wn.setCell ⟨b7, 0, none⟩ (.int .i64 y.kind)).setCell ⟨b7, 1, none⟩ (.int .i64 y.int)).setCell ⟨b7, 2, none⟩ (.string y.str)).setCell ⟨b7, 3, none⟩ (.int .i64 y.ref))) := (HC1.out.trans' hcn).trans hcs (fun _ _ x => x) (fun k hk e => by have := HB7E.out; omega)
  clear hbf hcs hcn hbn z10 q0 z11 q1 z12 q2 z13 q3 k0 k1 k2 k3
  generalize ((((wn.setCell ⟨b7, 0, none⟩ (.int .i64 y.kind)).setCell ⟨b7, 1, none⟩ (.int .i64 y.int)).setCell ⟨b7, 2, none⟩ (.string y.str)).setCell ⟨b7, 3, none⟩ (.int .i64 y.ref)) = w4 at *
  have c0 := hc4.cell HC0.out
  have HPL := Lib.hid (place_any w4 gh (oh + i * 11 + 1) _ o_.props key (hc4.cell HC2.out) (HRP.out.chg hc4 (fun _ _ x => x)))
  have HF := Lib.hid hf
  have HC4 := Lib.hid hc4
  clear hc4 hf HNN HKB2 HC1 HCA
  rw [HF.out] at HPL
  go_upto_region 18 with (go_at_call 28; refine HPL.out.mono ?_; rintro e w5 ⟨rfl, hc5⟩)
  have HC5 := Lib.hid (HC4.out.trans' hc5)
  have HY7 := Lib.hid (hc5.keep HB7.out (fun x => x))
  have c2 := HC5.out.cell HC2.out
  clear hc5 HPL c0 z1
  have HOB5 := Lib.hid (HOB.out.still HC5.out)
  have n0 := cell_of_block (i := 0) HY7.out rfl
  have n1 := cell_of_block (i := 1) HY7.out rfl
  have n2 := cell_of_block (i := 2) HY7.out rfl
  have n3 := cell_of_block (i := 3) HY7.out rfl
  simp only [List.getElem_toArray, List.getElem_cons_zero, List.getElem_cons_succ] at n0 n1 n2 n3
  have HS0 : Hid (w5.cell? ⟨gh, oh + i * 11 + 1 + 2, none⟩ = some (.slice p o_.props.length cap) ∧ w5.cell? ⟨b7, 0, none⟩ = some (.int .i64 y.kind) ∧ w5.cell? ⟨b7, 1, none⟩ = some (.int .i64 y.int) ∧ w5.cell? ⟨b7, 2, none⟩ = some (.string y.str) ∧ w5.cell? ⟨b7, 3, none⟩ = some (.int .i64 y.ref)) := Lib.hid ⟨c2, n0, n1, n2, n3⟩
  clear n0 n1 n2 n3
  have j0 : (0 : Int) ≤ (j : Int) := by omega
  have j1 : (j : Int) < (o_.props.length : Int) := by omega
  have HJ := Lib.hid hj
  clear hlp
  rw [show idxP (some j) = (j : Int) from rfl]
  obtain ⟨gp, opp, cp, hcv⟩ := HOB5.out.rowAt objR_props (by show 0 < 10; decide) (by have := HJ.out; omega)
  have hpe : p = some ⟨gp, opp, none⟩ ∧ cp = cap := by
    rw [c2] at hcv
    cases hcv
    exact ⟨rfl, rfl⟩
  obtain ⟨rfl, rfl⟩ := hpe
  obtain ⟨G2, HEL, -, -, -, hwb⟩ := (HOB5.out.drew).rowElem objR_props (by show 0 < 10; decide) (show w5.drew.cell? _ = _ from c2) HJ.out
  have HWB := Lib.hid hwb
  have HELH := Lib.hid HEL
  clear hcv hwb HEL
  go_upto_region 19 with fail
  clear c2
  refine wp_region_held_split 8 (fun w' => w'.cell? ⟨gh, oh + i * 11 + 1 + 2, none⟩ = some (.slice (some ⟨gp, opp, none⟩) o_.props.length cp) ∧ w'.cell? ⟨b7, 0, none⟩ = some (.int .i64 y.kind) ∧ w'.cell? ⟨b7, 1, none⟩ = some (.int .i64 y.int) ∧ w'.cell? ⟨b7, 2, none⟩ = some (.string y.str) ∧ w'.cell? ⟨b7, 3, none⟩ = some (.int .i64 y.ref)) (by kernel_rfl) (by kernel_rfl) ?_ (fun hHeld => ?_)
  · (first | exact HS0.out | exact HKS.out _ (Chg.refl _ _))
  simp only [List.take_succ_cons, List.take_zero]
  have HKS : Hid (∀ W, Chg (fun _ => False) w5.drew W → W.cell? ⟨gh, oh + i * 11 + 1 + 2, none⟩ = some (.slice (some ⟨gp, opp, none⟩) o_.props.length cp) ∧ W.cell? ⟨b7, 0, none⟩ = some (.int .i64 y.kind) ∧ W.cell? ⟨b7, 1, none⟩ = some (.int .i64 y.int) ∧ W.cell? ⟨b7, 2, none⟩ = some (.string y.str) ∧ W.cell? ⟨b7, 3, none⟩ = some (.int .i64 y.ref)) := Lib.hid (fun W hc => ⟨hc.cell HS0.out.1, hc.cell HS0.out.2.1, hc.cell HS0.out.2.2.1, hc.cell HS0.out.2.2.2.1, hc.cell HS0.out.2.2.2.2⟩)
  have HWD : Hid (Chg (fun _ => False) w5 w5.drew) := Lib.hid (Chg.refl _ w5).drewR
  generalize w5.drew = wD at *
  refine wpAnyH_take (i := 0) (v := ?_) rfl (by kernel_rfl) (by kernel_rfl) (by kernel_rfl) (fun _ _ _ h => h) (Or.inl ⟨by rfl, ?_⟩) (by assumption) ?_
  rotate_left
  · (intro wq hSw; (try dsimp only at hSw); go_simp; (try with_reducible rfl))
  simp only [Act.put, List.getElem_toArray, List.getElem_cons_zero, List.getElem_cons_succ, List.setIfInBounds_toArray, List.set_cons_zero, List.set_cons_succ]
  refine wpAnyH_take (i := 1) (v := ?_) rfl (by kernel_rfl) (by kernel_rfl) (by kernel_rfl) (fun _ _ _ h => h) (Or.inl ⟨by rfl, ?_⟩) (by assumption) ?_
  rotate_left
  · (intro wq hSw; (try dsimp only at hSw); go_simp; (try with_reducible rfl))
  simp only [Act.put, List.getElem_toArray, List.getElem_cons_zero, List.getElem_cons_succ, List.setIfInBounds_toArray, List.set_cons_zero, List.set_cons_succ]
  refine wpAnyH_take (i := 2) (v := ?_) rfl (by kernel_rfl) (by kernel_rfl) (by kernel_rfl) (fun _ _ _ h => h) (Or.inl ⟨by rfl, ?_⟩) (by assumption) ?_
  rotate_left
  · (intro wq hSw; (try dsimp only at hSw); go_simp; (try with_reducible rfl))
  simp only [Act.put, List.getElem_toArray, List.getElem_cons_zero, List.getElem_cons_succ, List.setIfInBounds_toArray, List.set_cons_zero, List.set_cons_succ]
  refine wpAnyH_take (i := 3) (v := ?_) rfl (by kernel_rfl) (by kernel_rfl) (by kernel_rfl) (fun _ _ _ h => h) (Or.inl ⟨by rfl, ?_⟩) (by assumption) ?_
  rotate_left
  · (intro wq hSw; (try dsimp only at hSw); go_simp; (try with_reducible rfl))
  simp only [Act.put, List.getElem_toArray, List.getElem_cons_zero, List.getElem_cons_succ, List.setIfInBounds_toArray, List.set_cons_zero, List.set_cons_succ]
  refine wpAnyH_take (i := 4) (v := ?_) rfl (by kernel_rfl) (by kernel_rfl) (by kernel_rfl) (fun _ _ _ h => h) (Or.inl ⟨by rfl, ?_⟩) (by assumption) ?_
  rotate_left
  · (intro wq hSw; (try dsimp only at hSw); go_simp; (try with_reducible rfl))
  simp only [Act.put, List.getElem_toArray, List.getElem_cons_zero, List.getElem_cons_succ, List.setIfInBounds_toArray, List.set_cons_zero, List.set_cons_succ]
  refine wpAnyH_take (i := 5) (v := ?_) rfl (by kernel_rfl) (by kernel_rfl) (by kernel_rfl) (fun _ _ _ h => h) (Or.inl ⟨by rfl, ?_⟩) (by assumption) ?_
  rotate_left
  · (intro wq hSw; (try dsimp only at hSw); go_simp; (try with_reducible rfl))
  simp only [Act.put, List.getElem_toArray, List.getElem_cons_zero, List.getElem_cons_succ, List.setIfInBounds_toArray, List.set_cons_zero, List.set_cons_succ]
  refine wpAnyH_take (i := 6) (v := ?_) rfl (by kernel_rfl) (by kernel_rfl) (by kernel_rfl) (fun _ _ _ h => h) (Or.inl ⟨by rfl, ?_⟩) (by assumption) ?_
  rotate_left
  · (intro wq hSw; (try dsimp only at hSw); go_simp; (try with_reducible rfl))
  simp only [Act.put, List.getElem_toArray, List.getElem_cons_zero, List.getElem_cons_succ, List.setIfInBounds_toArray, List.set_cons_zero, List.set_cons_succ]
  refine wpAnyH_take (i := 7) (v := ?_) rfl (by kernel_rfl) (by kernel_rfl) (by kernel_rfl) (fun _ _ _ h => h) (Or.inl ⟨by rfl, ?_⟩) (by assumption) ?_
  rotate_left
  · (intro wq hSw; (try dsimp only at hSw); go_simp; (try with_reducible rfl))
  simp only [Act.put, List.getElem_toArray, List.getElem_cons_zero, List.getElem_cons_succ, List.setIfInBounds_toArray, List.set_cons_zero, List.set_cons_succ]
  refine wpAnyH_done (by kernel_rfl) ?_ _
  change wpList _ _ _ _ _ _
  simp only [List.drop_succ_cons, List.drop_zero]
  have P1 := HELH.out.setPost propR_vkind (y := y.kind) (v := .int .i64 y.kind) rfl
  have P2 := P1.then (fun F' H' => H'.setPost propR_vint (y := y.int) (v := .int .i64 y.int) rfl)
  have P3 := P2.then (fun F' H' => H'.setPost propR_vstr (y := y.str) (v := .string y.str) rfl)
  have P4 := P3.then (fun F' H' => H'.setPost propR_vref (y := y.ref) (v := .int .i64 y.ref) rfl)
  obtain ⟨cB, TB, hbB, hszB⟩ : ∃ c T, wD.heap[gp]? = some (.cells c T (0, 0)) ∧ opp + j * 5 + 1 + 4 ≤ c.size := by
    obtain ⟨c, T, hh⟩ := HELH.out.size
    rcases hh with hh | hh
    · exact ⟨c, T, hh.1, by have := hh.2.2; show opp + j * 5 + 5 ≤ _; exact this⟩
    · exact absurd hh (by decide)
  obtain ⟨u0, u1, u2, u3, ⟨e0, f0⟩, ⟨e1, f1⟩, ⟨e2, f2⟩, e3, f3⟩ := store4At (o := opp + j * 5 + 1) hbB hszB (.int .i64 y.kind) (.int .i64 y.int) (.string y.str) (.int .i64 y.ref)
  have HP4 := Lib.hid P4
  clear P1 P2 P3 P4
  go_wp2_with fail
  go_ret
  obtain ⟨F4, h1, h2⟩ := HP4.out
  exact ⟨rfl, HPT.out _ _ (Post.pre (HC5.out.trans' HWD.out) (HWB.out _ _ F4 h1 h2).1)⟩
end Go.Proofs.YthiiehanlconeaaDoor
