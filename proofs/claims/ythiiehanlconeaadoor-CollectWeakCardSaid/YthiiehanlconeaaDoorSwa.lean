/-
  The marks over a heap that has changed since; arena.Drop.
-/
import Derived.Test.YthiiehanlconeaaDoorMku
import Derived.Test.YthiiehanlconeaaDoorCopy
import Derived.Test.YthiiehanlconeaaDoorArc
import Derived.Test.YthiiehanlconeaaDoorHeldT
namespace Go.Proofs.YthiiehanlconeaaDoor
open Go.RowKit
set_option linter.unusedVariables false
set_option linter.unusedSimpArgs false

set_option maxHeartbeats 3200000 in
set_option maxRecDepth 100000 in
theorem slot_gen (w : World) (bm bh : Nat) (hp : Hp) (F : List Nat) (K Fm : List Nat) (h : Int) (H : Here hpR w bh 0 hp F) (HM : Here mkR w bm 0 (mkOf bh hp K) Fm) (hi : -9223372036854775808 ≤ h ∧ h ≤ 9223372036854775807) :
    Calls Tryd.prog 38 #[.pointer (some ⟨bm, 0, none⟩), .int .i64 h] w fun e w' => e = .returned (.int .i64 (slotI (slotOf hp h))) ∧ Chg (fun _ => False) w w' := by
  obtain ⟨m0, ⟨am, cm, m1⟩, -⟩ := mkCells HM
  have hsl : (mkOf bh hp K).set.length = hp.slots.length := by unfold mkOf; simp
  rw [hsl] at m1
  change w.cell? ⟨bm, 0, none⟩ = some (.pointer (some ⟨bh, 0, none⟩)) at m0
  obtain ⟨c0, c1, ⟨a, cap, c2⟩, -⟩ := hpCells H
  simp only [Nat.zero_add] at c0 c1 c2
  have HX := Lib.hid (index_any hp.base hp.stride h w hi)
  have HS : Hid (∀ i, i < hp.slots.length → ∃ g off, a = some ⟨g, off, none⟩ ∧ w.cell? ⟨g, off + i * 11, none⟩ = some (.bool (hp.slots.getD i noSlt).used)) := Lib.hid (fun i hi => by
    obtain ⟨g, off, e, G, -, h1, -⟩ := hpSlot H (by simpa using c2) hi
    refine ⟨g, off, e, ?_⟩
    rw [List.getD_eq_getElem?_getD, List.getElem?_eq_getElem hi]
    exact h1)
  have HLN : Hid ((hp.slots.length : Int) ≤ 9223372036854775807) := Lib.hid (by
    obtain ⟨v, xs, Fs, hc, hop⟩ := (H.field hpR_slots (by show 0 < 8; decide)).choose_spec.1.openRow
    obtain ⟨a', cap', -, h1, h2⟩ := hop.val
    have : hp.slots.length ≤ maxLen := Nat.le_trans h1 h2
    unfold maxLen at this
    omega)
  unfold slotOf
  generalize indexM hp.base hp.stride h = i at *
  generalize hrs : slotI (if 0 ≤ i ∧ i.toNat < hp.slots.length ∧ (hp.slots.getD i.toNat noSlt).used = true then some i.toNat else none) = rs at *
  have HRS := Lib.hid hrs
  have HM1 := Lib.hid m1
  have HM0 := Lib.hid m0
  have HC2 := Lib.hid c2
  clear H hi hrs hsl HM
  go_enter Tryd.func38, Tryd.ntmps38
  go_wp2_with fail
  refine HX.out.mono ?_
  rintro e w2 ⟨rfl, hc⟩
  have HCH := Lib.hid hc
  have m0 := hc.cell HM0.out
  have m1 := hc.cell HM1.out
  have c2 := hc.cell HC2.out
  clear c0 c1 HX
  by_cases h0 : 0 ≤ i
  · have n0 : ¬ i < 0 := by omega
    obtain ⟨k, rfl⟩ : ∃ k : Nat, i = (k : Int) := ⟨i.toNat, by omega⟩
    have hrs := HRS.out
    rw [Int.toNat_natCast] at hrs
    by_cases hl : k < hp.slots.length
    · have l1 : (k : Int) < (hp.slots.length : Int) := by omega
      obtain ⟨g, off, rfl, hu⟩ := HS.out k hl
      have hu2 := hc.cell hu
      clear hc hu
      cases hused : (hp.slots.getD k noSlt).used with
      | true =>
        rw [hused] at hu2
        rw [if_pos ⟨h0, hl, hused⟩] at hrs
        subst hrs
        clear hl n0 HRS hused
        go_wp2_with fail
        go_ret
        exact ⟨rfl, HCH.out⟩
      | false =>
        rw [hused] at hu2
        rw [if_neg (by rw [hused]; simp)] at hrs
        subst hrs
        clear hl n0 HRS hused
        go_wp2_with fail
        go_ret
        exact ⟨rfl, HCH.out⟩
    · have l1 : ¬ (k : Int) < (hp.slots.length : Int) := by omega
      rw [if_neg (fun x => hl x.2.1)] at hrs
      subst hrs
      clear hl n0 hc HRS
      go_wp2_with fail
      go_ret
      exact ⟨rfl, HCH.out⟩
  · have n0 : i < 0 := by omega
    have hrs := HRS.out
    rw [if_neg (fun x => h0 x.1)] at hrs
    subst hrs
    clear h0 hc HRS
    go_wp2_with fail
    go_ret
    exact ⟨rfl, HCH.out⟩

set_option maxHeartbeats 3200000 in
set_option maxRecDepth 100000 in
theorem has_gen (w : World) (bm bh : Nat) (hp : Hp) (F : List Nat) (K Fm : List Nat) (h : Int) (H : Here hpR w bh 0 hp F) (HM : Here mkR w bm 0 (mkOf bh hp K) Fm) (hi : -9223372036854775808 ≤ h ∧ h ≤ 9223372036854775807) :
    Calls Tryd.prog 31 #[.pointer (some ⟨bm, 0, none⟩), .int .i64 h] w fun e w' => e = .returned (.bool (hasK hp K h)) ∧ Chg (fun _ => False) w w' := by
  have hs := slot_gen w bm bh hp F K Fm h H HM hi
  unfold hasK
  cases hsl : slotOf hp h with
  | none =>
    rw [hsl] at hs
    have HS := Lib.hid hs
    clear hs hsl HM H hi
    go_enter Tryd.func31, Tryd.ntmps31
    go_wp2_with fail
    refine HS.out.mono ?_
    rintro e w2 ⟨rfl, hc⟩
    have HC := Lib.hid hc
    clear hc HS
    rw [show slotI none = -1 from rfl]
    go_wp2_with fail
    go_ret
    exact ⟨rfl, HC.out⟩
  | some i =>
    rw [hsl] at hs
    obtain ⟨hlt, -, -⟩ := slotOf_lt hsl
    obtain ⟨g, off, cap, m1, hset⟩ := mkSet HM (by rw [mkOf_setlen]; omega)
    obtain ⟨q1, -, -⟩ := hset i (by rw [mkOf_setlen]; exact hlt)
    rw [mkOf_set] at q1
    rw [mkOf_setlen] at m1
    have HS := Lib.hid hs
    have h0 : (0 : Int) ≤ (i : Int) := by omega
    have h1 : (i : Int) < (hp.slots.length : Int) := by omega
    have HM1 := Lib.hid m1
    have HQ1 := Lib.hid q1
    clear hs hsl HM H hi hset m1 q1 hlt
    go_enter Tryd.func31, Tryd.ntmps31
    go_wp2_with fail
    refine HS.out.mono ?_
    rintro e w2 ⟨rfl, hc⟩
    have m1 := hc.cell HM1.out
    have q1 := hc.cell HQ1.out
    have HC := Lib.hid hc
    clear hc HS
    rw [show slotI (some i) = (i : Int) from rfl]
    go_wp2_with fail
    go_ret
    exact ⟨rfl, HC.out⟩


/-- The block of a row in a field lies in the thing's footprint. -/
theorem Here.ownIn2 {α β : Type} {A : Rep α} {B : Rep β} {e : TypeId} {w : World} {b o k : Nat} {a : α} {F : List Nat} {get : α → List β} {set : α → List β → α} (fl : FieldOf A (B.row e) k get set) (hA : 0 < A.n) (H : Here A w b o a F) {v : Value} (hc : w.cell? ⟨b, o + k, none⟩ = some v) {j : Nat} (hj : v.ownBlock = some j) : j ∈ F := by
  obtain ⟨G, h1, h2, -⟩ := H.field fl hA
  obtain ⟨v', xs, Fs, hc', hopen⟩ := h1.openRow
  rw [hc] at hc'
  cases hc'
  exact h2 _ (by rw [hopen.fp]; exact List.mem_append_left _ (mem_ownL.2 hj))
section
variable {β : Type} {B : Rep β} {w : World} {b o : Nat}
/-- All cells of a thing stored anew: what was behind it may have changed before. -/
theorem Here.putAll {x y : β} {G G' : List Nat} {w2 : World} {cs : List Value} (h : Here B w b o x G) (hc : Chg (fun k => k ∈ G) w w2) (hn : 0 < B.n) (hy : B.own w2 cs y G') (nd : G'.Nodup) (new : ∀ k ∈ G', k ∈ G ∨ w.heap.size ≤ k) :
    Here B (w2.setCells b o cs) b o y G' ∧ Step w (w2.setCells b o cs) b o B.n G G' := by
  obtain ⟨c, T, h1, h2⟩ := h.box
  have hl := B.len h2
  have hl2 := B.len hy
  simp only [List.length_take, List.length_drop, Array.length_toList] at hl
  have hsz : o + B.n ≤ c.size := by omega
  have hb : b < w.heap.size := lt_of_block h1
  have nb : b ∉ G' := fun hx => (new b hx).elim h.nb (fun e => by omega)
  have h3 := setCells_block cs o (hc.keep h1 h.nb)
  have hch : Chg (· = b) w2 (w2.setCells b o cs) := Chg.setCells cs w2 o
  refine ⟨⟨⟨_, T, h3, ?_⟩, nb, nd⟩, ⟨?_, new, ?_⟩⟩
  · rw [putAt_toList cs c o (by omega), List.append_assoc, List.drop_left' (by rw [List.length_take, Array.length_toList]; omega), List.take_left' hl2]
    exact B.chg hy hch (fun k hk e => nb (by have e' : k = b := e; rwa [e'] at hk))
  · exact (hc.mono (S' := fun k => k = b ∨ k ∈ G) (fun _ _ x => .inr x)).trans (hch.mono (S' := fun k => k = b ∨ k ∈ G) (fun _ _ x => .inl x)) (fun _ _ x => x) (fun _ _ x => x)
  · intro d U hd
    have h4 := setCells_block cs o (hc.keep hd h.nb)
    rw [h1] at hd
    cases hd
    refine ⟨_, h4, by rw [putAt_size], fun j hj => ?_⟩
    have e : (putAt c o cs)[j]? = (putAt c o cs).toList[j]? := by simp
    rw [e, putAt_toList cs c o (by omega)]
    have e2 : c[j]? = c.toList[j]? := by simp
    rw [e2]
    have ht : (c.toList.take o).length = o := by rw [List.length_take]; simp; omega
    rcases hj with hj | hj
    · rw [List.append_assoc, List.getElem?_append_left (by rw [ht]; exact hj), List.getElem?_take, if_pos hj]
    · rw [List.getElem?_append_right (by rw [List.length_append, ht]; omega), List.length_append, ht, List.getElem?_drop]
      have e5 : o + cs.length + (j - (o + cs.length)) = j := by omega
      rw [e5]
end
/-- A cell that is not stored yet. -/
theorem storeCell {w : World} {g so T : Nat} {c : Array Value} (h : w.heap[g]? = some (.cells c T (0, 0))) (vs : List Value) (hs : so + vs.length ≤ c.size) {u : Value} (hu : c[so + vs.length]? = some u) : (w.setCells g so vs).cell? ⟨g, so + vs.length, none⟩ = some u ∧ (w.setCells g so vs).frozen? ⟨g, so + vs.length, none⟩ = false := by
  have h3 := setCells_block vs so h
  refine ⟨cell_of_block h3 ?_, frozen_of_block h3⟩
  have e : (putAt c so vs)[so + vs.length]? = (putAt c so vs).toList[so + vs.length]? := by simp
  have ht : (c.toList.take so).length = so := by rw [List.length_take]; simp; omega
  rw [e, putAt_toList vs c so hs, List.getElem?_append_right (by rw [List.length_append, ht]; exact Nat.le_refl _), List.length_append, ht, List.getElem?_drop, Nat.sub_self, Nat.add_zero, ← hu]
  simp
theorem setCells_cons (w : World) (b o : Nat) (v : Value) (vs : List Value) : w.setCells b o (v :: vs) = (w.setCell ⟨b, o, none⟩ v).setCells b (o + 1) vs := rfl
theorem setCells_nil (w : World) (b o : Nat) : w.setCells b o [] = w := rfl
/-- Eleven cells stored one after the other. -/
theorem store11 {w : World} {g so T : Nat} {c : Array Value} (b0 : w.heap[g]? = some (.cells c T (0, 0))) (v0 v1 v2 v3 v4 v5 v6 v7 v8 v9 v10 : Value) {u0 u1 u2 u3 u4 u5 u6 u7 u8 u9 u10 : Value} (hu : c[so]? = some u0 ∧ c[so + 1]? = some u1 ∧ c[so + 2]? = some u2 ∧ c[so + 3]? = some u3 ∧ c[so + 4]? = some u4 ∧ c[so + 5]? = some u5 ∧ c[so + 6]? = some u6 ∧ c[so + 7]? = some u7 ∧ c[so + 8]? = some u8 ∧ c[so + 9]? = some u9 ∧ c[so + 10]? = some u10) :
    w.cell? ⟨g, so, none⟩ = some u0 ∧ w.frozen? ⟨g, so, none⟩ = false ∧
    (w.setCell ⟨g, so, none⟩ v0).cell? ⟨g, so + 1, none⟩ = some u1 ∧ (w.setCell ⟨g, so, none⟩ v0).frozen? ⟨g, so + 1, none⟩ = false ∧
    ((w.setCell ⟨g, so, none⟩ v0).setCell ⟨g, so + 1, none⟩ v1).cell? ⟨g, so + 2, none⟩ = some u2 ∧ ((w.setCell ⟨g, so, none⟩ v0).setCell ⟨g, so + 1, none⟩ v1).frozen? ⟨g, so + 2, none⟩ = false ∧
    (((w.setCell ⟨g, so, none⟩ v0).setCell ⟨g, so + 1, none⟩ v1).setCell ⟨g, so + 2, none⟩ v2).cell? ⟨g, so + 3, none⟩ = some u3 ∧ (((w.setCell ⟨g, so, none⟩ v0).setCell ⟨g, so + 1, none⟩ v1).setCell ⟨g, so + 2, none⟩ v2).frozen? ⟨g, so + 3, none⟩ = false ∧
    ((((w.setCell ⟨g, so, none⟩ v0).setCell ⟨g, so + 1, none⟩ v1).setCell ⟨g, so + 2, none⟩ v2).setCell ⟨g, so + 3, none⟩ v3).cell? ⟨g, so + 4, none⟩ = some u4 ∧ ((((w.setCell ⟨g, so, none⟩ v0).setCell ⟨g, so + 1, none⟩ v1).setCell ⟨g, so + 2, none⟩ v2).setCell ⟨g, so + 3, none⟩ v3).frozen? ⟨g, so + 4, none⟩ = false ∧
    (((((w.setCell ⟨g, so, none⟩ v0).setCell ⟨g, so + 1, none⟩ v1).setCell ⟨g, so + 2, none⟩ v2).setCell ⟨g, so + 3, none⟩ v3).setCell ⟨g, so + 4, none⟩ v4).cell? ⟨g, so + 5, none⟩ = some u5 ∧ (((((w.setCell ⟨g, so, none⟩ v0).setCell ⟨g, so + 1, none⟩ v1).setCell ⟨g, so + 2, none⟩ v2).setCell ⟨g, so + 3, none⟩ v3).setCell ⟨g, so + 4, none⟩ v4).frozen? ⟨g, so + 5, none⟩ = false ∧
    ((((((w.setCell ⟨g, so, none⟩ v0).setCell ⟨g, so + 1, none⟩ v1).setCell ⟨g, so + 2, none⟩ v2).setCell ⟨g, so + 3, none⟩ v3).setCell ⟨g, so + 4, none⟩ v4).setCell ⟨g, so + 5, none⟩ v5).cell? ⟨g, so + 6, none⟩ = some u6 ∧ ((((((w.setCell ⟨g, so, none⟩ v0).setCell ⟨g, so + 1, none⟩ v1).setCell ⟨g, so + 2, none⟩ v2).setCell ⟨g, so + 3, none⟩ v3).setCell ⟨g, so + 4, none⟩ v4).setCell ⟨g, so + 5, none⟩ v5).frozen? ⟨g, so + 6, none⟩ = false ∧
    (((((((w.setCell ⟨g, so, none⟩ v0).setCell ⟨g, so + 1, none⟩ v1).setCell ⟨g, so + 2, none⟩ v2).setCell ⟨g, so + 3, none⟩ v3).setCell ⟨g, so + 4, none⟩ v4).setCell ⟨g, so + 5, none⟩ v5).setCell ⟨g, so + 6, none⟩ v6).cell? ⟨g, so + 7, none⟩ = some u7 ∧ (((((((w.setCell ⟨g, so, none⟩ v0).setCell ⟨g, so + 1, none⟩ v1).setCell ⟨g, so + 2, none⟩ v2).setCell ⟨g, so + 3, none⟩ v3).setCell ⟨g, so + 4, none⟩ v4).setCell ⟨g, so + 5, none⟩ v5).setCell ⟨g, so + 6, none⟩ v6).frozen? ⟨g, so + 7, none⟩ = false ∧
    ((((((((w.setCell ⟨g, so, none⟩ v0).setCell ⟨g, so + 1, none⟩ v1).setCell ⟨g, so + 2, none⟩ v2).setCell ⟨g, so + 3, none⟩ v3).setCell ⟨g, so + 4, none⟩ v4).setCell ⟨g, so + 5, none⟩ v5).setCell ⟨g, so + 6, none⟩ v6).setCell ⟨g, so + 7, none⟩ v7).cell? ⟨g, so + 8, none⟩ = some u8 ∧ ((((((((w.setCell ⟨g, so, none⟩ v0).setCell ⟨g, so + 1, none⟩ v1).setCell ⟨g, so + 2, none⟩ v2).setCell ⟨g, so + 3, none⟩ v3).setCell ⟨g, so + 4, none⟩ v4).setCell ⟨g, so + 5, none⟩ v5).setCell ⟨g, so + 6, none⟩ v6).setCell ⟨g, so + 7, none⟩ v7).frozen? ⟨g, so + 8, none⟩ = false ∧
    (((((((((w.setCell ⟨g, so, none⟩ v0).setCell ⟨g, so + 1, none⟩ v1).setCell ⟨g, so + 2, none⟩ v2).setCell ⟨g, so + 3, none⟩ v3).setCell ⟨g, so + 4, none⟩ v4).setCell ⟨g, so + 5, none⟩ v5).setCell ⟨g, so + 6, none⟩ v6).setCell ⟨g, so + 7, none⟩ v7).setCell ⟨g, so + 8, none⟩ v8).cell? ⟨g, so + 9, none⟩ = some u9 ∧ (((((((((w.setCell ⟨g, so, none⟩ v0).setCell ⟨g, so + 1, none⟩ v1).setCell ⟨g, so + 2, none⟩ v2).setCell ⟨g, so + 3, none⟩ v3).setCell ⟨g, so + 4, none⟩ v4).setCell ⟨g, so + 5, none⟩ v5).setCell ⟨g, so + 6, none⟩ v6).setCell ⟨g, so + 7, none⟩ v7).setCell ⟨g, so + 8, none⟩ v8).frozen? ⟨g, so + 9, none⟩ = false ∧
    ((((((((((w.setCell ⟨g, so, none⟩ v0).setCell ⟨g, so + 1, none⟩ v1).setCell ⟨g, so + 2, none⟩ v2).setCell ⟨g, so + 3, none⟩ v3).setCell ⟨g, so + 4, none⟩ v4).setCell ⟨g, so + 5, none⟩ v5).setCell ⟨g, so + 6, none⟩ v6).setCell ⟨g, so + 7, none⟩ v7).setCell ⟨g, so + 8, none⟩ v8).setCell ⟨g, so + 9, none⟩ v9).cell? ⟨g, so + 10, none⟩ = some u10 ∧ ((((((((((w.setCell ⟨g, so, none⟩ v0).setCell ⟨g, so + 1, none⟩ v1).setCell ⟨g, so + 2, none⟩ v2).setCell ⟨g, so + 3, none⟩ v3).setCell ⟨g, so + 4, none⟩ v4).setCell ⟨g, so + 5, none⟩ v5).setCell ⟨g, so + 6, none⟩ v6).setCell ⟨g, so + 7, none⟩ v7).setCell ⟨g, so + 8, none⟩ v8).setCell ⟨g, so + 9, none⟩ v9).frozen? ⟨g, so + 10, none⟩ = false ∧
    (((((((((((w.setCell ⟨g, so, none⟩ v0).setCell ⟨g, so + 1, none⟩ v1).setCell ⟨g, so + 2, none⟩ v2).setCell ⟨g, so + 3, none⟩ v3).setCell ⟨g, so + 4, none⟩ v4).setCell ⟨g, so + 5, none⟩ v5).setCell ⟨g, so + 6, none⟩ v6).setCell ⟨g, so + 7, none⟩ v7).setCell ⟨g, so + 8, none⟩ v8).setCell ⟨g, so + 9, none⟩ v9).setCell ⟨g, so + 10, none⟩ v10) = w.setCells g so [v0, v1, v2, v3, v4, v5, v6, v7, v8, v9, v10] := by
  obtain ⟨q0, q1, q2, q3, q4, q5, q6, q7, q8, q9, q10⟩ := hu
  have c0 : w.cell? ⟨g, so, none⟩ = some u0 := cell_of_block b0 q0
  have f0 : w.frozen? ⟨g, so, none⟩ = false := frozen_of_block b0
  have b1 := setCell_block (i := so) v0 b0
  have c1 : (w.setCell ⟨g, so, none⟩ v0).cell? ⟨g, so + 1, none⟩ = some u1 := cell_of_block b1 (by rw [Array.getElem?_setIfInBounds_ne (by omega)]; exact q1)
  have f1 : (w.setCell ⟨g, so, none⟩ v0).frozen? ⟨g, so + 1, none⟩ = false := frozen_of_block b1
  have b2 := setCell_block (i := so + 1) v1 b1
  have c2 : ((w.setCell ⟨g, so, none⟩ v0).setCell ⟨g, so + 1, none⟩ v1).cell? ⟨g, so + 2, none⟩ = some u2 := cell_of_block b2 (by rw [Array.getElem?_setIfInBounds_ne (by omega), Array.getElem?_setIfInBounds_ne (by omega)]; exact q2)
  have f2 : ((w.setCell ⟨g, so, none⟩ v0).setCell ⟨g, so + 1, none⟩ v1).frozen? ⟨g, so + 2, none⟩ = false := frozen_of_block b2
  have b3 := setCell_block (i := so + 2) v2 b2
  have c3 : (((w.setCell ⟨g, so, none⟩ v0).setCell ⟨g, so + 1, none⟩ v1).setCell ⟨g, so + 2, none⟩ v2).cell? ⟨g, so + 3, none⟩ = some u3 := cell_of_block b3 (by rw [Array.getElem?_setIfInBounds_ne (by omega), Array.getElem?_setIfInBounds_ne (by omega), Array.getElem?_setIfInBounds_ne (by omega)]; exact q3)
  have f3 : (((w.setCell ⟨g, so, none⟩ v0).setCell ⟨g, so + 1, none⟩ v1).setCell ⟨g, so + 2, none⟩ v2).frozen? ⟨g, so + 3, none⟩ = false := frozen_of_block b3
  have b4 := setCell_block (i := so + 3) v3 b3
  have c4 : ((((w.setCell ⟨g, so, none⟩ v0).setCell ⟨g, so + 1, none⟩ v1).setCell ⟨g, so + 2, none⟩ v2).setCell ⟨g, so + 3, none⟩ v3).cell? ⟨g, so + 4, none⟩ = some u4 := cell_of_block b4 (by rw [Array.getElem?_setIfInBounds_ne (by omega), Array.getElem?_setIfInBounds_ne (by omega), Array.getElem?_setIfInBounds_ne (by omega), Array.getElem?_setIfInBounds_ne (by omega)]; exact q4)
  have f4 : ((((w.setCell ⟨g, so, none⟩ v0).setCell ⟨g, so + 1, none⟩ v1).setCell ⟨g, so + 2, none⟩ v2).setCell ⟨g, so + 3, none⟩ v3).frozen? ⟨g, so + 4, none⟩ = false := frozen_of_block b4
  have b5 := setCell_block (i := so + 4) v4 b4
  have c5 : (((((w.setCell ⟨g, so, none⟩ v0).setCell ⟨g, so + 1, none⟩ v1).setCell ⟨g, so + 2, none⟩ v2).setCell ⟨g, so + 3, none⟩ v3).setCell ⟨g, so + 4, none⟩ v4).cell? ⟨g, so + 5, none⟩ = some u5 := cell_of_block b5 (by rw [Array.getElem?_setIfInBounds_ne (by omega), Array.getElem?_setIfInBounds_ne (by omega), Array.getElem?_setIfInBounds_ne (by omega), Array.getElem?_setIfInBounds_ne (by omega), Array.getElem?_setIfInBounds_ne (by omega)]; exact q5)
  have f5 : (((((w.setCell ⟨g, so, none⟩ v0).setCell ⟨g, so + 1, none⟩ v1).setCell ⟨g, so + 2, none⟩ v2).setCell ⟨g, so + 3, none⟩ v3).setCell ⟨g, so + 4, none⟩ v4).frozen? ⟨g, so + 5, none⟩ = false := frozen_of_block b5
  have b6 := setCell_block (i := so + 5) v5 b5
  have c6 : ((((((w.setCell ⟨g, so, none⟩ v0).setCell ⟨g, so + 1, none⟩ v1).setCell ⟨g, so + 2, none⟩ v2).setCell ⟨g, so + 3, none⟩ v3).setCell ⟨g, so + 4, none⟩ v4).setCell ⟨g, so + 5, none⟩ v5).cell? ⟨g, so + 6, none⟩ = some u6 := cell_of_block b6 (by rw [Array.getElem?_setIfInBounds_ne (by omega), Array.getElem?_setIfInBounds_ne (by omega), Array.getElem?_setIfInBounds_ne (by omega), Array.getElem?_setIfInBounds_ne (by omega), Array.getElem?_setIfInBounds_ne (by omega), Array.getElem?_setIfInBounds_ne (by omega)]; exact q6)
  have f6 : ((((((w.setCell ⟨g, so, none⟩ v0).setCell ⟨g, so + 1, none⟩ v1).setCell ⟨g, so + 2, none⟩ v2).setCell ⟨g, so + 3, none⟩ v3).setCell ⟨g, so + 4, none⟩ v4).setCell ⟨g, so + 5, none⟩ v5).frozen? ⟨g, so + 6, none⟩ = false := frozen_of_block b6
  have b7 := setCell_block (i := so + 6) v6 b6
  have c7 : (((((((w.setCell ⟨g, so, none⟩ v0).setCell ⟨g, so + 1, none⟩ v1).setCell ⟨g, so + 2, none⟩ v2).setCell ⟨g, so + 3, none⟩ v3).setCell ⟨g, so + 4, none⟩ v4).setCell ⟨g, so + 5, none⟩ v5).setCell ⟨g, so + 6, none⟩ v6).cell? ⟨g, so + 7, none⟩ = some u7 := cell_of_block b7 (by rw [Array.getElem?_setIfInBounds_ne (by omega), Array.getElem?_setIfInBounds_ne (by omega), Array.getElem?_setIfInBounds_ne (by omega), Array.getElem?_setIfInBounds_ne (by omega), Array.getElem?_setIfInBounds_ne (by omega), Array.getElem?_setIfInBounds_ne (by omega), Array.getElem?_setIfInBounds_ne (by omega)]; exact q7)
  have f7 : (((((((w.setCell ⟨g, so, none⟩ v0).setCell ⟨g, so + 1, none⟩ v1).setCell ⟨g, so + 2, none⟩ v2).setCell ⟨g, so + 3, none⟩ v3).setCell ⟨g, so + 4, none⟩ v4).setCell ⟨g, so + 5, none⟩ v5).setCell ⟨g, so + 6, none⟩ v6).frozen? ⟨g, so + 7, none⟩ = false := frozen_of_block b7
  have b8 := setCell_block (i := so + 7) v7 b7
  have c8 : ((((((((w.setCell ⟨g, so, none⟩ v0).setCell ⟨g, so + 1, none⟩ v1).setCell ⟨g, so + 2, none⟩ v2).setCell ⟨g, so + 3, none⟩ v3).setCell ⟨g, so + 4, none⟩ v4).setCell ⟨g, so + 5, none⟩ v5).setCell ⟨g, so + 6, none⟩ v6).setCell ⟨g, so + 7, none⟩ v7).cell? ⟨g, so + 8, none⟩ = some u8 := cell_of_block b8 (by rw [Array.getElem?_setIfInBounds_ne (by omega), Array.getElem?_setIfInBounds_ne (by omega), Array.getElem?_setIfInBounds_ne (by omega), Array.getElem?_setIfInBounds_ne (by omega), Array.getElem?_setIfInBounds_ne (by omega), Array.getElem?_setIfInBounds_ne (by omega), Array.getElem?_setIfInBounds_ne (by omega), Array.getElem?_setIfInBounds_ne (by omega)]; exact q8)
  have f8 : ((((((((w.setCell ⟨g, so, none⟩ v0).setCell ⟨g, so + 1, none⟩ v1).setCell ⟨g, so + 2, none⟩ v2).setCell ⟨g, so + 3, none⟩ v3).setCell ⟨g, so + 4, none⟩ v4).setCell ⟨g, so + 5, none⟩ v5).setCell ⟨g, so + 6, none⟩ v6).setCell ⟨g, so + 7, none⟩ v7).frozen? ⟨g, so + 8, none⟩ = false := frozen_of_block b8
  have b9 := setCell_block (i := so + 8) v8 b8
  have c9 : (((((((((w.setCell ⟨g, so, none⟩ v0).setCell ⟨g, so + 1, none⟩ v1).setCell ⟨g, so + 2, none⟩ v2).setCell ⟨g, so + 3, none⟩ v3).setCell ⟨g, so + 4, none⟩ v4).setCell ⟨g, so + 5, none⟩ v5).setCell ⟨g, so + 6, none⟩ v6).setCell ⟨g, so + 7, none⟩ v7).setCell ⟨g, so + 8, none⟩ v8).cell? ⟨g, so + 9, none⟩ = some u9 := cell_of_block b9 (by rw [Array.getElem?_setIfInBounds_ne (by omega), Array.getElem?_setIfInBounds_ne (by omega), Array.getElem?_setIfInBounds_ne (by omega), Array.getElem?_setIfInBounds_ne (by omega), Array.getElem?_setIfInBounds_ne (by omega), Array.getElem?_setIfInBounds_ne (by omega), Array.getElem?_setIfInBounds_ne (by omega), Array.getElem?_setIfInBounds_ne (by omega), Array.getElem?_setIfInBounds_ne (by omega)]; exact q9)
  have f9 : (((((((((w.setCell ⟨g, so, none⟩ v0).setCell ⟨g, so + 1, none⟩ v1).setCell ⟨g, so + 2, none⟩ v2).setCell ⟨g, so + 3, none⟩ v3).setCell ⟨g, so + 4, none⟩ v4).setCell ⟨g, so + 5, none⟩ v5).setCell ⟨g, so + 6, none⟩ v6).setCell ⟨g, so + 7, none⟩ v7).setCell ⟨g, so + 8, none⟩ v8).frozen? ⟨g, so + 9, none⟩ = false := frozen_of_block b9
  have b10 := setCell_block (i := so + 9) v9 b9
  have c10 : ((((((((((w.setCell ⟨g, so, none⟩ v0).setCell ⟨g, so + 1, none⟩ v1).setCell ⟨g, so + 2, none⟩ v2).setCell ⟨g, so + 3, none⟩ v3).setCell ⟨g, so + 4, none⟩ v4).setCell ⟨g, so + 5, none⟩ v5).setCell ⟨g, so + 6, none⟩ v6).setCell ⟨g, so + 7, none⟩ v7).setCell ⟨g, so + 8, none⟩ v8).setCell ⟨g, so + 9, none⟩ v9).cell? ⟨g, so + 10, none⟩ = some u10 := cell_of_block b10 (by rw [Array.getElem?_setIfInBounds_ne (by omega), Array.getElem?_setIfInBounds_ne (by omega), Array.getElem?_setIfInBounds_ne (by omega), Array.getElem?_setIfInBounds_ne (by omega), Array.getElem?_setIfInBounds_ne (by omega), Array.getElem?_setIfInBounds_ne (by omega), Array.getElem?_setIfInBounds_ne (by omega), Array.getElem?_setIfInBounds_ne (by omega), Array.getElem?_setIfInBounds_ne (by omega), Array.getElem?_setIfInBounds_ne (by omega)]; exact q10)
  have f10 : ((((((((((w.setCell ⟨g, so, none⟩ v0).setCell ⟨g, so + 1, none⟩ v1).setCell ⟨g, so + 2, none⟩ v2).setCell ⟨g, so + 3, none⟩ v3).setCell ⟨g, so + 4, none⟩ v4).setCell ⟨g, so + 5, none⟩ v5).setCell ⟨g, so + 6, none⟩ v6).setCell ⟨g, so + 7, none⟩ v7).setCell ⟨g, so + 8, none⟩ v8).setCell ⟨g, so + 9, none⟩ v9).frozen? ⟨g, so + 10, none⟩ = false := frozen_of_block b10
  exact ⟨c0, f0, c1, f1, c2, f2, c3, f3, c4, f4, c5, f5, c6, f6, c7, f7, c8, f8, c9, f9, c10, f10, rfl⟩

theorem noSlt_own (w : World) : sltR.own w [.bool false, .int .i64 0, .int .i64 0, .slice none 0 0, .slice none 0 0, .slice none 0 0, .int .i64 0, .int .i64 0, .int .i64 0, .int .i64 0, .slice none 0 0] noSlt [] := ⟨_, rfl, newObj_own w 0 0⟩
def dropH (hp : Hp) (i : Nat) : Hp := { hp with slots := hp.slots.set i noSlt, free := hp.free ++ [(i : Int)], live := hp.live - 1 }
set_option maxHeartbeats 3200000 in
set_option maxRecDepth 100000 in
theorem drop_any (w : World) (b : Nat) (hp : Hp) (F : List Nat) (h : Int) (i : Nat) (H : Here hpR w b 0 hp F) (hs : slotOf hp h = some i) (hi : -9223372036854775808 ≤ h ∧ h ≤ 9223372036854775807) (hfl : hp.free.length ≤ 100000) (hlv : 0 ≤ hp.live ∧ hp.live ≤ 1000000) :
    Calls Tryd.prog 29 #[.pointer (some ⟨b, 0, none⟩), .int .i64 h] w fun e w' => e = .returned (.bool true) ∧ Post hpR w b 0 (dropH hp i) F w' := by
  obtain ⟨hlt, -, hix⟩ := slotOf_lt hs
  obtain ⟨-, -, ⟨a, ca, c2⟩, -⟩ := hpCells H
  obtain ⟨g, off, rfl, -⟩ := hpSlot H c2 hlt
  have hf := find_any w b 0 hp F h _ H c2 hi
  rw [hs, rowPtr_some] at hf
  have HF := Lib.hid hf
  have HH := Lib.hid H
  have HC2 := Lib.hid c2
  have HFL := Lib.hid hfl
  have HLT := Lib.hid hlt
  have HLV := Lib.hid hlv
  have HIX := Lib.hid (fun W => (by have q := index_any hp.base hp.stride h W hi; rw [hix] at q; exact q : Calls Tryd.prog 46 #[.agg #[.int .i64 hp.base, .int .i64 hp.stride], .int .i64 h] W fun e w' => e = .returned (.int .i64 (i : Int)) ∧ Chg (fun _ => False) W w'))
  clear hf H c2 hfl hlt hs hi hix hlv
  go_enter Tryd.func29, Tryd.ntmps29
  go_upto_region 4 with (go_at_call 45; refine HF.out.mono ?_; rintro e wf ⟨rfl, hcf⟩)
  obtain ⟨g', off', e, G, hsl, -, -, -, -, hback⟩ := hpSlot (HH.out.still hcf) (hcf.cell HC2.out) HLT.out
  cases e
  obtain ⟨c, T, hbx, hown⟩ := hsl.box
  have hlen := sltR.len hown
  rw [show sltR.n = 11 from rfl, List.length_take, List.length_drop, Array.length_toList] at hlen
  have hget : ∀ k, k < 11 → c[off + i * 11 + k]? = some (c[off + i * 11 + k]?.getD undef) := fun k hk => by
    rw [Array.getElem?_eq_getElem (by omega)]; rfl
  obtain ⟨z0, y0, z1, y1, z2, y2, z3, y3, z4, y4, z5, y5, z6, y6, z7, y7, z8, y8, z9, y9, z10, y10, hw⟩ := store11 (so := off + i * 11) hbx (.bool false) (.int .i64 0) (.int .i64 0) (.slice none 0 0) (.slice none 0 0) (.slice none 0 0) (.int .i64 0) (.int .i64 0) (.int .i64 0) (.int .i64 0) (.slice none 0 0) ⟨hget 0 (by omega), hget 1 (by omega), hget 2 (by omega), hget 3 (by omega), hget 4 (by omega), hget 5 (by omega), hget 6 (by omega), hget 7 (by omega), hget 8 (by omega), hget 9 (by omega), hget 10 (by omega)⟩
  obtain ⟨HSP, SSP⟩ := hsl.putAll (Chg.refl _ _) (by show 0 < 11; decide) (noSlt_own wf) List.nodup_nil (fun k hk => by cases hk)
  obtain ⟨hpost, -⟩ := hback _ _ _ HSP SSP
  have HP1 := Lib.hid (Post.pre hcf hpost)
  clear hback HSP SSP hsl hown hbx hlen hget HF hpost
  go_upto_region 5 with fail
  clear hw z0 y0 z1 y1 z2 y2 z3 y3 z4 y4 z5 y5 z6 y6 z7 y7 z8 y8 z9 y9 z10 y10
  generalize wf.setCells g (off + i * 11) [.bool false, .int .i64 0, .int .i64 0, .slice none 0 0, .slice none 0 0, .slice none 0 0, .int .i64 0, .int .i64 0, .int .i64 0, .int .i64 0, .slice none 0 0] = W3 at *
  obtain ⟨F1, HH1, S1⟩ := HP1.out
  have HS1 := Lib.hid S1
  obtain ⟨p, cap, xs, Fs, Fr, c0, hopen, fz, hst, hbk⟩ := HH1.fieldAppending hpR_free (by show 0 < 8; decide)
  obtain ⟨b0, b1, -⟩ := hpCells HH1
  rw [Nat.zero_add] at c0 fz b1
  simp only [Nat.zero_add] at hst hbk
  have hfx : xs.flatten = hp.free.flatMap fun i : Int => [Value.int .i64 i] := (each_flat (n := 1) (f := fun i : Int => [Value.int .i64 i]) (hf := fun _ => rfl) hopen.each).1
  have hrw := hopen.row
  rw [hfx] at hrw
  have HRW := Lib.hid hrw
  have HFX := Lib.hid hfx
  have HST := Lib.hid hst
  have HBA := Lib.hid hbk
  have HN1 : Hid (¬ (Value.slice p hp.free.length cap).ownBlock = some b) := Lib.hid (fun hj => HH1.nb (HH1.ownIn2 hpR_free (by show 0 < 8; decide) (by rw [Nat.zero_add]; exact c0) hj))
  have HS0 : Hid (W3.cell? ⟨b, 3, none⟩ = some (.slice p hp.free.length cap) ∧ W3.cell? ⟨b, 0, none⟩ = some (.int .i64 hp.base) ∧ W3.cell? ⟨b, 1, none⟩ = some (.int .i64 hp.stride)) := Lib.hid ⟨c0, b0, b1⟩
  clear HP1 HH1 S1 c0 b0 b1 hst hbk hfx hrw hopen HH HC2 HLT hcf
  refine wp_region_held_split 15 (fun w' => w'.cell? ⟨b, 3, none⟩ = some (.slice p hp.free.length cap) ∧ w'.cell? ⟨b, 0, none⟩ = some (.int .i64 hp.base) ∧ w'.cell? ⟨b, 1, none⟩ = some (.int .i64 hp.stride)) (by kernel_rfl) (by kernel_rfl) ?_ (fun hHeld => ?_)
  · (first | exact HS0.out | exact HKS.out _ (Chg.refl _ _) | exact HKS.out _ HCD.out | exact HKS.out _ (HCD.out.allocR _) | exact ⟨cc2, hchg2.cellS (HKS.out _ (HCD.out.allocR _)).2.1 HN1.out, hchg2.cellS (HKS.out _ (HCD.out.allocR _)).2.2 HN1.out⟩)
  simp only [List.take_succ_cons, List.take_zero]
  have HKS : Hid (∀ W, Chg (fun _ => False) W3.drew W → W.cell? ⟨b, 3, none⟩ = some (.slice p hp.free.length cap) ∧ W.cell? ⟨b, 0, none⟩ = some (.int .i64 hp.base) ∧ W.cell? ⟨b, 1, none⟩ = some (.int .i64 hp.stride)) := Lib.hid (fun W hc => ⟨hc.cell HS0.out.1, hc.cell HS0.out.2.1, hc.cell HS0.out.2.2⟩)
  have HRA : Hid (∀ W, Chg (fun _ => False) W3.drew W → RowAt W 3 1 (.slice p hp.free.length cap) hp.free.length (hp.free.flatMap fun i : Int => [Value.int .i64 i])) := Lib.hid (fun W hc => HRW.out.drew.chg hc (fun _ _ x => x))
  have HWD : Hid (Chg (fun _ => False) W3 W3.drew) := Lib.hid (Chg.refl _ W3).drewR
  generalize W3.drew = wD at *
  refine wpAnyH_take (i := 0) (v := ?_) rfl (by kernel_rfl) (by kernel_rfl) (by kernel_rfl) (fun _ _ _ h => h) (Or.inl ⟨by rfl, ?_⟩) (by assumption) ?_
  rotate_left
  · (intro wq hSw; (try dsimp only at hSw); go_simp; (try with_reducible rfl))
  simp only [Act.put, List.getElem_toArray, List.getElem_cons_zero, List.getElem_cons_succ, List.setIfInBounds_toArray, List.set_cons_zero, List.set_cons_succ]
  refine wpAnyH_take (i := 1) (v := ?_) rfl (by kernel_rfl) (by kernel_rfl) (by kernel_rfl) (fun _ _ _ h => h) (Or.inl ⟨by rfl, ?_⟩) (by assumption) ?_
  rotate_left
  · (intro wq hSw; (try dsimp only at hSw); go_simp; (try with_reducible rfl))
  simp only [Act.put, List.getElem_toArray, List.getElem_cons_zero, List.getElem_cons_succ, List.setIfInBounds_toArray, List.set_cons_zero, List.set_cons_succ]
  refine wpAnyH_take (i := 2) (v := ?_) rfl (by kernel_rfl) (by kernel_rfl) (by kernel_rfl) (fun _ _ _ h => h) (Or.inl ⟨by rfl, ?_⟩) (by assumption) ?_
  rotate_left
  · (intro wq hSw; (try dsimp only at hSw); go_simp; (try with_reducible rfl))
  simp only [Act.put, List.getElem_toArray, List.getElem_cons_zero, List.getElem_cons_succ, List.setIfInBounds_toArray, List.set_cons_zero, List.set_cons_succ]
  refine wpAnyH_take (i := 3) (v := ?_) rfl (by kernel_rfl) (by kernel_rfl) (by kernel_rfl) (fun _ _ _ h => h) (Or.inl ⟨by rfl, ?_⟩) (by assumption) ?_
  rotate_left
  · (intro wq hSw; (try dsimp only at hSw); go_simp; (try with_reducible rfl))
  simp only [Act.put, List.getElem_toArray, List.getElem_cons_zero, List.getElem_cons_succ, List.setIfInBounds_toArray, List.set_cons_zero, List.set_cons_succ]
  refine wpAnyH_take (i := 4) (v := ?_) rfl (by kernel_rfl) (by kernel_rfl) (by kernel_rfl) (fun _ _ _ h => h) (Or.inl ⟨by rfl, ?_⟩) (by assumption) ?_
  rotate_left
  · (intro wq hSw; (try dsimp only at hSw); go_simp; (try with_reducible rfl))
  simp only [Act.put, List.getElem_toArray, List.getElem_cons_zero, List.getElem_cons_succ, List.setIfInBounds_toArray, List.set_cons_zero, List.set_cons_succ]
  refine wpAnyH_take (i := 5) (v := ?_) rfl (by kernel_rfl) (by kernel_rfl) (by kernel_rfl) (fun _ _ _ h => h) (Or.inl ⟨by rfl, ?_⟩) (by assumption) ?_
  rotate_left
  · (intro wq hSw; (try dsimp only at hSw); go_simp; (try with_reducible rfl))
  simp only [Act.put, List.getElem_toArray, List.getElem_cons_zero, List.getElem_cons_succ, List.setIfInBounds_toArray, List.set_cons_zero, List.set_cons_succ]
  refine wpAnyH_take (i := 6) (v := ?_) rfl (by kernel_rfl) (by kernel_rfl) (by kernel_rfl) (fun _ _ _ h => h) (Or.inl ⟨by rfl, ?_⟩) (by assumption) ?_
  rotate_left
  · (intro wq hSw; (try dsimp only at hSw); go_simp; (try with_reducible rfl))
  simp only [Act.put, List.getElem_toArray, List.getElem_cons_zero, List.getElem_cons_succ, List.setIfInBounds_toArray, List.set_cons_zero, List.set_cons_succ]
  refine wpAnyH_take (i := 7) (v := ?_) rfl (by kernel_rfl) (by kernel_rfl) (by kernel_rfl) (fun _ _ _ h => h) (Or.inl ⟨by rfl, ?_⟩) (by assumption) ?_
  rotate_left
  · (intro wq hSw; (try dsimp only at hSw); go_simp; (try with_reducible rfl))
  simp only [Act.put, List.getElem_toArray, List.getElem_cons_zero, List.getElem_cons_succ, List.setIfInBounds_toArray, List.set_cons_zero, List.set_cons_succ]
  refine wpAnyH_take (i := 8) (v := ?_) rfl (by kernel_rfl) (by kernel_rfl) (by kernel_rfl) (fun _ _ _ h => h) (Or.inl ⟨by rfl, ?_⟩) (by assumption) ?_
  rotate_left
  · (intro wq hSw; (try dsimp only at hSw); go_simp; (try with_reducible rfl))
  simp only [Act.put, List.getElem_toArray, List.getElem_cons_zero, List.getElem_cons_succ, List.setIfInBounds_toArray, List.set_cons_zero, List.set_cons_succ]
  refine wpAnyH_take (i := 9) (v := ?_) rfl (by kernel_rfl) (by kernel_rfl) (by kernel_rfl) (fun _ _ _ h => h) (Or.inl ⟨by rfl, ?_⟩) (by assumption) ?_
  rotate_left
  · (intro wq hSw; (try dsimp only at hSw); go_simp; (try with_reducible rfl))
  simp only [Act.put, List.getElem_toArray, List.getElem_cons_zero, List.getElem_cons_succ, List.setIfInBounds_toArray, List.set_cons_zero, List.set_cons_succ]
  refine wpAnyH_ready (rs := [10]) (by kernel_rfl) (by simp) ?_
  refine AllReadyH.cons (by simp only [List.getElem?_toArray, List.getElem?_cons_succ, List.getElem?_cons_zero]; rfl) (fun K hK => ?_) AllReadyH.nil
  (first
    | (go_simp; go_at_call 46; refine (HIX.out _).mono ?_; rintro _ wd ⟨rfl, hcd⟩; have HCD := Lib.hid hcd; clear hcd; go_simp)
    | (refine step_append_rows (by rfl) _ _ 27 (by rfl) 3 1 8 Tryd.underlying27 elem_int (by decide) _ hp.free.length _ (by rfl) (HRA.out _ (HCD.out.allocR (.cells #[.int .i64 (i : Int)] 3))) _ 1 [.int .i64 (i : Int)] (by rfl) (RowAt.lit [.int .i64 (i : Int)] rfl (by simp [maxLen])) (by intro u hu; rw [List.mem_singleton.1 hu]; rfl) (by have := HFL.out; unfold maxLen; omega) (by have := HFL.out; omega) ?_; intro a2 n2 cp2 w2 hrow2 hchg2 hold2; have cc2 := (HST.out _ _ (HWD.out.trans' (HCD.out.allocR (.cells #[.int .i64 (i : Int)] 3))) hchg2).1; have f2 := (HST.out _ _ (HWD.out.trans' (HCD.out.allocR (.cells #[.int .i64 (i : Int)] 3))) hchg2).2))
  refine hK.out _ _ ?_ (fun hHeld => ?_)
  · (first | exact HS0.out | exact HKS.out _ (Chg.refl _ _) | exact HKS.out _ HCD.out | exact HKS.out _ (HCD.out.allocR _) | exact ⟨cc2, hchg2.cellS (HKS.out _ (HCD.out.allocR _)).2.1 HN1.out, hchg2.cellS (HKS.out _ (HCD.out.allocR _)).2.2 HN1.out⟩)
  clear hK K
  (try simp only [Act.put, List.getElem_toArray, List.getElem_cons_zero, List.getElem_cons_succ, List.setIfInBounds_toArray, List.set_cons_zero, List.set_cons_succ])
  refine wpAnyH_ready (rs := [11]) (by kernel_rfl) (by simp) ?_
  refine AllReadyH.cons (by simp only [List.getElem?_toArray, List.getElem?_cons_succ, List.getElem?_cons_zero]; rfl) (fun K hK => ?_) AllReadyH.nil
  go_simp
  refine hK.out _ _ ?_ (fun hHeld => ?_)
  · (first | exact HS0.out | exact HKS.out _ (Chg.refl _ _) | exact HKS.out _ HCD.out | exact HKS.out _ (HCD.out.allocR _) | exact ⟨cc2, hchg2.cellS (HKS.out _ (HCD.out.allocR _)).2.1 HN1.out, hchg2.cellS (HKS.out _ (HCD.out.allocR _)).2.2 HN1.out⟩)
  clear hK K
  (try simp only [Act.put, List.getElem_toArray, List.getElem_cons_zero, List.getElem_cons_succ, List.setIfInBounds_toArray, List.set_cons_zero, List.set_cons_succ])
  refine wpAnyH_ready (rs := [12]) (by kernel_rfl) (by simp) ?_
  refine AllReadyH.cons (by simp only [List.getElem?_toArray, List.getElem?_cons_succ, List.getElem?_cons_zero]; rfl) (fun K hK => ?_) AllReadyH.nil
  (first
    | (go_simp; go_at_call 46; refine (HIX.out _).mono ?_; rintro _ wd ⟨rfl, hcd⟩; have HCD := Lib.hid hcd; clear hcd; go_simp)
    | (refine step_append_rows (by rfl) _ _ 27 (by rfl) 3 1 8 Tryd.underlying27 elem_int (by decide) _ hp.free.length _ (by rfl) (HRA.out _ (HCD.out.allocR (.cells #[.int .i64 (i : Int)] 3))) _ 1 [.int .i64 (i : Int)] (by rfl) (RowAt.lit [.int .i64 (i : Int)] rfl (by simp [maxLen])) (by intro u hu; rw [List.mem_singleton.1 hu]; rfl) (by have := HFL.out; unfold maxLen; omega) (by have := HFL.out; omega) ?_; intro a2 n2 cp2 w2 hrow2 hchg2 hold2; have cc2 := (HST.out _ _ (HWD.out.trans' (HCD.out.allocR (.cells #[.int .i64 (i : Int)] 3))) hchg2).1; have f2 := (HST.out _ _ (HWD.out.trans' (HCD.out.allocR (.cells #[.int .i64 (i : Int)] 3))) hchg2).2))
  refine hK.out _ _ ?_ (fun hHeld => ?_)
  · (first | exact HS0.out | exact HKS.out _ (Chg.refl _ _) | exact HKS.out _ HCD.out | exact HKS.out _ (HCD.out.allocR _) | exact ⟨cc2, hchg2.cellS (HKS.out _ (HCD.out.allocR _)).2.1 HN1.out, hchg2.cellS (HKS.out _ (HCD.out.allocR _)).2.2 HN1.out⟩)
  clear hK K
  (try simp only [Act.put, List.getElem_toArray, List.getElem_cons_zero, List.getElem_cons_succ, List.setIfInBounds_toArray, List.set_cons_zero, List.set_cons_succ])
  refine wpAnyH_take (i := 13) (v := ?_) rfl (by kernel_rfl) (by kernel_rfl) (by kernel_rfl) (fun _ _ _ h => h) (Or.inl ⟨by rfl, ?_⟩) (by assumption) ?_
  rotate_left
  · (intro wq hSw; (try dsimp only at hSw); go_simp; (try with_reducible rfl))
  simp only [Act.put, List.getElem_toArray, List.getElem_cons_zero, List.getElem_cons_succ, List.setIfInBounds_toArray, List.set_cons_zero, List.set_cons_succ]
  refine wpAnyH_take (i := 14) (v := ?_) rfl (by kernel_rfl) (by kernel_rfl) (by kernel_rfl) (fun _ _ _ h => h) (Or.inl ⟨by rfl, ?_⟩) (by assumption) ?_
  rotate_left
  · (intro wq hSw; (try dsimp only at hSw); go_simp; (try with_reducible rfl))
  simp only [Act.put, List.getElem_toArray, List.getElem_cons_zero, List.getElem_cons_succ, List.setIfInBounds_toArray, List.set_cons_zero, List.set_cons_succ]
  refine wpAnyH_done (by kernel_rfl) ?_ _
  change wpList _ _ _ _ _ _
  simp only [List.drop_succ_cons, List.drop_zero]
  have P9 := HBA.out _ _ [.int .i64 (i : Int)] (i : Int) [] _ (HWD.out.trans' (HCD.out.allocR (.cells #[.int .i64 (i : Int)] 3))) ⟨rfl, rfl⟩ (by simp) (by simp) (by rw [HFX.out]; exact hrow2) hchg2 hold2
  have HP9 := Lib.hid P9
  clear P9 hrow2 hchg2 hold2
  go_upto_region 6 with fail
  generalize w2.setCell ⟨b, 3, none⟩ (.slice a2 n2 cp2) = W4 at *
  obtain ⟨F2, HH2, S2⟩ := HP9.out
  obtain ⟨-, -, -, -, c4, -⟩ := hpCells HH2
  rw [Nat.zero_add] at c4
  have f4 := HH2.frozen 4
  have w64 : IntKind.i64.wrap (hp.live - 1) = hp.live - 1 := IntWalk.i64_in _ (by have := HLV.out; omega)
  have P10 := HH2.setPost hpR_live (y := hp.live - 1) (v := .int .i64 (hp.live - 1)) rfl
  rw [Nat.zero_add] at P10
  have HP10 := Lib.hid P10
  have HS2 := Lib.hid S2
  clear HH2 P10 S2 HP9 cc2 f2 HS0 HKS HRA
  go_wp2_with fail
  go_ret
  obtain ⟨F3, HH3, S3⟩ := HP10.out
  exact ⟨rfl, F3, HH3, (HS1.out.trans HS2.out).trans S3⟩
end Go.Proofs.YthiiehanlconeaaDoor
