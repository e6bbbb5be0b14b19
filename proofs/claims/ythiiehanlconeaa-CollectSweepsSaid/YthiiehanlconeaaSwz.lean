/-
  The marks over a heap that has changed since; arena.Drop.
  What collect.Sweep makes of a heap, plainly.
  The walk of collect.Sweep.
  arena.Get, heap.Get.
-/
import Derived.Test.YthiiehanlconeaaMku
import Derived.Test.YthiiehanlconeaaCopy
import Derived.Test.YthiiehanlconeaaArc
import Derived.Test.YthiiehanlconeaaHeldT
import Derived.Test.YthiiehanlconeaaGst
import Derived.Test.YthiiehanlconeaaJoi
import Derived.Test.YthiiehanlconeaaAwk
import Derived.Laws.ResultCell
namespace Go.Proofs.Ythiiehanlconeaa
open Go.RowKit
set_option linter.unusedVariables false
set_option linter.unusedSimpArgs false

set_option maxHeartbeats 3200000 in
set_option maxRecDepth 100000 in
theorem slot_gen (w : World) (bm bh : Nat) (hp : Hp) (F : List Nat) (K Fm : List Nat) (h : Int) (H : Here hpR w bh 0 hp F) (HM : Here mkR w bm 0 (mkOf bh hp K) Fm) (hi : -9223372036854775808 ≤ h ∧ h ≤ 9223372036854775807) :
    Calls Try.prog 44 #[.pointer (some ⟨bm, 0, none⟩), .int .i64 h] w fun e w' => e = .returned (.int .i64 (slotI (slotOf hp h))) ∧ Chg (fun _ => False) w w' := by
  obtain ⟨m0, ⟨am, cm, m1⟩, -⟩ := mkCells HM
  have hsl : (mkOf bh hp K).set.length = hp.slots.length := by unfold mkOf; simp
  rw [hsl] at m1
  change w.cell? ⟨bm, 0, none⟩ = some (.pointer (some ⟨bh, 0, none⟩)) at m0
  obtain ⟨c0, c1, ⟨a, cap, c2⟩, -⟩ := hpCells H
  simp only [Nat.zero_add] at c0 c1 c2
  have HX := Lib.hid (index_any hp.base hp.stride h w hi)
  have HS : Hid (∀ i, i < hp.slots.length → ∃ g off, a = some ⟨g, off, none⟩ ∧ w.cell? ⟨g, off + i * 11, none⟩ = some (.bool (hp.slots.getD i noSlt).used)) := Lib.hid (fun i hi => by
    obtain ⟨g, off, e, G, -, h1, -⟩ := hpSlot H (by simpa using c2) hi
    refine ⟨g, off, e, ?_⟩
    rw [List.getD_eq_getElem?_getD, List.getElem?_eq_getElem hi]
    exact h1)
  have HLN : Hid ((hp.slots.length : Int) ≤ 9223372036854775807) := Lib.hid (by
    obtain ⟨v, xs, Fs, hc, hop⟩ := (H.field hpR_slots (by show 0 < 8; decide)).choose_spec.1.openRow
    obtain ⟨a', cap', -, h1, h2⟩ := hop.val
    have : hp.slots.length ≤ maxLen := Nat.le_trans h1 h2
    unfold maxLen at this
    omega)
  unfold slotOf
  generalize indexM hp.base hp.stride h = i at *
  generalize hrs : slotI (if 0 ≤ i ∧ i.toNat < hp.slots.length ∧ (hp.slots.getD i.toNat noSlt).used = true then some i.toNat else none) = rs at *
  have HRS := Lib.hid hrs
  have HM1 := Lib.hid m1
  have HM0 := Lib.hid m0
  have HC2 := Lib.hid c2
  clear H hi hrs hsl HM
  go_enter Try.func44, Try.ntmps44
  go_wp2_with fail
  refine HX.out.mono ?_
  rintro e w2 ⟨rfl, hc⟩
  have HCH := Lib.hid hc
  have m0 := hc.cell HM0.out
  have m1 := hc.cell HM1.out
  have c2 := hc.cell HC2.out
  clear c0 c1 HX
  by_cases h0 : 0 ≤ i
  · have n0 : ¬ i < 0 := by omega
    obtain ⟨k, rfl⟩ : ∃ k : Nat, i = (k : Int) := ⟨i.toNat, by omega⟩
    have hrs := HRS.out
    rw [Int.toNat_natCast] at hrs
    by_cases hl : k < hp.slots.length
    · have l1 : (k : Int) < (hp.slots.length : Int) := by omega
      obtain ⟨g, off, rfl, hu⟩ := HS.out k hl
      have hu2 := hc.cell hu
      clear hc hu
      cases hused : (hp.slots.getD k noSlt).used with
      | true =>
        rw [hused] at hu2
        rw [if_pos ⟨h0, hl, hused⟩] at hrs
        subst hrs
        clear hl n0 HRS hused
        go_wp2_with fail
        go_ret
        exact ⟨rfl, HCH.out⟩
      | false =>
        rw [hused] at hu2
        rw [if_neg (by rw [hused]; simp)] at hrs
        subst hrs
        clear hl n0 HRS hused
        go_wp2_with fail
        go_ret
        exact ⟨rfl, HCH.out⟩
    · have l1 : ¬ (k : Int) < (hp.slots.length : Int) := by omega
      rw [if_neg (fun x => hl x.2.1)] at hrs
      subst hrs
      clear hl n0 hc HRS
      go_wp2_with fail
      go_ret
      exact ⟨rfl, HCH.out⟩
  · have n0 : i < 0 := by omega
    have hrs := HRS.out
    rw [if_neg (fun x => h0 x.1)] at hrs
    subst hrs
    clear h0 hc HRS
    go_wp2_with fail
    go_ret
    exact ⟨rfl, HCH.out⟩

set_option maxHeartbeats 3200000 in
set_option maxRecDepth 100000 in
theorem has_gen (w : World) (bm bh : Nat) (hp : Hp) (F : List Nat) (K Fm : List Nat) (h : Int) (H : Here hpR w bh 0 hp F) (HM : Here mkR w bm 0 (mkOf bh hp K) Fm) (hi : -9223372036854775808 ≤ h ∧ h ≤ 9223372036854775807) :
    Calls Try.prog 40 #[.pointer (some ⟨bm, 0, none⟩), .int .i64 h] w fun e w' => e = .returned (.bool (hasK hp K h)) ∧ Chg (fun _ => False) w w' := by
  have hs := slot_gen w bm bh hp F K Fm h H HM hi
  unfold hasK
  cases hsl : slotOf hp h with
  | none =>
    rw [hsl] at hs
    have HS := Lib.hid hs
    clear hs hsl HM H hi
    go_enter Try.func40, Try.ntmps40
    go_wp2_with fail
    refine HS.out.mono ?_
    rintro e w2 ⟨rfl, hc⟩
    have HC := Lib.hid hc
    clear hc HS
    rw [show slotI none = -1 from rfl]
    go_wp2_with fail
    go_ret
    exact ⟨rfl, HC.out⟩
  | some i =>
    rw [hsl] at hs
    obtain ⟨hlt, -, -⟩ := slotOf_lt hsl
    obtain ⟨g, off, cap, m1, hset⟩ := mkSet HM (by rw [mkOf_setlen]; omega)
    obtain ⟨q1, -, -⟩ := hset i (by rw [mkOf_setlen]; exact hlt)
    rw [mkOf_set] at q1
    rw [mkOf_setlen] at m1
    have HS := Lib.hid hs
    have h0 : (0 : Int) ≤ (i : Int) := by omega
    have h1 : (i : Int) < (hp.slots.length : Int) := by omega
    have HM1 := Lib.hid m1
    have HQ1 := Lib.hid q1
    clear hs hsl HM H hi hset m1 q1 hlt
    go_enter Try.func40, Try.ntmps40
    go_wp2_with fail
    refine HS.out.mono ?_
    rintro e w2 ⟨rfl, hc⟩
    have m1 := hc.cell HM1.out
    have q1 := hc.cell HQ1.out
    have HC := Lib.hid hc
    clear hc HS
    rw [show slotI (some i) = (i : Int) from rfl]
    go_wp2_with fail
    go_ret
    exact ⟨rfl, HC.out⟩


/-- The block of a row in a field lies in the thing's footprint. -/
theorem Here.ownIn2 {α β : Type} {A : Rep α} {B : Rep β} {e : TypeId} {w : World} {b o k : Nat} {a : α} {F : List Nat} {get : α → List β} {set : α → List β → α} (fl : FieldOf A (B.row e) k get set) (hA : 0 < A.n) (H : Here A w b o a F) {v : Value} (hc : w.cell? ⟨b, o + k, none⟩ = some v) {j : Nat} (hj : v.ownBlock = some j) : j ∈ F := by
  obtain ⟨G, h1, h2, -⟩ := H.field fl hA
  obtain ⟨v', xs, Fs, hc', hopen⟩ := h1.openRow
  rw [hc] at hc'
  cases hc'
  exact h2 _ (by rw [hopen.fp]; exact List.mem_append_left _ (mem_ownL.2 hj))
section
variable {β : Type} {B : Rep β} {w : World} {b o : Nat}
/-- All cells of a thing stored anew: what was behind it may have changed before. -/
theorem Here.putAll {x y : β} {G G' : List Nat} {w2 : World} {cs : List Value} (h : Here B w b o x G) (hc : Chg (fun k => k ∈ G) w w2) (hn : 0 < B.n) (hy : B.own w2 cs y G') (nd : G'.Nodup) (new : ∀ k ∈ G', k ∈ G ∨ w.heap.size ≤ k) :
    Here B (w2.setCells b o cs) b o y G' ∧ Step w (w2.setCells b o cs) b o B.n G G' := by
  obtain ⟨c, T, h1, h2⟩ := h.box
  have hl := B.len h2
  have hl2 := B.len hy
  simp only [List.length_take, List.length_drop, Array.length_toList] at hl
  have hsz : o + B.n ≤ c.size := by omega
  have hb : b < w.heap.size := lt_of_block h1
  have nb : b ∉ G' := fun hx => (new b hx).elim h.nb (fun e => by omega)
  have h3 := setCells_block cs o (hc.keep h1 h.nb)
  have hch : Chg (· = b) w2 (w2.setCells b o cs) := Chg.setCells cs w2 o
  refine ⟨⟨⟨_, T, h3, ?_⟩, nb, nd⟩, ⟨?_, new, ?_⟩⟩
  · rw [putAt_toList cs c o (by omega), List.append_assoc, List.drop_left' (by rw [List.length_take, Array.length_toList]; omega), List.take_left' hl2]
    exact B.chg hy hch (fun k hk e => nb (by have e' : k = b := e; rwa [e'] at hk))
  · exact (hc.mono (S' := fun k => k = b ∨ k ∈ G) (fun _ _ x => .inr x)).trans (hch.mono (S' := fun k => k = b ∨ k ∈ G) (fun _ _ x => .inl x)) (fun _ _ x => x) (fun _ _ x => x)
  · intro d U hd
    have h4 := setCells_block cs o (hc.keep hd h.nb)
    rw [h1] at hd
    cases hd
    refine ⟨_, h4, by rw [putAt_size], fun j hj => ?_⟩
    have e : (putAt c o cs)[j]? = (putAt c o cs).toList[j]? := by simp
    rw [e, putAt_toList cs c o (by omega)]
    have e2 : c[j]? = c.toList[j]? := by simp
    rw [e2]
    have ht : (c.toList.take o).length = o := by rw [List.length_take]; simp; omega
    rcases hj with hj | hj
    · rw [List.append_assoc, List.getElem?_append_left (by rw [ht]; exact hj), List.getElem?_take, if_pos hj]
    · rw [List.getElem?_append_right (by rw [List.length_append, ht]; omega), List.length_append, ht, List.getElem?_drop]
      have e5 : o + cs.length + (j - (o + cs.length)) = j := by omega
      rw [e5]
end
/-- A cell that is not stored yet. -/
theorem storeCell {w : World} {g so T : Nat} {c : Array Value} (h : w.heap[g]? = some (.cells c T (0, 0))) (vs : List Value) (hs : so + vs.length ≤ c.size) {u : Value} (hu : c[so + vs.length]? = some u) : (w.setCells g so vs).cell? ⟨g, so + vs.length, none⟩ = some u ∧ (w.setCells g so vs).frozen? ⟨g, so + vs.length, none⟩ = false := by
  have h3 := setCells_block vs so h
  refine ⟨cell_of_block h3 ?_, frozen_of_block h3⟩
  have e : (putAt c so vs)[so + vs.length]? = (putAt c so vs).toList[so + vs.length]? := by simp
  have ht : (c.toList.take so).length = so := by rw [List.length_take]; simp; omega
  rw [e, putAt_toList vs c so hs, List.getElem?_append_right (by rw [List.length_append, ht]; exact Nat.le_refl _), List.length_append, ht, List.getElem?_drop, Nat.sub_self, Nat.add_zero, ← hu]
  simp
theorem setCells_cons (w : World) (b o : Nat) (v : Value) (vs : List Value) : w.setCells b o (v :: vs) = (w.setCell ⟨b, o, none⟩ v).setCells b (o + 1) vs := rfl
theorem setCells_nil (w : World) (b o : Nat) : w.setCells b o [] = w := rfl
/-- Eleven cells stored one after the other. -/
theorem store11 {w : World} {g so T : Nat} {c : Array Value} (b0 : w.heap[g]? = some (.cells c T (0, 0))) (v0 v1 v2 v3 v4 v5 v6 v7 v8 v9 v10 : Value) {u0 u1 u2 u3 u4 u5 u6 u7 u8 u9 u10 : Value} (hu : c[so]? = some u0 ∧ c[so + 1]? = some u1 ∧ c[so + 2]? = some u2 ∧ c[so + 3]? = some u3 ∧ c[so + 4]? = some u4 ∧ c[so + 5]? = some u5 ∧ c[so + 6]? = some u6 ∧ c[so + 7]? = some u7 ∧ c[so + 8]? = some u8 ∧ c[so + 9]? = some u9 ∧ c[so + 10]? = some u10) :
    w.cell? ⟨g, so, none⟩ = some u0 ∧ w.frozen? ⟨g, so, none⟩ = false ∧
    (w.setCell ⟨g, so, none⟩ v0).cell? ⟨g, so + 1, none⟩ = some u1 ∧ (w.setCell ⟨g, so, none⟩ v0).frozen? ⟨g, so + 1, none⟩ = false ∧
    ((w.setCell ⟨g, so, none⟩ v0).setCell ⟨g, so + 1, none⟩ v1).cell? ⟨g, so + 2, none⟩ = some u2 ∧ ((w.setCell ⟨g, so, none⟩ v0).setCell ⟨g, so + 1, none⟩ v1).frozen? ⟨g, so + 2, none⟩ = false ∧
    (((w.setCell ⟨g, so, none⟩ v0).setCell ⟨g, so + 1, none⟩ v1).setCell ⟨g, so + 2, none⟩ v2).cell? ⟨g, so + 3, none⟩ = some u3 ∧ (((w.setCell ⟨g, so, none⟩ v0).setCell ⟨g, so + 1, none⟩ v1).setCell ⟨g, so + 2, none⟩ v2).frozen? ⟨g, so + 3, none⟩ = false ∧
    ((((w.setCell ⟨g, so, none⟩ v0).setCell ⟨g, so + 1, none⟩ v1).setCell ⟨g, so + 2, none⟩ v2).setCell ⟨g, so + 3, none⟩ v3).cell? ⟨g, so + 4, none⟩ = some u4 ∧ ((((w.setCell ⟨g, so, none⟩ v0).setCell ⟨g, so + 1, none⟩ v1).setCell ⟨g, so + 2, none⟩ v2).setCell ⟨g, so + 3, none⟩ v3).frozen? ⟨g, so + 4, none⟩ = false ∧
    (((((w.setCell ⟨g, so, none⟩ v0).setCell ⟨g, so + 1, none⟩ v1).setCell ⟨g, so + 2, none⟩ v2).setCell ⟨g, so + 3, none⟩ v3).setCell ⟨g, so + 4, none⟩ v4).cell? ⟨g, so + 5, none⟩ = some u5 ∧ (((((w.setCell ⟨g, so, none⟩ v0).setCell ⟨g, so + 1, none⟩ v1).setCell ⟨g, so + 2, none⟩ v2).setCell ⟨g, so + 3, none⟩ v3).setCell ⟨g, so + 4, none⟩ v4).frozen? ⟨g, so + 5, none⟩ = false ∧
    ((((((w.setCell ⟨g, so, none⟩ v0).setCell ⟨g, so + 1, none⟩ v1).setCell ⟨g, so + 2, none⟩ v2).setCell ⟨g, so + 3, none⟩ v3).setCell ⟨g, so + 4, none⟩ v4).setCell ⟨g, so + 5, none⟩ v5).cell? ⟨g, so + 6, none⟩ = some u6 ∧ ((((((w.setCell ⟨g, so, none⟩ v0).setCell ⟨g, so + 1, none⟩ v1).setCell ⟨g, so + 2, none⟩ v2).setCell ⟨g, so + 3, none⟩ v3).setCell ⟨g, so + 4, none⟩ v4).setCell ⟨g, so + 5, none⟩ v5).frozen? ⟨g, so + 6, none⟩ = false ∧
    (((((((w.setCell ⟨g, so, none⟩ v0).setCell ⟨g, so + 1, none⟩ v1).setCell ⟨g, so + 2, none⟩ v2).setCell ⟨g, so + 3, none⟩ v3).setCell ⟨g, so + 4, none⟩ v4).setCell ⟨g, so + 5, none⟩ v5).setCell ⟨g, so + 6, none⟩ v6).cell? ⟨g, so + 7, none⟩ = some u7 ∧ (((((((w.setCell ⟨g, so, none⟩ v0).setCell ⟨g, so + 1, none⟩ v1).setCell ⟨g, so + 2, none⟩ v2).setCell ⟨g, so + 3, none⟩ v3).setCell ⟨g, so + 4, none⟩ v4).setCell ⟨g, so + 5, none⟩ v5).setCell ⟨g, so + 6, none⟩ v6).frozen? ⟨g, so + 7, none⟩ = false ∧
    ((((((((w.setCell ⟨g, so, none⟩ v0).setCell ⟨g, so + 1, none⟩ v1).setCell ⟨g, so + 2, none⟩ v2).setCell ⟨g, so + 3, none⟩ v3).setCell ⟨g, so + 4, none⟩ v4).setCell ⟨g, so + 5, none⟩ v5).setCell ⟨g, so + 6, none⟩ v6).setCell ⟨g, so + 7, none⟩ v7).cell? ⟨g, so + 8, none⟩ = some u8 ∧ ((((((((w.setCell ⟨g, so, none⟩ v0).setCell ⟨g, so + 1, none⟩ v1).setCell ⟨g, so + 2, none⟩ v2).setCell ⟨g, so + 3, none⟩ v3).setCell ⟨g, so + 4, none⟩ v4).setCell ⟨g, so + 5, none⟩ v5).setCell ⟨g, so + 6, none⟩ v6).setCell ⟨g, so + 7, none⟩ v7).frozen? ⟨g, so + 8, none⟩ = false ∧
    (((((((((w.setCell ⟨g, so, none⟩ v0).setCell ⟨g, so + 1, none⟩ v1).setCell ⟨g, so + 2, none⟩ v2).setCell ⟨g, so + 3, none⟩ v3).setCell ⟨g, so + 4, none⟩ v4).setCell ⟨g, so + 5, none⟩ v5).setCell ⟨g, so + 6, none⟩ v6).setCell ⟨g, so + 7, none⟩ v7).setCell ⟨g, so + 8, none⟩ v8).cell? ⟨g, so + 9, none⟩ = some u9 ∧ (((((((((w.setCell ⟨g, so, none⟩ v0).setCell ⟨g, so + 1, none⟩ v1).setCell ⟨g, so + 2, none⟩ v2).setCell ⟨g, so + 3, none⟩ v3).setCell ⟨g, so + 4, none⟩ v4).setCell ⟨g, so + 5, none⟩ v5).setCell ⟨g, so + 6, none⟩ v6).setCell ⟨g, so + 7, none⟩ v7).setCell ⟨g, so + 8, none⟩ v8).frozen? ⟨g, so + 9, none⟩ = false ∧
    ((((((((((w.setCell ⟨g, so, none⟩ v0).setCell ⟨g, so + 1, none⟩ v1).setCell ⟨g, so + 2, none⟩ v2).setCell ⟨g, so + 3, none⟩ v3).setCell ⟨g, so + 4, none⟩ v4).setCell ⟨g, so + 5, none⟩ v5).setCell ⟨g, so + 6, none⟩ v6).setCell ⟨g, so + 7, none⟩ v7).setCell ⟨g, so + 8, none⟩ v8).setCell ⟨g, so + 9, none⟩ v9).cell? ⟨g, so + 10, none⟩ = some u10 ∧ ((((((((((w.setCell ⟨g, so, none⟩ v0).setCell ⟨g, so + 1, none⟩ v1).setCell ⟨g, so + 2, none⟩ v2).setCell ⟨g, so + 3, none⟩ v3).setCell ⟨g, so + 4, none⟩ v4).setCell ⟨g, so + 5, none⟩ v5).setCell ⟨g, so + 6, none⟩ v6).setCell ⟨g, so + 7, none⟩ v7).setCell ⟨g, so + 8, none⟩ v8).setCell ⟨g, so + 9, none⟩ v9).frozen? ⟨g, so + 10, none⟩ = false ∧
    (((((((((((w.setCell ⟨g, so, none⟩ v0).setCell ⟨g, so + 1, none⟩ v1).setCell ⟨g, so + 2, none⟩ v2).setCell ⟨g, so + 3, none⟩ v3).setCell ⟨g, so + 4, none⟩ v4).setCell ⟨g, so + 5, none⟩ v5).setCell ⟨g, so + 6, none⟩ v6).setCell ⟨g, so + 7, none⟩ v7).setCell ⟨g, so + 8, none⟩ v8).setCell ⟨g, so + 9, none⟩ v9).setCell ⟨g, so + 10, none⟩ v10) = w.setCells g so [v0, v1, v2, v3, v4, v5, v6, v7, v8, v9, v10] := by
  obtain ⟨q0, q1, q2, q3, q4, q5, q6, q7, q8, q9, q10⟩ := hu
  have c0 : w.cell? ⟨g, so, none⟩ = some u0 := cell_of_block b0 q0
  have f0 : w.frozen? ⟨g, so, none⟩ = false := frozen_of_block b0
  have b1 := setCell_block (i := so) v0 b0
  have c1 : (w.setCell ⟨g, so, none⟩ v0).cell? ⟨g, so + 1, none⟩ = some u1 := cell_of_block b1 (by rw [Array.getElem?_setIfInBounds_ne (by omega)]; exact q1)
  have f1 : (w.setCell ⟨g, so, none⟩ v0).frozen? ⟨g, so + 1, none⟩ = false := frozen_of_block b1
  have b2 := setCell_block (i := so + 1) v1 b1
  have c2 : ((w.setCell ⟨g, so, none⟩ v0).setCell ⟨g, so + 1, none⟩ v1).cell? ⟨g, so + 2, none⟩ = some u2 := cell_of_block b2 (by rw [Array.getElem?_setIfInBounds_ne (by omega), Array.getElem?_setIfInBounds_ne (by omega)]; exact q2)
  have f2 : ((w.setCell ⟨g, so, none⟩ v0).setCell ⟨g, so + 1, none⟩ v1).frozen? ⟨g, so + 2, none⟩ = false := frozen_of_block b2
  have b3 := setCell_block (i := so + 2) v2 b2
  have c3 : (((w.setCell ⟨g, so, none⟩ v0).setCell ⟨g, so + 1, none⟩ v1).setCell ⟨g, so + 2, none⟩ v2).cell? ⟨g, so + 3, none⟩ = some u3 := cell_of_block b3 (by rw [Array.getElem?_setIfInBounds_ne (by omega), Array.getElem?_setIfInBounds_ne (by omega), Array.getElem?_setIfInBounds_ne (by omega)]; exact q3)
  have f3 : (((w.setCell ⟨g, so, none⟩ v0).setCell ⟨g, so + 1, none⟩ v1).setCell ⟨g, so + 2, none⟩ v2).frozen? ⟨g, so + 3, none⟩ = false := frozen_of_block b3
  have b4 := setCell_block (i := so + 3) v3 b3
  have c4 : ((((w.setCell ⟨g, so, none⟩ v0).setCell ⟨g, so + 1, none⟩ v1).setCell ⟨g, so + 2, none⟩ v2).setCell ⟨g, so + 3, none⟩ v3).cell? ⟨g, so + 4, none⟩ = some u4 := cell_of_block b4 (by rw [Array.getElem?_setIfInBounds_ne (by omega), Array.getElem?_setIfInBounds_ne (by omega), Array.getElem?_setIfInBounds_ne (by omega), Array.getElem?_setIfInBounds_ne (by omega)]; exact q4)
  have f4 : ((((w.setCell ⟨g, so, none⟩ v0).setCell ⟨g, so + 1, none⟩ v1).setCell ⟨g, so + 2, none⟩ v2).setCell ⟨g, so + 3, none⟩ v3).frozen? ⟨g, so + 4, none⟩ = false := frozen_of_block b4
  have b5 := setCell_block (i := so + 4) v4 b4
  have c5 : (((((w.setCell ⟨g, so, none⟩ v0).setCell ⟨g, so + 1, none⟩ v1).setCell ⟨g, so + 2, none⟩ v2).setCell ⟨g, so + 3, none⟩ v3).setCell ⟨g, so + 4, none⟩ v4).cell? ⟨g, so + 5, none⟩ = some u5 := cell_of_block b5 (by rw [Array.getElem?_setIfInBounds_ne (by omega), Array.getElem?_setIfInBounds_ne (by omega), Array.getElem?_setIfInBounds_ne (by omega), Array.getElem?_setIfInBounds_ne (by omega), Array.getElem?_setIfInBounds_ne (by omega)]; exact q5)
  have f5 : (((((w.setCell ⟨g, so, none⟩ v0).setCell ⟨g, so + 1, none⟩ v1).setCell ⟨g, so + 2, none⟩ v2).setCell ⟨g, so + 3, none⟩ v3).setCell ⟨g, so + 4, none⟩ v4).frozen? ⟨g, so + 5, none⟩ = false := frozen_of_block b5
  have b6 := setCell_block (i := so + 5) v5 b5
  have c6 : ((((((w.setCell ⟨g, so, none⟩ v0).setCell ⟨g, so + 1, none⟩ v1).setCell ⟨g, so + 2, none⟩ v2).setCell ⟨g, so + 3, none⟩ v3).setCell ⟨g, so + 4, none⟩ v4).setCell ⟨g, so + 5, none⟩ v5).cell? ⟨g, so + 6, none⟩ = some u6 := cell_of_block b6 (by rw [Array.getElem?_setIfInBounds_ne (by omega), Array.getElem?_setIfInBounds_ne (by omega), Array.getElem?_setIfInBounds_ne (by omega), Array.getElem?_setIfInBounds_ne (by omega), Array.getElem?_setIfInBounds_ne (by omega), Array.getElem?_setIfInBounds_ne (by omega)]; exact q6)
  have f6 : ((((((w.setCell ⟨g, so, none⟩ v0).setCell ⟨g, so + 1, none⟩ v1).setCell ⟨g, so + 2, none⟩ v2).setCell ⟨g, so + 3, none⟩ v3).setCell ⟨g, so + 4, none⟩ v4).setCell ⟨g, so + 5, none⟩ v5).frozen? ⟨g, so + 6, none⟩ = false := frozen_of_block b6
  have b7 := setCell_block (i := so + 6) v6 b6
  have c7 : (((((((w.setCell ⟨g, so, none⟩ v0).setCell ⟨g, so + 1, none⟩ v1).setCell ⟨g, so + 2, none⟩ v2).setCell ⟨g, so + 3, none⟩ v3).setCell ⟨g, so + 4, none⟩ v4).setCell ⟨g, so + 5, none⟩ v5).setCell ⟨g, so + 6, none⟩ v6).cell? ⟨g, so + 7, none⟩ = some u7 := cell_of_block b7 (by rw [Array.getElem?_setIfInBounds_ne (by omega), Array.getElem?_setIfInBounds_ne (by omega), Array.getElem?_setIfInBounds_ne (by omega), Array.getElem?_setIfInBounds_ne (by omega), Array.getElem?_setIfInBounds_ne (by omega), Array.getElem?_setIfInBounds_ne (by omega), Array.getElem?_setIfInBounds_ne (by omega)]; exact q7)
  have f7 : (((((((w.setCell ⟨g, so, none⟩ v0).setCell ⟨g, so + 1, none⟩ v1).setCell ⟨g, so + 2, none⟩ v2).setCell ⟨g, so + 3, none⟩ v3).setCell ⟨g, so + 4, none⟩ v4).setCell ⟨g, so + 5, none⟩ v5).setCell ⟨g, so + 6, none⟩ v6).frozen? ⟨g, so + 7, none⟩ = false := frozen_of_block b7
  have b8 := setCell_block (i := so + 7) v7 b7
  have c8 : ((((((((w.setCell ⟨g, so, none⟩ v0).setCell ⟨g, so + 1, none⟩ v1).setCell ⟨g, so + 2, none⟩ v2).setCell ⟨g, so + 3, none⟩ v3).setCell ⟨g, so + 4, none⟩ v4).setCell ⟨g, so + 5, none⟩ v5).setCell ⟨g, so + 6, none⟩ v6).setCell ⟨g, so + 7, none⟩ v7).cell? ⟨g, so + 8, none⟩ = some u8 := cell_of_block b8 (by rw [Array.getElem?_setIfInBounds_ne (by omega), Array.getElem?_setIfInBounds_ne (by omega), Array.getElem?_setIfInBounds_ne (by omega), Array.getElem?_setIfInBounds_ne (by omega), Array.getElem?_setIfInBounds_ne (by omega), Array.getElem?_setIfInBounds_ne (by omega), Array.getElem?_setIfInBounds_ne (by omega), Array.getElem?_setIfInBounds_ne (by omega)]; exact q8)
  have f8 : ((((((((w.setCell ⟨g, so, none⟩ v0).setCell ⟨g, so + 1, none⟩ v1).setCell ⟨g, so + 2, none⟩ v2).setCell ⟨g, so + 3, none⟩ v3).setCell ⟨g, so + 4, none⟩ v4).setCell ⟨g, so + 5, none⟩ v5).setCell ⟨g, so + 6, none⟩ v6).setCell ⟨g, so + 7, none⟩ v7).frozen? ⟨g, so + 8, none⟩ = false := frozen_of_block b8
  have b9 := setCell_block (i := so + 8) v8 b8
  have c9 : (((((((((w.setCell ⟨g, so, none⟩ v0).setCell ⟨g, so + 1, none⟩ v1).setCell ⟨g, so + 2, none⟩ v2).setCell ⟨g, so + 3, none⟩ v3).setCell ⟨g, so + 4, none⟩ v4).setCell ⟨g, so + 5, none⟩ v5).setCell ⟨g, so + 6, none⟩ v6).setCell ⟨g, so + 7, none⟩ v7).setCell ⟨g, so + 8, none⟩ v8).cell? ⟨g, so + 9, none⟩ = some u9 := cell_of_block b9 (by rw [Array.getElem?_setIfInBounds_ne (by omega), Array.getElem?_setIfInBounds_ne (by omega), Array.getElem?_setIfInBounds_ne (by omega), Array.getElem?_setIfInBounds_ne (by omega), Array.getElem?_setIfInBounds_ne (by omega), Array.getElem?_setIfInBounds_ne (by omega), Array.getElem?_setIfInBounds_ne (by omega), Array.getElem?_setIfInBounds_ne (by omega), Array.getElem?_setIfInBounds_ne (by omega)]; exact q9)
  have f9 : (((((((((w.setCell ⟨g, so, none⟩ v0).setCell ⟨g, so + 1, none⟩ v1).setCell ⟨g, so + 2, none⟩ v2).setCell ⟨g, so + 3, none⟩ v3).setCell ⟨g, so + 4, none⟩ v4).setCell ⟨g, so + 5, none⟩ v5).setCell ⟨g, so + 6, none⟩ v6).setCell ⟨g, so + 7, none⟩ v7).setCell ⟨g, so + 8, none⟩ v8).frozen? ⟨g, so + 9, none⟩ = false := frozen_of_block b9
  have b10 := setCell_block (i := so + 9) v9 b9
  have c10 : ((((((((((w.setCell ⟨g, so, none⟩ v0).setCell ⟨g, so + 1, none⟩ v1).setCell ⟨g, so + 2, none⟩ v2).setCell ⟨g, so + 3, none⟩ v3).setCell ⟨g, so + 4, none⟩ v4).setCell ⟨g, so + 5, none⟩ v5).setCell ⟨g, so + 6, none⟩ v6).setCell ⟨g, so + 7, none⟩ v7).setCell ⟨g, so + 8, none⟩ v8).setCell ⟨g, so + 9, none⟩ v9).cell? ⟨g, so + 10, none⟩ = some u10 := cell_of_block b10 (by rw [Array.getElem?_setIfInBounds_ne (by omega), Array.getElem?_setIfInBounds_ne (by omega), Array.getElem?_setIfInBounds_ne (by omega), Array.getElem?_setIfInBounds_ne (by omega), Array.getElem?_setIfInBounds_ne (by omega), Array.getElem?_setIfInBounds_ne (by omega), Array.getElem?_setIfInBounds_ne (by omega), Array.getElem?_setIfInBounds_ne (by omega), Array.getElem?_setIfInBounds_ne (by omega), Array.getElem?_setIfInBounds_ne (by omega)]; exact q10)
  have f10 : ((((((((((w.setCell ⟨g, so, none⟩ v0).setCell ⟨g, so + 1, none⟩ v1).setCell ⟨g, so + 2, none⟩ v2).setCell ⟨g, so + 3, none⟩ v3).setCell ⟨g, so + 4, none⟩ v4).setCell ⟨g, so + 5, none⟩ v5).setCell ⟨g, so + 6, none⟩ v6).setCell ⟨g, so + 7, none⟩ v7).setCell ⟨g, so + 8, none⟩ v8).setCell ⟨g, so + 9, none⟩ v9).frozen? ⟨g, so + 10, none⟩ = false := frozen_of_block b10
  exact ⟨c0, f0, c1, f1, c2, f2, c3, f3, c4, f4, c5, f5, c6, f6, c7, f7, c8, f8, c9, f9, c10, f10, rfl⟩

theorem noSlt_own (w : World) : sltR.own w [.bool false, .int .i64 0, .int .i64 0, .slice none 0 0, .slice none 0 0, .slice none 0 0, .int .i64 0, .int .i64 0, .int .i64 0, .int .i64 0, .slice none 0 0] noSlt [] := ⟨_, rfl, newObj_own w 0 0⟩
def dropH (hp : Hp) (i : Nat) : Hp := { hp with slots := hp.slots.set i noSlt, free := hp.free ++ [(i : Int)], live := hp.live - 1 }
set_option maxHeartbeats 3200000 in
set_option maxRecDepth 100000 in
theorem drop_any (w : World) (b : Nat) (hp : Hp) (F : List Nat) (h : Int) (i : Nat) (H : Here hpR w b 0 hp F) (hs : slotOf hp h = some i) (hi : -9223372036854775808 ≤ h ∧ h ≤ 9223372036854775807) (hfl : hp.free.length ≤ 100000) (hlv : 0 ≤ hp.live ∧ hp.live ≤ 1000000) :
    Calls Try.prog 38 #[.pointer (some ⟨b, 0, none⟩), .int .i64 h] w fun e w' => e = .returned (.bool true) ∧ Post hpR w b 0 (dropH hp i) F w' := by
  obtain ⟨hlt, -, hix⟩ := slotOf_lt hs
  obtain ⟨-, -, ⟨a, ca, c2⟩, -⟩ := hpCells H
  obtain ⟨g, off, rfl, -⟩ := hpSlot H c2 hlt
  have hf := find_any w b 0 hp F h _ H c2 hi
  rw [hs, rowPtr_some] at hf
  have HF := Lib.hid hf
  have HH := Lib.hid H
  have HC2 := Lib.hid c2
  have HFL := Lib.hid hfl
  have HLT := Lib.hid hlt
  have HLV := Lib.hid hlv
  have HIX := Lib.hid (fun W => (by have q := index_any hp.base hp.stride h W hi; rw [hix] at q; exact q : Calls Try.prog 48 #[.agg #[.int .i64 hp.base, .int .i64 hp.stride], .int .i64 h] W fun e w' => e = .returned (.int .i64 (i : Int)) ∧ Chg (fun _ => False) W w'))
  clear hf H c2 hfl hlt hs hi hix hlv
  go_enter Try.func38, Try.ntmps38
  go_upto_region 4 with (go_at_call 47; refine HF.out.mono ?_; rintro e wf ⟨rfl, hcf⟩)
  obtain ⟨g', off', e, G, hsl, -, -, -, -, hback⟩ := hpSlot (HH.out.still hcf) (hcf.cell HC2.out) HLT.out
  cases e
  obtain ⟨c, T, hbx, hown⟩ := hsl.box
  have hlen := sltR.len hown
  rw [show sltR.n = 11 from rfl, List.length_take, List.length_drop, Array.length_toList] at hlen
  have hget : ∀ k, k < 11 → c[off + i * 11 + k]? = some (c[off + i * 11 + k]?.getD undef) := fun k hk => by
    rw [Array.getElem?_eq_getElem (by omega)]; rfl
  obtain ⟨z0, y0, z1, y1, z2, y2, z3, y3, z4, y4, z5, y5, z6, y6, z7, y7, z8, y8, z9, y9, z10, y10, hw⟩ := store11 (so := off + i * 11) hbx (.bool false) (.int .i64 0) (.int .i64 0) (.slice none 0 0) (.slice none 0 0) (.slice none 0 0) (.int .i64 0) (.int .i64 0) (.int .i64 0) (.int .i64 0) (.slice none 0 0) ⟨hget 0 (by omega), hget 1 (by omega), hget 2 (by omega), hget 3 (by omega), hget 4 (by omega), hget 5 (by omega), hget 6 (by omega), hget 7 (by omega), hget 8 (by omega), hget 9 (by omega), hget 10 (by omega)⟩
  obtain ⟨HSP, SSP⟩ := hsl.putAll (Chg.refl _ _) (by show 0 < 11; decide) (noSlt_own wf) List.nodup_nil (fun k hk => by cases hk)
  obtain ⟨hpost, -⟩ := hback _ _ _ HSP SSP
  have HP1 := Lib.hid (Post.pre hcf hpost)
  clear hback HSP SSP hsl hown hbx hlen hget HF hpost
  go_upto_region 5 with fail
  clear hw z0 y0 z1 y1 z2 y2 z3 y3 z4 y4 z5 y5 z6 y6 z7 y7 z8 y8 z9 y9 z10 y10
  generalize wf.setCells g (off + i * 11) [.bool false, .int .i64 0, .int .i64 0, .slice none 0 0, .slice none 0 0, .slice none 0 0, .int .i64 0, .int .i64 0, .int .i64 0, .int .i64 0, .slice none 0 0] = W3 at *
  obtain ⟨F1, HH1, S1⟩ := HP1.out
  have HS1 := Lib.hid S1
  obtain ⟨p, cap, xs, Fs, Fr, c0, hopen, fz, hst, hbk⟩ := HH1.fieldAppending hpR_free (by show 0 < 8; decide)
  obtain ⟨b0, b1, -⟩ := hpCells HH1
  rw [Nat.zero_add] at c0 fz b1
  simp only [Nat.zero_add] at hst hbk
  have hfx : xs.flatten = hp.free.flatMap fun i : Int => [Value.int .i64 i] := (each_flat (n := 1) (f := fun i : Int => [Value.int .i64 i]) (hf := fun _ => rfl) hopen.each).1
  have hrw := hopen.row
  rw [hfx] at hrw
  have HRW := Lib.hid hrw
  have HFX := Lib.hid hfx
  have HST := Lib.hid hst
  have HBA := Lib.hid hbk
  have HN1 : Hid (¬ (Value.slice p hp.free.length cap).ownBlock = some b) := Lib.hid (fun hj => HH1.nb (HH1.ownIn2 hpR_free (by show 0 < 8; decide) (by rw [Nat.zero_add]; exact c0) hj))
  have HS0 : Hid (W3.cell? ⟨b, 3, none⟩ = some (.slice p hp.free.length cap) ∧ W3.cell? ⟨b, 0, none⟩ = some (.int .i64 hp.base) ∧ W3.cell? ⟨b, 1, none⟩ = some (.int .i64 hp.stride)) := Lib.hid ⟨c0, b0, b1⟩
  clear HP1 HH1 S1 c0 b0 b1 hst hbk hfx hrw hopen HH HC2 HLT hcf
  refine wp_region_held_split 15 (fun w' => w'.cell? ⟨b, 3, none⟩ = some (.slice p hp.free.length cap) ∧ w'.cell? ⟨b, 0, none⟩ = some (.int .i64 hp.base) ∧ w'.cell? ⟨b, 1, none⟩ = some (.int .i64 hp.stride)) (by kernel_rfl) (by kernel_rfl) ?_ (fun hHeld => ?_)
  · (first | exact HS0.out | exact HKS.out _ (Chg.refl _ _) | exact HKS.out _ HCD.out | exact HKS.out _ (HCD.out.allocR _) | exact ⟨cc2, hchg2.cellS (HKS.out _ (HCD.out.allocR _)).2.1 HN1.out, hchg2.cellS (HKS.out _ (HCD.out.allocR _)).2.2 HN1.out⟩)
  simp only [List.take_succ_cons, List.take_zero]
  have HKS : Hid (∀ W, Chg (fun _ => False) W3.drew W → W.cell? ⟨b, 3, none⟩ = some (.slice p hp.free.length cap) ∧ W.cell? ⟨b, 0, none⟩ = some (.int .i64 hp.base) ∧ W.cell? ⟨b, 1, none⟩ = some (.int .i64 hp.stride)) := Lib.hid (fun W hc => ⟨hc.cell HS0.out.1, hc.cell HS0.out.2.1, hc.cell HS0.out.2.2⟩)
  have HRA : Hid (∀ W, Chg (fun _ => False) W3.drew W → RowAt W 3 1 (.slice p hp.free.length cap) hp.free.length (hp.free.flatMap fun i : Int => [Value.int .i64 i])) := Lib.hid (fun W hc => HRW.out.drew.chg hc (fun _ _ x => x))
  have HWD : Hid (Chg (fun _ => False) W3 W3.drew) := Lib.hid (Chg.refl _ W3).drewR
  generalize W3.drew = wD at *
  refine wpAnyH_take (i := 0) (v := ?_) rfl (by kernel_rfl) (by kernel_rfl) (by kernel_rfl) (fun _ _ _ h => h) (Or.inl ⟨by rfl, ?_⟩) (by assumption) ?_
  rotate_left
  · (intro wq hSw; (try dsimp only at hSw); go_simp; (try with_reducible rfl))
  simp only [Act.put, List.getElem_toArray, List.getElem_cons_zero, List.getElem_cons_succ, List.setIfInBounds_toArray, List.set_cons_zero, List.set_cons_succ]
  refine wpAnyH_take (i := 1) (v := ?_) rfl (by kernel_rfl) (by kernel_rfl) (by kernel_rfl) (fun _ _ _ h => h) (Or.inl ⟨by rfl, ?_⟩) (by assumption) ?_
  rotate_left
  · (intro wq hSw; (try dsimp only at hSw); go_simp; (try with_reducible rfl))
  simp only [Act.put, List.getElem_toArray, List.getElem_cons_zero, List.getElem_cons_succ, List.setIfInBounds_toArray, List.set_cons_zero, List.set_cons_succ]
  refine wpAnyH_take (i := 2) (v := ?_) rfl (by kernel_rfl) (by kernel_rfl) (by kernel_rfl) (fun _ _ _ h => h) (Or.inl ⟨by rfl, ?_⟩) (by assumption) ?_
  rotate_left
  · (intro wq hSw; (try dsimp only at hSw); go_simp; (try with_reducible rfl))
  simp only [Act.put, List.getElem_toArray, List.getElem_cons_zero, List.getElem_cons_succ, List.setIfInBounds_toArray, List.set_cons_zero, List.set_cons_succ]
  refine wpAnyH_take (i := 3) (v := ?_) rfl (by kernel_rfl) (by kernel_rfl) (by kernel_rfl) (fun _ _ _ h => h) (Or.inl ⟨by rfl, ?_⟩) (by assumption) ?_
  rotate_left
  · (intro wq hSw; (try dsimp only at hSw); go_simp; (try with_reducible rfl))
  simp only [Act.put, List.getElem_toArray, List.getElem_cons_zero, List.getElem_cons_succ, List.setIfInBounds_toArray, List.set_cons_zero, List.set_cons_succ]
  refine wpAnyH_take (i := 4) (v := ?_) rfl (by kernel_rfl) (by kernel_rfl) (by kernel_rfl) (fun _ _ _ h => h) (Or.inl ⟨by rfl, ?_⟩) (by assumption) ?_
  rotate_left
  · (intro wq hSw; (try dsimp only at hSw); go_simp; (try with_reducible rfl))
  simp only [Act.put, List.getElem_toArray, List.getElem_cons_zero, List.getElem_cons_succ, List.setIfInBounds_toArray, List.set_cons_zero, List.set_cons_succ]
  refine wpAnyH_take (i := 5) (v := ?_) rfl (by kernel_rfl) (by kernel_rfl) (by kernel_rfl) (fun _ _ _ h => h) (Or.inl ⟨by rfl, ?_⟩) (by assumption) ?_
  rotate_left
  · (intro wq hSw; (try dsimp only at hSw); go_simp; (try with_reducible rfl))
  simp only [Act.put, List.getElem_toArray, List.getElem_cons_zero, List.getElem_cons_succ, List.setIfInBounds_toArray, List.set_cons_zero, List.set_cons_succ]
  refine wpAnyH_take (i := 6) (v := ?_) rfl (by kernel_rfl) (by kernel_rfl) (by kernel_rfl) (fun _ _ _ h => h) (Or.inl ⟨by rfl, ?_⟩) (by assumption) ?_
  rotate_left
  · (intro wq hSw; (try dsimp only at hSw); go_simp; (try with_reducible rfl))
  simp only [Act.put, List.getElem_toArray, List.getElem_cons_zero, List.getElem_cons_succ, List.setIfInBounds_toArray, List.set_cons_zero, List.set_cons_succ]
  refine wpAnyH_take (i := 7) (v := ?_) rfl (by kernel_rfl) (by kernel_rfl) (by kernel_rfl) (fun _ _ _ h => h) (Or.inl ⟨by rfl, ?_⟩) (by assumption) ?_
  rotate_left
  · (intro wq hSw; (try dsimp only at hSw); go_simp; (try with_reducible rfl))
  simp only [Act.put, List.getElem_toArray, List.getElem_cons_zero, List.getElem_cons_succ, List.setIfInBounds_toArray, List.set_cons_zero, List.set_cons_succ]
  refine wpAnyH_take (i := 8) (v := ?_) rfl (by kernel_rfl) (by kernel_rfl) (by kernel_rfl) (fun _ _ _ h => h) (Or.inl ⟨by rfl, ?_⟩) (by assumption) ?_
  rotate_left
  · (intro wq hSw; (try dsimp only at hSw); go_simp; (try with_reducible rfl))
  simp only [Act.put, List.getElem_toArray, List.getElem_cons_zero, List.getElem_cons_succ, List.setIfInBounds_toArray, List.set_cons_zero, List.set_cons_succ]
  refine wpAnyH_take (i := 9) (v := ?_) rfl (by kernel_rfl) (by kernel_rfl) (by kernel_rfl) (fun _ _ _ h => h) (Or.inl ⟨by rfl, ?_⟩) (by assumption) ?_
  rotate_left
  · (intro wq hSw; (try dsimp only at hSw); go_simp; (try with_reducible rfl))
  simp only [Act.put, List.getElem_toArray, List.getElem_cons_zero, List.getElem_cons_succ, List.setIfInBounds_toArray, List.set_cons_zero, List.set_cons_succ]
  refine wpAnyH_ready (rs := [10]) (by kernel_rfl) (by simp) ?_
  refine AllReadyH.cons (by simp only [List.getElem?_toArray, List.getElem?_cons_succ, List.getElem?_cons_zero]; rfl) (fun K hK => ?_) AllReadyH.nil
  (first
    | (go_simp; go_at_call 48; refine (HIX.out _).mono ?_; rintro _ wd ⟨rfl, hcd⟩; have HCD := Lib.hid hcd; clear hcd; go_simp)
    | (refine step_append_rows (by rfl) _ _ 30 (by rfl) 3 1 8 Try.underlying30 elem_int (by decide) _ hp.free.length _ (by rfl) (HRA.out _ (HCD.out.allocR (.cells #[.int .i64 (i : Int)] 3))) _ 1 [.int .i64 (i : Int)] (by rfl) (RowAt.lit [.int .i64 (i : Int)] rfl (by simp [maxLen])) (by intro u hu; rw [List.mem_singleton.1 hu]; rfl) (by have := HFL.out; unfold maxLen; omega) (by have := HFL.out; omega) ?_; intro a2 n2 cp2 w2 hrow2 hchg2 hold2; have cc2 := (HST.out _ _ (HWD.out.trans' (HCD.out.allocR (.cells #[.int .i64 (i : Int)] 3))) hchg2).1; have f2 := (HST.out _ _ (HWD.out.trans' (HCD.out.allocR (.cells #[.int .i64 (i : Int)] 3))) hchg2).2))
  refine hK.out _ _ ?_ (fun hHeld => ?_)
  · (first | exact HS0.out | exact HKS.out _ (Chg.refl _ _) | exact HKS.out _ HCD.out | exact HKS.out _ (HCD.out.allocR _) | exact ⟨cc2, hchg2.cellS (HKS.out _ (HCD.out.allocR _)).2.1 HN1.out, hchg2.cellS (HKS.out _ (HCD.out.allocR _)).2.2 HN1.out⟩)
  clear hK K
  (try simp only [Act.put, List.getElem_toArray, List.getElem_cons_zero, List.getElem_cons_succ, List.setIfInBounds_toArray, List.set_cons_zero, List.set_cons_succ])
  refine wpAnyH_ready (rs := [11]) (by kernel_rfl) (by simp) ?_
  refine AllReadyH.cons (by simp only [List.getElem?_toArray, List.getElem?_cons_succ, List.getElem?_cons_zero]; rfl) (fun K hK => ?_) AllReadyH.nil
  go_simp
  refine hK.out _ _ ?_ (fun hHeld => ?_)
  · (first | exact HS0.out | exact HKS.out _ (Chg.refl _ _) | exact HKS.out _ HCD.out | exact HKS.out _ (HCD.out.allocR _) | exact ⟨cc2, hchg2.cellS (HKS.out _ (HCD.out.allocR _)).2.1 HN1.out, hchg2.cellS (HKS.out _ (HCD.out.allocR _)).2.2 HN1.out⟩)
  clear hK K
  (try simp only [Act.put, List.getElem_toArray, List.getElem_cons_zero, List.getElem_cons_succ, List.setIfInBounds_toArray, List.set_cons_zero, List.set_cons_succ])
  refine wpAnyH_ready (rs := [12]) (by kernel_rfl) (by simp) ?_
  refine AllReadyH.cons (by simp only [List.getElem?_toArray, List.getElem?_cons_succ, List.getElem?_cons_zero]; rfl) (fun K hK => ?_) AllReadyH.nil
  (first
    | (go_simp; go_at_call 48; refine (HIX.out _).mono ?_; rintro _ wd ⟨rfl, hcd⟩; have HCD := Lib.hid hcd; clear hcd; go_simp)
    | (refine step_append_rows (by rfl) _ _ 30 (by rfl) 3 1 8 Try.underlying30 elem_int (by decide) _ hp.free.length _ (by rfl) (HRA.out _ (HCD.out.allocR (.cells #[.int .i64 (i : Int)] 3))) _ 1 [.int .i64 (i : Int)] (by rfl) (RowAt.lit [.int .i64 (i : Int)] rfl (by simp [maxLen])) (by intro u hu; rw [List.mem_singleton.1 hu]; rfl) (by have := HFL.out; unfold maxLen; omega) (by have := HFL.out; omega) ?_; intro a2 n2 cp2 w2 hrow2 hchg2 hold2; have cc2 := (HST.out _ _ (HWD.out.trans' (HCD.out.allocR (.cells #[.int .i64 (i : Int)] 3))) hchg2).1; have f2 := (HST.out _ _ (HWD.out.trans' (HCD.out.allocR (.cells #[.int .i64 (i : Int)] 3))) hchg2).2))
  refine hK.out _ _ ?_ (fun hHeld => ?_)
  · (first | exact HS0.out | exact HKS.out _ (Chg.refl _ _) | exact HKS.out _ HCD.out | exact HKS.out _ (HCD.out.allocR _) | exact ⟨cc2, hchg2.cellS (HKS.out _ (HCD.out.allocR _)).2.1 HN1.out, hchg2.cellS (HKS.out _ (HCD.out.allocR _)).2.2 HN1.out⟩)
  clear hK K
  (try simp only [Act.put, List.getElem_toArray, List.getElem_cons_zero, List.getElem_cons_succ, List.setIfInBounds_toArray, List.set_cons_zero, List.set_cons_succ])
  refine wpAnyH_take (i := 13) (v := ?_) rfl (by kernel_rfl) (by kernel_rfl) (by kernel_rfl) (fun _ _ _ h => h) (Or.inl ⟨by rfl, ?_⟩) (by assumption) ?_
  rotate_left
  · (intro wq hSw; (try dsimp only at hSw); go_simp; (try with_reducible rfl))
  simp only [Act.put, List.getElem_toArray, List.getElem_cons_zero, List.getElem_cons_succ, List.setIfInBounds_toArray, List.set_cons_zero, List.set_cons_succ]
  refine wpAnyH_take (i := 14) (v := ?_) rfl (by kernel_rfl) (by kernel_rfl) (by kernel_rfl) (fun _ _ _ h => h) (Or.inl ⟨by rfl, ?_⟩) (by assumption) ?_
  rotate_left
  · (intro wq hSw; (try dsimp only at hSw); go_simp; (try with_reducible rfl))
  simp only [Act.put, List.getElem_toArray, List.getElem_cons_zero, List.getElem_cons_succ, List.setIfInBounds_toArray, List.set_cons_zero, List.set_cons_succ]
  refine wpAnyH_done (by kernel_rfl) ?_ _
  change wpList _ _ _ _ _ _
  simp only [List.drop_succ_cons, List.drop_zero]
  have P9 := HBA.out _ _ [.int .i64 (i : Int)] (i : Int) [] _ (HWD.out.trans' (HCD.out.allocR (.cells #[.int .i64 (i : Int)] 3))) ⟨rfl, rfl⟩ (by simp) (by simp) (by rw [HFX.out]; exact hrow2) hchg2 hold2
  have HP9 := Lib.hid P9
  clear P9 hrow2 hchg2 hold2
  go_upto_region 6 with fail
  generalize w2.setCell ⟨b, 3, none⟩ (.slice a2 n2 cp2) = W4 at *
  obtain ⟨F2, HH2, S2⟩ := HP9.out
  obtain ⟨-, -, -, -, c4, -⟩ := hpCells HH2
  rw [Nat.zero_add] at c4
  have f4 := HH2.frozen 4
  have w64 : IntKind.i64.wrap (hp.live - 1) = hp.live - 1 := IntWalk.i64_in _ (by have := HLV.out; omega)
  have P10 := HH2.setPost hpR_live (y := hp.live - 1) (v := .int .i64 (hp.live - 1)) rfl
  rw [Nat.zero_add] at P10
  have HP10 := Lib.hid P10
  have HS2 := Lib.hid S2
  clear HH2 P10 S2 HP9 cc2 f2 HS0 HKS HRA
  go_wp2_with fail
  go_ret
  obtain ⟨F3, HH3, S3⟩ := HP10.out
  exact ⟨rfl, F3, HH3, (HS1.out.trans HS2.out).trans S3⟩
end Go.Proofs.Ythiiehanlconeaa
namespace Go.Proofs.Ythiiehanlconeaa
open Go.RowKit
set_option linter.unusedVariables false
set_option linter.unusedSimpArgs false

theorem sd_get {α : Type} {l : List α} {i : Nat} (hi : i < l.length) (x d : α) (j : Nat) : (l.set i x).getD j d = if i = j then x else l.getD j d := by
  rw [List.getD_eq_getElem?_getD, List.getElem?_set]
  by_cases e : i = j
  · rw [if_pos e, if_pos e, if_pos hi]; rfl
  · rw [if_neg e, if_neg e, List.getD_eq_getElem?_getD]
theorem sd_out {α : Type} {l : List α} {i : Nat} (hi : ¬ i < l.length) (x d : α) (j : Nat) : (l.set i x).getD j d = l.getD j d := by
  rw [List.set_eq_of_length_le (by omega)]
def dropIf (Lv : List Nat) (hp : Hp) (i : Nat) : Hp := if (hp.slots.getD i noSlt).used = true ∧ i ∉ Lv then dropH hp i else hp
def dropN (hp : Hp) (Lv : List Nat) (k : Nat) : Hp := (List.range k).foldl (dropIf Lv) hp
def cntN (hp : Hp) (Lv : List Nat) : Nat → Nat
  | 0 => 0
  | k + 1 => cntN hp Lv k + if (hp.slots.getD k noSlt).used = true ∧ k ∉ Lv then 1 else 0
def restM (hs : Int → Bool) (d : List Val) : List Val := (pairsM d).flatMap fun p => if p.1.kind = 5 ∧ hs p.1.ref = true then [p.1, p.2] else []
def weakD (Lv : List Nat) (hp : Hp) (i : Nat) : Hp := if (hp.slots.getD i noSlt).obj.kind = 5 then putO hp i { (hp.slots.getD i noSlt).obj with data := restM (hasK hp Lv) (hp.slots.getD i noSlt).obj.data } else hp
def weakN (Lv : List Nat) (hp : Hp) (K : List Nat) : Hp := K.foldl (weakD Lv) hp
def sweepM (hp : Hp) (Lv : List Nat) : Hp := weakN Lv (dropN hp Lv hp.slots.length) Lv
theorem dropN_succ (hp : Hp) (Lv : List Nat) (k : Nat) : dropN hp Lv (k + 1) = dropIf Lv (dropN hp Lv k) k := by unfold dropN; rw [List.range_succ, List.foldl_append]; rfl
theorem cntN_succ (hp : Hp) (Lv : List Nat) (k : Nat) : cntN hp Lv (k + 1) = cntN hp Lv k + if (hp.slots.getD k noSlt).used = true ∧ k ∉ Lv then 1 else 0 := rfl
theorem cntN_le (hp : Hp) (Lv : List Nat) : ∀ k, cntN hp Lv k ≤ k
  | 0 => Nat.le_refl _
  | k + 1 => by have := cntN_le hp Lv k; rw [cntN_succ]; split <;> omega
structure DropOk (hp : Hp) (Lv : List Nat) (k : Nat) (h : Hp) : Prop where
  base : h.base = hp.base
  stride : h.stride = hp.stride
  len : h.slots.length = hp.slots.length
  same : ∀ i, k ≤ i ∨ i ∈ Lv → h.slots.getD i noSlt = hp.slots.getD i noSlt
  gone : ∀ i, i < k → i < hp.slots.length → i ∉ Lv → (h.slots.getD i noSlt).used = false
  zero : ∀ i, i < k → i < hp.slots.length → i ∉ Lv → (hp.slots.getD i noSlt).used = true → h.slots.getD i noSlt = noSlt
  free : h.free.length = hp.free.length + cntN hp Lv k
  live : h.live = hp.live - (cntN hp Lv k : Int)
  glob : h.global = hp.global
  text : h.texts = hp.texts
  prot : h.protos = hp.protos
theorem dropN_ok (hp : Hp) (Lv : List Nat) : ∀ k, k ≤ hp.slots.length → DropOk hp Lv k (dropN hp Lv k)
  | 0, _ => ⟨rfl, rfl, rfl, fun _ _ => rfl, fun i h => by omega, fun i h => by omega, rfl, by simp [dropN, cntN], rfl, rfl, rfl⟩
  | k + 1, hk => by
    have ih := dropN_ok hp Lv k (by omega)
    rw [dropN_succ]
    unfold dropIf
    have hs := ih.same k (.inl (Nat.le_refl _))
    rw [hs]
    by_cases c : (hp.slots.getD k noSlt).used = true ∧ k ∉ Lv
    · rw [if_pos c]
      have hkl : k < (dropN hp Lv k).slots.length := by rw [ih.len]; omega
      refine ⟨ih.base, ih.stride, ?_, fun i hi => ?_, fun i hi hl hn => ?_, fun i hi hl hn hu => ?_, ?_, ?_, ih.glob, ih.text, ih.prot⟩
      · show ((dropN hp Lv k).slots.set k noSlt).length = _
        rw [List.length_set]; exact ih.len
      · show ((dropN hp Lv k).slots.set k noSlt).getD i noSlt = _
        rw [sd_get hkl, if_neg (fun e => hi.elim (fun x => by omega) (fun x => c.2 (by rw [e]; exact x)))]
        exact ih.same i (hi.imp (by omega) id)
      · show (((dropN hp Lv k).slots.set k noSlt).getD i noSlt).used = false
        rw [sd_get hkl]
        by_cases e : k = i
        · rw [if_pos e]; rfl
        · rw [if_neg e]; exact ih.gone i (by omega) hl hn
      · show ((dropN hp Lv k).slots.set k noSlt).getD i noSlt = _
        rw [sd_get hkl]
        by_cases e : k = i
        · rw [if_pos e]
        · rw [if_neg e]; exact ih.zero i (by omega) hl hn hu
      · show ((dropN hp Lv k).free ++ [(k : Int)]).length = _
        rw [List.length_append, ih.free, cntN_succ, if_pos c]; simp; omega
      · show (dropN hp Lv k).live - 1 = _
        rw [ih.live, cntN_succ, if_pos c]; omega
    · rw [if_neg c]
      refine ⟨ih.base, ih.stride, ih.len, fun i hi => ih.same i (hi.imp (by omega) id), fun i hi hl hn => ?_, fun i hi hl hn hu => ?_, by rw [ih.free, cntN_succ, if_neg c]; omega, by rw [ih.live, cntN_succ, if_neg c]; omega, ih.glob, ih.text, ih.prot⟩
      by_cases e : i = k
      · subst e
        rw [hs]
        cases hu : (hp.slots.getD i noSlt).used with
        | false => rfl
        | true => exact absurd ⟨hu, hn⟩ c
      · exact ih.gone i (by omega) hl hn
      by_cases e : i = k
      · subst e
        exact absurd ⟨hu, hn⟩ c
      · exact ih.zero i (by omega) hl hn hu
theorem putO_getD (hp : Hp) (i : Nat) (o : Obj) (j : Nat) : (putO hp i o).slots.getD j noSlt = if i = j ∧ i < hp.slots.length then { hp.slots.getD i noSlt with obj := o } else hp.slots.getD j noSlt := by
  show (hp.slots.set i _).getD j noSlt = _
  by_cases h : i < hp.slots.length
  · rw [sd_get h]
    by_cases e : i = j
    · rw [if_pos e, if_pos ⟨e, h⟩]
    · rw [if_neg e, if_neg (fun x => e x.1)]
  · rw [sd_out h, if_neg (fun x => h x.2)]
structure WeakOk (h : Hp) (Lv K : List Nat) (h' : Hp) : Prop where
  base : h'.base = h.base
  stride : h'.stride = h.stride
  len : h'.slots.length = h.slots.length
  used : ∀ i, (h'.slots.getD i noSlt).used = (h.slots.getD i noSlt).used
  same : ∀ i, i ∉ K → h'.slots.getD i noSlt = h.slots.getD i noSlt
  free : h'.free = h.free
  live : h'.live = h.live
  glob : h'.global = h.global
  text : h'.texts = h.texts
  prot : h'.protos = h.protos
theorem weakD_ok (Lv : List Nat) (h : Hp) (i : Nat) : WeakOk h Lv [i] (weakD Lv h i) := by
  unfold weakD
  split
  · refine ⟨rfl, rfl, by show (h.slots.set i _).length = _; rw [List.length_set], fun j => ?_, fun j hj => ?_, rfl, rfl, rfl, rfl, rfl⟩
    · rw [putO_getD]; split
      · rename_i e; rw [← e.1]
      · rfl
    · rw [putO_getD, if_neg (fun x => hj (by rw [x.1]; simp))]
  · exact ⟨rfl, rfl, rfl, fun _ => rfl, fun _ _ => rfl, rfl, rfl, rfl, rfl, rfl⟩
theorem WeakOk.trans {h h1 h2 : Hp} {Lv K K2 : List Nat} (a : WeakOk h Lv K h1) (b : WeakOk h1 Lv K2 h2) : WeakOk h Lv (K ++ K2) h2 :=
  ⟨b.base.trans a.base, b.stride.trans a.stride, b.len.trans a.len, fun i => (b.used i).trans (a.used i), fun i hi => (b.same i (fun x => hi (by simp [x]))).trans (a.same i (fun x => hi (by simp [x]))), b.free.trans a.free, b.live.trans a.live, b.glob.trans a.glob, b.text.trans a.text, b.prot.trans a.prot⟩
theorem weakN_ok (Lv : List Nat) : ∀ (K : List Nat) (h : Hp), WeakOk h Lv K (weakN Lv h K)
  | [], h => ⟨rfl, rfl, rfl, fun _ => rfl, fun _ _ => rfl, rfl, rfl, rfl, rfl, rfl⟩
  | i :: K, h => by
    have h1 := weakD_ok Lv h i
    have h2 := weakN_ok Lv K (weakD Lv h i)
    exact h1.trans h2
theorem weakN_take {Lv : List Nat} {h : Hp} {K : List Nat} {k : Nat} (hk : k < K.length) : weakN Lv h (K.take (k + 1)) = weakD Lv (weakN Lv h (K.take k)) K[k] := by
  unfold weakN
  rw [List.take_succ_eq_append_getElem hk, List.foldl_append]; rfl
theorem slotOf_eq {h h' : Hp} (e1 : h'.base = h.base) (e2 : h'.stride = h.stride) (e3 : h'.slots.length = h.slots.length) (e4 : ∀ i, (h'.slots.getD i noSlt).used = (h.slots.getD i noSlt).used) (x : Int) : slotOf h' x = slotOf h x := by
  unfold slotOf; rw [e1, e2, e3, e4]
theorem hasK_eq {h h' : Hp} (e1 : h'.base = h.base) (e2 : h'.stride = h.stride) (e3 : h'.slots.length = h.slots.length) (e4 : ∀ i, (h'.slots.getD i noSlt).used = (h.slots.getD i noSlt).used) (K : List Nat) : hasK h' K = hasK h K := by
  funext x; unfold hasK; rw [slotOf_eq e1 e2 e3 e4]
theorem mkOf_eq {h h' : Hp} (e1 : h'.base = h.base) (e2 : h'.stride = h.stride) (e3 : h'.slots.length = h.slots.length) (bh : Nat) (K : List Nat) : mkOf bh h' K = mkOf bh h K := by unfold mkOf; rw [e1, e2, e3]
theorem rest_take {hs : Int → Bool} {d : List Val} {q : Nat} (h : q < d.length / 2) :
    ((pairsM d).take (q + 1)).flatMap (fun p => if p.1.kind = 5 ∧ hs p.1.ref = true then [p.1, p.2] else []) = ((pairsM d).take q).flatMap (fun p => if p.1.kind = 5 ∧ hs p.1.ref = true then [p.1, p.2] else []) ++ (if (d.getD (2 * q) noVal).kind = 5 ∧ hs (d.getD (2 * q) noVal).ref = true then [d.getD (2 * q) noVal, d.getD (2 * q + 1) noVal] else []) := by
  rw [pairs_take h, List.flatMap_append]; simp
theorem rest_len {hs : Int → Bool} : ∀ l : List (Val × Val), (l.flatMap (fun p => if p.1.kind = 5 ∧ hs p.1.ref = true then [p.1, p.2] else [])).length ≤ 2 * l.length
  | [] => by simp
  | a :: l => by
    have := rest_len (hs := hs) l
    have h2 : (if a.1.kind = 5 ∧ hs a.1.ref = true then [a.1, a.2] else []).length ≤ 2 := by split <;> simp
    rw [List.flatMap_cons, List.length_append, List.length_cons]
    omega
/-- A list of values made behind w0. -/
structure VOut (w0 W : World) (v : Value) (l : List Val) : Prop where
  row : RowAt W 63 4 v l.length (l.flatMap Val.cells)
  lo : ∀ k, v.ownBlock = some k → w0.heap.size ≤ k
  chg : Chg (fun _ => False) w0 W
theorem VOut.still {w0 W W' : World} {v : Value} {l : List Val} (h : VOut w0 W v l) (hc : Chg (fun _ => False) W W') : VOut w0 W' v l := ⟨h.row.chg hc (fun _ _ x => x), h.lo, h.chg.trans' hc⟩
theorem VOut.nil (w : World) : VOut w w (.slice none 0 0) [] := ⟨RowAt.nil _ _ _, (fun k hk => by simp [Value.ownBlock] at hk), Chg.refl _ _⟩
/-- An object of a heap, and what a change of it makes of the whole. -/
theorem hpPut {W : World} {b : Nat} {hp : Hp} {F : List Nat} (H : Here hpR W b 0 hp F) {i : Nat} (hi : i < hp.slots.length) : ∃ g off cap, W.cell? ⟨b, 2, none⟩ = some (.slice (some ⟨g, off, none⟩) hp.slots.length cap) ∧
    ∃ G, Here objR W g (off + i * 11 + 1) hp.slots[i].obj G ∧ (∀ k ∈ G, k ∈ F) ∧ ∀ W' y, Post objR W g (off + i * 11 + 1) y G W' → Post hpR W b 0 (putO hp i y) F W' := by
  obtain ⟨-, -, ⟨a, cap, c2⟩, -⟩ := hpCells H
  obtain ⟨g, off, rfl, G0, h1, -, -, -, hin, hback⟩ := hpSlot H c2 hi
  obtain ⟨G, h2, h4, h3⟩ := h1.field sltR_obj (by show 0 < 11; decide)
  rw [Nat.zero_add] at c2
  refine ⟨g, off, cap, c2, G, h2, fun k hk => hin k (h4 k hk), fun W' y hp1 => ?_⟩
  obtain ⟨G', k1, k2⟩ := hp1
  obtain ⟨F2, m1, m2⟩ := h3 W' y G' k1 k2
  have hpost := (hback W' _ F2 m1 m2).1
  have e : { hp with slots := hp.slots.set i { hp.slots[i] with obj := y } } = putO hp i y := by
    unfold putO
    rw [List.getD_eq_getElem?_getD, List.getElem?_eq_getElem hi]
    rfl
  rw [e] at hpost
  exact hpost
end Go.Proofs.Ythiiehanlconeaa
namespace Go.Proofs.Ythiiehanlconeaa
open Go.RowKit
set_option linter.unusedVariables false
set_option linter.unusedSimpArgs false

theorem addsK_all {hp : Hp} {Lv : List Nat} (hg : KOk hp Lv) (hf : hp.slots.length ≤ 100000) : ∀ k, k ≤ Lv.length → addsK hp [] ((Lv.take k).map fun i => handleM hp.base hp.stride (i : Nat)) = Lv.take k
  | 0, _ => rfl
  | k + 1, hk => by
    have hlt : k < Lv.length := hk
    have ih := addsK_all hg hf k (by omega)
    have hi := hg.good.lt _ (List.getElem_mem hlt)
    have hso := slotOf_handle hi (hg.used _ (List.getElem_mem hlt)) hf
    rw [List.take_succ_eq_append_getElem hlt, List.map_append]
    show addsK hp [] (_ ++ [handleM hp.base hp.stride (Lv[k] : Nat)]) = _
    rw [addsK_snoc, ih]
    unfold addK
    rw [hso]
    show addN (Lv.take k) Lv[k] = _
    unfold addN
    rw [if_neg]
    intro hm
    obtain ⟨j, hj, e⟩ := List.mem_iff_getElem.1 hm
    rw [List.getElem_take] at e
    rw [List.length_take] at hj
    have := (List.getElem_inj hg.good.nd).1 e
    omega
theorem mkList {w : World} {b : Nat} {m : Mk} {F : List Nat} (H : Here mkR w b 0 m F) : ∃ a cap, w.cell? ⟨b, 2, none⟩ = some (.slice a m.list.length cap) ∧ RowAt w 3 1 (.slice a m.list.length cap) m.list.length (intC m.list) := by
  obtain ⟨cs, ⟨v1, v2, F1, F2, rfl, h1, h2, -⟩, hc⟩ := H.cell
  obtain ⟨v', e, hr, -⟩ := row_flat.1 h2
  obtain rfl : v2 = v' := by simpa using e
  rw [flatMap_one] at hr
  have hr' : RowAt w 3 1 v2 m.list.length (intC m.list) := hr
  obtain ⟨a, cap, rfl, -⟩ := hr'.slice
  have c2 := hc 2 _ rfl
  rw [Nat.zero_add] at c2
  exact ⟨a, cap, c2, hr'⟩
set_option maxHeartbeats 12800000 in
set_option maxRecDepth 100000 in
theorem sweep_any (w : World) (bh : Nat) (hp : Hp) (Fh : List Nat) (Lv : List Nat) (vl : Value) (HH : Here hpR w bh 0 hp Fh) (hok : HpOk hp) (hg : KOk hp Lv) (hr : RowAt w 3 1 vl Lv.length (intC (Lv.map fun i => handleM hp.base hp.stride (i : Nat))))
    (hsl : hp.slots.length ≤ 10000) (hfree : hp.free.length ≤ 10000) (hlive : hp.live = (hp.slots.length : Int)) (hpos : 0 < hp.slots.length) :
    Calls Try.prog 22 #[.pointer (some ⟨bh, 0, none⟩), vl] w fun e w' => e = .returned (.int .i64 (cntN hp Lv hp.slots.length : Int)) ∧ Post hpR w bh 0 (sweepM hp Lv) Fh w' := by
  obtain ⟨av, cv, rfl, -⟩ := hr.slice
  have hlv := good_len _ _ hg.good
  have HHH := Lib.hid HH
  have HOK := Lib.hid hok
  have HG := Lib.hid hg
  have HR := Lib.hid hr
  have HSL := Lib.hid hsl
  have HFR := Lib.hid hfree
  have HLI := Lib.hid hlive
  have HPO := Lib.hid hpos
  have HLV := Lib.hid hlv
  have HMK := Lib.hid (marked_any w bh hp Fh HH (by omega))
  have lvl : (Lv.length : Int) ≤ 10000 := by omega
  have sll : (hp.slots.length : Int) ≤ 10000 := by omega
  clear HH hok hg hr hsl hfree hlive hpos hlv
  go_enter Try.func22, Try.ntmps22
  go_upto_region 2 with (go_at_call 28; refine HMK.out.mono ?_; rintro e w1 ⟨bm, rfl, HMI⟩)
  obtain ⟨F0, ho0⟩ := HMI.own
  have HO0 := Lib.hid ho0
  clear HMI HMK ho0
  go_wp2_with fail
  go_loopw [7, 19] (fun _ u19 wr => ∃ (k : Nat) (F : List Nat), k ≤ Lv.length ∧ u19 = .int .i64 k ∧ Hid (Own mkR w wr bm 0 (mkOf bh hp (Lv.take k)) F) ∧ Hid (KOk hp (Lv.take k))) (fun _ u19 _ => Lv.length - (intOf u19).toNat)
  case atStart => exact ⟨0, F0, by omega, rfl, HO0, Lib.hid (KOk.nil _)⟩
  case round =>
    clear HO0
    obtain ⟨k, F, hk, rfl, HO, HKO⟩ := hrel
    by_cases hlt : k < Lv.length
    · have h0 : (0 : Int) ≤ (k : Int) := by omega
      have h1 : (k : Int) < (Lv.length : Int) := by omega
      have hr2 := HR.out.chg HO.out.chg (fun _ _ x => x)
      obtain ⟨gr, oR, cR, hv, -, -⟩ := hr2.addr (by omega)
      cases hv
      have c0 := hr2.cellAt k (.int .i64 (handleM hp.base hp.stride (Lv[k] : Nat))) (by unfold intC; rw [List.getElem?_map, List.getElem?_map, List.getElem?_eq_getElem hlt]; rfl)
      have w64 : IntKind.i64.wrap ((k : Int) + 1) = ((k + 1 : Nat) : Int) := IntWalk.i64_in _ (by omega)
      have hi := HG.out.good.lt _ (List.getElem_mem hlt)
      have hin := handle_InI hp.base hp.stride (i := Lv[k]) (by have := HSL.out; omega)
      have hAD := madd_any w wr bm bh hp Fh _ (handleM hp.base hp.stride (Lv[k] : Nat)) HHH.out F HO.out HKO.out hin (by have := HSL.out; omega)
      have hT : addK hp (Lv.take k) (handleM hp.base hp.stride (Lv[k] : Nat)) = Lv.take (k + 1) := by
        have q0 := addsK_all HG.out (by have := HSL.out; omega) k hk
        have q1 := addsK_all HG.out (by have := HSL.out; omega) (k + 1) hlt
        rw [List.take_succ_eq_append_getElem hlt, List.map_append] at q1
        rw [List.take_succ_eq_append_getElem hlt, ← q1]
        show _ = addsK hp [] (_ ++ [handleM hp.base hp.stride (Lv[k] : Nat)])
        rw [addsK_snoc, q0]
      rw [hT] at hAD
      have HAD := Lib.hid hAD
      clear hk hr2 hi hin hAD hT
      generalize handleM hp.base hp.stride (Lv[k] : Nat) = z at *
      have HLT := Lib.hid hlt
      have HNX := Lib.hid (show k + 1 ≤ Lv.length from hlt)
      clear hlt
      go_wp2_with (first | (go_at_call 29; refine HAD.out.mono ?_; rintro e wa ⟨rfl, F2, ho2, hk2, -, -⟩))
      go_roundw
      case rel => exact ⟨k + 1, F2, HNX.out, rfl, Lib.hid ho2, Lib.hid hk2⟩
      case measure => have := HLT.out; simp [intOf, w64]; omega
    · have hk2 : k = Lv.length := by omega
      subst hk2
      rename World => W1
      rw [List.take_length] at HO
      clear hlt hk HKO
      have HM := Lib.hid HO.out.here
      have HCW := Lib.hid HO.out.chg
      have H1 := Lib.hid (HHH.out.still HO.out.chg)
      have hapart : ∀ x ∈ bm :: F, ¬ (x = bh ∨ x ∈ Fh) := fun x hx h => by
        have h1 : w.heap.size ≤ x := (List.mem_cons.1 hx).elim (fun e => e ▸ HO.out.lo) (fun e => HO.out.los x e)
        have h2 := HHH.out.lt
        rcases h with rfl | h
        · omega
        · have := h2.2 x h; omega
      have HAP := Lib.hid hapart
      have hms : (mkOf bh hp Lv).set.length = hp.slots.length := mkOf_setlen bh hp Lv
      obtain ⟨gs, os, cs, m1, hset⟩ := mkSet HM.out (by rw [hms]; exact HPO.out)
      rw [hms] at m1
      have HSET : Hid (∀ i, i < hp.slots.length → W1.cell? ⟨gs, os + i, none⟩ = some (.bool (decide (i ∈ Lv)))) := Lib.hid (fun i hi => by
        have q := (hset i (by rw [hms]; exact hi)).1
        rw [mkOf_set] at q
        exact q)
      have HGS : Hid (gs ∈ F) := Lib.hid (by
        have q := HM.out.ownIn mkR_set (by show 0 < 3; decide) (v := .slice (some ⟨gs, os, none⟩) hp.slots.length cs) (by exact m1) (j := gs) rfl
        exact q)
      have HM1 := Lib.hid m1
      clear hapart hms hset HO
      go_wp2_with fail
      clear m1
      generalize hN : hp.slots.length = N at *
      have HN := Lib.hid hN
      clear hN
      go_loopw [8, 9, 32] (fun u8 _ u32 wr => ∃ (k : Nat), k ≤ N ∧ u32 = .int .i64 k ∧ u8 = .int .i64 (cntN hp Lv k : Int) ∧ Hid (Post hpR W1 bh 0 (dropN hp Lv k) Fh wr)) (fun _ _ u32 _ => N - (intOf u32).toNat)
      case atStart => exact ⟨0, by omega, rfl, rfl, Lib.hid ⟨Fh, H1.out, Step.refl _ _ _ _ _⟩⟩
      case round =>
        obtain ⟨k, hk, rfl, rfl, HP⟩ := hrel
        obtain ⟨Fi, Hi, Si⟩ := HP.out
        have HI := Lib.hid Hi
        have HSI := Lib.hid Si
        have dok := dropN_ok hp Lv k (by rw [HN.out]; exact hk)
        by_cases hlt : k < N
        · have h0 : (0 : Int) ≤ (k : Int) := by omega
          have h1 : (k : Int) < (N : Int) := by omega
          have w64 : IntKind.i64.wrap ((k : Int) + 1) = ((k + 1 : Nat) : Int) := IntWalk.i64_in _ (by omega)
          have hDl : (dropN hp Lv k).slots.length = N := by rw [dok.len, HN.out]
          have hkD : k < (dropN hp Lv k).slots.length := by rw [hDl]; exact hlt
          obtain ⟨e0, e1, ⟨a, ca, c2⟩, -⟩ := hpCells Hi
          obtain ⟨g, off, rfl, G, -, cu, -⟩ := hpSlot Hi c2 hkD
          rw [hDl] at c2
          rw [Nat.zero_add] at e1 c2
          have hsm := dok.same k (.inl (Nat.le_refl _))
          have hus : (dropN hp Lv k).slots[k].used = (hp.slots.getD k noSlt).used := by rw [← hsm, getD_get hkD]
          rw [hus] at cu
          have mk1 := Si.chg.cellS HM1.out (HAP.out bm (List.mem_cons_self ..))
          have mks := Si.chg.cellS (HSET.out k (by omega)) (HAP.out gs (List.mem_cons_of_mem _ HGS.out))
          have hsu := dropN_succ hp Lv k
          unfold dropIf at hsu
          rw [hsm] at hsu
          have hcu := cntN_succ hp Lv k
          have HLT := Lib.hid hlt
          have HNX := Lib.hid (show k + 1 ≤ N from hlt)
          have HCL : Hid (cntN hp Lv k ≤ k) := Lib.hid (cntN_le hp Lv k)
          clear hk Hi Si
          by_cases hu : (hp.slots.getD k noSlt).used = true ∧ k ∉ Lv
          · rw [if_pos hu] at hsu hcu
            rw [hu.1] at cu
            rw [decide_eq_false hu.2] at mks
            have HSO : Hid (slotOf (dropN hp Lv k) (handleM (dropN hp Lv k).base (dropN hp Lv k).stride (k : Nat)) = some k) := Lib.hid (slotOf_handle hkD (by rw [hsm]; exact hu.1) (by rw [hDl]; have := HSL.out; omega))
            have HIN := Lib.hid (handle_InI (dropN hp Lv k).base (dropN hp Lv k).stride (i := k) (by omega))
            have HFREE : Hid ((dropN hp Lv k).free.length ≤ 100000) := Lib.hid (by rw [dok.free]; have := HFR.out; have := HCL.out; omega)
            have HLIVE : Hid (0 ≤ (dropN hp Lv k).live ∧ (dropN hp Lv k).live ≤ 1000000) := Lib.hid (by rw [dok.live, HLI.out]; have := HCL.out; omega)
            have hhn := fun W => handle_any (dropN hp Lv k).base (dropN hp Lv k).stride (k : Int) W (by omega)
            have HHN := Lib.hid hhn
            have HSU := Lib.hid hsu
            have HCU := Lib.hid hcu
            have wc64 : IntKind.i64.wrap ((cntN hp Lv k : Int) + 1) = ((cntN hp Lv k + 1 : Nat) : Int) := IntWalk.i64_in _ (by have := HCL.out; omega)
            clear hu hsu hcu hhn dok hsm hus hDl hkD hlt
            generalize dropN hp Lv k = D at *
            have HS0 := Lib.hid (And.intro e0 e1)
            go_upto_region 12 with fail
            clear e0 e1 c2 cu mk1 mks
            refine wp_region_held_split 10 (fun w' => w'.cell? ⟨bh, 0, none⟩ = some (.int .i64 D.base) ∧ w'.cell? ⟨bh, 1, none⟩ = some (.int .i64 D.stride)) (by kernel_rfl) (by kernel_rfl) ?_ (fun hHeld => ?_)
            · (first | exact HS0.out | exact HKS.out _ (Chg.refl _ _) | exact HKS.out _ HCD.out)
            simp only [List.take_succ_cons, List.take_zero]
            have HKS : Hid (∀ W, Chg (fun _ => False) wr.drew W → W.cell? ⟨bh, 0, none⟩ = some (.int .i64 D.base) ∧ W.cell? ⟨bh, 1, none⟩ = some (.int .i64 D.stride)) := Lib.hid (fun W hc => ⟨hc.cell HS0.out.1, hc.cell HS0.out.2⟩)
            have HWD : Hid (Chg (fun _ => False) wr wr.drew) := Lib.hid (Chg.refl _ wr).drewR
            generalize wr.drew = wD at *
            refine wpAnyH_take (i := 0) (v := ?_) rfl (by kernel_rfl) (by kernel_rfl) (by kernel_rfl) (fun _ _ _ h => h) (Or.inl ⟨by rfl, ?_⟩) (by assumption) ?_
            rotate_left
            · (intro wq hSw; (try dsimp only at hSw); go_simp; (try with_reducible rfl))
            simp only [Act.put, List.getElem_toArray, List.getElem_cons_zero, List.getElem_cons_succ, List.setIfInBounds_toArray, List.set_cons_zero, List.set_cons_succ]
            refine wpAnyH_take (i := 1) (v := ?_) rfl (by kernel_rfl) (by kernel_rfl) (by kernel_rfl) (fun _ _ _ h => h) (Or.inl ⟨by rfl, ?_⟩) (by assumption) ?_
            rotate_left
            · (intro wq hSw; (try dsimp only at hSw); go_simp; (try with_reducible rfl))
            simp only [Act.put, List.getElem_toArray, List.getElem_cons_zero, List.getElem_cons_succ, List.setIfInBounds_toArray, List.set_cons_zero, List.set_cons_succ]
            refine wpAnyH_take (i := 2) (v := ?_) rfl (by kernel_rfl) (by kernel_rfl) (by kernel_rfl) (fun _ _ _ h => h) (Or.inl ⟨by rfl, ?_⟩) (by assumption) ?_
            rotate_left
            · (intro wq hSw; (try dsimp only at hSw); go_simp; (try with_reducible rfl))
            simp only [Act.put, List.getElem_toArray, List.getElem_cons_zero, List.getElem_cons_succ, List.setIfInBounds_toArray, List.set_cons_zero, List.set_cons_succ]
            refine wpAnyH_take (i := 3) (v := ?_) rfl (by kernel_rfl) (by kernel_rfl) (by kernel_rfl) (fun _ _ _ h => h) (Or.inl ⟨by rfl, ?_⟩) (by assumption) ?_
            rotate_left
            · (intro wq hSw; (try dsimp only at hSw); go_simp; (try with_reducible rfl))
            simp only [Act.put, List.getElem_toArray, List.getElem_cons_zero, List.getElem_cons_succ, List.setIfInBounds_toArray, List.set_cons_zero, List.set_cons_succ]
            refine wpAnyH_take (i := 4) (v := ?_) rfl (by kernel_rfl) (by kernel_rfl) (by kernel_rfl) (fun _ _ _ h => h) (Or.inl ⟨by rfl, ?_⟩) (by assumption) ?_
            rotate_left
            · (intro wq hSw; (try dsimp only at hSw); go_simp; (try with_reducible rfl))
            simp only [Act.put, List.getElem_toArray, List.getElem_cons_zero, List.getElem_cons_succ, List.setIfInBounds_toArray, List.set_cons_zero, List.set_cons_succ]
            refine wpAnyH_take (i := 5) (v := ?_) rfl (by kernel_rfl) (by kernel_rfl) (by kernel_rfl) (fun _ _ _ h => h) (Or.inl ⟨by rfl, ?_⟩) (by assumption) ?_
            rotate_left
            · (intro wq hSw; (try dsimp only at hSw); go_simp; (try with_reducible rfl))
            simp only [Act.put, List.getElem_toArray, List.getElem_cons_zero, List.getElem_cons_succ, List.setIfInBounds_toArray, List.set_cons_zero, List.set_cons_succ]
            refine wpAnyH_take (i := 6) (v := ?_) rfl (by kernel_rfl) (by kernel_rfl) (by kernel_rfl) (fun _ _ _ h => h) (Or.inl ⟨by rfl, ?_⟩) (by assumption) ?_
            rotate_left
            · (intro wq hSw; (try dsimp only at hSw); go_simp; (try with_reducible rfl))
            simp only [Act.put, List.getElem_toArray, List.getElem_cons_zero, List.getElem_cons_succ, List.setIfInBounds_toArray, List.set_cons_zero, List.set_cons_succ]
            refine wpAnyH_take (i := 7) (v := ?_) rfl (by kernel_rfl) (by kernel_rfl) (by kernel_rfl) (fun _ _ _ h => h) (Or.inl ⟨by rfl, ?_⟩) (by assumption) ?_
            rotate_left
            · (intro wq hSw; (try dsimp only at hSw); go_simp; (try with_reducible rfl))
            simp only [Act.put, List.getElem_toArray, List.getElem_cons_zero, List.getElem_cons_succ, List.setIfInBounds_toArray, List.set_cons_zero, List.set_cons_succ]
            refine wpAnyH_take (i := 8) (v := ?_) rfl (by kernel_rfl) (by kernel_rfl) (by kernel_rfl) (fun _ _ _ h => h) (Or.inl ⟨by rfl, ?_⟩) (by assumption) ?_
            rotate_left
            · (intro wq hSw; (try dsimp only at hSw); go_simp; (try with_reducible rfl))
            simp only [Act.put, List.getElem_toArray, List.getElem_cons_zero, List.getElem_cons_succ, List.setIfInBounds_toArray, List.set_cons_zero, List.set_cons_succ]
            refine wpAnyH_ready (rs := [9]) (by kernel_rfl) (by simp) ?_
            refine AllReadyH.cons (by simp only [List.getElem?_toArray, List.getElem?_cons_succ, List.getElem?_cons_zero]; rfl) (fun K hK => ?_) AllReadyH.nil
            (go_simp; go_at_call 39; refine (HHN.out _).mono ?_; rintro _ wd ⟨rfl, hcd⟩; have HCD := Lib.hid hcd; clear hcd; go_simp)
            refine hK.out _ _ ?_ (fun hHeld => ?_)
            · (first | exact HS0.out | exact HKS.out _ (Chg.refl _ _) | exact HKS.out _ HCD.out)
            clear hK K
            (try simp only [Act.put, List.getElem_toArray, List.getElem_cons_zero, List.getElem_cons_succ, List.setIfInBounds_toArray, List.set_cons_zero, List.set_cons_succ])
            refine wpAnyH_done (by kernel_rfl) ?_ _
            change wpList _ _ _ _ _ _
            simp only [List.drop_succ_cons, List.drop_zero]
            have HDR := Lib.hid (drop_any wd bh D Fi (handleM D.base D.stride (k : Nat)) k (HI.out.still (HWD.out.trans' HCD.out)) HSO.out HIN.out HFREE.out HLIVE.out)
            go_upto_region 13 with (go_at_call 38; refine HDR.out.mono ?_; rintro e w5 ⟨rfl, hpd⟩)
            obtain ⟨F3, H3, S3⟩ := hpd
            have HPN := Lib.hid (show Post hpR W1 bh 0 (dropN hp Lv (k + 1)) Fh w5 from by rw [HSU.out]; exact ⟨F3, H3, HSI.out.trans ((Step.ofChg (HWD.out.trans' HCD.out)).trans S3)⟩)
            clear H3 S3 HDR HKS HS0 hHeld
            go_wp2_with fail
            go_roundw
            case rel => exact ⟨k + 1, HNX.out, rfl, by rw [HCU.out, Int.natCast_add]; rfl, HPN⟩
            case measure => have := HLT.out; simp [intOf, w64]; omega
          · rw [if_neg hu] at hsu hcu
            have HPN : Hid (Post hpR W1 bh 0 (dropN hp Lv (k + 1)) Fh wr) := Lib.hid (by rw [hsu]; exact HP.out)
            have HCU := Lib.hid hcu
            clear hsu hcu hkD hDl dok hsm hus hlt
            cases hus2 : (hp.slots.getD k noSlt).used with
            | false =>
              rw [hus2] at cu
              clear hu hus2
              go_wp2_with fail
              go_roundw
              case rel => exact ⟨k + 1, HNX.out, rfl, by rw [HCU.out, Nat.add_zero], HPN⟩
              case measure => have := HLT.out; simp [intOf, w64]; omega
            | true =>
              rw [hus2] at cu
              have hin : k ∈ Lv := by
                by_cases hin : k ∈ Lv
                · exact hin
                · exact absurd ⟨hus2, hin⟩ hu
              rw [decide_eq_true hin] at mks
              clear hu hus2 hin
              go_wp2_with fail
              go_roundw
              case rel => exact ⟨k + 1, HNX.out, rfl, by rw [HCU.out, Nat.add_zero], HPN⟩
              case measure => have := HLT.out; simp [intOf, w64]; omega
        · have hk2 : N = k := by omega
          subst hk2
          obtain ⟨ah, ch, m2, hrl⟩ := mkList HM.out
          have hll : (mkOf bh hp Lv).list = Lv.map fun i => handleM hp.base hp.stride (i : Nat) := rfl
          have hlen : (Lv.map fun i => handleM hp.base hp.stride (i : Nat)).length = Lv.length := List.length_map ..
          rw [hll, hlen] at m2 hrl
          have HRL := Lib.hid hrl
          have HM2 := Lib.hid m2
          have mm2 := Si.chg.cellS m2 (HAP.out bm (List.mem_cons_self ..))
          clear hll hlen m2 hrl hlt hk
          have HDK := Lib.hid dok
          generalize hD : dropN hp Lv N = D at *
          have HD := Lib.hid hD
          clear hD dok Hi Si HI
          go_wp2_with fail
          clear mm2
          go_loopw [11, 12, 13, 14, 73] (fun _ _ _ _ u73 wz => ∃ (k : Nat), k ≤ Lv.length ∧ u73 = .int .i64 k ∧ Hid (Post hpR W1 bh 0 (weakN Lv D (Lv.take k)) Fh wz)) (fun _ _ _ _ u73 _ => Lv.length - (intOf u73).toNat)
          case atStart => exact ⟨0, by omega, rfl, HP⟩
          case round =>
            rename World => wz
            clear HP HSI Fi
            obtain ⟨k, hk, rfl, HP⟩ := hrel
            obtain ⟨Fi, Hi, Si⟩ := HP.out
            by_cases hlt : k < Lv.length
            · have h0 : (0 : Int) ≤ (k : Int) := by omega
              have h1 : (k : Int) < (Lv.length : Int) := by omega
              have w64 : IntKind.i64.wrap ((k : Int) + 1) = ((k + 1 : Nat) : Int) := IntWalk.i64_in _ (by omega)
              have wok := weakN_ok Lv (Lv.take k) D
              have hi := HG.out.good.lt _ (List.getElem_mem hlt)
              have hus := HG.out.used _ (List.getElem_mem hlt)
              have hnt : Lv[k] ∉ Lv.take k := by
                intro hm
                obtain ⟨j, hj, e⟩ := List.mem_iff_getElem.1 hm
                rw [List.getElem_take] at e
                rw [List.length_take] at hj
                have := (List.getElem_inj HG.out.good.nd).1 e
                omega
              have hsame : (weakN Lv D (Lv.take k)).slots.getD Lv[k] noSlt = hp.slots.getD Lv[k] noSlt := by rw [wok.same _ hnt, HDK.out.same _ (.inr (List.getElem_mem hlt))]
              have hcl : (weakN Lv D (Lv.take k)).slots.length = hp.slots.length := by rw [wok.len, HDK.out.len]
              have hic : Lv[k] < (weakN Lv D (Lv.take k)).slots.length := by rw [hcl]; exact hi
              have hWT := weakN_take (h := D) (Lv := Lv) hlt
              have hmk : mkOf bh (weakN Lv D (Lv.take k)) Lv = mkOf bh hp Lv := mkOf_eq (wok.base.trans HDK.out.base) (wok.stride.trans HDK.out.stride) hcl bh Lv
              have hHM : Here mkR wz bm 0 (mkOf bh (weakN Lv D (Lv.take k)) Lv) F := by
                rw [hmk]
                exact HM.out.chg Si.chg (HAP.out bm (List.mem_cons_self ..)) (fun x hx => HAP.out x (List.mem_cons_of_mem _ hx))
              obtain ⟨g9, o9, c9, hv, -, -⟩ := HRL.out.addr (by omega)
              cases hv
              have hg9 : g9 ∈ F := by
                have q := HM.out.ownIn mkR_list (by show 0 < 3; decide) HM2.out (j := g9) rfl
                exact q
              have cz := Si.chg.cellS (HRL.out.cellAt k (.int .i64 (handleM hp.base hp.stride (Lv[k] : Nat))) (by unfold intC; rw [List.getElem?_map, List.getElem?_map, List.getElem?_eq_getElem hlt]; rfl)) (HAP.out g9 (List.mem_cons_of_mem _ hg9))
              have hin := handle_InI hp.base hp.stride (i := Lv[k]) (by have := HSL.out; have := HN.out; omega)
              have hso : slotOf (weakN Lv D (Lv.take k)) (handleM hp.base hp.stride (Lv[k] : Nat)) = some Lv[k] := by
                have q := slotOf_handle hic (by rw [hsame]; exact hus) (by rw [hcl]; have := HSL.out; have := HN.out; omega)
                rwa [wok.base, wok.stride, HDK.out.base, HDK.out.stride] at q
              have hobj : (weakN Lv D (Lv.take k)).slots[Lv[k]].obj = hp.slots[Lv[k]].obj := by rw [← getD_get (d := noSlt) hic, hsame, getD_get hi]
              have HOO := Lib.hid (HOK.out.obj _ hi)
              have HOI := Lib.hid (HOK.out.data _ hi)
              have hwd : weakD Lv (weakN Lv D (Lv.take k)) Lv[k] = if hp.slots[Lv[k]].obj.kind = 5 then putO (weakN Lv D (Lv.take k)) Lv[k] { hp.slots[Lv[k]].obj with data := restM (hasK (weakN Lv D (Lv.take k)) Lv) hp.slots[Lv[k]].obj.data } else weakN Lv D (Lv.take k) := by
                unfold weakD; rw [hsame, getD_get hi]
              clear hk hnt hsame hcl hmk hg9 hus wok
              generalize hp.slots[Lv[k]].obj = x at *
              generalize handleM hp.base hp.stride (Lv[k] : Nat) = z at *
              clear hi
              generalize Lv[k] = i at *
              have HLT := Lib.hid hlt
              have HNX := Lib.hid (show k + 1 ≤ Lv.length from hlt)
              have HWT := Lib.hid hWT
              clear hWT hlt
              generalize weakN Lv D (Lv.take k) = hc at *
              obtain ⟨gh, oh, ca, c2, G, HOBJ, -, hput⟩ := hpPut Hi hic
              rw [hobj] at HOBJ
              have hAT := hat_any wz bh 0 hc Fi z _ Hi (by rw [Nat.zero_add]; exact c2) hin
              rw [hso] at hAT
              rw [show objPtr (.slice (some ⟨gh, oh, none⟩) hc.slots.length ca) (some i) = some ⟨gh, oh + i * 11 + 1, none⟩ from rfl] at hAT
              have HAT := Lib.hid hAT
              obtain ⟨vp, ve, vd, vs, HOC⟩ := objOpen HOBJ
              obtain ⟨ad, cd, rfl, -⟩ := HOC.rd.slice
              have HOBH := Lib.hid HOBJ
              have HOCH := Lib.hid HOC
              have HPUT := Lib.hid hput
              have HI := Lib.hid Hi
              have HSI := Lib.hid Si
              have HMK := Lib.hid hHM
              have HWD := Lib.hid hwd
              clear hAT hso hobj hin HOBJ HOC hput Hi Si hHM hwd c2 hic
              go_upto_region 19 with (go_at_call 25; refine HAT.out.mono ?_; rintro e wa ⟨rfl, hca⟩)
              have HCA := Lib.hid hca
              have k0 := hca.cell HOCH.out.c0
              clear hca cz HAT
              by_cases hk5 : x.kind = 5
              · have hwd := HWD.out
                rw [if_pos hk5] at hwd
                have HWP := Lib.hid hwd
                rw [hk5] at k0
                have HDL := Lib.hid HOO.out.data
                have hle2 : (x.data.length : Int) ≤ 1000 := by have := HDL.out; omega
                clear hk5 hwd HWD
                go_wp2_with fail
                clear k0
                go_loopw [13, 14] (fun u13 u14 wy => ∃ (q j : Nat) (a : Option Addr) (nn c : Nat), j = 2 * q ∧ q ≤ x.data.length / 2 ∧ u14 = .int .i64 j ∧ u13 = .slice a nn c ∧ Hid (VOut wa wy (.slice a nn c) (((pairsM x.data).take q).flatMap (fun p => if p.1.kind = 5 ∧ hasK hc Lv p.1.ref = true then [p.1, p.2] else [])))) (fun _ u14 _ => x.data.length - (intOf u14).toNat)
                case atStart => exact ⟨0, 0, none, 0, 0, rfl, by omega, rfl, rfl, Lib.hid (VOut.nil wa)⟩
                case round =>
                  rename World => wy
                  obtain ⟨q, j, a, nn, c, hj, hq, rfl, rfl, HV⟩ := hrel
                  have hzy := HCA.out.trans' HV.out.chg
                  have cd4 := hzy.cell HOCH.out.c4
                  have wj1 : IntKind.i64.wrap ((j : Int) + 1) = ((j + 1 : Nat) : Int) := IntWalk.i64_in _ (by have := HDL.out; omega)
                  have wj2 : IntKind.i64.wrap ((j : Int) + 2) = ((j + 2 : Nat) : Int) := IntWalk.i64_in _ (by have := HDL.out; omega)
                  by_cases hlt2 : q < x.data.length / 2
                  · have hr := HOCH.out.rd.chg hzy (fun _ _ x => x)
                    obtain ⟨gd, od, cap', hv, -, -⟩ := hr.addr (by omega)
                    cases hv
                    obtain ⟨j1, hj1⟩ : ∃ j1, j1 = j + 1 := ⟨_, rfl⟩
                    have hjl : j < x.data.length := by omega
                    have hjl1 : j1 < x.data.length := by omega
                    have hrt := rest_take (hs := hasK hc Lv) hlt2
                    have g0 : x.data.getD (2 * q) noVal = x.data[j] := by rw [← hj, List.getD_eq_getElem?_getD, List.getElem?_eq_getElem hjl]; rfl
                    have g1 : x.data.getD (2 * q + 1) noVal = x.data[j1] := by rw [← hj, ← hj1, List.getD_eq_getElem?_getD, List.getElem?_eq_getElem hjl1]; rfl
                    rw [g0, g1] at hrt
                    have HR1 := Lib.hid (HOI.out _ (List.getElem_mem hjl))
                    have hcell : ∀ jj (hjj : jj < x.data.length) t u, x.data[jj].cells[t]? = some u → t < 4 → wy.cell? ⟨gd, od + jj * 4 + t, none⟩ = some u := fun jj hjj t u hu ht => by
                      rw [Nat.add_assoc]
                      exact hr.cellAt (jj * 4 + t) u (by rw [flat_get _ 4 Val.len x.data jj t hjj ht]; exact hu)
                    have a0 := hcell j hjl 0 _ rfl (by omega)
                    have a1 := hcell j hjl 1 _ rfl (by omega)
                    have a2 := hcell j hjl 2 _ rfl (by omega)
                    have a3 := hcell j hjl 3 _ rfl (by omega)
                    have b0 := hcell j1 hjl1 0 _ rfl (by omega)
                    have b1 := hcell j1 hjl1 1 _ rfl (by omega)
                    have b2 := hcell j1 hjl1 2 _ rfl (by omega)
                    have b3 := hcell j1 hjl1 3 _ rfl (by omega)
                    rw [Nat.add_zero] at a0 b0
                    rw [← hj1] at wj1
                    have i0 : (0 : Int) ≤ (j : Int) := by omega
                    have i1 : (j : Int) < (x.data.length : Int) := by omega
                    have i2 : (0 : Int) ≤ (j1 : Int) := by omega
                    have i3 : (j1 : Int) < (x.data.length : Int) := by omega
                    have HJ := Lib.hid hj
                    have HQ := Lib.hid hlt2
                    have HRT := Lib.hid hrt
                    have HRL2 : Hid ((((pairsM x.data).take q).flatMap (fun p => if p.1.kind = 5 ∧ hasK hc Lv p.1.ref = true then [p.1, p.2] else [])).length ≤ 1000) := Lib.hid (by
                      have h := rest_len (hs := hasK hc Lv) ((pairsM x.data).take q)
                      rw [List.length_take] at h
                      have := HDL.out; omega)
                    have HJL := Lib.hid hjl1
                    have HJ1 := Lib.hid hj1
                    clear g0 g1 hcell hr hq hj hrt
                    generalize hRQ : ((pairsM x.data).take q).flatMap (fun p => if p.1.kind = 5 ∧ hasK hc Lv p.1.ref = true then [p.1, p.2] else []) = RQ at *
                    clear hRQ
                    generalize x.data[j] = vk at *
                    generalize x.data[j1] = vv at *
                    clear hjl hjl1 hlt2 hj1
                    cases h5 : vk.kind == 5 with
                    | false =>
                      have HRN : Hid (((pairsM x.data).take (q + 1)).flatMap (fun p => if p.1.kind = 5 ∧ hasK hc Lv p.1.ref = true then [p.1, p.2] else []) = RQ) := Lib.hid (by
                        rw [HRT.out, if_neg (fun e => by rw [e.1] at h5; simp at h5), List.append_nil])
                      go_wp2_with fail
                      go_roundw
                      case rel => exact ⟨q + 1, j + 2, a, nn, c, by have := HJ.out; omega, by have := HQ.out; omega, rfl, rfl, by rw [HRN.out]; exact HV⟩
                      case measure => have := HJL.out; have := HJ1.out; simp [intOf, wj2]; omega
                    | true =>
                      have hk5 : vk.kind = 5 := by simpa using h5
                      have hhs := has_gen wy bm bh hc Fi Lv F vk.ref (HI.out.still hzy) (HMK.out.still hzy) HR1.out
                      cases hhk : hasK hc Lv vk.ref with
                      | false =>
                        rw [hhk] at hhs
                        have HHS := Lib.hid hhs
                        have HRN : Hid (((pairsM x.data).take (q + 1)).flatMap (fun p => if p.1.kind = 5 ∧ hasK hc Lv p.1.ref = true then [p.1, p.2] else []) = RQ) := Lib.hid (by
                          rw [HRT.out, if_neg (fun e => by rw [hhk] at e; cases e.2), List.append_nil])
                        clear hhs hhk hk5
                        go_wp2_with (go_at_call 40; refine HHS.out.mono ?_; rintro e wh ⟨rfl, hch⟩)
                        go_roundw
                        case rel => exact ⟨q + 1, j + 2, a, nn, c, by have := HJ.out; omega, by have := HQ.out; omega, rfl, rfl, by rw [HRN.out]; exact Lib.hid (HV.out.still hch)⟩
                        case measure => have := HJL.out; have := HJ1.out; simp [intOf, wj2]; omega
                      | true =>
                        rw [hhk] at hhs
                        have HHS := Lib.hid hhs
                        have HRN : Hid (((pairsM x.data).take (q + 1)).flatMap (fun p => if p.1.kind = 5 ∧ hasK hc Lv p.1.ref = true then [p.1, p.2] else []) = RQ ++ [vk, vv]) := Lib.hid (by
                          rw [HRT.out, if_pos ⟨hk5, hhk⟩])
                        have HSA : Hid (wy.cell? ⟨gh, oh + i * 11 + 1 + 4, none⟩ = some (.slice (some ⟨gd, od, none⟩) x.data.length cd) ∧ wy.cell? ⟨gd, od + j * 4, none⟩ = some (.int .i64 vk.kind) ∧ wy.cell? ⟨gd, od + j * 4 + 1, none⟩ = some (.int .i64 vk.int) ∧ wy.cell? ⟨gd, od + j * 4 + 2, none⟩ = some (.string vk.str) ∧ wy.cell? ⟨gd, od + j * 4 + 3, none⟩ = some (.int .i64 vk.ref) ∧ wy.cell? ⟨gd, od + j1 * 4, none⟩ = some (.int .i64 vv.kind) ∧ wy.cell? ⟨gd, od + j1 * 4 + 1, none⟩ = some (.int .i64 vv.int) ∧ wy.cell? ⟨gd, od + j1 * 4 + 2, none⟩ = some (.string vv.str) ∧ wy.cell? ⟨gd, od + j1 * 4 + 3, none⟩ = some (.int .i64 vv.ref)) := Lib.hid ⟨cd4, a0, a1, a2, a3, b0, b1, b2, b3⟩
                        clear hhs hhk hk5
                        go_upto_region 25 with (go_at_call 40; refine HHS.out.mono ?_; rintro e wh ⟨rfl, hch⟩)
                        have HCH := Lib.hid hch
                        have HVH := Lib.hid (HV.out.still hch)
                        have HS0 : Hid (wh.cell? ⟨gh, oh + i * 11 + 1 + 4, none⟩ = some (.slice (some ⟨gd, od, none⟩) x.data.length cd) ∧ wh.cell? ⟨gd, od + j * 4, none⟩ = some (.int .i64 vk.kind) ∧ wh.cell? ⟨gd, od + j * 4 + 1, none⟩ = some (.int .i64 vk.int) ∧ wh.cell? ⟨gd, od + j * 4 + 2, none⟩ = some (.string vk.str) ∧ wh.cell? ⟨gd, od + j * 4 + 3, none⟩ = some (.int .i64 vk.ref) ∧ wh.cell? ⟨gd, od + j1 * 4, none⟩ = some (.int .i64 vv.kind) ∧ wh.cell? ⟨gd, od + j1 * 4 + 1, none⟩ = some (.int .i64 vv.int) ∧ wh.cell? ⟨gd, od + j1 * 4 + 2, none⟩ = some (.string vv.str) ∧ wh.cell? ⟨gd, od + j1 * 4 + 3, none⟩ = some (.int .i64 vv.ref)) := Lib.hid ⟨hch.cell cd4, hch.cell a0, hch.cell a1, hch.cell a2, hch.cell a3, hch.cell b0, hch.cell b1, hch.cell b2, hch.cell b3⟩
                        clear cd4 a0 a1 a2 a3 b0 b1 b2 b3 hch HSA
                        refine wp_region_held_split 17 (fun w' => w'.cell? ⟨gh, oh + i * 11 + 1 + 4, none⟩ = some (.slice (some ⟨gd, od, none⟩) x.data.length cd) ∧ w'.cell? ⟨gd, od + j * 4, none⟩ = some (.int .i64 vk.kind) ∧ w'.cell? ⟨gd, od + j * 4 + 1, none⟩ = some (.int .i64 vk.int) ∧ w'.cell? ⟨gd, od + j * 4 + 2, none⟩ = some (.string vk.str) ∧ w'.cell? ⟨gd, od + j * 4 + 3, none⟩ = some (.int .i64 vk.ref) ∧ w'.cell? ⟨gd, od + j1 * 4, none⟩ = some (.int .i64 vv.kind) ∧ w'.cell? ⟨gd, od + j1 * 4 + 1, none⟩ = some (.int .i64 vv.int) ∧ w'.cell? ⟨gd, od + j1 * 4 + 2, none⟩ = some (.string vv.str) ∧ w'.cell? ⟨gd, od + j1 * 4 + 3, none⟩ = some (.int .i64 vv.ref)) (by kernel_rfl) (by kernel_rfl) ?_ (fun hHeld => ?_)
                        · (first | exact HS0.out | exact HKS.out _ (Chg.refl _ _) | exact HKS.out _ (Chg.alloc _ _ _))
                        simp only [List.take_succ_cons, List.take_zero]
                        have HKS : Hid (∀ W, Chg (fun _ => False) wh.drew W → W.cell? ⟨gh, oh + i * 11 + 1 + 4, none⟩ = some (.slice (some ⟨gd, od, none⟩) x.data.length cd) ∧ W.cell? ⟨gd, od + j * 4, none⟩ = some (.int .i64 vk.kind) ∧ W.cell? ⟨gd, od + j * 4 + 1, none⟩ = some (.int .i64 vk.int) ∧ W.cell? ⟨gd, od + j * 4 + 2, none⟩ = some (.string vk.str) ∧ W.cell? ⟨gd, od + j * 4 + 3, none⟩ = some (.int .i64 vk.ref) ∧ W.cell? ⟨gd, od + j1 * 4, none⟩ = some (.int .i64 vv.kind) ∧ W.cell? ⟨gd, od + j1 * 4 + 1, none⟩ = some (.int .i64 vv.int) ∧ W.cell? ⟨gd, od + j1 * 4 + 2, none⟩ = some (.string vv.str) ∧ W.cell? ⟨gd, od + j1 * 4 + 3, none⟩ = some (.int .i64 vv.ref)) := Lib.hid (fun W hc => ⟨hc.cell HS0.out.1, hc.cell HS0.out.2.1, hc.cell HS0.out.2.2.1, hc.cell HS0.out.2.2.2.1, hc.cell HS0.out.2.2.2.2.1, hc.cell HS0.out.2.2.2.2.2.1, hc.cell HS0.out.2.2.2.2.2.2.1, hc.cell HS0.out.2.2.2.2.2.2.2.1, hc.cell HS0.out.2.2.2.2.2.2.2.2⟩)
                        have HVD := Lib.hid (HVH.out.still (Chg.refl _ wh).drewR)
                        generalize wh.drew = wD at *
                        refine wpAnyH_take (i := 0) (v := ?_) rfl (by kernel_rfl) (by kernel_rfl) (by kernel_rfl) (fun _ _ _ h => h) (Or.inl ⟨by rfl, ?_⟩) (by assumption) ?_
                        rotate_left
                        · (intro wq hSw; (try dsimp only at hSw); go_simp; (try with_reducible rfl))
                        simp only [Act.put, List.getElem_toArray, List.getElem_cons_zero, List.getElem_cons_succ, List.setIfInBounds_toArray, List.set_cons_zero, List.set_cons_succ]
                        refine wpAnyH_take (i := 1) (v := ?_) rfl (by kernel_rfl) (by kernel_rfl) (by kernel_rfl) (fun _ _ _ h => h) (Or.inl ⟨by rfl, ?_⟩) (by assumption) ?_
                        rotate_left
                        · (intro wq hSw; (try dsimp only at hSw); go_simp; (try with_reducible rfl))
                        simp only [Act.put, List.getElem_toArray, List.getElem_cons_zero, List.getElem_cons_succ, List.setIfInBounds_toArray, List.set_cons_zero, List.set_cons_succ]
                        refine wpAnyH_take (i := 2) (v := ?_) rfl (by kernel_rfl) (by kernel_rfl) (by kernel_rfl) (fun _ _ _ h => h) (Or.inl ⟨by rfl, ?_⟩) (by assumption) ?_
                        rotate_left
                        · (intro wq hSw; (try dsimp only at hSw); go_simp; (try with_reducible rfl))
                        simp only [Act.put, List.getElem_toArray, List.getElem_cons_zero, List.getElem_cons_succ, List.setIfInBounds_toArray, List.set_cons_zero, List.set_cons_succ]
                        refine wpAnyH_take (i := 3) (v := ?_) rfl (by kernel_rfl) (by kernel_rfl) (by kernel_rfl) (fun _ _ _ h => h) (Or.inl ⟨by rfl, ?_⟩) (by assumption) ?_
                        rotate_left
                        · (intro wq hSw; (try dsimp only at hSw); go_simp; (try with_reducible rfl))
                        simp only [Act.put, List.getElem_toArray, List.getElem_cons_zero, List.getElem_cons_succ, List.setIfInBounds_toArray, List.set_cons_zero, List.set_cons_succ]
                        refine wpAnyH_take (i := 4) (v := ?_) rfl (by kernel_rfl) (by kernel_rfl) (by kernel_rfl) (fun _ _ _ h => h) (Or.inl ⟨by rfl, ?_⟩) (by assumption) ?_
                        rotate_left
                        · (intro wq hSw; (try dsimp only at hSw); go_simp; (try with_reducible rfl))
                        simp only [Act.put, List.getElem_toArray, List.getElem_cons_zero, List.getElem_cons_succ, List.setIfInBounds_toArray, List.set_cons_zero, List.set_cons_succ]
                        refine wpAnyH_take (i := 5) (v := ?_) rfl (by kernel_rfl) (by kernel_rfl) (by kernel_rfl) (fun _ _ _ h => h) (Or.inl ⟨by rfl, ?_⟩) (by assumption) ?_
                        rotate_left
                        · (intro wq hSw; (try dsimp only at hSw); go_simp; (try with_reducible rfl))
                        simp only [Act.put, List.getElem_toArray, List.getElem_cons_zero, List.getElem_cons_succ, List.setIfInBounds_toArray, List.set_cons_zero, List.set_cons_succ]
                        refine wpAnyH_take (i := 6) (v := ?_) rfl (by kernel_rfl) (by kernel_rfl) (by kernel_rfl) (fun _ _ _ h => h) (Or.inl ⟨by rfl, ?_⟩) (by assumption) ?_
                        rotate_left
                        · (intro wq hSw; (try dsimp only at hSw); go_simp; (try with_reducible rfl))
                        simp only [Act.put, List.getElem_toArray, List.getElem_cons_zero, List.getElem_cons_succ, List.setIfInBounds_toArray, List.set_cons_zero, List.set_cons_succ]
                        refine wpAnyH_take (i := 7) (v := ?_) rfl (by kernel_rfl) (by kernel_rfl) (by kernel_rfl) (fun _ _ _ h => h) (Or.inl ⟨by rfl, ?_⟩) (by assumption) ?_
                        rotate_left
                        · (intro wq hSw; (try dsimp only at hSw); go_simp; (try with_reducible rfl))
                        simp only [Act.put, List.getElem_toArray, List.getElem_cons_zero, List.getElem_cons_succ, List.setIfInBounds_toArray, List.set_cons_zero, List.set_cons_succ]
                        refine wpAnyH_take (i := 8) (v := ?_) rfl (by kernel_rfl) (by kernel_rfl) (by kernel_rfl) (fun _ _ _ h => h) (Or.inl ⟨by rfl, ?_⟩) (by assumption) ?_
                        rotate_left
                        · (intro wq hSw; (try dsimp only at hSw); go_simp; (try with_reducible rfl))
                        simp only [Act.put, List.getElem_toArray, List.getElem_cons_zero, List.getElem_cons_succ, List.setIfInBounds_toArray, List.set_cons_zero, List.set_cons_succ]
                        refine wpAnyH_take (i := 9) (v := ?_) rfl (by kernel_rfl) (by kernel_rfl) (by kernel_rfl) (fun _ _ _ h => h) (Or.inl ⟨by rfl, ?_⟩) (by assumption) ?_
                        rotate_left
                        · (intro wq hSw; (try dsimp only at hSw); go_simp; (try with_reducible rfl))
                        simp only [Act.put, List.getElem_toArray, List.getElem_cons_zero, List.getElem_cons_succ, List.setIfInBounds_toArray, List.set_cons_zero, List.set_cons_succ]
                        refine wpAnyH_take (i := 10) (v := ?_) rfl (by kernel_rfl) (by kernel_rfl) (by kernel_rfl) (fun _ _ _ h => h) (Or.inl ⟨by rfl, ?_⟩) (by assumption) ?_
                        rotate_left
                        · (intro wq hSw; (try dsimp only at hSw); go_simp; (try with_reducible rfl))
                        simp only [Act.put, List.getElem_toArray, List.getElem_cons_zero, List.getElem_cons_succ, List.setIfInBounds_toArray, List.set_cons_zero, List.set_cons_succ]
                        refine wpAnyH_take (i := 11) (v := ?_) rfl (by kernel_rfl) (by kernel_rfl) (by kernel_rfl) (fun _ _ _ h => h) (Or.inl ⟨by rfl, ?_⟩) (by assumption) ?_
                        rotate_left
                        · (intro wq hSw; (try dsimp only at hSw); go_simp; (try with_reducible rfl))
                        simp only [Act.put, List.getElem_toArray, List.getElem_cons_zero, List.getElem_cons_succ, List.setIfInBounds_toArray, List.set_cons_zero, List.set_cons_succ]
                        refine wpAnyH_take (i := 12) (v := ?_) rfl (by kernel_rfl) (by kernel_rfl) (by kernel_rfl) (fun _ _ _ h => h) (Or.inl ⟨by rfl, ?_⟩) (by assumption) ?_
                        rotate_left
                        · (intro wq hSw; (try dsimp only at hSw); go_simp; (try with_reducible rfl))
                        simp only [Act.put, List.getElem_toArray, List.getElem_cons_zero, List.getElem_cons_succ, List.setIfInBounds_toArray, List.set_cons_zero, List.set_cons_succ]
                        refine wpAnyH_take (i := 13) (v := ?_) rfl (by kernel_rfl) (by kernel_rfl) (by kernel_rfl) (fun _ _ _ h => h) (Or.inl ⟨by rfl, ?_⟩) (by assumption) ?_
                        rotate_left
                        · (intro wq hSw; (try dsimp only at hSw); go_simp; (try with_reducible rfl))
                        simp only [Act.put, List.getElem_toArray, List.getElem_cons_zero, List.getElem_cons_succ, List.setIfInBounds_toArray, List.set_cons_zero, List.set_cons_succ]
                        refine wpAnyH_take (i := 14) (v := ?_) rfl (by kernel_rfl) (by kernel_rfl) (by kernel_rfl) (fun _ _ _ h => h) (Or.inl ⟨by rfl, ?_⟩) (by assumption) ?_
                        rotate_left
                        · (intro wq hSw; (try dsimp only at hSw); go_simp; (try with_reducible rfl))
                        simp only [Act.put, List.getElem_toArray, List.getElem_cons_zero, List.getElem_cons_succ, List.setIfInBounds_toArray, List.set_cons_zero, List.set_cons_succ]
                        refine wpAnyH_take (i := 15) (v := ?_) rfl (by kernel_rfl) (by kernel_rfl) (by kernel_rfl) (fun _ _ _ h => h) (Or.inl ⟨by rfl, ?_⟩) (by assumption) ?_
                        rotate_left
                        · (intro wq hSw; (try dsimp only at hSw); go_simp; (try with_reducible rfl))
                        simp only [Act.put, List.getElem_toArray, List.getElem_cons_zero, List.getElem_cons_succ, List.setIfInBounds_toArray, List.set_cons_zero, List.set_cons_succ]
                        refine wpAnyH_ready (rs := [16]) (by kernel_rfl) (by simp) ?_
                        refine AllReadyH.cons (by simp only [List.getElem?_toArray, List.getElem?_cons_succ, List.getElem?_cons_zero]; rfl) (fun K hK => ?_) AllReadyH.nil
                        go_simp
                        refine hK.out _ _ ?_ (fun hHeld => ?_)
                        · (first | exact HS0.out | exact HKS.out _ (Chg.refl _ _) | exact HKS.out _ (Chg.alloc _ _ _))
                        clear hK K
                        (try simp only [Act.put, List.getElem_toArray, List.getElem_cons_zero, List.getElem_cons_succ, List.setIfInBounds_toArray, List.set_cons_zero, List.set_cons_succ])
                        refine wpAnyH_done (by kernel_rfl) ?_ _
                        change wpList _ _ _ _ _ _
                        simp only [List.drop_succ_cons, List.drop_zero]
                        go_wp2_with (at_builtin; refine list_append_rows (by rfl) _ _ _ (by rfl) 63 4 40 Try.underlying66 elem_val (by decide) _ RQ.length (RQ.flatMap Val.cells) (by rfl) (HVD.out.row.alloc (.cells #[.int .i64 vk.kind, .int .i64 vk.int, .string vk.str, .int .i64 vk.ref, .int .i64 vv.kind, .int .i64 vv.int, .string vv.str, .int .i64 vv.ref] 63)) _ 2 [.int .i64 vk.kind, .int .i64 vk.int, .string vk.str, .int .i64 vk.ref, .int .i64 vv.kind, .int .i64 vv.int, .string vv.str, .int .i64 vv.ref] (by rfl) (RowAt.lit [.int .i64 vk.kind, .int .i64 vk.int, .string vk.str, .int .i64 vk.ref, .int .i64 vv.kind, .int .i64 vv.int, .string vv.str, .int .i64 vv.ref] rfl (by simp [maxLen])) (by intro u hu; simp at hu; rcases hu with rfl | rfl | rfl | rfl | rfl | rfl | rfl | rfl <;> rfl) (by have := HRL2.out; unfold maxLen; omega) (by have := HRL2.out; omega) ?_; intro a9 n9 c9 w9 hrow9 hchg9 hold9)
                        have HVN : Hid (VOut wa w9 (.slice a9 n9 c9) (RQ ++ [vk, vv])) := Lib.hid ⟨by rw [List.length_append, List.flatMap_append]; exact hrow9, fun k hk => (by
                          rcases hold9 k hk with x | x
                          · exact HVD.out.lo k x
                          · have := HVD.out.chg.size; rw [World.size_alloc] at x; omega), (HVD.out.chg.allocR (.cells #[.int .i64 vk.kind, .int .i64 vk.int, .string vk.str, .int .i64 vk.ref, .int .i64 vv.kind, .int .i64 vv.int, .string vv.str, .int .i64 vv.ref] 63)).trans hchg9 (fun _ _ x => x) (fun k hk x => by have := HVD.out.lo k x; omega)⟩
                        go_roundw
                        case rel => exact ⟨q + 1, j + 2, a9, n9, c9, by have := HJ.out; omega, by have := HQ.out; omega, rfl, rfl, by rw [HRN.out]; exact HVN⟩
                        case measure => have := HJL.out; have := HJ1.out; simp [intOf, wj2]; omega
                  · have hq2 : q = x.data.length / 2 := by omega
                    subst hq2
                    have hjn : ¬ ((j + 1 : Nat) : Int) < (x.data.length : Int) := by omega
                    have HVE : Hid (VOut wa wy (.slice a nn c) (restM (hasK hc Lv) x.data)) := Lib.hid (by have q := HV.out; rw [pairs_all] at q; exact q)
                    have f4 := (HOBH.out.still hzy).frozen (oh + i * 11 + 1 + 4)
                    have P := HOBH.out.setRow objR_data (by show 0 < 10; decide) hzy (ofRow_flat (n := 4) (f := Val.cells) (hf := Val.len) HVE.out.row) (fun k hk => Nat.le_trans HCA.out.size (HVE.out.lo k (mem_ownL.1 hk))) (by cases a <;> simp [ownL, Value.ownBlock])
                    obtain ⟨F3, H3, S3⟩ := HPUT.out _ _ P
                    have HPN : Hid (Post hpR W1 bh 0 (weakN Lv D (Lv.take (k + 1))) Fh (wy.setCell ⟨gh, oh + i * 11 + 1 + 4, none⟩ (.slice a nn c))) := Lib.hid (by rw [HWT.out, HWP.out]; exact ⟨F3, H3, HSI.out.trans S3⟩)
                    clear P H3 S3 hlt2 hq HV hzy hj
                    go_wp2_with fail
                    go_roundw
                    case rel => exact ⟨k + 1, HNX.out, rfl, HPN⟩
                    case measure => have := HLT.out; simp [intOf, w64]; omega
              · have z5 : (x.kind != 5) = true := by simp [hk5]
                have hwd := HWD.out
                rw [if_neg hk5] at hwd
                have HPN : Hid (Post hpR W1 bh 0 (weakN Lv D (Lv.take (k + 1))) Fh wa) := Lib.hid (by rw [HWT.out, hwd]; exact ⟨Fi, HI.out.still HCA.out, HSI.out.trans (Step.ofChg HCA.out)⟩)
                clear hk5 hwd HWD
                go_wp2_with fail
                go_roundw
                case rel => exact ⟨k + 1, HNX.out, rfl, HPN⟩
                case measure => have := HLT.out; simp [intOf, w64]; omega
            · have hk2 : k = Lv.length := by omega
              subst hk2
              have HPE : Hid (Post hpR W1 bh 0 (sweepM hp Lv) Fh wz) := Lib.hid (by
                have q := HP.out
                rw [List.take_length] at q
                unfold sweepM
                rw [HN.out, HD.out]; exact q)
              clear hlt hk
              go_wp2_with fail
              go_ret
              rw [HN.out]
              exact ⟨rfl, Post.pre HCW.out HPE.out⟩
end Go.Proofs.Ythiiehanlconeaa
namespace Go.Proofs.Ythiiehanlconeaa
open Go.RowKit
set_option linter.unusedVariables false
set_option linter.unusedSimpArgs false

theorem chg_put {W W' : World} {b k : Nat} {v : Value} (h : Chg (fun j => j = b) W W') : Chg (fun j => j = b) W (W'.setCell ⟨b, k, none⟩ v) := h.trans' (show Chg (fun j => j = b) W' (W'.setCell ⟨b, k, none⟩ v) from Chg.setCell W' ⟨b, k, none⟩ v)
theorem results_cell_row_tmp {fn : Func} {p u : Tmp} {ty : TypeId} {P : Program} (h : fn.results = #[.cell p ty, .tmp u]) (tmps : Array Value) (w : World) (g : Nat) (cs : Array Value)
    (hp : tmps.getD p undef = .pointer (some ⟨g, 0, none⟩)) (hl : (loadVar ty ⟨g, 0, none⟩).run P w = .ok (.agg cs) w) :
    (results fn tmps).run P w = .ok (.tuple #[.agg cs, tmps.getD u undef]) w := by
  have hp' : tmps[p]?.getD undef = .pointer (some ⟨g, 0, none⟩) := by simpa using hp
  rw [results_cell_tmp h]
  simp [hp', asAddr, hl, Result.andThen]
/-- Ten cells of a block stored one after the other. -/
theorem store10 {w : World} {g T : Nat} {u0 u1 u2 u3 u4 u5 u6 u7 u8 u9 : Value} (b0 : w.heap[g]? = some (.cells #[u0, u1, u2, u3, u4, u5, u6, u7, u8, u9] T (0, 0))) (v0 v1 v2 v3 v4 v5 v6 v7 v8 v9 : Value) :
    w.cell? ⟨g, 0, none⟩ = some u0 ∧ w.frozen? ⟨g, 0, none⟩ = false ∧
    (w.setCell ⟨g, 0, none⟩ v0).cell? ⟨g, 1, none⟩ = some u1 ∧ (w.setCell ⟨g, 0, none⟩ v0).frozen? ⟨g, 1, none⟩ = false ∧
    ((w.setCell ⟨g, 0, none⟩ v0).setCell ⟨g, 1, none⟩ v1).cell? ⟨g, 2, none⟩ = some u2 ∧ ((w.setCell ⟨g, 0, none⟩ v0).setCell ⟨g, 1, none⟩ v1).frozen? ⟨g, 2, none⟩ = false ∧
    (((w.setCell ⟨g, 0, none⟩ v0).setCell ⟨g, 1, none⟩ v1).setCell ⟨g, 2, none⟩ v2).cell? ⟨g, 3, none⟩ = some u3 ∧ (((w.setCell ⟨g, 0, none⟩ v0).setCell ⟨g, 1, none⟩ v1).setCell ⟨g, 2, none⟩ v2).frozen? ⟨g, 3, none⟩ = false ∧
    ((((w.setCell ⟨g, 0, none⟩ v0).setCell ⟨g, 1, none⟩ v1).setCell ⟨g, 2, none⟩ v2).setCell ⟨g, 3, none⟩ v3).cell? ⟨g, 4, none⟩ = some u4 ∧ ((((w.setCell ⟨g, 0, none⟩ v0).setCell ⟨g, 1, none⟩ v1).setCell ⟨g, 2, none⟩ v2).setCell ⟨g, 3, none⟩ v3).frozen? ⟨g, 4, none⟩ = false ∧
    (((((w.setCell ⟨g, 0, none⟩ v0).setCell ⟨g, 1, none⟩ v1).setCell ⟨g, 2, none⟩ v2).setCell ⟨g, 3, none⟩ v3).setCell ⟨g, 4, none⟩ v4).cell? ⟨g, 5, none⟩ = some u5 ∧ (((((w.setCell ⟨g, 0, none⟩ v0).setCell ⟨g, 1, none⟩ v1).setCell ⟨g, 2, none⟩ v2).setCell ⟨g, 3, none⟩ v3).setCell ⟨g, 4, none⟩ v4).frozen? ⟨g, 5, none⟩ = false ∧
    ((((((w.setCell ⟨g, 0, none⟩ v0).setCell ⟨g, 1, none⟩ v1).setCell ⟨g, 2, none⟩ v2).setCell ⟨g, 3, none⟩ v3).setCell ⟨g, 4, none⟩ v4).setCell ⟨g, 5, none⟩ v5).cell? ⟨g, 6, none⟩ = some u6 ∧ ((((((w.setCell ⟨g, 0, none⟩ v0).setCell ⟨g, 1, none⟩ v1).setCell ⟨g, 2, none⟩ v2).setCell ⟨g, 3, none⟩ v3).setCell ⟨g, 4, none⟩ v4).setCell ⟨g, 5, none⟩ v5).frozen? ⟨g, 6, none⟩ = false ∧
    (((((((w.setCell ⟨g, 0, none⟩ v0).setCell ⟨g, 1, none⟩ v1).setCell ⟨g, 2, none⟩ v2).setCell ⟨g, 3, none⟩ v3).setCell ⟨g, 4, none⟩ v4).setCell ⟨g, 5, none⟩ v5).setCell ⟨g, 6, none⟩ v6).cell? ⟨g, 7, none⟩ = some u7 ∧ (((((((w.setCell ⟨g, 0, none⟩ v0).setCell ⟨g, 1, none⟩ v1).setCell ⟨g, 2, none⟩ v2).setCell ⟨g, 3, none⟩ v3).setCell ⟨g, 4, none⟩ v4).setCell ⟨g, 5, none⟩ v5).setCell ⟨g, 6, none⟩ v6).frozen? ⟨g, 7, none⟩ = false ∧
    ((((((((w.setCell ⟨g, 0, none⟩ v0).setCell ⟨g, 1, none⟩ v1).setCell ⟨g, 2, none⟩ v2).setCell ⟨g, 3, none⟩ v3).setCell ⟨g, 4, none⟩ v4).setCell ⟨g, 5, none⟩ v5).setCell ⟨g, 6, none⟩ v6).setCell ⟨g, 7, none⟩ v7).cell? ⟨g, 8, none⟩ = some u8 ∧ ((((((((w.setCell ⟨g, 0, none⟩ v0).setCell ⟨g, 1, none⟩ v1).setCell ⟨g, 2, none⟩ v2).setCell ⟨g, 3, none⟩ v3).setCell ⟨g, 4, none⟩ v4).setCell ⟨g, 5, none⟩ v5).setCell ⟨g, 6, none⟩ v6).setCell ⟨g, 7, none⟩ v7).frozen? ⟨g, 8, none⟩ = false ∧
    (((((((((w.setCell ⟨g, 0, none⟩ v0).setCell ⟨g, 1, none⟩ v1).setCell ⟨g, 2, none⟩ v2).setCell ⟨g, 3, none⟩ v3).setCell ⟨g, 4, none⟩ v4).setCell ⟨g, 5, none⟩ v5).setCell ⟨g, 6, none⟩ v6).setCell ⟨g, 7, none⟩ v7).setCell ⟨g, 8, none⟩ v8).cell? ⟨g, 9, none⟩ = some u9 ∧ (((((((((w.setCell ⟨g, 0, none⟩ v0).setCell ⟨g, 1, none⟩ v1).setCell ⟨g, 2, none⟩ v2).setCell ⟨g, 3, none⟩ v3).setCell ⟨g, 4, none⟩ v4).setCell ⟨g, 5, none⟩ v5).setCell ⟨g, 6, none⟩ v6).setCell ⟨g, 7, none⟩ v7).setCell ⟨g, 8, none⟩ v8).frozen? ⟨g, 9, none⟩ = false ∧
    ((((((((((w.setCell ⟨g, 0, none⟩ v0).setCell ⟨g, 1, none⟩ v1).setCell ⟨g, 2, none⟩ v2).setCell ⟨g, 3, none⟩ v3).setCell ⟨g, 4, none⟩ v4).setCell ⟨g, 5, none⟩ v5).setCell ⟨g, 6, none⟩ v6).setCell ⟨g, 7, none⟩ v7).setCell ⟨g, 8, none⟩ v8).setCell ⟨g, 9, none⟩ v9).heap[g]? = some (.cells #[v0, v1, v2, v3, v4, v5, v6, v7, v8, v9] T (0, 0)) ∧ Chg (fun k => k = g) w ((((((((((w.setCell ⟨g, 0, none⟩ v0).setCell ⟨g, 1, none⟩ v1).setCell ⟨g, 2, none⟩ v2).setCell ⟨g, 3, none⟩ v3).setCell ⟨g, 4, none⟩ v4).setCell ⟨g, 5, none⟩ v5).setCell ⟨g, 6, none⟩ v6).setCell ⟨g, 7, none⟩ v7).setCell ⟨g, 8, none⟩ v8).setCell ⟨g, 9, none⟩ v9) := by
  have c0 : w.cell? ⟨g, 0, none⟩ = some u0 := cell_of_block b0 rfl
  have f0 : w.frozen? ⟨g, 0, none⟩ = false := frozen_of_block b0
  have b1 : (w.setCell ⟨g, 0, none⟩ v0).heap[g]? = some (.cells #[v0, u1, u2, u3, u4, u5, u6, u7, u8, u9] T (0, 0)) := setCell_block (i := 0) v0 b0
  have c1 : (w.setCell ⟨g, 0, none⟩ v0).cell? ⟨g, 1, none⟩ = some u1 := cell_of_block b1 rfl
  have f1 : (w.setCell ⟨g, 0, none⟩ v0).frozen? ⟨g, 1, none⟩ = false := frozen_of_block b1
  have b2 : ((w.setCell ⟨g, 0, none⟩ v0).setCell ⟨g, 1, none⟩ v1).heap[g]? = some (.cells #[v0, v1, u2, u3, u4, u5, u6, u7, u8, u9] T (0, 0)) := setCell_block (i := 1) v1 b1
  have c2 : ((w.setCell ⟨g, 0, none⟩ v0).setCell ⟨g, 1, none⟩ v1).cell? ⟨g, 2, none⟩ = some u2 := cell_of_block b2 rfl
  have f2 : ((w.setCell ⟨g, 0, none⟩ v0).setCell ⟨g, 1, none⟩ v1).frozen? ⟨g, 2, none⟩ = false := frozen_of_block b2
  have b3 : (((w.setCell ⟨g, 0, none⟩ v0).setCell ⟨g, 1, none⟩ v1).setCell ⟨g, 2, none⟩ v2).heap[g]? = some (.cells #[v0, v1, v2, u3, u4, u5, u6, u7, u8, u9] T (0, 0)) := setCell_block (i := 2) v2 b2
  have c3 : (((w.setCell ⟨g, 0, none⟩ v0).setCell ⟨g, 1, none⟩ v1).setCell ⟨g, 2, none⟩ v2).cell? ⟨g, 3, none⟩ = some u3 := cell_of_block b3 rfl
  have f3 : (((w.setCell ⟨g, 0, none⟩ v0).setCell ⟨g, 1, none⟩ v1).setCell ⟨g, 2, none⟩ v2).frozen? ⟨g, 3, none⟩ = false := frozen_of_block b3
  have b4 : ((((w.setCell ⟨g, 0, none⟩ v0).setCell ⟨g, 1, none⟩ v1).setCell ⟨g, 2, none⟩ v2).setCell ⟨g, 3, none⟩ v3).heap[g]? = some (.cells #[v0, v1, v2, v3, u4, u5, u6, u7, u8, u9] T (0, 0)) := setCell_block (i := 3) v3 b3
  have c4 : ((((w.setCell ⟨g, 0, none⟩ v0).setCell ⟨g, 1, none⟩ v1).setCell ⟨g, 2, none⟩ v2).setCell ⟨g, 3, none⟩ v3).cell? ⟨g, 4, none⟩ = some u4 := cell_of_block b4 rfl
  have f4 : ((((w.setCell ⟨g, 0, none⟩ v0).setCell ⟨g, 1, none⟩ v1).setCell ⟨g, 2, none⟩ v2).setCell ⟨g, 3, none⟩ v3).frozen? ⟨g, 4, none⟩ = false := frozen_of_block b4
  have b5 : (((((w.setCell ⟨g, 0, none⟩ v0).setCell ⟨g, 1, none⟩ v1).setCell ⟨g, 2, none⟩ v2).setCell ⟨g, 3, none⟩ v3).setCell ⟨g, 4, none⟩ v4).heap[g]? = some (.cells #[v0, v1, v2, v3, v4, u5, u6, u7, u8, u9] T (0, 0)) := setCell_block (i := 4) v4 b4
  have c5 : (((((w.setCell ⟨g, 0, none⟩ v0).setCell ⟨g, 1, none⟩ v1).setCell ⟨g, 2, none⟩ v2).setCell ⟨g, 3, none⟩ v3).setCell ⟨g, 4, none⟩ v4).cell? ⟨g, 5, none⟩ = some u5 := cell_of_block b5 rfl
  have f5 : (((((w.setCell ⟨g, 0, none⟩ v0).setCell ⟨g, 1, none⟩ v1).setCell ⟨g, 2, none⟩ v2).setCell ⟨g, 3, none⟩ v3).setCell ⟨g, 4, none⟩ v4).frozen? ⟨g, 5, none⟩ = false := frozen_of_block b5
  have b6 : ((((((w.setCell ⟨g, 0, none⟩ v0).setCell ⟨g, 1, none⟩ v1).setCell ⟨g, 2, none⟩ v2).setCell ⟨g, 3, none⟩ v3).setCell ⟨g, 4, none⟩ v4).setCell ⟨g, 5, none⟩ v5).heap[g]? = some (.cells #[v0, v1, v2, v3, v4, v5, u6, u7, u8, u9] T (0, 0)) := setCell_block (i := 5) v5 b5
  have c6 : ((((((w.setCell ⟨g, 0, none⟩ v0).setCell ⟨g, 1, none⟩ v1).setCell ⟨g, 2, none⟩ v2).setCell ⟨g, 3, none⟩ v3).setCell ⟨g, 4, none⟩ v4).setCell ⟨g, 5, none⟩ v5).cell? ⟨g, 6, none⟩ = some u6 := cell_of_block b6 rfl
  have f6 : ((((((w.setCell ⟨g, 0, none⟩ v0).setCell ⟨g, 1, none⟩ v1).setCell ⟨g, 2, none⟩ v2).setCell ⟨g, 3, none⟩ v3).setCell ⟨g, 4, none⟩ v4).setCell ⟨g, 5, none⟩ v5).frozen? ⟨g, 6, none⟩ = false := frozen_of_block b6
  have b7 : (((((((w.setCell ⟨g, 0, none⟩ v0).setCell ⟨g, 1, none⟩ v1).setCell ⟨g, 2, none⟩ v2).setCell ⟨g, 3, none⟩ v3).setCell ⟨g, 4, none⟩ v4).setCell ⟨g, 5, none⟩ v5).setCell ⟨g, 6, none⟩ v6).heap[g]? = some (.cells #[v0, v1, v2, v3, v4, v5, v6, u7, u8, u9] T (0, 0)) := setCell_block (i := 6) v6 b6
  have c7 : (((((((w.setCell ⟨g, 0, none⟩ v0).setCell ⟨g, 1, none⟩ v1).setCell ⟨g, 2, none⟩ v2).setCell ⟨g, 3, none⟩ v3).setCell ⟨g, 4, none⟩ v4).setCell ⟨g, 5, none⟩ v5).setCell ⟨g, 6, none⟩ v6).cell? ⟨g, 7, none⟩ = some u7 := cell_of_block b7 rfl
  have f7 : (((((((w.setCell ⟨g, 0, none⟩ v0).setCell ⟨g, 1, none⟩ v1).setCell ⟨g, 2, none⟩ v2).setCell ⟨g, 3, none⟩ v3).setCell ⟨g, 4, none⟩ v4).setCell ⟨g, 5, none⟩ v5).setCell ⟨g, 6, none⟩ v6).frozen? ⟨g, 7, none⟩ = false := frozen_of_block b7
  have b8 : ((((((((w.setCell ⟨g, 0, none⟩ v0).setCell ⟨g, 1, none⟩ v1).setCell ⟨g, 2, none⟩ v2).setCell ⟨g, 3, none⟩ v3).setCell ⟨g, 4, none⟩ v4).setCell ⟨g, 5, none⟩ v5).setCell ⟨g, 6, none⟩ v6).setCell ⟨g, 7, none⟩ v7).heap[g]? = some (.cells #[v0, v1, v2, v3, v4, v5, v6, v7, u8, u9] T (0, 0)) := setCell_block (i := 7) v7 b7
  have c8 : ((((((((w.setCell ⟨g, 0, none⟩ v0).setCell ⟨g, 1, none⟩ v1).setCell ⟨g, 2, none⟩ v2).setCell ⟨g, 3, none⟩ v3).setCell ⟨g, 4, none⟩ v4).setCell ⟨g, 5, none⟩ v5).setCell ⟨g, 6, none⟩ v6).setCell ⟨g, 7, none⟩ v7).cell? ⟨g, 8, none⟩ = some u8 := cell_of_block b8 rfl
  have f8 : ((((((((w.setCell ⟨g, 0, none⟩ v0).setCell ⟨g, 1, none⟩ v1).setCell ⟨g, 2, none⟩ v2).setCell ⟨g, 3, none⟩ v3).setCell ⟨g, 4, none⟩ v4).setCell ⟨g, 5, none⟩ v5).setCell ⟨g, 6, none⟩ v6).setCell ⟨g, 7, none⟩ v7).frozen? ⟨g, 8, none⟩ = false := frozen_of_block b8
  have b9 : (((((((((w.setCell ⟨g, 0, none⟩ v0).setCell ⟨g, 1, none⟩ v1).setCell ⟨g, 2, none⟩ v2).setCell ⟨g, 3, none⟩ v3).setCell ⟨g, 4, none⟩ v4).setCell ⟨g, 5, none⟩ v5).setCell ⟨g, 6, none⟩ v6).setCell ⟨g, 7, none⟩ v7).setCell ⟨g, 8, none⟩ v8).heap[g]? = some (.cells #[v0, v1, v2, v3, v4, v5, v6, v7, v8, u9] T (0, 0)) := setCell_block (i := 8) v8 b8
  have c9 : (((((((((w.setCell ⟨g, 0, none⟩ v0).setCell ⟨g, 1, none⟩ v1).setCell ⟨g, 2, none⟩ v2).setCell ⟨g, 3, none⟩ v3).setCell ⟨g, 4, none⟩ v4).setCell ⟨g, 5, none⟩ v5).setCell ⟨g, 6, none⟩ v6).setCell ⟨g, 7, none⟩ v7).setCell ⟨g, 8, none⟩ v8).cell? ⟨g, 9, none⟩ = some u9 := cell_of_block b9 rfl
  have f9 : (((((((((w.setCell ⟨g, 0, none⟩ v0).setCell ⟨g, 1, none⟩ v1).setCell ⟨g, 2, none⟩ v2).setCell ⟨g, 3, none⟩ v3).setCell ⟨g, 4, none⟩ v4).setCell ⟨g, 5, none⟩ v5).setCell ⟨g, 6, none⟩ v6).setCell ⟨g, 7, none⟩ v7).setCell ⟨g, 8, none⟩ v8).frozen? ⟨g, 9, none⟩ = false := frozen_of_block b9
  have b10 : ((((((((((w.setCell ⟨g, 0, none⟩ v0).setCell ⟨g, 1, none⟩ v1).setCell ⟨g, 2, none⟩ v2).setCell ⟨g, 3, none⟩ v3).setCell ⟨g, 4, none⟩ v4).setCell ⟨g, 5, none⟩ v5).setCell ⟨g, 6, none⟩ v6).setCell ⟨g, 7, none⟩ v7).setCell ⟨g, 8, none⟩ v8).setCell ⟨g, 9, none⟩ v9).heap[g]? = some (.cells #[v0, v1, v2, v3, v4, v5, v6, v7, v8, v9] T (0, 0)) := setCell_block (i := 9) v9 b9
  exact ⟨c0, f0, c1, f1, c2, f2, c3, f3, c4, f4, c5, f5, c6, f6, c7, f7, c8, f8, c9, f9, b10, chg_put (chg_put (chg_put (chg_put (chg_put (chg_put (chg_put (chg_put (chg_put (chg_put (Chg.refl _ _))))))))))⟩

def getO (hp : Hp) (h : Int) : Obj := match slotOf hp h with | some i => (hp.slots.getD i noSlt).obj | none => noSlt.obj
theorem objCells {w : World} {g o : Nat} {x : Obj} {G : List Nat} (H : Here objR w g o x G) : ∃ a1 n1 c1 a2 n2 c2 a3 n3 c3 a4 n4 c4, RowAt w 63 4 (.slice a3 n3 c3) x.data.length (x.data.flatMap Val.cells) ∧ (∀ k, (Value.slice a3 n3 c3).ownBlock = some k → k ∈ G) ∧ w.cell? ⟨g, o, none⟩ = some (.int .i64 x.kind) ∧ w.cell? ⟨g, o + 1, none⟩ = some (.int .i64 x.proto) ∧ w.cell? ⟨g, o + 2, none⟩ = some (.slice a1 n1 c1) ∧ w.cell? ⟨g, o + 3, none⟩ = some (.slice a2 n2 c2) ∧ w.cell? ⟨g, o + 4, none⟩ = some (.slice a3 n3 c3) ∧ w.cell? ⟨g, o + 5, none⟩ = some (.int .i64 x.code) ∧ w.cell? ⟨g, o + 6, none⟩ = some (.int .i64 x.env) ∧ w.cell? ⟨g, o + 7, none⟩ = some (.int .i64 x.cls) ∧ w.cell? ⟨g, o + 8, none⟩ = some (.int .i64 x.ref) ∧ w.cell? ⟨g, o + 9, none⟩ = some (.slice a4 n4 c4) := by
  obtain ⟨cs, ⟨vp, ve, vd, vs, F1, F2, F3, F4, rfl, h1, h2, h3, h4, hG⟩, hc⟩ := H.cell
  obtain ⟨v3, e3, r3, eF3⟩ := row_flat.1 h3
  obtain rfl : vd = v3 := by simpa using e3
  obtain ⟨_, _, p1⟩ := Rep.opened h1
  obtain ⟨a1, c1, rfl, -, -⟩ := p1.val
  obtain ⟨_, _, p2⟩ := Rep.opened h2
  obtain ⟨a2, c2, rfl, -, -⟩ := p2.val
  obtain ⟨a3, c3, rfl, -⟩ := r3.slice
  obtain ⟨_, _, p4⟩ := Rep.opened h4
  obtain ⟨a4, c4, rfl, -, -⟩ := p4.val
  exact ⟨a1, _, c1, a2, _, c2, a3, _, c3, a4, _, c4, r3, (fun k hk => by rw [hG, eF3]; simp [mem_ownL, hk]), hc 0 _ rfl, hc 1 _ rfl, hc 2 _ rfl, hc 3 _ rfl, hc 4 _ rfl, hc 5 _ rfl, hc 6 _ rfl, hc 7 _ rfl, hc 8 _ rfl, hc 9 _ rfl⟩
set_option maxHeartbeats 3200000 in
set_option maxRecDepth 100000 in
theorem aget_any (w : World) (b : Nat) (hp : Hp) (F : List Nat) (h : Int) (H : Here hpR w b 0 hp F) (hi : -9223372036854775808 ≤ h ∧ h ≤ 9223372036854775807) :
    Calls Try.prog 41 #[.pointer (some ⟨b, 0, none⟩), .int .i64 h] w fun e w' => ∃ a1 n1 c1 a2 n2 c2 a3 n3 c3 a4 n4 c4, e = .returned (.tuple #[.agg #[.int .i64 (getO hp h).kind, .int .i64 (getO hp h).proto, .slice a1 n1 c1, .slice a2 n2 c2, .slice a3 n3 c3, .int .i64 (getO hp h).code, .int .i64 (getO hp h).env, .int .i64 (getO hp h).cls, .int .i64 (getO hp h).ref, .slice a4 n4 c4], .bool (slotOf hp h).isSome]) ∧ RowAt w 63 4 (.slice a3 n3 c3) (getO hp h).data.length ((getO hp h).data.flatMap Val.cells) ∧ (∀ k, (Value.slice a3 n3 c3).ownBlock = some k → k ∈ F) ∧ Chg (fun _ => False) w w' := by
  obtain ⟨-, -, ⟨a, ca, c2⟩, -⟩ := hpCells H
  have hb := alloc_block w (.cells #[.int .i64 0, .int .i64 0, .slice none 0 0, .slice none 0 0, .slice none 0 0, .int .i64 0, .int .i64 0, .int .i64 0, .int .i64 0, .slice none 0 0] 75)
  have hch := Chg.alloc (fun _ => False) w (.cells #[.int .i64 0, .int .i64 0, .slice none 0 0, .slice none 0 0, .slice none 0 0, .int .i64 0, .int .i64 0, .int .i64 0, .int .i64 0, .slice none 0 0] 75)
  have hf := find_any (w.alloc (.cells #[.int .i64 0, .int .i64 0, .slice none 0 0, .slice none 0 0, .slice none 0 0, .int .i64 0, .int .i64 0, .int .i64 0, .int .i64 0, .slice none 0 0] 75)) b 0 hp F h _ (H.still hch) (hch.cell c2) hi
  have HHB := Lib.hid hb
  have HCH := Lib.hid hch
  unfold getO
  cases hs : slotOf hp h with
  | none =>
    rw [hs, rowPtr_none] at hf
    have HF := Lib.hid hf
    clear hf hs H c2 hb hch hi
    go_enter Try.func41, Try.ntmps41
    go_upto_region 4 with (go_at_call 47; refine HF.out.mono ?_; rintro e wf ⟨rfl, hcf⟩)
    generalize hb4e : w.heap.size = b4 at *
    have HB4 := Lib.hid hb4e
    have hc1 := Chg.alloc (fun _ => False) wf (.cells #[.int .i64 0, .int .i64 0, .slice none 0 0, .slice none 0 0, .slice none 0 0, .int .i64 0, .int .i64 0, .int .i64 0, .int .i64 0, .slice none 0 0] 75)
    have hb4 := hc1.keep (hcf.keep HHB.out (fun x => x)) (fun x => x)
    have hb7 := alloc_block wf (.cells #[.int .i64 0, .int .i64 0, .slice none 0 0, .slice none 0 0, .slice none 0 0, .int .i64 0, .int .i64 0, .int .i64 0, .int .i64 0, .slice none 0 0] 75)
    have n0 := cell_of_block (i := 0) hb7 rfl
    have n1 := cell_of_block (i := 1) hb7 rfl
    have n2 := cell_of_block (i := 2) hb7 rfl
    have n3 := cell_of_block (i := 3) hb7 rfl
    have n4 := cell_of_block (i := 4) hb7 rfl
    have n5 := cell_of_block (i := 5) hb7 rfl
    have n6 := cell_of_block (i := 6) hb7 rfl
    have n7 := cell_of_block (i := 7) hb7 rfl
    have n8 := cell_of_block (i := 8) hb7 rfl
    have n9 := cell_of_block (i := 9) hb7 rfl
    simp only [List.getElem_toArray, List.getElem_cons_zero, List.getElem_cons_succ] at n0 n1 n2 n3 n4 n5 n6 n7 n8 n9
    obtain ⟨z0, q0, z1, q1, z2, q2, z3, q3, z4, q4, z5, q5, z6, q6, z7, q7, z8, q8, z9, q9, hbf, hcs⟩ := store10 hb4 (.int .i64 0) (.int .i64 0) (.slice none 0 0) (.slice none 0 0) (.slice none 0 0) (.int .i64 0) (.int .i64 0) (.int .i64 0) (.int .i64 0) (.slice none 0 0)
    go_wp2_with fail
    generalize (((((((((((wf.alloc (.cells #[.int .i64 0, .int .i64 0, .slice none 0 0, .slice none 0 0, .slice none 0 0, .int .i64 0, .int .i64 0, .int .i64 0, .int .i64 0, .slice none 0 0] 75)).setCell ⟨b4, 0, none⟩ (.int .i64 0)).setCell ⟨b4, 1, none⟩ (.int .i64 0)).setCell ⟨b4, 2, none⟩ (.slice none 0 0)).setCell ⟨b4, 3, none⟩ (.slice none 0 0)).setCell ⟨b4, 4, none⟩ (.slice none 0 0)).setCell ⟨b4, 5, none⟩ (.int .i64 0)).setCell ⟨b4, 6, none⟩ (.int .i64 0)).setCell ⟨b4, 7, none⟩ (.int .i64 0)).setCell ⟨b4, 8, none⟩ (.int .i64 0)).setCell ⟨b4, 9, none⟩ (.slice none 0 0)) = wz at *
    have hall : Chg (fun _ => False) w wz := ((HCH.out.trans' hcf).trans' hc1).trans hcs (fun _ _ x => x) (fun k hk e => by have := HB4.out; omega)
    refine bodyPost_ret (results_cell_row_tmp rfl _ _ b4 #[.int .i64 0, .int .i64 0, .slice none 0 0, .slice none 0 0, .slice none 0 0, .int .i64 0, .int .i64 0, .int .i64 0, .int .i64 0, .slice none 0 0] (by rfl) (run_loadVar_row _ b4 75 75 _ _ _ hbf Try.underlying75 rfl (by kernel_rfl))) rfl ?_
    exact ⟨none, 0, 0, none, 0, 0, none, 0, 0, none, 0, 0, rfl, RowAt.nil _ _ _, fun k hk => by simp [Value.ownBlock] at hk, hall⟩
  | some i =>
    obtain ⟨hlt, -, -⟩ := slotOf_lt hs
    obtain ⟨g, off, rfl, G, hsl, -, -, -, hGF, -⟩ := hpSlot H c2 hlt
    obtain ⟨G2, h2, hG2, -⟩ := hsl.field sltR_obj (by show 0 < 11; decide)
    obtain ⟨a1, n1, c1, a2, n2, cc2, a3, n3, c3, a4, n4, c4, hrow, hrb, x0, x1, x2, x3, x4, x5, x6, x7, x8, x9⟩ := objCells h2
    rw [hs, rowPtr_some] at hf
    have hgo : (hp.slots.getD i noSlt).obj = hp.slots[i].obj := by rw [List.getD_eq_getElem?_getD, List.getElem?_eq_getElem hlt]; rfl
    have HGO := Lib.hid hgo
    have HF := Lib.hid hf
    have HROW := Lib.hid hrow
    have HRB := Lib.hid (fun k hk => hGF k (hG2 k (hrb k hk)))
    clear hrb hGF hG2
    clear hf hs H c2 hb hch hi hsl h2 hrow hgo
    generalize hp.slots[i].obj = x at *
    clear hlt
    go_enter Try.func41, Try.ntmps41
    go_upto_region 3 with (go_at_call 47; refine HF.out.mono ?_; rintro e wf ⟨rfl, hcf⟩)
    have hcw := HCH.out.trans' hcf
    have hb4 := hcf.keep HHB.out (fun x => x)
    have y0 := hcw.cell x0
    have y1 := hcw.cell x1
    have y2 := hcw.cell x2
    have y3 := hcw.cell x3
    have y4 := hcw.cell x4
    have y5 := hcw.cell x5
    have y6 := hcw.cell x6
    have y7 := hcw.cell x7
    have y8 := hcw.cell x8
    have y9 := hcw.cell x9
    clear x0 x1 x2 x3 x4 x5 x6 x7 x8 x9
    generalize hb4e : w.heap.size = b4 at *
    have HB4 := Lib.hid hb4e
    obtain ⟨z0, q0, z1, q1, z2, q2, z3, q3, z4, q4, z5, q5, z6, q6, z7, q7, z8, q8, z9, q9, hbf, hcs⟩ := store10 hb4 (.int .i64 x.kind) (.int .i64 x.proto) (.slice a1 n1 c1) (.slice a2 n2 cc2) (.slice a3 n3 c3) (.int .i64 x.code) (.int .i64 x.env) (.int .i64 x.cls) (.int .i64 x.ref) (.slice a4 n4 c4)
    go_wp2_with fail
    generalize ((((((((((wf.setCell ⟨b4, 0, none⟩ (.int .i64 x.kind)).setCell ⟨b4, 1, none⟩ (.int .i64 x.proto)).setCell ⟨b4, 2, none⟩ (.slice a1 n1 c1)).setCell ⟨b4, 3, none⟩ (.slice a2 n2 cc2)).setCell ⟨b4, 4, none⟩ (.slice a3 n3 c3)).setCell ⟨b4, 5, none⟩ (.int .i64 x.code)).setCell ⟨b4, 6, none⟩ (.int .i64 x.env)).setCell ⟨b4, 7, none⟩ (.int .i64 x.cls)).setCell ⟨b4, 8, none⟩ (.int .i64 x.ref)).setCell ⟨b4, 9, none⟩ (.slice a4 n4 c4)) = wz at *
    have hall : Chg (fun _ => False) w wz := (HCH.out.trans' hcf).trans hcs (fun _ _ x => x) (fun k hk e => by have := HB4.out; omega)
    refine bodyPost_ret (results_cell_row_tmp rfl _ _ b4 #[.int .i64 x.kind, .int .i64 x.proto, .slice a1 n1 c1, .slice a2 n2 cc2, .slice a3 n3 c3, .int .i64 x.code, .int .i64 x.env, .int .i64 x.cls, .int .i64 x.ref, .slice a4 n4 c4] (by rfl) (run_loadVar_row _ b4 75 75 _ _ _ hbf Try.underlying75 rfl (by kernel_rfl))) rfl ?_
    refine ⟨a1, n1, c1, a2, n2, cc2, a3, n3, c3, a4, n4, c4, by rw [HGO.out]; rfl, by rw [HGO.out]; exact HROW.out, HRB.out, hall⟩
set_option maxHeartbeats 3200000 in
set_option maxRecDepth 100000 in
theorem hget_any (w : World) (b : Nat) (hp : Hp) (F : List Nat) (h : Int) (H : Here hpR w b 0 hp F) (hi : -9223372036854775808 ≤ h ∧ h ≤ 9223372036854775807) :
    Calls Try.prog 23 #[.pointer (some ⟨b, 0, none⟩), .int .i64 h] w fun e w' => ∃ a1 n1 c1 a2 n2 c2 a3 n3 c3 a4 n4 c4, e = .returned (.tuple #[.agg #[.int .i64 (getO hp h).kind, .int .i64 (getO hp h).proto, .slice a1 n1 c1, .slice a2 n2 c2, .slice a3 n3 c3, .int .i64 (getO hp h).code, .int .i64 (getO hp h).env, .int .i64 (getO hp h).cls, .int .i64 (getO hp h).ref, .slice a4 n4 c4], .bool (slotOf hp h).isSome]) ∧ RowAt w 63 4 (.slice a3 n3 c3) (getO hp h).data.length ((getO hp h).data.flatMap Val.cells) ∧ (∀ k, (Value.slice a3 n3 c3).ownBlock = some k → k ∈ F) ∧ Chg (fun _ => False) w w' := by
  have hb := alloc_block w (.cells #[.int .i64 0, .int .i64 0, .slice none 0 0, .slice none 0 0, .slice none 0 0, .int .i64 0, .int .i64 0, .int .i64 0, .int .i64 0, .slice none 0 0] 75)
  have hch := Chg.alloc (fun _ => False) w (.cells #[.int .i64 0, .int .i64 0, .slice none 0 0, .slice none 0 0, .slice none 0 0, .int .i64 0, .int .i64 0, .int .i64 0, .int .i64 0, .slice none 0 0] 75)
  have HHB := Lib.hid hb
  have HCH := Lib.hid hch
  have HFL := Lib.hid H.lt.2
  have HF := Lib.hid (aget_any (w.alloc (.cells #[.int .i64 0, .int .i64 0, .slice none 0 0, .slice none 0 0, .slice none 0 0, .int .i64 0, .int .i64 0, .int .i64 0, .int .i64 0, .slice none 0 0] 75)) b hp F h (H.still hch) hi)
  generalize getO hp h = x at *
  generalize (slotOf hp h).isSome = ok at *
  clear hb hch H hi
  go_enter Try.func23, Try.ntmps23
  go_wp2_with fail
  refine HF.out.mono ?_
  rintro e wf ⟨a1, n1, c1, a2, n2, cc2, a3, n3, c3, a4, n4, c4, rfl, hrow, hrb, hcf⟩
  have hb4 := hcf.keep HHB.out (fun x => x)
  generalize hb4e : w.heap.size = b4 at *
  have HB4 := Lib.hid hb4e
  have HROW := Lib.hid hrow
  have HRB := Lib.hid hrb
  clear hrb
  obtain ⟨z0, q0, z1, q1, z2, q2, z3, q3, z4, q4, z5, q5, z6, q6, z7, q7, z8, q8, z9, q9, hbf, hcs⟩ := store10 hb4 (.int .i64 x.kind) (.int .i64 x.proto) (.slice a1 n1 c1) (.slice a2 n2 cc2) (.slice a3 n3 c3) (.int .i64 x.code) (.int .i64 x.env) (.int .i64 x.cls) (.int .i64 x.ref) (.slice a4 n4 c4)
  go_wp2_with fail
  generalize ((((((((((wf.setCell ⟨b4, 0, none⟩ (.int .i64 x.kind)).setCell ⟨b4, 1, none⟩ (.int .i64 x.proto)).setCell ⟨b4, 2, none⟩ (.slice a1 n1 c1)).setCell ⟨b4, 3, none⟩ (.slice a2 n2 cc2)).setCell ⟨b4, 4, none⟩ (.slice a3 n3 c3)).setCell ⟨b4, 5, none⟩ (.int .i64 x.code)).setCell ⟨b4, 6, none⟩ (.int .i64 x.env)).setCell ⟨b4, 7, none⟩ (.int .i64 x.cls)).setCell ⟨b4, 8, none⟩ (.int .i64 x.ref)).setCell ⟨b4, 9, none⟩ (.slice a4 n4 c4)) = wz at *
  have hall : Chg (fun _ => False) w wz := (HCH.out.trans' hcf).trans hcs (fun _ _ x => x) (fun k hk e => by have := HB4.out; omega)
  refine bodyPost_ret (results_cell_row_tmp rfl _ _ b4 #[.int .i64 x.kind, .int .i64 x.proto, .slice a1 n1 c1, .slice a2 n2 cc2, .slice a3 n3 c3, .int .i64 x.code, .int .i64 x.env, .int .i64 x.cls, .int .i64 x.ref, .slice a4 n4 c4] (by rfl) (run_loadVar_row _ b4 75 75 _ _ _ hbf Try.underlying75 rfl (by kernel_rfl))) rfl ?_
  exact ⟨a1, n1, c1, a2, n2, cc2, a3, n3, c3, a4, n4, c4, rfl, HROW.out.keep (fun k o hk ho => by have hlt := HFL.out k (HRB.out k hk); have hb := HB4.out; have h2 := Array.getElem?_eq_getElem (xs := w.heap) (i := k) (by omega); rw [alloc_old _ h2] at ho; rw [h2]; exact ho), HRB.out, hall⟩
end Go.Proofs.Ythiiehanlconeaa
