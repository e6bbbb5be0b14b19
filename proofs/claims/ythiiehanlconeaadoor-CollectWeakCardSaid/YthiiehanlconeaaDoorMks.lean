/-
  Marks: which objects of a heap are in a list (collect.marks).
-/
import Derived.Test.YthiiehanlconeaaDoorArd
import Derived.Test.YthiiehanlconeaaDoorOut
import Derived.Test.YthiiehanlconeaaDoorLiv
namespace Go.Proofs.YthiiehanlconeaaDoor
open Go.RowKit
set_option linter.unusedVariables false
set_option linter.unusedSimpArgs false

structure Mk where
  h : Nat
  set : List Bool
  list : List Int
def Mk.Own (w : World) (cs : List Value) (s : Mk) (F : List Nat) : Prop :=
  ∃ v1 v2 F1 F2, cs = [.pointer (some ⟨s.h, 0, none⟩), v1, v2] ∧ (Rep.bool.row 4).own w [v1] s.set F1 ∧ ((Rep.int .i64).row 3).own w [v2] s.list F2 ∧ F = F1 ++ F2
def mkR : Rep Mk where
  n := 3
  own := Mk.Own
  len := by rintro w cs s F ⟨v1, v2, F1, F2, rfl, h1, h2, rfl⟩; rfl
  lt := by
    rintro w cs s F ⟨v1, v2, F1, F2, rfl, h1, h2, rfl⟩ k hk
    rcases List.mem_append.1 hk with x | x
    · exact (Rep.bool.row 4).lt h1 k x
    · exact ((Rep.int .i64).row 3).lt h2 k x
  keep := by
    rintro w w2 cs s F ⟨v1, v2, F1, F2, rfl, h1, h2, rfl⟩ hk
    exact ⟨v1, v2, F1, F2, rfl, (Rep.bool.row 4).keep h1 (fun k hm => hk k (List.mem_append_left _ hm)), ((Rep.int .i64).row 3).keep h2 (fun k hm => hk k (List.mem_append_right _ hm)), rfl⟩
theorem mkR_set : FieldOf mkR (Rep.bool.row 4) 1 (·.set) (fun s y => { s with set := y }) := by
  refine ⟨by show 1 + 1 ≤ 3; omega, ?_⟩
  rintro w cs s F ⟨v1, v2, F1, F2, rfl, h1, h2, rfl⟩
  refine ⟨[], F1, F2, by simp, h1, fun w2 ys y G hk hy => ?_⟩
  obtain ⟨y0, rfl⟩ : ∃ y0, ys = [y0] := List.length_eq_one_iff.1 ((Rep.bool.row 4).len hy)
  exact ⟨y0, v2, G, F2, rfl, hy, ((Rep.int .i64).row 3).keep h2 (fun k hm => hk k (by simp [hm])), by simp⟩
theorem mkR_list : FieldOf mkR ((Rep.int .i64).row 3) 2 (·.list) (fun s y => { s with list := y }) := by
  refine ⟨by show 2 + 1 ≤ 3; omega, ?_⟩
  rintro w cs s F ⟨v1, v2, F1, F2, rfl, h1, h2, rfl⟩
  refine ⟨F1, F2, [], by simp, h2, fun w2 ys y G hk hy => ?_⟩
  obtain ⟨y0, rfl⟩ : ∃ y0, ys = [y0] := List.length_eq_one_iff.1 (((Rep.int .i64).row 3).len hy)
  exact ⟨v1, y0, F1, G, rfl, (Rep.bool.row 4).keep h1 (fun k hm => hk k (by simp [hm])), hy, by simp⟩

theorem handle_of_index {b s h : Int} {i : Nat} (e : indexM b s h = (i : Int)) : handleM b s i = h ∧ (i : Int) ≤ 2147483647 := by
  unfold indexM at e
  split at e
  · omega
  · rename_i hc
    have h1 : ¬ h < normB b := fun x => hc (.inl x)
    have h2 : (h - normB b) % normB s = 0 := by
      by_cases x : (h - normB b) % normB s = 0
      · exact x
      · exact absurd (.inr (.inl x)) hc
    have h3 : ¬ 2147483647 < (h - normB b) / normB s := fun x => hc (.inr (.inr x))
    unfold handleM
    rw [if_neg (by omega)]
    have := Int.mul_ediv_add_emod (h - normB b) (normB s)
    rw [e, h2] at this
    exact ⟨by omega, by omega⟩
theorem index_of_handle (b s : Int) {i : Nat} (hi : (i : Int) ≤ 2147483647) : indexM b s (handleM b s i) = (i : Int) := by
  obtain ⟨n1, n2⟩ := normB_in b
  obtain ⟨n3, n4⟩ := normB_in s
  have hh : handleM b s i = normB b + normB s * (i : Int) := by unfold handleM; rw [if_neg (by omega)]
  rw [hh]
  unfold indexM
  have e : normB b + normB s * (i : Int) - normB b = normB s * i := by omega
  have p : 0 ≤ normB s * (i : Int) := Int.mul_nonneg (by omega) (by omega)
  rw [e, Int.mul_emod_right, Int.mul_ediv_cancel_left _ (by omega), if_neg (by omega)]
theorem handle_in (b s : Int) {i : Nat} (hi : (i : Int) ≤ 2147483647) : 1 ≤ handleM b s i ∧ handleM b s i ≤ 9223372036854775807 := by
  obtain ⟨n1, n2⟩ := normB_in b
  obtain ⟨n3, n4⟩ := normB_in s
  have p : 0 ≤ normB s * (i : Int) := Int.mul_nonneg (by omega) (by omega)
  have p1 : normB s * (i : Int) ≤ 1000 * 2147483647 := Int.mul_le_mul n4 (by omega) (by omega) (by omega)
  unfold handleM
  rw [if_neg (by omega)]
  omega

/-- The marks of the slots K, in this order. -/
def mkOf (bh : Nat) (hp : Hp) (K : List Nat) : Mk := ⟨bh, (List.range hp.slots.length).map fun i => decide (i ∈ K), K.map fun i => handleM hp.base hp.stride (i : Nat)⟩
theorem mkOf_push {bh : Nat} {hp : Hp} {K : List Nat} {i : Nat} : { ({ mkOf bh hp K with set := (mkOf bh hp K).set.set i true } : Mk) with list := (mkOf bh hp K).list ++ [handleM hp.base hp.stride (i : Nat)] } = mkOf bh hp (K ++ [i]) := by
  unfold mkOf
  simp only [List.map_append, List.map_cons, List.map_nil, Mk.mk.injEq, true_and, and_true]
  refine List.ext_getElem (by simp) fun j h1 h2 => ?_
  simp only [List.getElem_set, List.getElem_map, List.getElem_range, List.mem_append, List.mem_singleton]
  by_cases e : i = j
  · subst e; simp
  · rw [if_neg e]
    have : ¬ j = i := fun x => e x.symm
    simp [this]
/-- Different slots of the heap that are used. -/
structure KOk (hp : Hp) (K : List Nat) : Prop where
  good : Good hp.slots.length K
  used : ∀ s ∈ K, (hp.slots.getD s noSlt).used = true
theorem KOk.nil (hp : Hp) : KOk hp [] := ⟨Good.nil _, fun _ h => by cases h⟩
theorem KOk.add {hp : Hp} {K : List Nat} {i : Nat} (h : KOk hp K) (hi : i < hp.slots.length) (hu : hp.slots[i].used = true) : KOk hp (addN K i) := by
  refine ⟨h.good.add hi, fun s hs => ?_⟩
  unfold addN at hs
  split at hs
  · exact h.used s hs
  · rcases List.mem_append.1 hs with x | x
    · exact h.used s x
    · rw [List.mem_singleton.1 x, List.getD_eq_getElem?_getD, List.getElem?_eq_getElem hi]; exact hu
/-- The marks of the slots K in memory, made behind w0. -/
structure MkI (w0 w : World) (bm bh : Nat) (hp : Hp) (K : List Nat) : Prop where
  own : ∃ F, Own mkR w0 w bm 0 (mkOf bh hp K) F
  good : KOk hp K
section
variable {w0 w w' : World} {bm bh : Nat} {hp : Hp} {K : List Nat} {F : List Nat}
theorem MkI.still (h : MkI w0 w bm bh hp K) (hc : Chg (fun _ => False) w w') : MkI w0 w' bm bh hp K := by
  obtain ⟨F, ho⟩ := h.own
  exact ⟨⟨F, ho.still hc⟩, h.good⟩
theorem MkI.chg (h : MkI w0 w bm bh hp K) : Chg (fun _ => False) w0 w := by
  obtain ⟨F, ho⟩ := h.own
  exact ho.chg
theorem mkCells {m : Mk} (H : Here mkR w bm 0 m F) : w.cell? ⟨bm, 0, none⟩ = some (.pointer (some ⟨m.h, 0, none⟩)) ∧ (∃ a cap, w.cell? ⟨bm, 1, none⟩ = some (.slice a m.set.length cap)) ∧ ∃ a cap, w.cell? ⟨bm, 2, none⟩ = some (.slice a m.list.length cap) := by
  obtain ⟨cs, ⟨v1, v2, F1, F2, rfl, h1, h2, -⟩, hc⟩ := H.cell
  obtain ⟨x1, y1, p1⟩ := Rep.opened h1
  obtain ⟨a1, c1, rfl, -, -⟩ := p1.val
  obtain ⟨x2, y2, p2⟩ := Rep.opened h2
  obtain ⟨a2, c2, rfl, -, -⟩ := p2.val
  have e0 := hc 0 _ rfl
  have e1 := hc 1 _ rfl
  have e2 := hc 2 _ rfl
  simp only [Nat.zero_add] at e0 e1 e2
  exact ⟨e0, ⟨_, _, e1⟩, ⟨_, _, e2⟩⟩
theorem mkSet {m : Mk} (H : Here mkR w bm 0 m F) (hl : 0 < m.set.length) : ∃ g off cap, w.cell? ⟨bm, 1, none⟩ = some (.slice (some ⟨g, off, none⟩) m.set.length cap) ∧
    ∀ i (hi : i < m.set.length), w.cell? ⟨g, off + i, none⟩ = some (.bool m.set[i]) ∧ w.frozen? ⟨g, off + i, none⟩ = false ∧ ∀ x, Post mkR w bm 0 { m with set := m.set.set i x } F (w.setCell ⟨g, off + i, none⟩ (.bool x)) := by
  obtain ⟨g, off, cap, hv⟩ := H.rowAt mkR_set (by show 0 < 3; decide) hl
  refine ⟨g, off, cap, hv, fun i hi => ?_⟩
  obtain ⟨G, h1, -, -, -, h2⟩ := H.rowElem mkR_set (by show 0 < 3; decide) hv hi
  have e : off + i * (Rep.bool).n = off + i := by show off + i * 1 = off + i; omega
  rw [e] at h1 h2
  refine ⟨h1.cells (cs := []) 0 _ rfl, h1.frozen _, fun x => ?_⟩
  obtain ⟨p, q⟩ := h1.set (y := x) (v := .bool x) rfl
  exact (h2 _ _ _ p q).1
end

set_option maxHeartbeats 800000 in
set_option maxRecDepth 100000 in
theorem marked_any (w : World) (bh : Nat) (hp : Hp) (F : List Nat) (H : Here hpR w bh 0 hp F) (hl : hp.slots.length ≤ 100000) :
    Calls Tryd.prog 21 #[.pointer (some ⟨bh, 0, none⟩)] w fun e w' => ∃ bm, e = .returned (.pointer (some ⟨bm, 0, none⟩)) ∧ MkI w w' bm bh hp [] := by
  obtain ⟨-, -, ⟨a, cap, c2⟩, -⟩ := hpCells H
  rw [Nat.zero_add] at c2
  have hmk := fun W => (run_makeOne (P := Tryd.prog) Tryd.underlying72 info_bool rfl (hp.slots.length : Int) (by omega) (by omega) (by omega) : ∀ W, _) W
  rw [Int.toNat_natCast] at hmk
  have h1 := Chg.alloc (fun _ => False) w (.cells (Array.replicate hp.slots.length (.bool false)) 4)
  have h2 := RowAt.made w 4 (.bool false) hp.slots.length (by unfold maxLen; omega)
  clear H hl
  go_enter Tryd.func21, Tryd.ntmps21
  go_wp2_with fail
  go_ret
  refine ⟨_, rfl, ⟨[w.heap.size], ?_⟩, KOk.nil _⟩
  have hset : (mkOf bh hp []).set = List.replicate hp.slots.length false := by
    unfold mkOf
    refine List.ext_getElem (by simp) fun j h1 h2 => by simp
  have ho : mkR.own (w.alloc (.cells (Array.replicate hp.slots.length (.bool false)) 4)) [.pointer (some ⟨bh, 0, none⟩), .slice (some ⟨w.heap.size, 0, none⟩) hp.slots.length hp.slots.length, .slice none 0 0] (mkOf bh hp []) [w.heap.size] := by
    refine ⟨_, _, [w.heap.size], [], rfl, ?_, ⟨_, [], [], rfl, RowAt.nil _ _ _, .nil, rfl⟩, by simp⟩
    rw [hset]
    have := ofRow_flat (hf := fun _ => rfl) (f := fun b : Bool => [Value.bool b]) (l := List.replicate hp.slots.length false) (n := 1) (e := 4) (w := w.alloc (.cells (Array.replicate hp.slots.length (.bool false)) 4)) (v := .slice (some ⟨w.heap.size, 0, none⟩) hp.slots.length hp.slots.length) (by
      rw [List.length_replicate, flatMap_one, List.map_replicate]
      exact h2)
    exact this
  have hm := Here.made (w.alloc (.cells (Array.replicate hp.slots.length (.bool false)) 4)) 74 _ _ _ ho (by simp)
  rw [World.size_alloc] at hm
  exact ⟨hm, h1.allocR _, by omega, by simp⟩
def slotI : Option Nat → Int
  | none => -1
  | some i => i

set_option maxHeartbeats 3200000 in
set_option maxRecDepth 100000 in
theorem slot_any (w0 w : World) (bm bh : Nat) (hp : Hp) (F : List Nat) (K : List Nat) (h : Int) (HH : Here hpR w0 bh 0 hp F) (HM : MkI w0 w bm bh hp K) (hi : -9223372036854775808 ≤ h ∧ h ≤ 9223372036854775807) :
    Calls Tryd.prog 38 #[.pointer (some ⟨bm, 0, none⟩), .int .i64 h] w fun e w' => e = .returned (.int .i64 (slotI (slotOf hp h))) ∧ Chg (fun _ => False) w w' := by
  have H := HH.still HM.chg
  obtain ⟨Fm, ho⟩ := HM.own
  obtain ⟨m0, ⟨am, cm, m1⟩, -⟩ := mkCells ho.here
  have hsl : (mkOf bh hp K).set.length = hp.slots.length := by unfold mkOf; simp
  rw [hsl] at m1
  change w.cell? ⟨bm, 0, none⟩ = some (.pointer (some ⟨bh, 0, none⟩)) at m0
  obtain ⟨c0, c1, ⟨a, cap, c2⟩, -⟩ := hpCells H
  simp only [Nat.zero_add] at c0 c1 c2
  have HX := Lib.hid (index_any hp.base hp.stride h w hi)
  have HS : Hid (∀ i, i < hp.slots.length → ∃ g off, a = some ⟨g, off, none⟩ ∧ w.cell? ⟨g, off + i * 11, none⟩ = some (.bool (hp.slots.getD i noSlt).used)) := Lib.hid (fun i hi => by
    obtain ⟨g, off, e, G, -, h1, -⟩ := hpSlot H (by simpa using c2) hi
    refine ⟨g, off, e, ?_⟩
    rw [List.getD_eq_getElem?_getD, List.getElem?_eq_getElem hi]
    exact h1)
  have HLN : Hid ((hp.slots.length : Int) ≤ 9223372036854775807) := Lib.hid (by
    obtain ⟨v, xs, Fs, hc, hop⟩ := (H.field hpR_slots (by show 0 < 8; decide)).choose_spec.1.openRow
    obtain ⟨a', cap', -, h1, h2⟩ := hop.val
    have : hp.slots.length ≤ maxLen := Nat.le_trans h1 h2
    unfold maxLen at this
    omega)
  unfold slotOf
  generalize indexM hp.base hp.stride h = i at *
  generalize hrs : slotI (if 0 ≤ i ∧ i.toNat < hp.slots.length ∧ (hp.slots.getD i.toNat noSlt).used = true then some i.toNat else none) = rs at *
  have HRS := Lib.hid hrs
  have HM1 := Lib.hid m1
  have HM0 := Lib.hid m0
  have HC2 := Lib.hid c2
  clear H hi hrs ho hsl HM HH
  go_enter Tryd.func38, Tryd.ntmps38
  go_wp2_with fail
  refine HX.out.mono ?_
  rintro e w2 ⟨rfl, hc⟩
  have HCH := Lib.hid hc
  have m0 := hc.cell HM0.out
  have m1 := hc.cell HM1.out
  have c2 := hc.cell HC2.out
  clear c0 c1 HX
  by_cases h0 : 0 ≤ i
  · have n0 : ¬ i < 0 := by omega
    obtain ⟨k, rfl⟩ : ∃ k : Nat, i = (k : Int) := ⟨i.toNat, by omega⟩
    have hrs := HRS.out
    rw [Int.toNat_natCast] at hrs
    by_cases hl : k < hp.slots.length
    · have l1 : (k : Int) < (hp.slots.length : Int) := by omega
      obtain ⟨g, off, rfl, hu⟩ := HS.out k hl
      have hu2 := hc.cell hu
      clear hc hu
      cases hused : (hp.slots.getD k noSlt).used with
      | true =>
        rw [hused] at hu2
        rw [if_pos ⟨h0, hl, hused⟩] at hrs
        subst hrs
        clear hl n0 HRS hused
        go_wp2_with fail
        go_ret
        exact ⟨rfl, HCH.out⟩
      | false =>
        rw [hused] at hu2
        rw [if_neg (by rw [hused]; simp)] at hrs
        subst hrs
        clear hl n0 HRS hused
        go_wp2_with fail
        go_ret
        exact ⟨rfl, HCH.out⟩
    · have l1 : ¬ (k : Int) < (hp.slots.length : Int) := by omega
      rw [if_neg (fun x => hl x.2.1)] at hrs
      subst hrs
      clear hl n0 hc HRS
      go_wp2_with fail
      go_ret
      exact ⟨rfl, HCH.out⟩
  · have n0 : i < 0 := by omega
    have hrs := HRS.out
    rw [if_neg (fun x => h0 x.1)] at hrs
    subst hrs
    clear h0 hc HRS
    go_wp2_with fail
    go_ret
    exact ⟨rfl, HCH.out⟩
end Go.Proofs.YthiiehanlconeaaDoor
