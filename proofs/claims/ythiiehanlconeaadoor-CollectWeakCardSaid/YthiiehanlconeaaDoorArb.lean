/-
  Arenas: find, At.
-/
import Derived.Test.YthiiehanlconeaaDoorAra
namespace Go.Proofs.YthiiehanlconeaaDoor
open Go.RowKit
set_option linter.unusedVariables false
set_option linter.unusedSimpArgs false

def noSlt : Slt := ⟨false, ⟨0, 0, [], [], [], 0, 0, 0, 0, []⟩⟩
/-- The slot of a handle, if it is used. -/
def slotOf (hp : Hp) (h : Int) : Option Nat :=
  if 0 ≤ indexM hp.base hp.stride h ∧ (indexM hp.base hp.stride h).toNat < hp.slots.length ∧ (hp.slots.getD (indexM hp.base hp.stride h).toNat noSlt).used = true then some (indexM hp.base hp.stride h).toNat else none
theorem hpCells {w : World} {b o : Nat} {hp : Hp} {F : List Nat} (H : Here hpR w b o hp F) : w.cell? ⟨b, o, none⟩ = some (.int .i64 hp.base) ∧ w.cell? ⟨b, o + 1, none⟩ = some (.int .i64 hp.stride) ∧ (∃ a cap, w.cell? ⟨b, o + 2, none⟩ = some (.slice a hp.slots.length cap)) ∧ (∃ a cap, w.cell? ⟨b, o + 3, none⟩ = some (.slice a hp.free.length cap)) ∧ w.cell? ⟨b, o + 4, none⟩ = some (.int .i64 hp.live) ∧ w.cell? ⟨b, o + 5, none⟩ = some (.int .i64 hp.global) ∧ w.cell? ⟨b, o + 6, none⟩ = some (.int .i64 hp.texts) ∧ ∃ a cap, w.cell? ⟨b, o + 7, none⟩ = some (.slice a hp.protos.length cap) := by
  obtain ⟨cs, ⟨v1, v2, v3, F1, F2, F3, rfl, h1, h2, h3, -⟩, hc⟩ := H.cell
  obtain ⟨xs, Fs, op1⟩ := Rep.opened h1
  obtain ⟨a1, c1, rfl, -, -⟩ := op1.val
  obtain ⟨xs, Fs, op2⟩ := Rep.opened h2
  obtain ⟨a2, c2, rfl, -, -⟩ := op2.val
  obtain ⟨xs, Fs, op3⟩ := Rep.opened h3
  obtain ⟨a3, c3, rfl, -, -⟩ := op3.val
  exact ⟨hc 0 _ rfl, hc 1 _ rfl, ⟨_, _, hc 2 _ rfl⟩, ⟨_, _, hc 3 _ rfl⟩, hc 4 _ rfl, hc 5 _ rfl, hc 6 _ rfl, ⟨_, _, hc 7 _ rfl⟩⟩
/-- A slot in memory. -/
theorem hpSlot {w : World} {b o : Nat} {hp : Hp} {F : List Nat} {a : Option Addr} {m cap i : Nat} (H : Here hpR w b o hp F) (hv : w.cell? ⟨b, o + 2, none⟩ = some (.slice a m cap)) (hi : i < hp.slots.length) :
    ∃ g off, a = some ⟨g, off, none⟩ ∧ ∃ G, Here sltR w g (off + i * 11) hp.slots[i] G ∧ w.cell? ⟨g, off + i * 11, none⟩ = some (.bool hp.slots[i].used) ∧ g ≠ b ∧ b ∉ G ∧ (∀ x ∈ G, x ∈ F) ∧
      ∀ w' y G', Here sltR w' g (off + i * 11) y G' → Step w w' g (off + i * 11) 11 G G' → Post hpR w b o { hp with slots := hp.slots.set i y } F w' ∧ ∀ j u, w.cell? ⟨b, j, none⟩ = some u → w'.cell? ⟨b, j, none⟩ = some u := by
  obtain ⟨g, off, cap', h1⟩ := H.rowAt hpR_slots (by show 0 < 8; decide) (by omega)
  rw [hv] at h1
  cases h1
  obtain ⟨G, h2, h3, h4, h5, h6⟩ := H.rowElem hpR_slots (by show 0 < 8; decide) hv hi
  obtain ⟨G2, h7, -⟩ := h2.field sltR_used (by show 0 < 11; decide)
  exact ⟨g, off, rfl, G, h2, h7.cells (cs := []) 0 _ rfl, h3, h4, h5, h6⟩

set_option maxHeartbeats 1600000 in
set_option maxRecDepth 100000 in
theorem find_any (w : World) (b o : Nat) (hp : Hp) (F : List Nat) (h : Int) (vs : Value) (H : Here hpR w b o hp F) (hvs : w.cell? ⟨b, o + 2, none⟩ = some vs) (hi : -9223372036854775808 ≤ h ∧ h ≤ 9223372036854775807) :
    Calls Tryd.prog 45 #[.pointer (some ⟨b, o, none⟩), .int .i64 h] w fun e w' => e = .returned (.pointer (rowPtr vs 11 (slotOf hp h))) ∧ Chg (fun _ => False) w w' := by
  obtain ⟨c0, c1, ⟨a, cap, c2⟩, -⟩ := hpCells H
  rw [hvs] at c2
  cases c2
  have HX := Lib.hid (index_any hp.base hp.stride h w hi)
  have HS : Hid (∀ i, i < hp.slots.length → ∃ g off, a = some ⟨g, off, none⟩ ∧ w.cell? ⟨g, off + i * 11, none⟩ = some (.bool (hp.slots.getD i noSlt).used)) := Lib.hid (fun i hi => by
    obtain ⟨g, off, e, G, -, h1, -⟩ := hpSlot H hvs hi
    refine ⟨g, off, e, ?_⟩
    rw [List.getD_eq_getElem?_getD, List.getElem?_eq_getElem hi]
    exact h1)
  have HC := Lib.hid hvs
  unfold slotOf
  generalize indexM hp.base hp.stride h = i at *
  generalize hrs : (if 0 ≤ i ∧ i.toNat < hp.slots.length ∧ (hp.slots.getD i.toNat noSlt).used = true then some i.toNat else none) = rs at *
  have HRS := Lib.hid hrs
  clear H hi hvs hrs
  go_enter Tryd.func45, Tryd.ntmps45
  go_wp2_with fail
  refine HX.out.mono ?_
  rintro e w2 ⟨rfl, hc⟩
  have c2 := hc.cell HC.out
  have HCH := Lib.hid hc
  clear c0 c1 HX
  by_cases h0 : 0 ≤ i
  · have n0 : ¬ i < 0 := by omega
    have d0 : decide (i < 0) = false := decide_eq_false n0
    obtain ⟨k, rfl⟩ : ∃ k : Nat, i = (k : Int) := ⟨i.toNat, by omega⟩
    have hrs := HRS.out
    rw [Int.toNat_natCast] at hrs
    by_cases hl : k < hp.slots.length
    · have l1 : (k : Int) < (hp.slots.length : Int) := by omega
      obtain ⟨g, off, rfl, hu⟩ := HS.out k hl
      have hu2 := hc.cell hu
      clear hc hu
      cases hused : (hp.slots.getD k noSlt).used with
      | true =>
        rw [hused] at hu2
        rw [if_pos ⟨h0, hl, hused⟩] at hrs
        subst hrs
        clear hl n0 HRS hused
        go_wp2_with fail
        go_ret
        exact ⟨rfl, HCH.out⟩
      | false =>
        rw [hused] at hu2
        rw [if_neg (by rw [hused]; simp)] at hrs
        subst hrs
        clear hl n0 HRS hused
        go_wp2_with fail
        go_ret
        exact ⟨rfl, HCH.out⟩
    · have l1 : ¬ (k : Int) < (hp.slots.length : Int) := by omega
      rw [if_neg (fun x => hl x.2.1)] at hrs
      subst hrs
      clear hl n0 hc HRS
      go_wp2_with fail
      go_ret
      exact ⟨rfl, HCH.out⟩
  · have n0 : i < 0 := by omega
    have hrs := HRS.out
    rw [if_neg (fun x => h0 x.1)] at hrs
    subst hrs
    clear h0 hc HRS
    go_wp2_with fail
    go_ret
    exact ⟨rfl, HCH.out⟩

/-- Where an object lies, given the row of the slots. -/
def objPtr : Value → Option Nat → Option Addr
  | .slice (some ⟨g, off, _⟩) _ _, some i => some ⟨g, off + i * 11 + 1, none⟩
  | _, _ => none
theorem objPtr_none (v : Value) : objPtr v none = none := by unfold objPtr; split <;> simp_all
theorem slotOf_lt {hp : Hp} {h : Int} {i : Nat} (e : slotOf hp h = some i) : ∃ hi : i < hp.slots.length, hp.slots[i].used = true ∧ indexM hp.base hp.stride h = (i : Int) := by
  unfold slotOf at e
  by_cases c : 0 ≤ indexM hp.base hp.stride h ∧ (indexM hp.base hp.stride h).toNat < hp.slots.length ∧ (hp.slots.getD (indexM hp.base hp.stride h).toNat noSlt).used = true
  · rw [if_pos c] at e
    obtain rfl := Option.some.inj e
    refine ⟨c.2.1, ?_, by omega⟩
    have := c.2.2
    rw [List.getD_eq_getElem?_getD, List.getElem?_eq_getElem c.2.1] at this
    exact this
  · rw [if_neg c] at e
    cases e

set_option maxHeartbeats 800000 in
set_option maxRecDepth 100000 in
theorem at_any (w : World) (b o : Nat) (hp : Hp) (F : List Nat) (h : Int) (vs : Value) (H : Here hpR w b o hp F) (hvs : w.cell? ⟨b, o + 2, none⟩ = some vs) (hi : -9223372036854775808 ≤ h ∧ h ≤ 9223372036854775807) :
    Calls Tryd.prog 40 #[.pointer (some ⟨b, o, none⟩), .int .i64 h] w fun e w' => e = .returned (.pointer (objPtr vs (slotOf hp h))) ∧ Chg (fun _ => False) w w' := by
  have hf := find_any w b o hp F h vs H hvs hi
  cases hs : slotOf hp h with
  | none =>
    rw [hs, rowPtr_none] at hf
    have HF := Lib.hid hf
    have hn : objPtr vs none = none := objPtr_none vs
    rw [hn]
    clear hf hs H hvs hi hn
    go_enter Tryd.func40, Tryd.ntmps40
    go_wp2_with fail
    refine HF.out.mono ?_
    rintro e w2 ⟨rfl, hc⟩
    have HC := Lib.hid hc
    clear hc HF
    go_wp2_with fail
    go_ret
    exact ⟨rfl, HC.out⟩
  | some i =>
    obtain ⟨hlt, -, -⟩ := slotOf_lt hs
    obtain ⟨-, -, ⟨a, cap, c2⟩, -⟩ := hpCells H
    rw [hvs] at c2
    cases c2
    obtain ⟨g, off, rfl, -⟩ := hpSlot H hvs hlt
    rw [hs, rowPtr_some] at hf
    have HF := Lib.hid hf
    have hn : objPtr (.slice (some ⟨g, off, none⟩) hp.slots.length cap) (some i) = some ⟨g, off + i * 11 + 1, none⟩ := rfl
    rw [hn]
    clear hf hs H hvs hi hn hlt
    go_enter Tryd.func40, Tryd.ntmps40
    go_wp2_with fail
    refine HF.out.mono ?_
    rintro e w2 ⟨rfl, hc⟩
    have HC := Lib.hid hc
    clear hc HF
    go_wp2_with fail
    go_ret
    exact ⟨rfl, HC.out⟩

set_option maxHeartbeats 800000 in
set_option maxRecDepth 100000 in
theorem hat_any (w : World) (b o : Nat) (hp : Hp) (F : List Nat) (h : Int) (vs : Value) (H : Here hpR w b o hp F) (hvs : w.cell? ⟨b, o + 2, none⟩ = some vs) (hi : -9223372036854775808 ≤ h ∧ h ≤ 9223372036854775807) :
    Calls Tryd.prog 24 #[.pointer (some ⟨b, o, none⟩), .int .i64 h] w fun e w' => e = .returned (.pointer (objPtr vs (slotOf hp h))) ∧ Chg (fun _ => False) w w' := by
  have HF := Lib.hid (at_any w b o hp F h vs H hvs hi)
  clear H hvs hi
  go_enter Tryd.func24, Tryd.ntmps24
  go_wp2_with fail
  refine HF.out.mono ?_
  rintro e w2 ⟨rfl, hc⟩
  have HC := Lib.hid hc
  clear hc HF
  go_wp2_with fail
  go_ret
  exact ⟨rfl, HC.out⟩
end Go.Proofs.YthiiehanlconeaaDoor
