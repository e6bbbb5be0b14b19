/-
  Slices that are only read.
-/
import Derived.Test.YtkoopagjjmdodaaHoldc
import Derived.Lib.SliceRun
namespace Go.Proofs.Ytkoopagjjmdodaa
open Go.RowKit
set_option linter.unusedVariables false

/-- A slice that is only read: its elements (one cell each) are xs. -/
def Seen (w : World) (v : Value) (xs : List Value) : Prop :=
  ∃ p cap, v = .slice p xs.length cap ∧ xs.length ≤ cap ∧ cap ≤ maxLen ∧ (xs ≠ [] → ∃ g off, p = some ⟨g, off, none⟩ ∧ ∀ j u, xs[j]? = some u → w.cell? ⟨g, off + j, none⟩ = some u)
theorem Seen.ofRow {w : World} {e : TypeId} {v : Value} {n : Nat} {xs : List Value} (h : RowAt w e 1 v n xs) : Seen w v xs := by
  have hn : xs.length = n := by have := h.1; omega
  obtain ⟨a, cap, rfl, h1, h2⟩ := h.slice
  refine ⟨a, cap, by rw [hn], by omega, h2, fun hne => ?_⟩
  have hp : 0 < n := by rw [← hn]; exact List.length_pos_iff.2 hne
  obtain ⟨g, off, cap', hv, _, _⟩ := h.addr hp
  simp only [Value.slice.injEq] at hv
  obtain ⟨rfl, _, rfl⟩ := hv
  exact ⟨g, off, rfl, fun j u hu => h.cellAt j u hu⟩
theorem Seen.still {w w' : World} {v : Value} {xs : List Value} (h : Seen w v xs) (hc : Chg (fun _ => False) w w') : Seen w' v xs := by
  obtain ⟨p, cap, rfl, h1, h2, h3⟩ := h
  refine ⟨p, cap, rfl, h1, h2, fun hne => ?_⟩
  obtain ⟨g, off, rfl, h4⟩ := h3 hne
  exact ⟨g, off, rfl, fun j u hu => hc.cell (h4 j u hu)⟩
theorem Seen.ptr {w w' : World} {a : Option Addr} {n cap : Nat} {xs : List Value} (h : Seen w (.slice a n cap) xs) (hc : Chg (fun _ => False) w w') {k : Nat} {u : Value} (hu : xs[k]? = some u) :
    ∃ g off, a = some ⟨g, off, none⟩ ∧ w'.cell? ⟨g, off + k, none⟩ = some u := by
  obtain ⟨a', cap', hv, h1, h2, h3⟩ := h
  cases hv
  have hne : xs ≠ [] := by rintro rfl; simp at hu
  obtain ⟨g, off, rfl, hcell⟩ := h3 hne
  exact ⟨g, off, rfl, hc.cell (hcell k u hu)⟩
end Go.Proofs.Ytkoopagjjmdodaa
