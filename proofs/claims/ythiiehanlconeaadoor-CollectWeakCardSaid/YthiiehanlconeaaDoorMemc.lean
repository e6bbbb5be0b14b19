/-
  Rows of structs: stores into an owned row, elements of several cells.
-/
import Derived.Test.YthiiehanlconeaaDoorMemb
namespace Go.Proofs.YthiiehanlconeaaDoor
open Go.RowKit
set_option linter.unusedVariables false

section
variable {w : World} {e size : Nat} {g off n m cap : Nat} {xs : List Value}
theorem RowAt.store (h : RowAt w e size (.slice (some ⟨g, off, none⟩) n cap) m xs) (j : Nat) (hj : j < xs.length) (u : Value) : RowAt (w.setCell ⟨g, off + j, none⟩ u) e size (.slice (some ⟨g, off, none⟩) n cap) m (xs.set j u) := by
  rcases h.2 with ⟨hv, _⟩ | ⟨g', off', cap', cur, hv, hg, h1, h2, h3, h4⟩
  · simp at hv
  · simp only [Value.slice.injEq, Option.some.injEq, Addr.mk.injEq] at hv
    obtain ⟨⟨rfl, rfl, _⟩, rfl, rfl⟩ := hv
    refine ⟨by simpa using h.1, .inr ⟨g, off, cap, _, rfl, setCell_block u hg, h1, h2, by simpa using h3, ?_⟩⟩
    have hmul : n * size ≤ cap * size := Nat.mul_le_mul_right _ h1
    have hlen := h.1
    rw [← h4]
    simp only [Array.toList_setIfInBounds]
    rw [List.drop_set, if_neg (by omega), show off + j - off = j from by omega, List.take_set]
theorem RowAt.frozenAt (h : RowAt w e size (.slice (some ⟨g, off, none⟩) n cap) m xs) (j : Nat) : w.frozen? ⟨g, off + j, none⟩ = false := by
  rcases h.2 with ⟨hv, _⟩ | ⟨g', off', cap', cur, hv, hg, _⟩
  · simp at hv
  · simp only [Value.slice.injEq, Option.some.injEq, Addr.mk.injEq] at hv
    obtain ⟨⟨rfl, rfl, _⟩, rfl, rfl⟩ := hv
    exact frozen_of_block hg
theorem RowAt.addr {v : Value} (h : RowAt w e size v m xs) (hm : 0 < m) : ∃ g off cap, v = .slice (some ⟨g, off, none⟩) m cap ∧ m ≤ cap ∧ cap ≤ maxLen := by
  rcases h.2 with ⟨_, h0⟩ | ⟨g, off, cap, cur, rfl, _, h1, h2, _⟩
  · omega
  · exact ⟨g, off, cap, rfl, h1, h2⟩
end

section
variable {α : Type} (f : α → List Value) (k : Nat)
theorem flat_length (hf : ∀ a, (f a).length = k) (l : List α) : (l.flatMap f).length = l.length * k := by
  induction l with
  | nil => simp
  | cons a l ih => rw [List.flatMap_cons, List.length_append, ih, hf, List.length_cons, Nat.add_mul]; omega
theorem flat_get (hf : ∀ a, (f a).length = k) : ∀ (l : List α) (i j : Nat) (hi : i < l.length) (hj : j < k), (l.flatMap f)[i * k + j]? = (f l[i])[j]?
  | [], i, j, hi, _ => by simp at hi
  | a :: l, 0, j, _, hj => by rw [List.flatMap_cons, Nat.zero_mul, Nat.zero_add, List.getElem?_append_left (by rw [hf]; exact hj)]; rfl
  | a :: l, i + 1, j, hi, hj => by
    rw [List.flatMap_cons, List.getElem?_append_right (by rw [hf, Nat.add_mul]; omega), hf, show (i + 1) * k + j - k = i * k + j from by rw [Nat.add_mul]; omega, flat_get hf l i j (by simpa using hi) hj]
    rfl
theorem flat_set (hf : ∀ a, (f a).length = k) : ∀ (l : List α) (i j : Nat) (hi : i < l.length) (hj : j < k) (u : Value) (a' : α), f a' = (f l[i]).set j u → (l.flatMap f).set (i * k + j) u = (l.set i a').flatMap f
  | [], i, j, hi, _, _, _, _ => by simp at hi
  | a :: l, 0, j, _, hj, u, a', h => by
    rw [List.flatMap_cons, Nat.zero_mul, Nat.zero_add, List.set_append_left _ _ (by rw [hf]; exact hj), List.set_cons_zero, List.flatMap_cons, h]; rfl
  | a :: l, i + 1, j, hi, hj, u, a', h => by
    rw [List.flatMap_cons, List.set_append_right _ _ (by rw [hf, Nat.add_mul]; omega), hf, show (i + 1) * k + j - k = i * k + j from by rw [Nat.add_mul]; omega, flat_set hf l i j (by simpa using hi) hj u a' h, List.set_cons_succ, List.flatMap_cons]
end
end Go.Proofs.YthiiehanlconeaaDoor
