/-
  Arguments as the walk meets them: slices that came in, arrays of two integers.
-/
import Derived.Test.YthiiehanlconeaaDoorLaw
import Derived.SliceStrings
import Derived.ChangeSlices
namespace Go.Proofs.YthiiehanlconeaaDoor
open Go.ChangeShapes Go.WideShapes Go.ChangeAt Go.RowKit
set_option linter.unusedVariables false

/-- A slice that came in: its elements (one cell each) are xs. -/
def ArgRow (w : World) (v : Value) (xs : List Value) : Prop :=
  ∃ a cap, v = .slice a xs.length cap ∧ xs.length ≤ cap ∧ cap ≤ maxLen ∧ (xs ≠ [] → ∃ g off, a = some ⟨g, off, none⟩ ∧ g < w.heap.size ∧ ∀ j u, xs[j]? = some u → w.cell? ⟨g, off + j, none⟩ = some u)
theorem int_of_wf {k : IntKind} {n : Int} (h : (Lit.int k n).wf = true) : k.min ≤ n ∧ n ≤ k.max := by simpa [Lit.wf] using h

section
variable {H : Type} {enc : TypeId × Value → H} {P : Program} {w : World} {base : Nat}
theorem addr_none {w : World} {a : Addr} {v : Value} (h : w.cell? (a.add 0) = some v) : ∃ g off, a = ⟨g, off, none⟩ := by
  obtain ⟨g, off, spot⟩ := a
  have hs : spot = none := by simpa [Addr.add] using World.cell?_spot h
  exact ⟨g, off, by rw [hs]⟩
theorem add_none (g off j : Nat) : (⟨g, off, none⟩ : Addr).add j = ⟨g, off + j, none⟩ := by unfold Addr.add; split <;> simp_all
theorem argRow_of {a : Addr} {len cap : Nat} (xs : List Value) (hl : len ≤ cap) (hc : cap ≤ maxLen) (hx : cap ≤ xs.length) (h : ∀ i u, xs[i]? = some u → w.cell? (a.add i) = some u) : ArgRow w (.slice (some a) len cap) (xs.take len) := by
  have hlen : (xs.take len).length = len := by simp; omega
  refine ⟨some a, cap, by rw [hlen], by omega, hc, fun hne => ?_⟩
  have h0 : 0 < len := by
    apply Nat.pos_of_ne_zero
    rintro rfl
    simp at hne
  have h1 : 0 < xs.length := by omega
  obtain ⟨g, off, rfl⟩ := addr_none (h 0 xs[0] (List.getElem?_eq_getElem h1))
  refine ⟨g, off, rfl, ?_, ?_⟩
  · have := World.block_lt_of_cell? w _ (h 0 xs[0] (List.getElem?_eq_getElem h1))
    simpa [add_none] using this
  · intro j u hu
    rw [List.getElem?_take] at hu
    split at hu
    · have := h j u hu
      rwa [add_none] at this
    · cases hu
theorem open_intRow {k : IntKind} {t e : TypeId} {v : Value} {d : DataW H} {ps : List MemPlace} (ht : P.underlying t = some (.slice e)) (he : P.underlying e = some (.int k)) (hc : P.cellsOf e = 1)
    (hv : Value.okWide P w .any base t v) (h : DataW.Trod enc P w 0 (fun _ => true) true t v d ps) :
    ∃ zs : List Int, ArgRow w v (zs.map (Value.int k)) ∧ (∀ z ∈ zs, k.min ≤ z ∧ z ≤ k.max) ∧ (d = .nil ∧ zs = [] ∨ ∃ rest, d = .slice (lits k zs) rest) := by
  obtain ⟨a, len, cap, rfl⟩ := okWide_slice ht hv
  obtain ⟨fuel, hf⟩ := h
  rcases open_ints ht he hc hf with ⟨hcs, hd⟩ | ⟨x, l, c, zs, hcs, _, hl, hm, hz, hd, hcell, hwz⟩
  · simp [Value.cells] at hcs
    obtain ⟨rfl, rfl, rfl⟩ := hcs
    exact ⟨[], ⟨none, 0, rfl, Nat.le_refl _, by simp, fun h => absurd rfl h⟩, by simp, .inl ⟨(Prod.mk.inj hd).1, rfl⟩⟩
  · simp [Value.cells] at hcs
    obtain ⟨rfl, rfl, rfl⟩ := hcs
    simp at hz
    refine ⟨zs.take len, ?_, fun z hz => int_of_wf (hwz z (List.mem_of_mem_take hz)), .inr ⟨_, (Prod.mk.inj hd).1⟩⟩
    rw [List.map_take]
    refine argRow_of _ hl hm (by simp; omega) ?_
    intro i u hu
    have hi : i < zs.length := by
      have := (List.getElem?_eq_some_iff.1 hu).1
      simpa using this
    rw [hcell i hi]
    simp [List.getElem?_eq_getElem hi] at hu
    simp [List.getD, hi, hu]
theorem open_strRow {t e : TypeId} {v : Value} {d : DataW H} {ps : List MemPlace} (ht : P.underlying t = some (.slice e)) (he : P.underlying e = some .string) (hc : P.cellsOf e = 1)
    (hv : Value.okWide P w .any base t v) (h : DataW.Trod enc P w 0 (fun _ => true) true t v d ps) :
    ∃ ss : List ByteArray, ArgRow w v (ss.map Value.string) ∧ (∀ z ∈ ss, z.size ≤ maxLen) ∧ (d = .nil ∧ ss = [] ∨ ∃ rest, d = .slice (strs ss) rest) := by
  obtain ⟨a, len, cap, rfl⟩ := okWide_slice ht hv
  obtain ⟨fuel, hf⟩ := h
  rcases open_strings ht he hc hf with ⟨hcs, hd⟩ | ⟨x, l, c, zs, hcs, _, hl, hm, hz, hd, hcell, hwz⟩
  · simp [Value.cells] at hcs
    obtain ⟨rfl, rfl, rfl⟩ := hcs
    exact ⟨[], ⟨none, 0, rfl, Nat.le_refl _, by simp, fun h => absurd rfl h⟩, by simp, .inl ⟨(Prod.mk.inj hd).1, rfl⟩⟩
  · simp [Value.cells] at hcs
    obtain ⟨rfl, rfl, rfl⟩ := hcs
    simp at hz
    refine ⟨zs.take len, ?_, fun z hz => hwz z (List.mem_of_mem_take hz), .inr ⟨_, (Prod.mk.inj hd).1⟩⟩
    rw [List.map_take]
    refine argRow_of _ hl hm (by simp; omega) ?_
    intro i u hu
    have hi : i < zs.length := by
      have := (List.getElem?_eq_some_iff.1 hu).1
      simpa using this
    rw [hcell i hi]
    simp [List.getElem?_eq_getElem hi] at hu
    simp [List.getD, hi, hu]
theorem open_array2 {k : IntKind} {t e : TypeId} {v : Value} {d : DataW H} {ps : List MemPlace} (ht : P.underlying t = some (.array 2 e)) (he : P.underlying e = some (.int k)) (hc : P.cellsOf e = 1) (hct : P.cellsOf t = 2)
    (hv : Value.okWide P w .any base t v) (h : DataW.Trod enc P w 0 (fun _ => true) true t v d ps) :
    ∃ x y : Int, v = .agg #[.int k x, .int k y] ∧ (k.min ≤ x ∧ x ≤ k.max) ∧ (k.min ≤ y ∧ y ≤ k.max) := by
  simp only [Value.okWide, ht] at hv
  obtain ⟨cs, rfl, hsz, _⟩ := hv
  rw [hct] at hsz
  obtain ⟨c0, c1, rfl⟩ : ∃ c0 c1, cs = #[c0, c1] := by
    obtain ⟨l⟩ := cs
    match l, hsz with
    | [c0, c1], _ => exact ⟨c0, c1, rfl⟩
  obtain ⟨fuel, hf⟩ := h
  obtain ⟨xs, m, _, _, _, hxl, hx⟩ := DataW.trod_array ht hf
  have h0 := hx 0 (by omega)
  have h1 := hx 1 (by omega)
  rw [hc, List.getElem?_eq_getElem (by omega)] at h0 h1
  simp [Value.cells] at h0 h1
  obtain ⟨n0, e0, _, w0⟩ := DataW.trod_int he h0
  obtain ⟨n1, e1, _, w1⟩ := DataW.trod_int he h1
  simp at e0 e1
  subst e0 e1
  exact ⟨n0, n1, rfl, int_of_wf w0, int_of_wf w1⟩
end
section
variable {w w' : World} {v : Value} {xs : List Value}
theorem ArgRow.keep (h : ArgRow w v xs) (hc : Chg (fun _ => False) w w') : ArgRow w' v xs := by
  obtain ⟨a, cap, rfl, h1, h2, h3⟩ := h
  refine ⟨a, cap, rfl, h1, h2, fun hne => ?_⟩
  obtain ⟨g, off, rfl, hg, hcell⟩ := h3 hne
  exact ⟨g, off, rfl, Nat.lt_of_lt_of_le hg hc.size, fun j u hu => hc.cell (hcell j u hu)⟩
end
theorem argCell {w w' : World} {a : Option Addr} {n cap : Nat} {xs : List Value} (h : ArgRow w (.slice a n cap) xs) (hc : Chg (fun _ => False) w w') {k : Nat} {u : Value} (hu : xs[k]? = some u) :
    ∃ g off, a = some ⟨g, off, none⟩ ∧ w'.cell? ⟨g, off + k, none⟩ = some u := by
  obtain ⟨a', cap', hv, h1, h2, h3⟩ := h
  cases hv
  have hne : xs ≠ [] := by rintro rfl; simp at hu
  obtain ⟨g, off, rfl, hg, hcell⟩ := h3 hne
  exact ⟨g, off, rfl, hc.cell (hcell k u hu)⟩
end Go.Proofs.YthiiehanlconeaaDoor
