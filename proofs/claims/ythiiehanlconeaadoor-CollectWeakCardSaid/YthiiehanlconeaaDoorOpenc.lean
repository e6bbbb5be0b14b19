/-
  Arguments as the walk meets them: slices of structs.
-/
import Derived.Test.YthiiehanlconeaaDoorOpenb
namespace Go.Proofs.YthiiehanlconeaaDoor
open Go.ChangeShapes Go.WideShapes Go.ChangeAt Go.RowKit
set_option linter.unusedVariables false

/-- A slice that came in: its elements (n cells each) are xs. -/
def ArgRows (w : World) (v : Value) (n : Nat) (xs : List (List Value)) : Prop :=
  ∃ a cap, v = .slice a xs.length cap ∧ xs.length ≤ cap ∧ cap ≤ maxLen ∧ (xs ≠ [] → ∃ g off, a = some ⟨g, off, none⟩ ∧ ∀ (j i : Nat) (x : List Value) (u : Value), xs[j]? = some x → x[i]? = some u → w.cell? ⟨g, off + j * n + i, none⟩ = some u)
theorem ArgRows.keep {w w' : World} {v : Value} {n : Nat} {xs : List (List Value)} (h : ArgRows w v n xs) (hc : Chg (fun _ => False) w w') : ArgRows w' v n xs := by
  obtain ⟨a, cap, rfl, h1, h2, h3⟩ := h
  refine ⟨a, cap, rfl, h1, h2, fun hne => ?_⟩
  obtain ⟨g, off, rfl, hcell⟩ := h3 hne
  exact ⟨g, off, rfl, fun j i x u hx hu => hc.cell (hcell j i x u hx hu)⟩
section
variable {H : Type} {enc : TypeId × Value → H} {P : Program} {w : World} {base : Nat}
theorem open_rows {t e : TypeId} {fs : Array Field} {v : Value} {d : DataW H} {ps : List MemPlace} (ht : P.underlying t = some (.slice e)) (he : P.underlying e = some (.struct fs)) (hn : 0 < P.cellsOf e)
    (hv : Value.okWide P w .any base t v) (h : DataW.Trod enc P w 0 (fun _ => true) true t v d ps) :
    ∃ xs : List (List Value), ArgRows w v (P.cellsOf e) xs ∧ ∀ x ∈ xs, x.length = P.cellsOf e ∧ ∀ (i : Nat) (f : Field), fs[i]? = some f → ∃ fuel y, DataW.trod enc P w 0 (fun _ => true) true fuel f.type ((x.drop f.offset).take (P.cellsOf f.type)) = some y := by
  obtain ⟨a, len, cap, rfl⟩ := okWide_slice ht hv
  obtain ⟨fuel, hf⟩ := h
  rcases DataW.trod_slice ht hf with ⟨hcs, -⟩ | ⟨ad, len', cap', elems, rest, n, -, hcs, -, -, hl, hm, hlen, hel, -, -⟩
  · simp [Value.cells] at hcs
    obtain ⟨rfl, rfl, rfl⟩ := hcs
    exact ⟨[], ⟨none, 0, rfl, Nat.le_refl _, by simp, fun h => absurd rfl h⟩, by simp⟩
  · simp [Value.cells] at hcs
    obtain ⟨rfl, rfl, rfl⟩ := hcs
    have each : ∀ i, i < len → ∃ cs, w.cells? 0 (ad.add (i * P.cellsOf e)) (P.cellsOf e) = some cs ∧ ∃ y, DataW.trod enc P w 0 (fun _ => true) true n e cs = some y := by
      intro i hi
      have h1 := hel i hi
      rw [List.getElem?_eq_getElem (by omega), Option.bind_eq_some_iff] at h1
      obtain ⟨cs, h2, h3⟩ := h1
      exact ⟨cs, h2, _, h3⟩
    let f : Nat → List Value := fun i => (w.cells? 0 (ad.add (i * P.cellsOf e)) (P.cellsOf e)).getD []
    refine ⟨(List.range len).map f, ⟨some ad, cap, by simp, by simpa using hl, hm, fun hne => ?_⟩, fun x hx => ?_⟩
    · have h0 : 0 < len := by
        apply Nat.pos_of_ne_zero
        rintro rfl
        simp at hne
      obtain ⟨cs0, hc0, -⟩ := each 0 h0
      obtain ⟨-, hl0, hg0⟩ := World.cells?_some hc0
      have h1 := hg0 0 hn
      rw [List.getElem?_eq_getElem (by omega), Nat.zero_mul] at h1
      obtain ⟨g, off, hh⟩ := addr_none h1
      have hadd0 : ad.add 0 = ad := by obtain ⟨b', o', s'⟩ := ad; unfold Addr.add; split <;> simp_all
      rw [hadd0] at hh
      subst hh
      refine ⟨g, off, rfl, fun j i x u hj hi => ?_⟩
      rw [List.getElem?_map] at hj
      obtain ⟨k, hk, rfl⟩ := Option.map_eq_some_iff.1 hj
      obtain ⟨hk1, hk2⟩ := List.getElem?_eq_some_iff.1 hk
      rw [List.length_range] at hk1
      rw [List.getElem_range] at hk2
      subst hk2
      obtain ⟨cs, hc, -⟩ := each j hk1
      have hfx : f j = cs := by show (w.cells? 0 _ _).getD [] = cs; rw [hc]; rfl
      rw [hfx] at hi
      obtain ⟨-, hl', hg'⟩ := World.cells?_some hc
      have hi' : i < P.cellsOf e := by rw [← hl']; exact (List.getElem?_eq_some_iff.1 hi).1
      have h2 := hg' i hi'
      rw [hi, add_none, add_none] at h2
      exact h2
    · obtain ⟨i, hi, rfl⟩ := List.mem_map.1 hx
      rw [List.mem_range] at hi
      obtain ⟨cs, hc, y, hy⟩ := each i hi
      have hfx : f i = cs := by show (w.cells? 0 _ _).getD [] = cs; rw [hc]; rfl
      rw [hfx]
      obtain ⟨-, hl', -⟩ := World.cells?_some hc
      obtain ⟨ys, m, _, _, _, hxl, hx'⟩ := DataW.trod_struct he hy
      refine ⟨hl', fun k fd hk => ?_⟩
      have hki : k < ys.length := by rw [hxl]; exact (Array.getElem?_eq_some_iff.1 hk).1
      exact ⟨m, ys[k], by rw [← List.getElem?_eq_getElem hki]; exact hx' k fd hk⟩
end
end Go.Proofs.YthiiehanlconeaaDoor
