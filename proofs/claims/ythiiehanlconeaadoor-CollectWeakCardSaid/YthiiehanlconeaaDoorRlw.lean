/-
  The reference of layer 35: Live, walked.
-/
import Derived.Test.YthiiehanlconeaaDoorRlv
namespace Go.Proofs.YthiiehanlconeaaDoor
open Go.RowKit
set_option linter.unusedVariables false
set_option linter.unusedSimpArgs false

theorem liveR_step {g : Nat → List Nat} {ps : Nat → List (Nat × Nat)} {N f : Nat} {K : List Nat} {p : Nat} : liveR g ps N (f + 1) K p = if (weakP ps (drain g N K p)).length = (drain g N K p).length then weakP ps (drain g N K p) else liveR g ps N f (weakP ps (drain g N K p)) (drain g N K p).length := rfl
theorem pre_get {K K' : List Nat} (h : K <+: K') {i : Nat} (hi : i < K.length) : ∃ hp : i < K'.length, K'[i] = K[i] := by
  obtain ⟨t, rfl⟩ := h
  refine ⟨by rw [List.length_append]; omega, ?_⟩
  rw [List.getElem_append_left hi]
theorem mem_natI (K : List Nat) (i : Nat) : ((i : Int) ∈ natI K) ↔ i ∈ K := by
  unfold natI
  rw [List.mem_map]
  constructor
  · rintro ⟨a, ha, e⟩
    have : a = i := by omega
    subst this; exact ha
  · exact fun h => ⟨i, h, rfl⟩
theorem zip_take {l m : List Nat} {k : Nat} (h : k < l.length) (e : l.length = m.length) : (l.zip m).take (k + 1) = (l.zip m).take k ++ [(l[k], m[k]'(by omega))] := by
  have hl : k < (l.zip m).length := by rw [List.length_zip]; omega
  rw [List.take_succ_eq_append_getElem hl]
  simp
end Go.Proofs.YthiiehanlconeaaDoor
