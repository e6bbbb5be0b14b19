/-
  Two cells of a thing stored at once.
-/
import Derived.Test.YtkoopagjjmdodaaHoldd
namespace Go.Proofs.Ytkoopagjjmdodaa
open Go.RowKit
set_option linter.unusedVariables false

section
variable {α β : Type} {A : Rep α} {B : Rep β} {w w' : World} {b o : Nat} {a : α} {F : List Nat}
/-- Two values stored into the two cells of a thing: what was behind them may have changed before. -/
theorem Here.put2 {x y : β} {G G' : List Nat} {w2 : World} {v1 v2 : Value} (h : Here B w b o x G) (hn : B.n = 2) (hc : Chg (fun k => k ∈ G) w w2) (hy : B.own w2 [v1, v2] y G') (nd : G'.Nodup) (new : ∀ k ∈ G', k ∈ G ∨ w.heap.size ≤ k) :
    Here B ((w2.setCell ⟨b, o, none⟩ v1).setCell ⟨b, o + 1, none⟩ v2) b o y G' ∧ Step w ((w2.setCell ⟨b, o, none⟩ v1).setCell ⟨b, o + 1, none⟩ v2) b o 2 G G' := by
  obtain ⟨c, T, h1, h2⟩ := h.box
  have hl := B.len h2
  rw [hn] at hl h2
  simp only [List.length_take, List.length_drop, Array.length_toList] at hl
  have hb : b < w.heap.size := lt_of_block h1
  have nb : b ∉ G' := fun hx => (new b hx).elim h.nb (fun e => by omega)
  have h3 := setCell_block (i := o + 1) v2 (setCell_block (i := o) v1 (hc.keep h1 h.nb))
  have hch : Chg (· = b) w2 ((w2.setCell ⟨b, o, none⟩ v1).setCell ⟨b, o + 1, none⟩ v2) := (Chg.setCell w2 ⟨b, o, none⟩ v1).trans' (Chg.setCell _ ⟨b, o + 1, none⟩ v2)
  refine ⟨⟨⟨_, T, h3, ?_⟩, nb, nd⟩, ⟨?_, new, ?_⟩⟩
  · rw [hn]
    have : ((((c.setIfInBounds o v1).setIfInBounds (o + 1) v2).toList.drop o).take 2) = [v1, v2] := by
      have e1 : ((c.setIfInBounds o v1).setIfInBounds (o + 1) v2).toList = (c.toList.set o v1).set (o + 1) v2 := by simp
      rw [e1]
      refine List.ext_getElem? fun j => ?_
      match j with
      | 0 => rw [take_drop_get (by omega), List.getElem?_set_ne (by omega), Nat.add_zero, List.getElem?_set_self (by rw [Array.length_toList]; omega)]; rfl
      | 1 => rw [take_drop_get (by omega), List.getElem?_set_self (by simp; omega)]; rfl
      | j + 2 => rw [List.getElem?_take, if_neg (by omega)]; rfl
    rw [this]
    exact B.chg hy hch (fun k hk e => nb (by have e' : k = b := e; rwa [e'] at hk))
  · exact ((hc.mono (S' := fun k => k = b ∨ k ∈ G) (fun _ _ x => .inr x)).setCellR _ _ (fun _ => .inl rfl)).setCellR _ _ (fun _ => .inl rfl)
  · intro d U hd
    have h4 := hc.keep hd h.nb
    refine ⟨_, setCell_block (i := o + 1) v2 (setCell_block (i := o) v1 h4), by simp, fun j hj => ?_⟩
    rw [Array.getElem?_setIfInBounds, if_neg (by omega), Array.getElem?_setIfInBounds, if_neg (by omega)]
end
end Go.Proofs.Ytkoopagjjmdodaa
