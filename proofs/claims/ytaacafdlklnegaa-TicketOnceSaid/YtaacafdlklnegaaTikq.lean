/-
  TicketOnce: what holds between two rounds.
-/
import Derived.Test.YtaacafdlklnegaaTiko
namespace Go.Proofs.Ytaacafdlklnegaa
open Go.RowKit
set_option linter.unusedVariables false

def opIx (o : COp) : Nat := (o.page % 4).toNat * 256 + (o.number % 256).toNat
theorem opIx_lt (o : COp) : opIx o < 1024 := by unfold opIx; omega
theorem opIx_iff {o x : COp} (ho : COpOk o) (hx : COpOk x) : opIx o = opIx x ↔ (o.name, o.number) = (x.name, x.number) := by
  have h1 := ho.number
  have h2 := hx.number
  unfold opIx
  constructor
  · intro h
    have e1 : o.number = x.number := by omega
    have e2 : (o.page % 4).toNat = (x.page % 4).toNat := by omega
    rw [e1, COp.name, COp.name, e2]
  · intro h
    injection h with h3 h4
    unfold COp.name at h3
    rw [pageN_inj (by omega) (by omega) h3, h4]
/-- What holds between two rounds of TicketOnce. -/
structure OInv (w wr : World) (b i : Nat) (s : State) (bs : List Bool) (F : List Nat) : Prop where
  st : Own stateR w wr b 0 s F
  arr : wr.heap[b + 1]? = some (.cells (bs.map Value.bool).toArray 45 (0, 0))
  len : bs.length = 1024
  lo : w.heap.size ≤ b
  free : b + 1 ∉ F
  small : Small s i
  formed : Formed s
  tab : ∀ o, COpOk o → ∃ β, bs[opIx o]? = some β ∧ (β = true ↔ (o.name, o.number) ∈ keys s)
section
variable {w wr w0 w' w2 : World} {b i : Nat} {s s' : State} {bs : List Bool} {F F' : List Nat}
theorem OInv.still (h : OInv w wr b i s bs F) (hc : Chg (fun _ => False) wr w') : OInv w w' b i s bs F :=
  ⟨h.st.still hc, hc.keep h.arr (fun x => x), h.len, h.lo, h.free, h.small, h.formed, h.tab⟩
/-- A call, whatever it did with the keys. -/
theorem OInv.call (h : OInv w wr b i s bs F) (hc : Chg (fun _ => False) wr w0) (hh : Here stateR w' b 0 s' F') (hs : Step w0 w' b 0 3 F F') :
    Own stateR w w' b 0 s' F' ∧ w'.heap[b + 1]? = some (.cells (bs.map Value.bool).toArray 45 (0, 0)) ∧ b + 1 ∉ F' := by
  have hlt := lt_of_block h.arr
  have hsz := hc.size
  refine ⟨(h.st.still hc).step hh hs, hs.chg.keep (hc.keep h.arr (fun x => x)) (by rintro (x | x); omega; exact h.free x), fun x => ?_⟩
  rcases hs.new _ x with y | y
  · exact h.free y
  · omega
theorem OInv.idle (h : OInv w wr b i s bs F) (hc : Chg (fun _ => False) wr w0) (hh : Here stateR w' b 0 s' F') (hs : Step w0 w' b 0 3 F F') (hk : keys s' = keys s) (h1 : Small s' (i + 1)) (h2 : Formed s') : OInv w w' b (i + 1) s' bs F' := by
  obtain ⟨a1, a2, a3⟩ := h.call hc hh hs
  exact ⟨a1, a2, h.len, h.lo, a3, h1, h2, by rw [hk]; exact h.tab⟩
theorem OInv.push (h : OInv w wr b i s bs F) (hc : Chg (fun _ => False) wr w0) (hh : Here stateR w' b 0 s' F') (hs : Step w0 w' b 0 3 F F') {x : COp} (hx : COpOk x) (hk : keys s' = keys s ++ [(x.name, x.number)]) (h1 : Small s' (i + 1)) (h2 : Formed s')
    (hc2 : Chg (fun _ => False) w' w2) : OInv w (w2.setCell ⟨b + 1, opIx x, none⟩ (.bool true)) b (i + 1) s' (bs.set (opIx x) true) F' := by
  obtain ⟨a1, a2, a3⟩ := h.call hc hh hs
  have b1 := a1.still hc2
  have b2 := hc2.keep a2 (fun x => x)
  have hlt := lt_of_block h.arr
  have hlo := h.lo
  have hch := Chg.setCell w2 ⟨b + 1, opIx x, none⟩ (.bool true)
  refine ⟨⟨b1.here.chg hch (by show ¬ b = b + 1; omega) (fun k hk => by show ¬ k = b + 1; rintro rfl; exact a3 hk), b1.chg.trans hch (fun _ _ x => x) (fun k hk y => by have y' : k = b + 1 := y; omega), b1.lo, b1.los⟩, ?_, by rw [List.length_set]; exact h.len, h.lo, a3, h1, h2, fun o ho => ?_⟩
  · rw [setCell_block _ b2]
    simp
  · rw [hk, List.getElem?_set]
    by_cases he : opIx o = opIx x
    · rw [if_pos he.symm, if_pos (by rw [h.len]; exact opIx_lt x)]
      have hm := (opIx_iff ho hx).1 he
      rw [hm]
      exact ⟨true, rfl, by simp⟩
    · rw [if_neg (fun e => he e.symm)]
      obtain ⟨β, t1, t2⟩ := h.tab o ho
      have hne : (o.name, o.number) ≠ (x.name, x.number) := fun e => he ((opIx_iff ho hx).2 e)
      refine ⟨β, t1, ?_⟩
      rw [t2]
      simp only [List.mem_append, List.mem_singleton, hne, or_false]
theorem OInv.cell (h : OInv w wr b i s bs F) {x : COp} (hx : COpOk x) : ∃ β, wr.cell? ⟨b + 1, opIx x, none⟩ = some (.bool β) ∧ (β = true ↔ (x.name, x.number) ∈ keys s) := by
  obtain ⟨β, t1, t2⟩ := h.tab x hx
  refine ⟨β, cell_of_block h.arr ?_, t2⟩
  simp [t1]
end
theorem zero_first : Try.zeroCells45 = ((List.replicate 1024 false).map Value.bool).toArray := by kernel_rfl
theorem OInv.start {w w1 : World} (hc : Chg (fun _ => False) w w1) : OInv w ((w1.alloc (.cells #[.slice none 0 0, .slice none 0 0, .slice none 0 0] 27)).alloc (.cells Try.zeroCells45 45)) w1.heap.size 0 newState (List.replicate 1024 false) [] := by
  have hst := ((Own.made (A := stateR) w1 27 _ newState (newState_own w1)).from hc).still (Chg.alloc _ _ (.cells Try.zeroCells45 45))
  refine ⟨hst, ?_, List.length_replicate, hc.size, by simp, ⟨by simp [newState], by simp [newState], by simp [newState], by simp [newState]⟩, formed_new, fun o ho => ?_⟩
  · have := alloc_block (w1.alloc (.cells #[.slice none 0 0, .slice none 0 0, .slice none 0 0] 27)) (.cells Try.zeroCells45 45)
    rw [show (w1.alloc (.cells #[.slice none 0 0, .slice none 0 0, .slice none 0 0] 27)).heap.size = w1.heap.size + 1 from by simp] at this
    rw [this, zero_first]
  · have hk : keys newState = [] := rfl
    rw [hk, List.getElem?_replicate, if_pos (opIx_lt o)]
    exact ⟨false, rfl, by simp⟩
end Go.Proofs.Ytaacafdlklnegaa
