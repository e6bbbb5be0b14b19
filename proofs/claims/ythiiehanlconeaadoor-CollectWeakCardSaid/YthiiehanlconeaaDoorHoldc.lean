/-
  Steps: cells that stay; scalar fields stored; one element appended to a row behind a place.
-/
import Derived.Test.YthiiehanlconeaaDoorHoldb
namespace Go.Proofs.YthiiehanlconeaaDoor
open Go.RowKit
set_option linter.unusedVariables false

/-- A number of elements that is far from every bound; the numeral is out of the walk's sight. -/
structure Few (n : Nat) : Prop where
  lt : n < 1000000000
theorem Few.of {n : Nat} (m : Nat) (h : n ≤ m) (hm : m < 1000000000) : Few n := ⟨by omega⟩

theorem Chg.cellS {S : Nat → Prop} {w w' : World} (h : Chg S w w') {a : Addr} {v : Value} (hc : w.cell? a = some v) (hn : ¬ S a.block) : w'.cell? a = some v := by
  have hb : a.block < w.heap.size := World.block_lt_of_cell? w _ hc
  rw [World.cell?_of_block (h.block a.block hb hn)]; exact hc
section
variable {w w' : World} {b o n : Nat} {F F' : List Nat}
/-- A cell that an operation left alone. -/
theorem Step.cell (h : Step w w' b o n F F') {b' j : Nat} {u : Value} (hu : w.cell? ⟨b', j, none⟩ = some u) (hF : b' ∉ F) (hj : b' = b → (j < o ∨ o + n ≤ j)) (hbox : ∃ c T, w.heap[b]? = some (.cells c T (0, 0))) : w'.cell? ⟨b', j, none⟩ = some u := by
  by_cases hb : b' = b
  · subst hb
    obtain ⟨c, T, hc⟩ := hbox
    obtain ⟨c', h1, h2, h3⟩ := h.rest c T hc
    refine cell_of_block h1 ?_
    rw [h3 j (hj rfl)]
    have : w.cell? ⟨b', j, none⟩ = c[j]? := by simp [World.cell?, hc]
    rw [← this]; exact hu
  · exact h.chg.cellS hu (fun x => x.elim hb hF)
theorem Step.cellNe (h : Step w w' b o n F F') {b' j : Nat} {u : Value} (hu : w.cell? ⟨b', j, none⟩ = some u) (hF : b' ∉ F) (hb : b' ≠ b) : w'.cell? ⟨b', j, none⟩ = some u := h.chg.cellS hu (fun x => x.elim hb hF)
/-- A step at some of the cells is a step at more of them. -/
theorem Step.wide (h : Step w w' b o n F F') {o' n' : Nat} (h1 : o' ≤ o) (h2 : o + n ≤ o' + n') : Step w w' b o' n' F F' :=
  ⟨h.chg, h.new, fun c T hc => by
    obtain ⟨c', k1, k2, k3⟩ := h.rest c T hc
    exact ⟨c', k1, k2, fun j hj => k3 j (by omega)⟩⟩
end
section
variable {α β : Type} {A : Rep α} {B : Rep β} {w w' : World} {b o : Nat} {a : α} {F : List Nat}
theorem Here.boxed (h : Here A w b o a F) : ∃ c T, w.heap[b]? = some (.cells c T (0, 0)) := by
  obtain ⟨c, T, h1, _⟩ := h.box
  exact ⟨c, T, h1⟩
/-- A scalar field stored. -/
theorem Here.setField {k : Nat} {get : α → β} {set : α → β → α} {f : β → List Value} {hf : ∀ a, (f a).length = 1} (h : Here A w b o a F) (fl : FieldOf A (Rep.flat 1 f hf) k get set) {y : β} {v : Value} (hv : f y = [v]) :
    ∃ F', Here A (w.setCell ⟨b, o + k, none⟩ v) b o (set a y) F' ∧ Step w (w.setCell ⟨b, o + k, none⟩ v) b o A.n F F' := by
  have := fl.fits
  obtain ⟨G, h1, _, h3⟩ := h.field fl (by show 0 < A.n; have h0 : (Rep.flat 1 f hf).n = 1 := rfl; omega)
  obtain ⟨p, q⟩ := h1.set hv
  exact h3 _ y G p q
theorem Here.cells {cs : List Value} {n : Nat} {f : β → List Value} {hf : ∀ a, (f a).length = n} {y : β} (h : Here (Rep.flat n f hf) w b o y F) (j : Nat) (u : Value) (hu : (f y)[j]? = some u) : w.cell? ⟨b, o + j, none⟩ = some u := by
  obtain ⟨cs, ⟨rfl, _⟩, h2⟩ := h.cell
  exact h2 j u hu
end
/-- The number of cells, the zero and the bytes of an element's type, as the append laws ask them. -/
def Elem (P : Program) (e : TypeId) (size bytes : Nat) : Prop := ∃ i z, P.info? e = some i ∧ i.zero = some z ∧ i.size = size ∧ i.bytes = bytes ∧ z.cells.size = size
theorem elem_of {P : Program} {e : TypeId} {size bytes : Nat} (h : (P.info? e).map (fun i => (i.zero.map (fun z => z.cells.size), i.size, i.bytes)) = some (some size, size, bytes)) : Elem P e size bytes := by
  unfold Elem
  match hm : P.info? e, h with
  | some i, h =>
    simp only [Option.map_some, Option.some.injEq, Prod.mk.injEq] at h
    obtain ⟨h1, h2, h3⟩ := h
    match hz : i.zero, h1 with
    | some z, h1 => exact ⟨i, z, rfl, hz, h2, h3, by simpa [hz] using h1⟩
/-- One element of several cells appended; it lies in block g. Outside a region that draws. -/
theorem list_append_elem {P : Program} {W : World} {ops : Array Oper} {rest : List Oper} {o : Oper} {a : Act} {Q : Exit → Act → World → Prop} (hgd : o.guard = none) (s x : Operand) (t : TypeId)
    (ho : o.op = .call { callee := .builtin .append, args := #[s, x], argTypes := #[t, t] })
    (e : TypeId) (size bytes : Nat) (ht : P.underlying t = some (.slice e)) (hE : Elem P e size bytes) (hsz : 0 < size)
    (v : Value) (n : Nat) (xs : List Value) (hsv : a.eval s = v) (hown : RowAt W e size v n xs) (news : List Value) (hnl : news.length = size) (g T : Nat) (f : Nat × Nat)
    (hx : a.eval x = .slice (some ⟨g, 0, none⟩) 1 1) (hg : W.heap[g]? = some (.cells news.toArray T f)) (h1 : ∀ u ∈ news, u.oneCell' = true)
    (h63 : n + 1 ≤ maxLen) (hbytes : (n + 1) * bytes ≤ 140737488355328)
    (h : ∀ a1 n1 c1 w', RowAt w' e size (.slice a1 n1 c1) (n + 1) (xs ++ news) → Chg (fun k => v.ownBlock = some k) W w' → (∀ k, (Value.slice a1 n1 c1).ownBlock = some k → v.ownBlock = some k ∨ W.heap.size ≤ k) → wpList P ops Q rest (a.put o.dst (.slice a1 n1 c1)) w') :
    wpList P ops Q (o :: rest) a W := by
  obtain ⟨i, z, hi, hz, hsize, hby, hzs⟩ := hE
  refine wpList_append_slice W hgd s x t t ho e i z size bytes ht hi hz hsize hby hzs hsz v n xs hsv hown _ 1 news hx (Src.ofSlice _ ht _ 1 1 news (by omega) ?_ h1) h63 hbytes h
  intro j u hu
  have hadd : (⟨g, 0, none⟩ : Addr).add j = ⟨g, j, none⟩ := by unfold Addr.add; split <;> simp_all
  rw [hadd]
  exact cell_of_block hg (by simpa using hu)
/-- The same inside a region that draws its order. -/
theorem step_append_elem {P : Program} {W : World} {ops : Array Oper} {o : Oper} {a : Act} {K : Act → World → Prop} {Q : Exit → Act → World → Prop} {E : Prop} (hgd : o.guard = none) (s x : Operand) (t : TypeId)
    (ho : o.op = .call { callee := .builtin .append, args := #[s, x], argTypes := #[t, t] })
    (e : TypeId) (size bytes : Nat) (ht : P.underlying t = some (.slice e)) (hE : Elem P e size bytes) (hsz : 0 < size)
    (v : Value) (n : Nat) (xs : List Value) (hsv : a.eval s = v) (hown : RowAt W e size v n xs) (news : List Value) (hnl : news.length = size) (g T : Nat) (f : Nat × Nat)
    (hx : a.eval x = .slice (some ⟨g, 0, none⟩) 1 1) (hg : W.heap[g]? = some (.cells news.toArray T f)) (h1 : ∀ u ∈ news, u.oneCell' = true)
    (h63 : n + 1 ≤ maxLen) (hbytes : (n + 1) * bytes ≤ 140737488355328)
    (h : ∀ a1 n1 c1 w', RowAt w' e size (.slice a1 n1 c1) (n + 1) (xs ++ news) → Chg (fun k => v.ownBlock = some k) W w' → (∀ k, (Value.slice a1 n1 c1).ownBlock = some k → v.ownBlock = some k ∨ W.heap.size ≤ k) → K (a.put o.dst (.slice a1 n1 c1)) w') :
    if Region.wanted o (yielded ops a.tmps) = true then Oper.wp P o a W K Q else E := by
  obtain ⟨i, z, hi, hz, hsize, hby, hzs⟩ := hE
  refine step_append_row hgd s x t t ho e i z size bytes ht hi hz hsize hby hzs hsz v n xs hsv hown _ 1 news hx (Src.ofSlice _ ht _ 1 1 news (by omega) ?_ h1) h63 hbytes ?_
  · intro j u hu
    have hadd : (⟨g, 0, none⟩ : Addr).add j = ⟨g, j, none⟩ := by unfold Addr.add; split <;> simp_all
    rw [hadd]
    exact cell_of_block hg (by simpa using hu)
  · intro v' w' h1 h2 h3
    obtain ⟨a1, c1, rfl, _⟩ := h1.slice
    exact h a1 _ c1 w' h1 h2 h3

/-- A thing that was made behind the world w0: what was there in w0 is as it was. -/
structure Own {α : Type} (A : Rep α) (w0 w : World) (b o : Nat) (a : α) (F : List Nat) : Prop where
  here : Here A w b o a F
  chg : Chg (fun _ => False) w0 w
  lo : w0.heap.size ≤ b
  los : ∀ k ∈ F, w0.heap.size ≤ k
section
variable {α : Type} {A : Rep α} {w0 w w' : World} {b o n : Nat} {a a' : α} {F F' : List Nat}
theorem Own.step (h : Own A w0 w b o a F) (hh : Here A w' b o a' F') (hs : Step w w' b o n F F') : Own A w0 w' b o a' F' :=
  ⟨hh, h.chg.trans hs.chg (fun _ _ x => x) (fun i hi x => by have := h.lo; rcases x with x | x; omega; have := h.los i x; omega), h.lo, fun k hk => (hs.new k hk).elim (h.los k) (fun x => by have := h.chg.size; omega)⟩
theorem Own.still (h : Own A w0 w b o a F) (hc : Chg (fun _ => False) w w') : Own A w0 w' b o a F := ⟨h.here.still hc, h.chg.trans' hc, h.lo, h.los⟩
theorem Own.made (w : World) (T : TypeId) (cs : List Value) (a : α) (h : A.own w cs a []) : Own A w (w.alloc (.cells cs.toArray T)) w.heap.size 0 a [] :=
  ⟨Here.made w T cs a [] h List.nodup_nil, Chg.alloc _ _ _, Nat.le_refl _, fun k hk => by cases hk⟩
theorem Own.from (h : Own A w0 w b o a F) {w1 : World} (hc : Chg (fun _ => False) w1 w0) : Own A w1 w b o a F :=
  ⟨h.here, hc.trans' h.chg, Nat.le_trans hc.size h.lo, fun k hk => Nat.le_trans hc.size (h.los k hk)⟩
end
end Go.Proofs.YthiiehanlconeaaDoor
