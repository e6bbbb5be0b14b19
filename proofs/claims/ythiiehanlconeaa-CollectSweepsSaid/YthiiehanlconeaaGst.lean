/-
  The law's two graphs side by side: the heap, the reference's objects, and blocks that neither of them touches.
-/
import Derived.Test.YthiiehanlconeaaMku
import Derived.Test.YthiiehanlconeaaRlv
namespace Go.Proofs.Ythiiehanlconeaa
open Go.RowKit
set_option linter.unusedVariables false
set_option linter.unusedSimpArgs false

structure GS (w0 W : World) (bh : Nat) (hp : Hp) (vx : Value) (xs : List RObj) (Fh Fx B : List Nat) : Prop where
  heap : Own hpR w0 W bh 0 hp Fh
  x : Row robjR 81 W vx xs Fx
  xlo : ∀ k ∈ Fx, w0.heap.size ≤ k
  bx : bh ∉ Fx
  dis : ∀ k ∈ Fx, k ∉ Fh
  bs : ∀ k ∈ B, k ≠ bh ∧ k ∉ Fh ∧ k ∉ Fx ∧ k < W.heap.size
/-- The blocks B lie as they lay. -/
def KeepB (B : List Nat) (W W' : World) : Prop := ∀ k ∈ B, ∀ o, W.heap[k]? = some o → W'.heap[k]? = some o
theorem KeepB.refl (B : List Nat) (W : World) : KeepB B W W := fun _ _ _ h => h
theorem KeepB.trans {B : List Nat} {W W' W'' : World} (h : KeepB B W W') (k : KeepB B W' W'') : KeepB B W W'' := fun i hi o ho => k i hi o (h i hi o ho)
theorem KeepB.still {B : List Nat} {W W' : World} (hc : Chg (fun _ => False) W W') : KeepB B W W' := fun k _ _ ho => hc.keep ho (fun x => x)
theorem KeepB.sub {B B' : List Nat} {W W' : World} (h : KeepB B W W') (hs : ∀ k ∈ B', k ∈ B) : KeepB B' W W' := fun k hk => h k (hs k hk)
section
variable {w0 W W' : World} {bh : Nat} {hp hp' : Hp} {vx : Value} {xs : List RObj} {Fh Fx B : List Nat}
theorem GS.still (h : GS w0 W bh hp vx xs Fh Fx B) (hc : Chg (fun _ => False) W W') : GS w0 W' bh hp vx xs Fh Fx B :=
  ⟨h.heap.still hc, h.x.still hc, h.xlo, h.bx, h.dis, fun k hk => by
    obtain ⟨a, b, c, d⟩ := h.bs k hk
    exact ⟨a, b, c, Nat.lt_of_lt_of_le d hc.size⟩⟩
theorem GS.alloc (h : GS w0 W bh hp vx xs Fh Fx B) (o : _root_.Go.Obj) : GS w0 (W.alloc o) bh hp vx xs Fh Fx (W.heap.size :: B) := by
  have h' := h.still (Chg.alloc _ W o)
  refine ⟨h'.heap, h'.x, h'.xlo, h'.bx, h'.dis, fun k hk => ?_⟩
  rcases List.mem_cons.1 hk with rfl | hk
  · exact ⟨fun e => by have := h.heap.here.lt.1; omega, fun x => by have := h.heap.here.lt.2 _ x; omega, fun x => by have := h.x.lt _ x; omega, by simp⟩
  · exact h'.bs k hk
/-- Another block beside: it was made behind the present world's beginning. -/
theorem GS.more (h : GS w0 W bh hp vx xs Fh Fx B) (hc : Chg (fun _ => False) W W') {k : Nat} (h1 : W.heap.size ≤ k) (h2 : k < W'.heap.size) : GS w0 W' bh hp vx xs Fh Fx (k :: B) := by
  have h' := h.still hc
  refine ⟨h'.heap, h'.x, h'.xlo, h'.bx, h'.dis, fun j hj => ?_⟩
  rcases List.mem_cons.1 hj with rfl | hj
  · exact ⟨fun e => by have := h.heap.here.lt.1; omega, fun x => by have := h.heap.here.lt.2 _ x; omega, fun x => by have := h.x.lt _ x; omega, h2⟩
  · exact h'.bs j hj
theorem GS.fewer {B' : List Nat} (h : GS w0 W bh hp vx xs Fh Fx B) (hs : ∀ k ∈ B', k ∈ B) : GS w0 W bh hp vx xs Fh Fx B' := ⟨h.heap, h.x, h.xlo, h.bx, h.dis, fun k hk => h.bs k (hs k hk)⟩
theorem GS.heapStep (h : GS w0 W bh hp vx xs Fh Fx B) (hp1 : Post hpR W bh 0 hp' Fh W') : ∃ Fh', GS w0 W' bh hp' vx xs Fh' Fx B ∧ Chg (fun k => k = bh ∨ k ∈ Fh) W W' ∧ (∀ k ∈ Fh', k ∈ Fh ∨ W.heap.size ≤ k) := by
  obtain ⟨F', h1, h2⟩ := hp1
  refine ⟨F', ⟨h.heap.step h1 h2, h.x.apart (C := hpR) h2 h.bx h.dis, h.xlo, h.bx, fun k hk x => ?_, fun k hk => ?_⟩, h2.chg, h2.new⟩
  · rcases h2.new k x with y | y
    · exact h.dis k hk y
    · have := h.x.lt k hk; omega
  · obtain ⟨a, b, c, d⟩ := h.bs k hk
    refine ⟨a, fun x => ?_, c, Nat.lt_of_lt_of_le d h2.chg.size⟩
    rcases h2.new k x with y | y
    · exact b y
    · omega
theorem GS.keepB (h : GS w0 W bh hp vx xs Fh Fx B) (hc : Chg (fun k => k = bh ∨ k ∈ Fh) W W') : KeepB B W W' := fun k hk o ho => by
  obtain ⟨a, b, c, d⟩ := h.bs k hk
  exact hc.keep ho (fun x => x.elim a b)
theorem GS.xStep {xs' : List RObj} {Fx' : List Nat} (h : GS w0 W bh hp vx xs Fh Fx B) (hr : Row robjR 81 W' vx xs' Fx') (hc : Chg (fun k => k ∈ Fx) W W') (hn : ∀ k ∈ Fx', k ∈ Fx ∨ W.heap.size ≤ k) :
    GS w0 W' bh hp vx xs' Fh Fx' B ∧ KeepB B W W' := by
  have hlt := h.heap.here.lt
  refine ⟨⟨⟨h.heap.here.chg hc h.bx (fun k hk x => h.dis k x hk), h.heap.chg.trans hc (fun _ _ x => x) (fun i hi x => by have := h.xlo i x; omega), h.heap.lo, h.heap.los⟩, hr, fun k hk => ?_, fun x => ?_, fun k hk x => ?_, fun k hk => ?_⟩, fun k hk o ho => ?_⟩
  · rcases hn k hk with y | y
    · exact h.xlo k y
    · exact Nat.le_trans h.heap.chg.size y
  · rcases hn _ x with y | y
    · exact h.bx y
    · omega
  · rcases hn k hk with y | y
    · exact h.dis k y x
    · have := hlt.2 k x; omega
  · obtain ⟨a, b, c, d⟩ := h.bs k hk
    refine ⟨a, b, fun x => ?_, Nat.lt_of_lt_of_le d hc.size⟩
    rcases hn k x with y | y
    · exact c y
    · omega
  · obtain ⟨a, b, c, d⟩ := h.bs k hk
    exact hc.keep ho c
def putO (hp : Hp) (i : Nat) (o : Obj) : Hp := { hp with slots := hp.slots.set i { hp.slots.getD i noSlt with obj := o } }
/-- An object, and what a change of it makes of the whole. -/
theorem gsObj (h : GS w0 W bh hp vx xs Fh Fx B) {i : Nat} (hi : i < hp.slots.length) : ∃ g off cap, W.cell? ⟨bh, 2, none⟩ = some (.slice (some ⟨g, off, none⟩) hp.slots.length cap) ∧
    ∃ G, Here objR W g (off + i * 11 + 1) hp.slots[i].obj G ∧ ∀ W' y, Post objR W g (off + i * 11 + 1) y G W' → ∃ Fh', GS w0 W' bh (putO hp i y) vx xs Fh' Fx B ∧ Chg (fun k => k = bh ∨ k ∈ Fh) W W' ∧ (∀ k ∈ Fh', k ∈ Fh ∨ W.heap.size ≤ k) := by
  obtain ⟨-, -, ⟨a, cap, c2⟩, -⟩ := hpCells h.heap.here
  obtain ⟨g, off, rfl, G0, h1, -, -, -, -, hback⟩ := hpSlot h.heap.here c2 hi
  obtain ⟨G, h2, -, h3⟩ := h1.field sltR_obj (by show 0 < 11; decide)
  rw [Nat.zero_add] at c2
  refine ⟨g, off, cap, c2, G, h2, fun W' y hp1 => ?_⟩
  obtain ⟨G', k1, k2⟩ := hp1
  obtain ⟨F2, m1, m2⟩ := h3 W' y G' k1 k2
  have hpost := (hback W' _ F2 m1 m2).1
  have e : { hp with slots := hp.slots.set i { hp.slots[i] with obj := y } } = putO hp i y := by
    unfold putO
    rw [List.getD_eq_getElem?_getD, List.getElem?_eq_getElem hi]
    rfl
  rw [e] at hpost
  exact h.heapStep hpost
/-- An object of the reference, and what a change of it makes of the whole. -/
theorem gsX (h : GS w0 W bh hp vx xs Fh Fx B) {a : Nat} (ha : a < xs.length) : ∃ g off cap, vx = .slice (some ⟨g, off, none⟩) xs.length cap ∧
    ∃ G, Here robjR W g (off + a * 4) xs[a] G ∧ ∀ W' y, Post robjR W g (off + a * 4) y G W' → ∃ Fx', GS w0 W' bh hp vx (xs.set a y) Fh Fx' B ∧ KeepB B W W' := by
  obtain ⟨g, off, cap, rfl, -, -, -, h1⟩ := h.x.elem (by omega)
  obtain ⟨G, h2, -, -, h3⟩ := h1 a ha
  refine ⟨g, off, cap, rfl, G, h2, fun W' y hp1 => ?_⟩
  obtain ⟨G', k1, k2⟩ := hp1
  obtain ⟨Fx', m1, m2, m3⟩ := h3 W' y G' k1 k2
  exact ⟨Fx', h.xStep m1 m2 m3⟩
theorem setCell_heap_eq {w w' : World} {p : Addr} {v : Value} {j : Nat} (h : w.heap[j]? = w'.heap[j]?) : (w.setCell p v).heap[j]? = (w'.setCell p v).heap[j]? := by
  simp only [World.setCell, Array.getElem?_modify, h]
/-- A row that was made before the heap was changed, stored late into an object of the reference. -/
theorem gsLate {W5 W6 W9 : World} {hp9 : Hp} {Fh9 B9 B5 : List Nat} {a k : Nat} {get : RObj → List Nat} {set : RObj → List Nat → RObj} {v : Value} {l : List Nat} {g off n c bs : Nat} (h5 : GS w0 W5 bh hp (.slice (some ⟨g, off, none⟩) n c) xs Fh Fx B5)
    (fl : FieldOf robjR (natR.row 3) k get set) (ha : a < xs.length) (hv : (natR.row 3).own W6 [v] l [bs]) (hc : Chg (fun _ => False) W5 W6) (hbs : W5.heap.size ≤ bs)
    (h9 : GS w0 W9 bh hp9 (.slice (some ⟨g, off, none⟩) n c) xs Fh9 Fx B9) (hk : Chg (fun k => k = bh ∨ k ∈ Fh) W6 W9) (hF9 : ∀ j ∈ Fh9, j ∈ Fh ∨ W6.heap.size ≤ j) (hB : ∀ j ∈ B, j ∈ B5 ∧ j ∈ B9) :
    ∃ Fx', GS w0 (W9.setCell ⟨g, off + a * 4 + k, none⟩ v) bh hp9 (.slice (some ⟨g, off, none⟩) n c) (xs.set a (set xs[a] l)) Fh9 Fx' B ∧ KeepB B W9 (W9.setCell ⟨g, off + a * 4 + k, none⟩ v) := by
  obtain ⟨g', off', cap', e, -, -, hgF, h1⟩ := h5.x.elem (by omega)
  cases e
  obtain ⟨G, h2, -, -, h3⟩ := h1 a ha
  obtain ⟨G', k1, k2⟩ := h2.setRow fl (by show 0 < 4; decide) hc hv (fun j hj => by rw [List.mem_singleton.1 hj]; exact hbs) (by simp)
  obtain ⟨Fx', m1, m2, m3⟩ := h3 _ _ _ k1 k2
  have hlt6 : ∀ j ∈ Fx', j < W6.heap.size := fun j hj => by have := m1.lt j hj; simpa using this
  have hg9 : g ∉ Fh9 := h9.dis g hgF
  have hgb : g ≠ bh := fun e => h9.bx (e ▸ hgF)
  have hlt5 := h5.heap.here.lt
  have hsz := hc.size
  have hc9 : Chg (fun j => j = g) W9 (W9.setCell ⟨g, off + a * 4 + k, none⟩ v) := Chg.setCell W9 ⟨g, off + a * 4 + k, none⟩ v
  have hnb : ∀ j ∈ Fx', j ≠ bh ∧ j ∉ Fh := fun j hj => by
    rcases m3 j hj with x | x
    · exact ⟨fun e => h5.bx (e ▸ x), h5.dis j x⟩
    · exact ⟨fun e => by have := hlt5.1; omega, fun y => by have := hlt5.2 j y; omega⟩
  have hrow : Row robjR 81 (W9.setCell ⟨g, off + a * 4 + k, none⟩ v) (.slice (some ⟨g, off, none⟩) xs.length c) (xs.set a (set xs[a] l)) Fx' := by
    refine ⟨(robjR.row _).keep m1.own fun j hj o ho => ?_, m1.nd⟩
    have h6 : W6.heap[j]? = some (W6.heap[j]'(hlt6 j hj)) := Array.getElem?_eq_getElem (hlt6 j hj)
    have h9' := hk.keep h6 (fun x => x.elim (hnb j hj).1 (hnb j hj).2)
    rw [← ho]
    exact (setCell_heap_eq (h6.trans h9'.symm)).symm
  refine ⟨Fx', ⟨⟨h9.heap.here.chg hc9 (fun e => hgb e.symm) (fun j hj e => hg9 (e ▸ hj)), h9.heap.chg.trans hc9 (fun _ _ x => x) (fun i hi e => by have := h5.xlo g hgF; omega), h9.heap.lo, h9.heap.los⟩, hrow, fun j hj => ?_, fun x => (hnb bh x).1 rfl, fun j hj x => ?_, fun j hj => ?_⟩, fun j hj o ho => hc9.keep ho fun e => ?_⟩
  · rcases m3 j hj with x | x
    · exact h5.xlo j x
    · exact Nat.le_trans h5.heap.chg.size x
  · rcases hF9 j x with y | y
    · exact (hnb j hj).2 y
    · have := hlt6 j hj; omega
  · obtain ⟨a1, a2, a3, a4⟩ := h9.bs j (hB j hj).2
    refine ⟨a1, a2, fun x => ?_, by simpa using a4⟩
    rcases m3 j x with y | y
    · exact a3 y
    · have := (h5.bs j (hB j hj).1).2.2.2; omega
  · subst e
    exact (h9.bs j (hB j hj).2).2.2.1 hgF
end
end Go.Proofs.Ythiiehanlconeaa
