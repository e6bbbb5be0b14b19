/-
  Several elements appended to a row in a field; sizes of values, properties and frames.
-/
import Derived.Test.YthiiehanlconeaaDoorGst
namespace Go.Proofs.YthiiehanlconeaaDoor
open Go.RowKit
set_option linter.unusedVariables false
set_option linter.unusedSimpArgs false

theorem elem_val : Elem Tryd.prog 38 4 40 := elem_of (by kernel_rfl)
theorem elem_prop : Elem Tryd.prog 81 5 56 := elem_of (by kernel_rfl)
theorem elem_frm : Elem Tryd.prog 106 16 184 := elem_of (by kernel_rfl)
section
variable {α β : Type} {A : Rep α} {B : Rep β} {e : TypeId} {w : World} {b o k : Nat} {a : α} {F : List Nat}
theorem Here.fieldAppendingAll {get : α → List β} {set : α → List β → α} (fl : FieldOf A (B.row e) k get set) (hA : 0 < A.n) (H : Here A w b o a F) :
    ∃ p cap xs Fs Fr, w.cell? ⟨b, o + k, none⟩ = some (.slice p (get a).length cap) ∧ RowOpen B e w (.slice p (get a).length cap) (get a) Fr xs Fs ∧ w.frozen? ⟨b, o + k, none⟩ = false ∧
      (∀ w1 w3, Chg (fun _ => False) w w1 → Chg (fun j => (Value.slice p (get a).length cap).ownBlock = some j) w1 w3 → w3.cell? ⟨b, o + k, none⟩ = some (.slice p (get a).length cap) ∧ w3.frozen? ⟨b, o + k, none⟩ = false) ∧
      ∀ w1 w3 ys m Gs v2, Chg (fun _ => False) w w1 → Each B w1 ys m Gs → (∀ j ∈ Gs.flatten, w.heap.size ≤ j) → Gs.flatten.Nodup → RowAt w3 e B.n v2 ((get a).length + m.length) (xs.flatten ++ ys.flatten) →
        Chg (fun j => (Value.slice p (get a).length cap).ownBlock = some j) w1 w3 → (∀ j, v2.ownBlock = some j → (Value.slice p (get a).length cap).ownBlock = some j ∨ w1.heap.size ≤ j) →
        Post A w b o (set a (get a ++ m)) F (w3.setCell ⟨b, o + k, none⟩ v2) := by
  obtain ⟨G1, h1, h2, h3⟩ := H.field fl hA
  obtain ⟨p, cap, xs, Fs, q1, q2, _, _, q5, q6⟩ := h1.appending
  refine ⟨p, cap, xs, Fs, G1, q1, q2, q5, q6, fun w1 w3 ys m Gs v2 k1 k2 k3 k4 k5 k6 k7 => ?_⟩
  obtain ⟨F', r1, r2⟩ := q2.pushAll h1 k1 k2 k3 k4 k5 k6 k7
  exact h3 _ _ _ r1 r2
end
/-- Several elements appended; they lie in block g. Inside a region that draws its order. -/
theorem step_append_elems {P : Program} {W : World} {ops : Array Oper} {o : Oper} {a : Act} {K : Act → World → Prop} {Q : Exit → Act → World → Prop} {E : Prop} (m : Nat) (hm : 0 < m) (hgd : o.guard = none) (s x : Operand) (t : TypeId)
    (ho : o.op = .call { callee := .builtin .append, args := #[s, x], argTypes := #[t, t] })
    (e : TypeId) (size bytes : Nat) (ht : P.underlying t = some (.slice e)) (hE : Elem P e size bytes) (hsz : 0 < size)
    (v : Value) (n : Nat) (xs : List Value) (hsv : a.eval s = v) (hown : RowAt W e size v n xs) (news : List Value) (hnl : news.length = m * size) (g T : Nat) (f : Nat × Nat)
    (hx : a.eval x = .slice (some ⟨g, 0, none⟩) m m) (hg : W.heap[g]? = some (.cells news.toArray T f)) (h1 : ∀ u ∈ news, u.oneCell' = true)
    (h63 : n + m ≤ maxLen) (hbytes : (n + m) * bytes ≤ 140737488355328)
    (h : ∀ a1 n1 c1 w', RowAt w' e size (.slice a1 n1 c1) (n + m) (xs ++ news) → Chg (fun k => v.ownBlock = some k) W w' → (∀ k, (Value.slice a1 n1 c1).ownBlock = some k → v.ownBlock = some k ∨ W.heap.size ≤ k) → K (a.put o.dst (.slice a1 n1 c1)) w') :
    if Region.wanted o (yielded ops a.tmps) = true then Oper.wp P o a W K Q else E := by
  obtain ⟨i, z, hi, hz, hsize, hby, hzs⟩ := hE
  refine step_append_row hgd s x t t ho e i z size bytes ht hi hz hsize hby hzs hsz v n xs hsv hown _ m news hx (Src.ofSlice _ ht _ m m news hnl ?_ h1) h63 hbytes ?_
  · intro j u hu
    have hadd : (⟨g, 0, none⟩ : Addr).add j = ⟨g, j, none⟩ := by unfold Addr.add; split <;> simp_all
    rw [hadd]
    exact cell_of_block hg (by simpa using hu)
  · intro v' w' h1 h2 h3
    obtain ⟨a1, c1, rfl, _⟩ := h1.slice
    exact h a1 _ c1 w' h1 h2 h3
theorem val_own (w : World) (v : Val) : valR.own w v.cells v [] := ⟨rfl, rfl⟩
theorem refV_own (w : World) (h : Int) : valR.own w [.int .i64 5, .int .i64 0, .string ⟨#[]⟩, .int .i64 h] ⟨5, 0, ⟨#[]⟩, h⟩ [] := ⟨rfl, rfl⟩
theorem prop_own (w : World) (k : ByteArray) (h : Int) : propR.own w [.string k, .int .i64 5, .int .i64 0, .string ⟨#[]⟩, .int .i64 h] ⟨k, 5, 0, ⟨#[]⟩, h⟩ [] := ⟨rfl, rfl⟩
end Go.Proofs.YthiiehanlconeaaDoor
