/-
  A row behind a place, about to be lengthened; places of elements as pointers.
-/
import Derived.Test.YthiiehanlconeaaDoorHoldc
namespace Go.Proofs.YthiiehanlconeaaDoor
open Go.RowKit
set_option linter.unusedVariables false

/-- All that a walk asks of 'x.f = append(x.f, ..)'. -/
theorem Here.appending {α : Type} {A : Rep α} {e : TypeId} {w : World} {b o : Nat} {l : List α} {F : List Nat} (h : Here (A.row e) w b o l F) :
    ∃ a cap xs Fs, w.cell? ⟨b, o, none⟩ = some (.slice a l.length cap) ∧ RowOpen A e w (.slice a l.length cap) l F xs Fs ∧ l.length ≤ cap ∧ cap ≤ maxLen ∧ w.frozen? ⟨b, o, none⟩ = false ∧
      ∀ w1 w3, Chg (fun _ => False) w w1 → Chg (fun k => (Value.slice a l.length cap).ownBlock = some k) w1 w3 → w3.cell? ⟨b, o, none⟩ = some (.slice a l.length cap) ∧ w3.frozen? ⟨b, o, none⟩ = false := by
  obtain ⟨v, xs, Fs, hc, hopen⟩ := h.openRow
  obtain ⟨a, cap, rfl, h1, h2⟩ := hopen.val
  refine ⟨a, cap, xs, Fs, hc, hopen, h1, h2, h.frozen o, fun w1 w3 hc1 hc3 => ?_⟩
  obtain ⟨c, T, hb⟩ := h.boxed
  have hn : ¬ (Value.slice a l.length cap).ownBlock = some b := fun hk => h.nb (by rw [hopen.fp]; exact List.mem_append_left _ (mem_ownL.2 hk))
  have h3 := hc3.keep (hc1.keep hb (fun x => x)) hn
  refine ⟨cell_of_block h3 ?_, frozen_of_block h3⟩
  have : w.cell? ⟨b, o, none⟩ = c[o]? := by simp [World.cell?, hb]
  rw [← this]; exact hc
/-- The place of an element, as a pointer. -/
def rowPtr (v : Value) (n : Nat) : Option Nat → Option Addr
  | none => none
  | some i => match v with | .slice (some ⟨g, off, none⟩) _ _ => some ⟨g, off + i * n, none⟩ | _ => none
theorem rowPtr_none (v : Value) (n : Nat) : rowPtr v n none = none := rfl
theorem rowPtr_some (g off m cap n i : Nat) : rowPtr (.slice (some ⟨g, off, none⟩) m cap) n (some i) = some ⟨g, off + i * n, none⟩ := rfl

/-- A thing behind an operation on it. -/
def Post {α : Type} (A : Rep α) (w : World) (b o : Nat) (a' : α) (F : List Nat) (w' : World) : Prop := ∃ F', Here A w' b o a' F' ∧ Step w w' b o A.n F F'
section
variable {α β : Type} {A : Rep α} {B : Rep β} {w w' w0 w2 : World} {b o k : Nat} {a a' a2 : α} {F : List Nat} {e : TypeId}
theorem Here.same (H : Here A w b o a F) (hc : Chg (fun _ => False) w w') : Post A w b o a F w' := ⟨F, H.still hc, Step.ofChg hc⟩
theorem Post.pre (hc : Chg (fun _ => False) w0 w) (hp : Post A w b o a' F w') : Post A w0 b o a' F w' := by
  obtain ⟨F', h1, h2⟩ := hp
  exact ⟨F', h1, (Step.ofChg hc).trans h2⟩
theorem Post.after (hp : Post A w b o a' F w') (hc : Chg (fun _ => False) w' w2) : Post A w b o a' F w2 := by
  obtain ⟨F', h1, h2⟩ := hp
  exact ⟨F', h1.still hc, h2.trans (Step.ofChg hc)⟩
theorem Post.drew (hp : Post A w.drew b o a' F w') : Post A w b o a' F w' := Post.pre ((Chg.refl _ w).drewR) hp
theorem Post.then (hp : Post A w b o a' F w') (hq : ∀ F', Here A w' b o a' F' → Post A w' b o a2 F' w2) : Post A w b o a2 F w2 := by
  obtain ⟨F', h1, h2⟩ := hp
  obtain ⟨F2, h3, h4⟩ := hq F' h1
  exact ⟨F2, h3, h2.trans h4⟩
theorem Post.own (hp : Post A w b o a' F w') (H : Own A w0 w b o a F) : ∃ F', Own A w0 w' b o a' F' := by
  obtain ⟨F', h1, h2⟩ := hp
  exact ⟨F', H.step h1 h2⟩
/-- An element of a row in a field: where it lies, and the way back. -/
theorem Here.rowElem {get : α → List β} {set : α → List β → α} (fl : FieldOf A (B.row e) k get set) (hA : 0 < A.n) (H : Here A w b o a F) {g off m cap i : Nat} (hv : w.cell? ⟨b, o + k, none⟩ = some (.slice (some ⟨g, off, none⟩) m cap)) (hi : i < (get a).length) :
    ∃ G, Here B w g (off + i * B.n) (get a)[i] G ∧ g ≠ b ∧ b ∉ G ∧ (∀ x ∈ G, x ∈ F) ∧ ∀ w' y G', Here B w' g (off + i * B.n) y G' → Step w w' g (off + i * B.n) B.n G G' → Post A w b o (set a ((get a).set i y)) F w' ∧ ∀ j u, w.cell? ⟨b, j, none⟩ = some u → w'.cell? ⟨b, j, none⟩ = some u := by
  obtain ⟨G1, h1, h2, h3⟩ := H.field fl hA
  obtain ⟨g', off', cap', q1, _, _, q4, q5, q6⟩ := h1.elem (by omega)
  rw [q1] at hv
  simp only [Option.some.injEq, Value.slice.injEq, Addr.mk.injEq, and_true] at hv
  obtain ⟨⟨rfl, rfl⟩, rfl, rfl⟩ := hv
  obtain ⟨G, r1, r2, r3⟩ := q6 i hi
  have hbG : b ∉ G := fun x => h1.nb (r2 b x)
  refine ⟨G, r1, q4, hbG, fun x hx => h2 x (r2 x hx), fun w' y G' hy hs => ?_⟩
  obtain ⟨F1, s1, s2⟩ := r3 w' y G' hy hs
  exact ⟨h3 _ _ _ s1 s2, fun j u hu => hs.cellNe hu hbG (fun e => q4 e.symm)⟩
theorem Here.rowAt {get : α → List β} {set : α → List β → α} (fl : FieldOf A (B.row e) k get set) (hA : 0 < A.n) (H : Here A w b o a F) (hl : 0 < (get a).length) : ∃ g off cap, w.cell? ⟨b, o + k, none⟩ = some (.slice (some ⟨g, off, none⟩) (get a).length cap) := by
  obtain ⟨G1, h1, h2, h3⟩ := H.field fl hA
  obtain ⟨g', off', cap', q1, _⟩ := h1.elem hl
  exact ⟨g', off', cap', q1⟩
/-- A row in a field, about to be lengthened by one; and the way back. -/
theorem Here.fieldAppending {get : α → List β} {set : α → List β → α} (fl : FieldOf A (B.row e) k get set) (hA : 0 < A.n) (H : Here A w b o a F) :
    ∃ p cap xs Fs Fr, w.cell? ⟨b, o + k, none⟩ = some (.slice p (get a).length cap) ∧ RowOpen B e w (.slice p (get a).length cap) (get a) Fr xs Fs ∧ w.frozen? ⟨b, o + k, none⟩ = false ∧
      (∀ w1 w3, Chg (fun _ => False) w w1 → Chg (fun j => (Value.slice p (get a).length cap).ownBlock = some j) w1 w3 → w3.cell? ⟨b, o + k, none⟩ = some (.slice p (get a).length cap) ∧ w3.frozen? ⟨b, o + k, none⟩ = false) ∧
      ∀ w1 w3 x y G v2, Chg (fun _ => False) w w1 → B.own w1 x y G → (∀ j ∈ G, w.heap.size ≤ j) → G.Nodup → RowAt w3 e B.n v2 ((get a).length + 1) (xs.flatten ++ x) →
        Chg (fun j => (Value.slice p (get a).length cap).ownBlock = some j) w1 w3 → (∀ j, v2.ownBlock = some j → (Value.slice p (get a).length cap).ownBlock = some j ∨ w1.heap.size ≤ j) →
        Post A w b o (set a (get a ++ [y])) F (w3.setCell ⟨b, o + k, none⟩ v2) := by
  obtain ⟨G1, h1, h2, h3⟩ := H.field fl hA
  obtain ⟨p, cap, xs, Fs, q1, q2, _, _, q5, q6⟩ := h1.appending
  refine ⟨p, cap, xs, Fs, G1, q1, q2, q5, q6, fun w1 w3 x y G v2 k1 k2 k3 k4 k5 k6 k7 => ?_⟩
  obtain ⟨F', r1, r2⟩ := q2.push h1 k1 k2 k3 k4 k5 k6 k7
  exact h3 _ _ _ r1 r2
/-- A row in a field set to nil. -/
theorem Here.setNil {get : α → List β} {set : α → List β → α} (fl : FieldOf A (B.row e) k get set) (hA : 0 < A.n) (H : Here A w b o a F) : Post A w b o (set a []) F (w.setCell ⟨b, o + k, none⟩ (.slice none 0 0)) := by
  obtain ⟨G1, h1, h2, h3⟩ := H.field fl hA
  obtain ⟨p, q⟩ := h1.put (w2 := w) (v := .slice none 0 0) (y := ([] : List β)) (G' := []) rfl (.refl _ _) ⟨_, [], [], rfl, RowAt.nil _ _ _, .nil, rfl⟩ (by simp) (by simp)
  exact h3 _ _ _ p q
/-- A row of one's own stored into a field: it lies in blocks that were made behind w. -/
theorem Here.setRow {get : α → List β} {set : α → List β → α} (fl : FieldOf A (B.row e) k get set) (hA : 0 < A.n) (H : Here A w b o a F) {w1 : World} {v : Value} {l : List β} {G : List Nat} (hc : Chg (fun _ => False) w w1) (hv : (B.row e).own w1 [v] l G) (hG : ∀ j ∈ G, w.heap.size ≤ j) (hn : G.Nodup) :
    Post A w b o (set a l) F (w1.setCell ⟨b, o + k, none⟩ v) := by
  obtain ⟨G1, h1, h2, h3⟩ := H.field fl hA
  obtain ⟨p, q⟩ := h1.put (w2 := w1) (v := v) (y := l) (G' := G) rfl (hc.mono (fun _ _ x => x.elim)) hv hn (fun j hj => .inr (hG j hj))
  exact h3 _ _ _ p q
theorem Here.setPost {γ : Type} {f : γ → List Value} {hf : ∀ a, (f a).length = 1} {get : α → γ} {set : α → γ → α} (H : Here A w b o a F) (fl : FieldOf A (Rep.flat 1 f hf) k get set) {y : γ} {v : Value} (hv : f y = [v]) : Post A w b o (set a y) F (w.setCell ⟨b, o + k, none⟩ v) := H.setField fl hv
end
end Go.Proofs.YthiiehanlconeaaDoor
