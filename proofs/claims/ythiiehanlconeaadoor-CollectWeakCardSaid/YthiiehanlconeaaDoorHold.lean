/-
  Representations with footprints: how a value of plain data lies in memory, which blocks are its own; fields, elements; what an operation through a pointer leaves alone.
-/
import Derived.Test.YthiiehanlconeaaDoorMemc
namespace Go.Proofs.YthiiehanlconeaaDoor
open Go.RowKit
set_option linter.unusedVariables false

/-- The block of a slice, as a list. -/
def ownL (v : Value) : List Nat := v.ownBlock.toList
theorem mem_ownL {v : Value} {k : Nat} : k ∈ ownL v ↔ v.ownBlock = some k := by simp [ownL, Option.mem_toList, eq_comm]
theorem ownL_nil : ownL (.slice none 0 0) = [] := rfl
theorem ownL_some (g off : Nat) (sp : Option Nat) (n c : Nat) : ownL (.slice (some ⟨g, off, sp⟩) n c) = [g] := rfl

/-- How data of a type lie in memory: n cells; own w cs a F: the cells cs read as a, the blocks F lie behind them. -/
structure Rep (α : Type) where
  n : Nat
  own : World → List Value → α → List Nat → Prop
  len : ∀ {w cs a F}, own w cs a F → cs.length = n
  lt : ∀ {w cs a F}, own w cs a F → ∀ k ∈ F, k < w.heap.size
  keep : ∀ {w w' cs a F}, own w cs a F → (∀ k ∈ F, ∀ o, w.heap[k]? = some o → w'.heap[k]? = some o) → own w' cs a F

theorem Chg.keepAll {S : Nat → Prop} {w w' : World} (h : Chg S w w') {F : List Nat} (hn : ∀ k ∈ F, ¬ S k) : ∀ k ∈ F, ∀ o, w.heap[k]? = some o → w'.heap[k]? = some o :=
  fun k hk _ ho => h.keep ho (hn k hk)
theorem Rep.chg {α : Type} (A : Rep α) {S : Nat → Prop} {w w' : World} {cs : List Value} {a : α} {F : List Nat} (h : A.own w cs a F) (hc : Chg S w w') (hn : ∀ k ∈ F, ¬ S k) : A.own w' cs a F :=
  A.keep h (hc.keepAll hn)

/-- Data without blocks of their own. -/
def Rep.flat {α : Type} (n : Nat) (f : α → List Value) (hf : ∀ a, (f a).length = n) : Rep α where
  n := n
  own := fun _ cs a F => cs = f a ∧ F = []
  len := fun h => by rw [h.1]; exact hf _
  lt := fun h k hk => by rw [h.2] at hk; cases hk
  keep := fun h _ => h

/-- Elements one behind the other. -/
inductive Each {α : Type} (A : Rep α) (w : World) : List (List Value) → List α → List (List Nat) → Prop
  | nil : Each A w [] [] []
  | cons {x a F xs l Fs} : A.own w x a F → Each A w xs l Fs → Each A w (x :: xs) (a :: l) (F :: Fs)
section
variable {α : Type} {A : Rep α} {w w' : World} {xs : List (List Value)} {l : List α} {Fs : List (List Nat)}
theorem Each.length (h : Each A w xs l Fs) : xs.length = l.length ∧ Fs.length = l.length := by
  induction h with
  | nil => exact ⟨rfl, rfl⟩
  | cons _ _ ih => simp [ih.1, ih.2]
theorem Each.flat (h : Each A w xs l Fs) : xs.flatten.length = l.length * A.n := by
  induction h with
  | nil => simp
  | cons h1 _ ih => rw [List.flatten_cons, List.length_append, ih, A.len h1, List.length_cons, Nat.add_mul]; omega
theorem Each.lt (h : Each A w xs l Fs) : ∀ k ∈ Fs.flatten, k < w.heap.size := by
  induction h with
  | nil => intro k hk; simp at hk
  | cons h1 _ ih =>
    intro k hk
    rw [List.flatten_cons, List.mem_append] at hk
    rcases hk with hk | hk
    · exact A.lt h1 k hk
    · exact ih k hk
theorem Each.keep (h : Each A w xs l Fs) : (∀ k ∈ Fs.flatten, ∀ o, w.heap[k]? = some o → w'.heap[k]? = some o) → Each A w' xs l Fs := by
  induction h with
  | nil => intro _; exact .nil
  | cons h1 _ ih =>
    intro hk
    exact .cons (A.keep h1 fun k hm => hk k (by rw [List.flatten_cons]; exact List.mem_append_left _ hm)) (ih fun k hm => hk k (by rw [List.flatten_cons]; exact List.mem_append_right _ hm))
theorem Each.append {ys : List (List Value)} {m : List α} {Gs : List (List Nat)} (h : Each A w xs l Fs) (h2 : Each A w ys m Gs) : Each A w (xs ++ ys) (l ++ m) (Fs ++ Gs) := by
  induction h with
  | nil => exact h2
  | cons h1 _ ih => exact .cons h1 ih
/-- The i-th element, and how it is replaced. -/
theorem Each.at (h : Each A w xs l Fs) : ∀ i (hi : i < l.length), ∃ x F xa xb Fa Fb, A.own w x l[i] F ∧ xs = xa ++ x :: xb ∧ xa.length = i ∧ Fs = Fa ++ F :: Fb ∧
    (∀ w' y a' G, (∀ k ∈ Fa.flatten ++ Fb.flatten, ∀ o, w.heap[k]? = some o → w'.heap[k]? = some o) → A.own w' y a' G → Each A w' (xa ++ y :: xb) (l.set i a') (Fa ++ G :: Fb)) := by
  induction h with
  | nil => intro i hi; simp at hi
  | @cons x a F xs l Fs h1 h2 ih =>
    intro i hi
    cases i with
    | zero =>
      refine ⟨x, F, [], xs, [], Fs, h1, rfl, rfl, rfl, fun w' y a' G hk hy => .cons hy (h2.keep fun k hm => hk k (by simpa using hm))⟩
    | succ i =>
      obtain ⟨y, G, xa, xb, Fa, Fb, q1, rfl, q3, rfl, q5⟩ := ih i (by simpa using hi)
      refine ⟨y, G, x :: xa, xb, F :: Fa, Fb, q1, rfl, by simp [q3], rfl, fun w' z a' H hk hz => ?_⟩
      refine .cons (A.keep h1 fun k hm => hk k (by simp [hm])) (q5 w' z a' H (fun k hm => hk k ?_) hz)
      simp only [List.flatten_cons, List.append_assoc, List.mem_append] at hm ⊢
      exact .inr hm
end

/-- A slice that owns its block, the elements with what is behind them. -/
def Rep.row {α : Type} (A : Rep α) (e : TypeId) : Rep (List α) where
  n := 1
  own := fun w cs l F => ∃ v xs Fs, cs = [v] ∧ RowAt w e A.n v l.length xs.flatten ∧ Each A w xs l Fs ∧ F = ownL v ++ Fs.flatten
  len := fun ⟨_, _, _, h, _⟩ => by rw [h]; rfl
  lt := fun ⟨v, xs, Fs, _, h2, h3, h4⟩ k hk => by
    rw [h4, List.mem_append] at hk
    rcases hk with hk | hk
    · exact h2.lt k (mem_ownL.1 hk)
    · exact h3.lt k hk
  keep := fun ⟨v, xs, Fs, h1, h2, h3, h4⟩ hk => ⟨v, xs, Fs, h1, h2.keep fun k o hv ho => hk k (by rw [h4]; exact List.mem_append_left _ (mem_ownL.2 hv)) o ho,
    h3.keep fun k hm => hk k (by rw [h4]; exact List.mem_append_right _ hm), h4⟩

theorem each_flat {α : Type} {n : Nat} {f : α → List Value} {hf : ∀ a, (f a).length = n} {w : World} : ∀ {xs : List (List Value)} {l : List α} {Fs : List (List Nat)}, Each (Rep.flat n f hf) w xs l Fs → xs.flatten = l.flatMap f ∧ Fs.flatten = []
  | _, _, _, .nil => ⟨rfl, rfl⟩
  | _, _, _, .cons h1 h2 => by
    obtain ⟨a, b⟩ := each_flat h2
    rw [List.flatten_cons, List.flatten_cons, List.flatMap_cons, a, b, h1.1, h1.2]
    exact ⟨rfl, rfl⟩
theorem flat_each {α : Type} {n : Nat} {f : α → List Value} (hf : ∀ a, (f a).length = n) {w : World} : ∀ (l : List α), Each (Rep.flat n f hf) w (l.map f) l (l.map fun _ => [])
  | [] => .nil
  | a :: l => .cons ⟨rfl, rfl⟩ (flat_each hf l)
/-- A slice of flat data. -/
theorem row_flat {α : Type} {n : Nat} {f : α → List Value} {hf : ∀ a, (f a).length = n} {e : TypeId} {w : World} {cs : List Value} {l : List α} {F : List Nat} :
    ((Rep.flat n f hf).row e).own w cs l F ↔ ∃ v, cs = [v] ∧ RowAt w e n v l.length (l.flatMap f) ∧ F = ownL v := by
  constructor
  · rintro ⟨v, xs, Fs, h1, h2, h3, h4⟩
    obtain ⟨a, b⟩ := each_flat h3
    rw [a] at h2
    exact ⟨v, h1, h2, by rw [h4, b, List.append_nil]⟩
  · rintro ⟨v, h1, h2, h3⟩
    refine ⟨v, l.map f, l.map fun _ => [], h1, ?_, flat_each hf l, ?_⟩
    · rw [← List.flatMap_def]; exact h2
    · rw [h3]
      have : (l.map fun _ => ([] : List Nat)).flatten = [] := by induction l <;> simp_all
      rw [this, List.append_nil]

/-- A field of a type: at cell k. -/
structure FieldOf {α β : Type} (A : Rep α) (B : Rep β) (k : Nat) (get : α → β) (set : α → β → α) : Prop where
  fits : k + B.n ≤ A.n
  split : ∀ {w cs a F}, A.own w cs a F → ∃ F1 F2 F3, F = F1 ++ F2 ++ F3 ∧ B.own w ((cs.drop k).take B.n) (get a) F2 ∧
    ∀ w' ys y G, (∀ x ∈ F1 ++ F3, ∀ o, w.heap[x]? = some o → w'.heap[x]? = some o) → B.own w' ys y G → A.own w' (cs.take k ++ ys ++ cs.drop (k + B.n)) (set a y) (F1 ++ G ++ F3)

/-- Data of a type at a place within a block; the blocks behind them are apart, and apart from this one. -/
structure Here {α : Type} (A : Rep α) (w : World) (b o : Nat) (a : α) (F : List Nat) : Prop where
  box : ∃ c T, w.heap[b]? = some (.cells c T (0, 0)) ∧ A.own w ((c.toList.drop o).take A.n) a F
  nb : b ∉ F
  nd : F.Nodup

/-- What an operation on n cells at ⟨b, o⟩ (the blocks F behind them before, F' behind) changes at most. -/
structure Step (w w' : World) (b o n : Nat) (F F' : List Nat) : Prop where
  chg : Chg (fun k => k = b ∨ k ∈ F) w w'
  new : ∀ k ∈ F', k ∈ F ∨ w.heap.size ≤ k
  rest : ∀ c T, w.heap[b]? = some (.cells c T (0, 0)) → ∃ c', w'.heap[b]? = some (.cells c' T (0, 0)) ∧ c'.size = c.size ∧ ∀ j, j < o ∨ o + n ≤ j → c'[j]? = c[j]?

section
variable {w w' w'' : World} {b o n : Nat} {F F' F'' : List Nat}
theorem Step.refl (w : World) (b o n : Nat) (F : List Nat) : Step w w b o n F F := ⟨.refl _ _, fun _ h => .inl h, fun c T h => ⟨c, h, rfl, fun _ _ => rfl⟩⟩
theorem Step.trans (h : Step w w' b o n F F') (k : Step w' w'' b o n F' F'') : Step w w'' b o n F F'' := by
  refine ⟨h.chg.trans k.chg (fun _ _ x => x) ?_, ?_, ?_⟩
  · rintro i hi (x | x)
    · exact .inl x
    · rcases h.new i x with y | y
      · exact .inr y
      · omega
  · intro i x
    rcases k.new i x with y | y
    · exact h.new i y
    · exact .inr (Nat.le_trans h.chg.size y)
  · intro c T hc
    obtain ⟨c', h1, h2, h3⟩ := h.rest c T hc
    obtain ⟨c'', k1, k2, k3⟩ := k.rest c' T h1
    exact ⟨c'', k1, k2.trans h2, fun j hj => (k3 j hj).trans (h3 j hj)⟩
theorem Step.ofChg (h : Chg (fun _ => False) w w') : Step w w' b o n F F :=
  ⟨h.mono (fun _ _ x => x.elim), fun _ x => .inl x, fun c T hc => ⟨c, h.keep hc (fun x => x), rfl, fun _ _ => rfl⟩⟩
theorem Step.drew (h : Step w.drew w' b o n F F') : Step w w' b o n F F' := ⟨h.chg.ofDrew, h.new, h.rest⟩
theorem Step.drewR (h : Step w w' b o n F F') : Step w w'.drew b o n F F' := ⟨h.chg.drewR, h.new, h.rest⟩
theorem Step.sub {G : List Nat} (h : Step w w' b o n F F') (hs : ∀ k ∈ F, k ∈ G) (hn : ∀ k ∈ F', k ∈ G ∨ w.heap.size ≤ k → True) {G' : List Nat} (hg : ∀ k ∈ G', k ∈ F' ∨ k ∈ G) : Step w w' b o n G G' := by
  refine ⟨h.chg.mono (fun i _ x => x.imp id (hs i)), fun k hk => ?_, h.rest⟩
  rcases hg k hk with x | x
  · exact (h.new k x).imp (hs k) id
  · exact .inl x
end

section
variable {α β : Type} {A : Rep α} {B : Rep β} {w w' : World} {b o : Nat} {a : α} {F : List Nat}
theorem Here.size (h : Here A w b o a F) : ∃ c T, w.heap[b]? = some (.cells c T (0, 0)) ∧ A.own w ((c.toList.drop o).take A.n) a F ∧ o + A.n ≤ c.size ∨ A.n = 0 := by
  obtain ⟨c, T, h1, h2⟩ := h.box
  have := A.len h2
  simp only [List.length_take, List.length_drop, Array.length_toList] at this
  exact ⟨c, T, by by_cases h0 : A.n = 0; exact .inr h0; exact .inl ⟨h1, h2, by omega⟩⟩
theorem Here.chg {S : Nat → Prop} (h : Here A w b o a F) (hc : Chg S w w') (hb : ¬ S b) (hn : ∀ k ∈ F, ¬ S k) : Here A w' b o a F := by
  obtain ⟨c, T, h1, h2⟩ := h.box
  exact ⟨⟨c, T, hc.keep h1 hb, A.chg h2 hc hn⟩, h.nb, h.nd⟩
theorem Here.still (h : Here A w b o a F) (hc : Chg (fun _ => False) w w') : Here A w' b o a F := h.chg hc (fun x => x) (fun _ _ x => x)
theorem Here.drew (h : Here A w b o a F) : Here A w.drew b o a F := h.still ((Chg.refl _ w).drewR)
theorem Here.alloc (h : Here A w b o a F) (ob : Obj) : Here A (w.alloc ob) b o a F := h.still (Chg.alloc _ w ob)
theorem Here.lt (h : Here A w b o a F) : b < w.heap.size ∧ ∀ k ∈ F, k < w.heap.size := by
  obtain ⟨c, T, h1, h2⟩ := h.box
  exact ⟨lt_of_block h1, A.lt h2⟩
/-- Another thing, apart from what an operation changed. -/
theorem Here.apart {γ : Type} {C : Rep γ} {b' o' : Nat} {x : γ} {G F' : List Nat} {n : Nat} (h : Here C w b' o' x G) (hs : Step w w' b o n F F') (h1 : b' ≠ b) (h2 : b' ∉ F) (h3 : b ∉ G) (h4 : ∀ k ∈ G, k ∉ F) : Here C w' b' o' x G :=
  h.chg hs.chg (fun x => x.elim h1 h2) (fun k hk x => x.elim (fun e => h3 (e ▸ hk)) (h4 k hk))

theorem take_drop_get {l : List Value} {o n j : Nat} (hj : j < n) : ((l.drop o).take n)[j]? = l[o + j]? := by
  rw [List.getElem?_take, if_pos hj, List.getElem?_drop]
/-- The cells of what lies at a place. -/
theorem Here.cell (h : Here A w b o a F) : ∃ cs, A.own w cs a F ∧ ∀ j u, cs[j]? = some u → w.cell? ⟨b, o + j, none⟩ = some u := by
  obtain ⟨c, T, h1, h2⟩ := h.box
  refine ⟨_, h2, fun j u hu => cell_of_block h1 ?_⟩
  have hj : j < A.n := by
    have h3 := (List.getElem?_eq_some_iff.1 hu).1
    rw [A.len h2] at h3; exact h3
  rw [take_drop_get hj] at hu
  simpa using hu
theorem Here.frozen (h : Here A w b o a F) (j : Nat) : w.frozen? ⟨b, j, none⟩ = false := by
  obtain ⟨c, T, h1, h2⟩ := h.box
  exact frozen_of_block h1

/-- The n cells at o of an array replaced. -/
theorem drop_take_split (l : List Value) (o n : Nat) : l = l.take o ++ (l.drop o).take n ++ l.drop (o + n) := by
  rw [List.append_assoc, ← List.drop_drop, List.take_append_drop, List.take_append_drop]

theorem ext_rest {c c' : Array Value} {o k m n : Nat} (hs : c'.size = c.size) (hk : k + m ≤ n) (hn : o + n ≤ c.size) (h : ∀ j, j < o + k ∨ o + k + m ≤ j → c'[j]? = c[j]?) :
    (c'.toList.drop o).take n = ((c.toList.drop o).take n).take k ++ (c'.toList.drop (o + k)).take m ++ ((c.toList.drop o).take n).drop (k + m) := by
  have e : ∀ (j : Nat), c'.toList[j]? = c'[j]? := fun j => by simp
  have e' : ∀ (j : Nat), c.toList[j]? = c[j]? := fun j => by simp
  refine List.ext_getElem? fun j => ?_
  by_cases h1 : j < k
  · rw [List.getElem?_append_left (by simp; omega), List.getElem?_append_left (by simp; omega), take_drop_get (by omega), List.getElem?_take, if_pos h1, take_drop_get (by omega), e, e', h _ (by omega)]
  · by_cases h2 : j < k + m
    · rw [List.getElem?_append_left (by simp; omega), List.getElem?_append_right (by simp; omega), take_drop_get (by omega)]
      have hl : (List.take k (List.take n (List.drop o c.toList))).length = k := by simp; omega
      rw [hl, take_drop_get (by omega), show o + k + (j - k) = o + j from by omega]
    · have hl : (List.take k (List.take n (List.drop o c.toList)) ++ List.take m (List.drop (o + k) c'.toList)).length = k + m := by simp; omega
      rw [List.getElem?_append_right (by rw [hl]; omega), hl, List.getElem?_drop, show k + m + (j - (k + m)) = j from by omega]
      by_cases h3 : j < n
      · rw [take_drop_get h3, take_drop_get h3, e, e', h _ (by omega)]
      · rw [List.getElem?_take, if_neg h3, List.getElem?_take, if_neg h3]

/-- A field: it lies there, and when it has been changed the whole lies there. -/
theorem Here.fieldX {k : Nat} {get : α → β} {set : α → β → α} (fl : FieldOf A B k get set) (hA : 0 < A.n) (h : Here A w b o a F) :
    ∃ G, Here B w b (o + k) (get a) G ∧ (∀ x ∈ G, x ∈ F) ∧ ∀ w' y G', Here B w' b (o + k) y G' → Step w w' b (o + k) B.n G G' → ∃ F', Here A w' b o (set a y) F' ∧ Step w w' b o A.n F F' ∧ ∀ x ∈ F', x ∈ G' ∨ (x ∈ F ∧ x ∉ G) := by
  obtain ⟨c, T, h1, h2⟩ := h.box
  obtain ⟨F1, F2, F3, rfl, h4, h5⟩ := fl.split h2
  have hl := A.len h2
  have hfit := fl.fits
  simp only [List.length_take, List.length_drop, Array.length_toList] at hl
  have hnd := h.nd
  have hnb := h.nb
  simp only [List.nodup_append, List.mem_append, not_or] at hnd hnb
  have hcs : (List.take B.n (List.drop k (List.take A.n (List.drop o c.toList)))) = (c.toList.drop (o + k)).take B.n := by
    refine List.ext_getElem? fun j => ?_
    by_cases hj : j < B.n
    · rw [take_drop_get hj, take_drop_get hj, take_drop_get (by omega)]; congr 1; omega
    · rw [List.getElem?_take, if_neg hj, List.getElem?_take, if_neg hj]
  rw [hcs] at h4
  refine ⟨F2, ⟨⟨c, T, h1, h4⟩, hnb.1.2, hnd.1.2.1⟩, fun x hx => by simp [hx], ?_⟩
  intro w' y G' hy hs
  obtain ⟨c', q1, q2, q3⟩ := hs.rest c T h1
  obtain ⟨c2, T2, r1, r2⟩ := hy.box
  rw [q1] at r1
  simp only [Option.some.injEq, Obj.cells.injEq] at r1
  obtain ⟨rfl, rfl, _⟩ := r1
  have hkeep : ∀ x ∈ F1 ++ F3, ∀ ob, w.heap[x]? = some ob → w'.heap[x]? = some ob := by
    intro x hx ob ho
    rw [List.mem_append] at hx
    refine hs.chg.keep ho ?_
    rintro (e | e)
    · subst e; exact hx.elim hnb.1.1 hnb.2
    · rcases hx with hx | hx
      · exact hnd.1.2.2 x hx x e rfl
      · exact hnd.2.2 x (.inr e) x hx rfl
  have hown := h5 w' _ y G' hkeep r2
  refine ⟨F1 ++ G' ++ F3, ⟨⟨c', T, q1, ?_⟩, ?_, ?_⟩, ⟨?_, ?_, ?_⟩, ?_⟩
  · rw [ext_rest (m := B.n) q2 hfit (by omega) q3]; exact hown
  · simp only [List.mem_append, not_or]; exact ⟨⟨hnb.1.1, hy.nb⟩, hnb.2⟩
  · have hlt := A.lt h2
    have hG : ∀ x ∈ G', x ∉ F1 ∧ x ∉ F3 := by
      intro x hx
      rcases hs.new x hx with e | e
      · exact ⟨fun z => hnd.1.2.2 x z x e rfl, fun z => hnd.2.2 x (.inr e) x z rfl⟩
      · exact ⟨fun z => by have := hlt x (by simp [z]); omega, fun z => by have := hlt x (by simp [z]); omega⟩
    simp only [List.nodup_append, List.mem_append]
    refine ⟨⟨hnd.1.1, hy.nd, fun x hx z hz e => (hG z hz).1 (e ▸ hx)⟩, hnd.2.1, ?_⟩
    rintro x (hx | hx) z hz rfl
    · exact hnd.2.2 x (.inl hx) x hz rfl
    · exact (hG x hx).2 hz
  · exact hs.chg.mono fun i _ x => x.imp id (fun e => by simp [e])
  · intro x hx
    simp only [List.mem_append] at hx ⊢
    rcases hx with (hx | hx) | hx
    · exact .inl (.inl (.inl hx))
    · exact (hs.new x hx).imp (fun e => .inl (.inr e)) id
    · exact .inl (.inr hx)
  · intro d U hd
    rw [h1] at hd
    simp only [Option.some.injEq, Obj.cells.injEq] at hd
    obtain ⟨rfl, rfl, _⟩ := hd
    exact ⟨c', q1, q2, fun j hj => q3 j (by omega)⟩
  · intro x hx
    simp only [List.mem_append] at hx ⊢
    rcases hx with (hx | hx) | hx
    · exact .inr ⟨.inl (.inl hx), fun z => hnd.1.2.2 x hx x z rfl⟩
    · exact .inl hx
    · exact .inr ⟨.inr hx, fun z => hnd.2.2 x (.inr z) x hx rfl⟩
theorem Here.field {k : Nat} {get : α → β} {set : α → β → α} (fl : FieldOf A B k get set) (hA : 0 < A.n) (h : Here A w b o a F) :
    ∃ G, Here B w b (o + k) (get a) G ∧ (∀ x ∈ G, x ∈ F) ∧ ∀ w' y G', Here B w' b (o + k) y G' → Step w w' b (o + k) B.n G G' → ∃ F', Here A w' b o (set a y) F' ∧ Step w w' b o A.n F F' := by
  obtain ⟨G, h1, h2, h3⟩ := h.fieldX fl hA
  refine ⟨G, h1, h2, fun w' y G' hy hs => ?_⟩
  obtain ⟨F', p, q, _⟩ := h3 w' y G' hy hs
  exact ⟨F', p, q⟩

/-- A value stored into the one cell of a thing: what was behind it may have changed before. -/
theorem Here.put {x y : β} {G G' : List Nat} {w2 : World} {v : Value} (h : Here B w b o x G) (hn : B.n = 1) (hc : Chg (fun k => k ∈ G) w w2) (hy : B.own w2 [v] y G') (nd : G'.Nodup) (new : ∀ k ∈ G', k ∈ G ∨ w.heap.size ≤ k) :
    Here B (w2.setCell ⟨b, o, none⟩ v) b o y G' ∧ Step w (w2.setCell ⟨b, o, none⟩ v) b o 1 G G' := by
  obtain ⟨c, T, h1, h2⟩ := h.box
  have hl := B.len h2
  rw [hn] at hl h2
  simp only [List.length_take, List.length_drop, Array.length_toList] at hl
  have hb : b < w.heap.size := lt_of_block h1
  have nb : b ∉ G' := fun hx => (new b hx).elim h.nb (fun e => by omega)
  have h3 := setCell_block (i := o) v (hc.keep h1 h.nb)
  refine ⟨⟨⟨_, T, h3, ?_⟩, nb, nd⟩, ⟨?_, new, ?_⟩⟩
  · rw [hn]
    have : (((c.setIfInBounds o v).toList.drop o).take 1) = [v] := by
      have e1 : (c.setIfInBounds o v).toList = c.toList.set o v := by simp
      rw [e1]
      refine List.ext_getElem? fun j => ?_
      match j with
      | 0 => rw [take_drop_get (by omega), Nat.add_zero, List.getElem?_set_self (by simp; omega)]; rfl
      | j + 1 => rw [List.getElem?_take, if_neg (by omega)]; rfl
    rw [this]
    exact B.chg hy (Chg.setCell w2 ⟨b, o, none⟩ v) (fun k hk e => nb (by have e' : k = b := e; rwa [e'] at hk))
  · exact (hc.mono (S' := fun k => k = b ∨ k ∈ G) (fun _ _ x => .inr x)).setCellR _ _ (fun _ => .inl rfl)
  · intro d U hd
    have h4 := hc.keep hd h.nb
    refine ⟨_, setCell_block (i := o) v h4, by simp, fun j hj => ?_⟩
    rw [Array.getElem?_setIfInBounds, if_neg (by omega)]
/-- A scalar stored. -/
theorem Here.set {f : β → List Value} {hf : ∀ a, (f a).length = 1} {x y : β} {G : List Nat} {v : Value} (h : Here (Rep.flat 1 f hf) w b o x G) (hv : f y = [v]) :
    Here (Rep.flat 1 f hf) (w.setCell ⟨b, o, none⟩ v) b o y G ∧ Step w (w.setCell ⟨b, o, none⟩ v) b o 1 G G := by
  obtain ⟨c, T, h1, h2⟩ := h.box
  have hG := h2.2
  exact h.put rfl (.refl _ _) ⟨hv.symm, hG⟩ h.nd (fun _ x => .inl x)

/-- The elements of a row. -/
theorem Here.elemX {e : TypeId} {l : List α} (h : Here (A.row e) w b o l F) (hl : 0 < l.length) :
    ∃ g off cap, w.cell? ⟨b, o, none⟩ = some (.slice (some ⟨g, off, none⟩) l.length cap) ∧ l.length ≤ cap ∧ cap ≤ maxLen ∧ g ≠ b ∧ g ∈ F ∧
      ∀ i (hi : i < l.length), ∃ G, Here A w g (off + i * A.n) l[i] G ∧ (∀ x ∈ G, x ∈ F) ∧
        ∀ w' y G', Here A w' g (off + i * A.n) y G' → Step w w' g (off + i * A.n) A.n G G' → ∃ F', Here (A.row e) w' b o (l.set i y) F' ∧ Step w w' b o 1 F F' ∧ ∀ x ∈ F', x ∈ G' ∨ (x ∈ F ∧ x ∉ G) := by
  obtain ⟨c, T, h1, v, xs, Fs, hv, hrow, hE, rfl⟩ := h.box
  obtain ⟨g, off, cap, rfl, k1, k2⟩ := hrow.addr hl
  have hcell : c.toList[o]? = some (.slice (some ⟨g, off, none⟩) l.length cap) := by
    have := congrArg (fun l => l[0]?) hv
    simp only [List.getElem?_cons_zero] at this
    rw [take_drop_get (by show 0 < 1; decide)] at this
    simpa using this
  have hnd := h.nd
  have hnb := h.nb
  rw [ownL_some] at hnd hnb ⊢
  simp only [List.singleton_append, List.nodup_cons, List.mem_cons, not_or] at hnd hnb ⊢
  refine ⟨g, off, cap, cell_of_block h1 (by simpa using hcell), k1, k2, fun e => hnb.1 e.symm, .inl rfl, ?_⟩
  intro i hi
  obtain ⟨x, G, xa, xb, Fa, Fb, q1, rfl, q3, rfl, q5⟩ := hE.at i hi
  obtain ⟨_, hr⟩ := hrow
  have hflat := hE.flat
  rcases hr with ⟨hv', _⟩ | ⟨g', off', cap', cur, hv', hg, _, _, hsz, hcur⟩
  · simp at hv'
  simp only [Value.slice.injEq, Option.some.injEq, Addr.mk.injEq, true_and] at hv'
  obtain ⟨⟨rfl, rfl, _⟩, rfl⟩ := hv'
  have hxl := A.len q1
  have hxa : xa.flatten.length = i * A.n := by
    have := (hE.length).1
    clear hcur hflat
    have h0 : ∀ (ys : List (List Value)) (zs : List α) (Gs : List (List Nat)), Each A w ys zs Gs → ∀ m, (ys.take m).flatten.length = (ys.take m).length * A.n := by
      intro ys zs Gs hh
      induction hh with
      | nil => intro m; simp
      | cons a1 _ ih => 
        intro m
        cases m with
        | zero => simp
        | succ m => rw [List.take_succ_cons, List.flatten_cons, List.length_append, ih m, A.len a1, List.length_cons, Nat.add_mul]; omega
    have h1 := h0 _ _ _ hE i
    rw [← q3, List.take_left] at h1
    rw [h1, q3]
  have hmul : (i + 1) * A.n ≤ l.length * A.n := Nat.mul_le_mul_right _ hi
  have hmul2 : l.length * A.n ≤ cap * A.n := Nat.mul_le_mul_right _ k1
  rw [Nat.add_mul, Nat.one_mul] at hmul
  have hx : (cur.toList.drop (off + i * A.n)).take A.n = x := by
    have e1 := congrArg (fun z => (z.drop (i * A.n)).take A.n) hcur
    simp only [List.flatten_append, List.flatten_cons] at e1
    rw [← hxa, List.drop_left, hxa, ← hxl, List.take_left, hxl] at e1
    rw [← e1]
    refine List.ext_getElem? fun j => ?_
    by_cases hj : j < A.n
    · rw [take_drop_get hj, take_drop_get hj, take_drop_get (by omega)]; congr 1; omega
    · rw [List.getElem?_take, if_neg hj, List.getElem?_take, if_neg hj]
  have hmem : ∀ z, z ∈ G → z ∈ (Fa ++ G :: Fb).flatten := fun z hz => by simp [hz]
  have hG : G.Nodup ∧ (∀ z ∈ G, z ∉ Fa.flatten ++ Fb.flatten) ∧ (Fa.flatten ++ Fb.flatten).Nodup := by
    have := hnd.2
    simp only [List.flatten_append, List.flatten_cons, List.nodup_append, List.mem_append] at this ⊢
    exact ⟨this.2.1.1, fun z hz hh => hh.elim (fun y => this.2.2 z y z (.inl hz) rfl) (fun y => this.2.1.2.2 z hz z y rfl), this.1, this.2.1.2.1, fun a ha b hb => this.2.2 a ha b (.inr hb)⟩
  refine ⟨G, ⟨⟨cur, e, hg, by rw [hx]; exact q1⟩, fun hh => hnd.1 (hmem _ hh), hG.1⟩, fun z hz => .inr (hmem z hz), ?_⟩
  intro w' y G' hy hs
  obtain ⟨cur', p1, p2, p3⟩ := hs.rest cur e hg
  obtain ⟨d, U, r1, r2⟩ := hy.box
  rw [p1] at r1
  simp only [Option.some.injEq, Obj.cells.injEq] at r1
  obtain ⟨rfl, rfl, _⟩ := r1
  have hgF : g ∉ Fa.flatten ++ Fb.flatten := fun hh => hnd.1 (by simp only [List.flatten_append, List.flatten_cons, List.mem_append] at hh ⊢; exact hh.imp id .inr)
  have hbg : b ≠ g := hnb.1
  have hbF : b ∉ (Fa ++ G :: Fb).flatten := hnb.2
  have hlt := hE.lt
  have hglt := lt_of_block hg
  have hblt := lt_of_block h1
  have hkeep : ∀ k ∈ Fa.flatten ++ Fb.flatten, ∀ ob, w.heap[k]? = some ob → w'.heap[k]? = some ob := by
    intro k hk ob ho
    refine hs.chg.keep ho ?_
    rintro (x | x)
    · exact hgF (x ▸ hk)
    · exact hG.2.1 k x hk
  have hE' := q5 w' _ y G' hkeep r2
  have hboxb : w'.heap[b]? = some (.cells c T (0, 0)) := hs.chg.keep h1 (fun x => x.elim hbg (fun y => hbF (hmem _ y)))
  have hG' : ∀ z ∈ G', z ∉ Fa.flatten ++ Fb.flatten := by
    intro z hz hh
    rcases hs.new z hz with x | x
    · exact hG.2.1 z x hh
    · have := hlt z (by simp only [List.flatten_append, List.flatten_cons, List.mem_append] at hh ⊢; exact hh.imp id .inr)
      omega
  refine ⟨g :: (Fa ++ G' :: Fb).flatten, ⟨⟨c, T, hboxb, .slice (some ⟨g, off, none⟩) l.length cap, _, _, hv, ?_, hE', by simp [ownL_some]⟩, ?_, ?_⟩, ⟨?_, ?_, ?_⟩, ?_⟩
  · refine ⟨by rw [hE'.flat], .inr ⟨g, off, cap, cur', by simp, p1, by simpa using k1, k2, by rw [p2]; exact hsz, ?_⟩⟩
    rw [List.length_set]
    have e1 := ext_rest (k := i * A.n) (m := A.n) (n := l.length * A.n) (o := off) p2 hmul (by omega) p3
    rw [e1, hcur]
    simp only [List.flatten_append, List.flatten_cons]
    rw [List.take_left' hxa, ← List.append_assoc, List.append_assoc]
    congr 1
    congr 1
    rw [← List.drop_drop, List.append_assoc, ← hxa, List.drop_left, ← hxl, List.drop_left]
  · simp only [List.mem_cons, not_or]
    refine ⟨hbg, fun hh => ?_⟩
    simp only [List.flatten_append, List.flatten_cons, List.mem_append] at hh hbF
    rcases hh with hh | hh | hh
    · exact hbF (.inl hh)
    · rcases hs.new b hh with x | x
      · exact hbF (.inr (.inl x))
      · omega
    · exact hbF (.inr (.inr hh))
  · simp only [List.nodup_cons]
    refine ⟨fun hh => ?_, ?_⟩
    · simp only [List.flatten_append, List.flatten_cons, List.mem_append] at hh hgF
      rcases hh with hh | hh | hh
      · exact hgF (.inl hh)
      · exact hy.nb hh
      · exact hgF (.inr hh)
    · have h3 := hG.2.2
      simp only [List.flatten_append, List.flatten_cons, List.nodup_append, List.mem_append] at h3 ⊢
      refine ⟨h3.1, ⟨hy.nd, h3.2.1, fun a ha b hb e => hG' a ha (List.mem_append_right _ (e ▸ hb))⟩, ?_⟩
      rintro a ha b (hb | hb) e
      · exact hG' b hb (List.mem_append_left _ (e ▸ ha))
      · exact h3.2.2 a ha b hb e
  · refine hs.chg.mono fun k hk x => ?_
    rcases x with x | x
    · exact .inr (by simp [x])
    · exact .inr (List.mem_cons_of_mem _ (hmem k x))
  · intro k hk
    simp only [List.flatten_append, List.flatten_cons, List.mem_append, List.mem_cons] at hk ⊢
    rcases hk with hk | hk | hk | hk
    · exact .inl (.inl hk)
    · exact .inl (.inr (.inl hk))
    · rcases hs.new k hk with x | x
      · exact .inl (.inr (.inr (.inl x)))
      · exact .inr x
    · exact .inl (.inr (.inr (.inr hk)))
  · intro d U hd
    exact ⟨d, hs.chg.keep hd (fun x => x.elim hbg (fun y => hbF (hmem _ y))), rfl, fun _ _ => rfl⟩
  · intro k hk
    have hgG : g ∉ G := fun x => hnd.1 (hmem g x)
    simp only [List.flatten_append, List.flatten_cons, List.mem_append, List.mem_cons] at hk ⊢
    rcases hk with hk | hk | hk | hk
    · exact .inr ⟨.inl hk, hk ▸ hgG⟩
    · exact .inr ⟨.inr (.inl hk), fun z => hG.2.1 k z (List.mem_append_left _ hk)⟩
    · exact .inl hk
    · exact .inr ⟨.inr (.inr (.inr hk)), fun z => hG.2.1 k z (List.mem_append_right _ hk)⟩
theorem Here.elem {e : TypeId} {l : List α} (h : Here (A.row e) w b o l F) (hl : 0 < l.length) :
    ∃ g off cap, w.cell? ⟨b, o, none⟩ = some (.slice (some ⟨g, off, none⟩) l.length cap) ∧ l.length ≤ cap ∧ cap ≤ maxLen ∧ g ≠ b ∧ g ∈ F ∧
      ∀ i (hi : i < l.length), ∃ G, Here A w g (off + i * A.n) l[i] G ∧ (∀ x ∈ G, x ∈ F) ∧
        ∀ w' y G', Here A w' g (off + i * A.n) y G' → Step w w' g (off + i * A.n) A.n G G' → ∃ F', Here (A.row e) w' b o (l.set i y) F' ∧ Step w w' b o 1 F F' := by
  obtain ⟨g, off, cap, h1, h2, h3, h4, h5, h6⟩ := h.elemX hl
  refine ⟨g, off, cap, h1, h2, h3, h4, h5, fun i hi => ?_⟩
  obtain ⟨G, k1, k2, k3⟩ := h6 i hi
  refine ⟨G, k1, k2, fun w' y G' hy hs => ?_⟩
  obtain ⟨F', p, q, _⟩ := k3 w' y G' hy hs
  exact ⟨F', p, q⟩
end
end Go.Proofs.YthiiehanlconeaaDoor
