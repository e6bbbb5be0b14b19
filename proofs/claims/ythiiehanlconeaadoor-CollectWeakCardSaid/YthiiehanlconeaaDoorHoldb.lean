/-
  Rows behind a place: opened, lengthened; plain kinds of data.
-/
import Derived.Test.YthiiehanlconeaaDoorHold
namespace Go.Proofs.YthiiehanlconeaaDoor
open Go.RowKit
set_option linter.unusedVariables false

def Rep.str : Rep ByteArray := Rep.flat 1 (fun s => [.string s]) (fun _ => rfl)
def Rep.bool : Rep Bool := Rep.flat 1 (fun s => [.bool s]) (fun _ => rfl)
def Rep.int (k : IntKind) : Rep Int := Rep.flat 1 (fun s => [.int k s]) (fun _ => rfl)
theorem flatMap_one {α β : Type} (f : α → β) (l : List α) : (l.flatMap fun a => [f a]) = l.map f := by induction l <;> simp_all

/-- A row opened: its value, the cells of its elements, what is behind them. -/
structure RowOpen {α : Type} (A : Rep α) (e : TypeId) (w : World) (v : Value) (l : List α) (F : List Nat) (xs : List (List Value)) (Fs : List (List Nat)) : Prop where
  row : RowAt w e A.n v l.length xs.flatten
  each : Each A w xs l Fs
  fp : F = ownL v ++ Fs.flatten
section
variable {α : Type} {A : Rep α} {e : TypeId} {w w1 w2 : World} {v v2 : Value} {b o : Nat} {l m : List α} {F : List Nat} {xs ys : List (List Value)} {Fs Gs : List (List Nat)}
theorem Rep.opened (h : (A.row e).own w [v] l F) : ∃ xs Fs, RowOpen A e w v l F xs Fs := by
  obtain ⟨v', xs, Fs, hv, h1, h2, h3⟩ := h
  simp only [List.cons.injEq, and_true] at hv
  subst hv
  exact ⟨xs, Fs, h1, h2, h3⟩
theorem RowOpen.own (h : RowOpen A e w v l F xs Fs) : (A.row e).own w [v] l F := ⟨v, xs, Fs, rfl, h.row, h.each, h.fp⟩
theorem RowOpen.keep (h : RowOpen A e w v l F xs Fs) {S : Nat → Prop} (hc : Chg S w w1) (hn : ∀ k ∈ F, ¬ S k) : RowOpen A e w1 v l F xs Fs := by
  refine ⟨h.row.chg hc (fun k hk => hn k ?_), h.each.keep (hc.keepAll fun k hk => hn k ?_), h.fp⟩
  · rw [h.fp]; exact List.mem_append_left _ (mem_ownL.2 hk)
  · rw [h.fp]; exact List.mem_append_right _ hk
theorem RowOpen.still (h : RowOpen A e w v l F xs Fs) (hc : Chg (fun _ => False) w w1) : RowOpen A e w1 v l F xs Fs := h.keep hc (fun _ _ x => x)
theorem Here.openRow (h : Here (A.row e) w b o l F) : ∃ v xs Fs, w.cell? ⟨b, o, none⟩ = some v ∧ RowOpen A e w v l F xs Fs := by
  obtain ⟨cs, h1, h2⟩ := h.cell
  obtain ⟨v, xs, Fs, rfl, h3, h4, h5⟩ := h1
  exact ⟨v, xs, Fs, h2 0 v rfl, h3, h4, h5⟩
theorem own_le_one (v : Value) : (ownL v).Nodup := by
  unfold ownL
  cases v.ownBlock <;> simp
/-- Elements put behind: they lie in blocks of this call. -/
theorem RowOpen.pushAll (h : RowOpen A e w v l F xs Fs) (hH : Here (A.row e) w b o l F) (h1 : Chg (fun _ => False) w w1) (hx : Each A w1 ys m Gs) (hG : ∀ k ∈ Gs.flatten, w.heap.size ≤ k) (hGn : Gs.flatten.Nodup)
    (hr : RowAt w2 e A.n v2 (l.length + m.length) (xs.flatten ++ ys.flatten)) (hc : Chg (fun k => v.ownBlock = some k) w1 w2) (hold : ∀ k, v2.ownBlock = some k → v.ownBlock = some k ∨ w1.heap.size ≤ k) :
    ∃ F', Here (A.row e) (w2.setCell ⟨b, o, none⟩ v2) b o (l ++ m) F' ∧ Step w (w2.setCell ⟨b, o, none⟩ v2) b o 1 F F' := by
  have hfp := h.fp
  have hlt := (hH.lt).2
  have hnd := hH.nd
  rw [hfp] at hlt hnd
  simp only [List.nodup_append, List.mem_append] at hlt hnd
  have hvlt : ∀ k, v.ownBlock = some k → k < w.heap.size := fun k hk => hlt k (.inl (mem_ownL.2 hk))
  have hsz := h1.size
  have hx2 := hx.keep (w' := w2) (hc.keepAll fun k hk e => by have := hG k hk; have := hvlt k e; omega)
  have he2 := (h.each.keep (h1.keepAll fun _ _ x => x)).keep (w' := w2) (hc.keepAll fun k hk e => hnd.2.2 k (mem_ownL.2 e) k hk rfl)
  have hGlt := hx.lt
  refine ⟨_, hH.put (G' := ownL v2 ++ (Fs ++ Gs).flatten) rfl ?_ ⟨v2, xs ++ ys, Fs ++ Gs, rfl, ?_, he2.append hx2, rfl⟩ ?_ ?_⟩
  · rw [hfp]
    exact h1.trans hc (fun _ _ x => x.elim) (fun i _ x => List.mem_append_left _ (mem_ownL.2 x))
  · rw [List.length_append, List.flatten_append]; exact hr
  · simp only [List.flatten_append, List.nodup_append, List.mem_append]
    refine ⟨own_le_one _, ⟨hnd.2.1, hGn, ?_⟩, ?_⟩
    · rintro a ha b hb rfl
      have := hlt a (.inr ha); have := hG a hb; omega
    · rintro a ha b hb rfl
      have ha' := hold a (mem_ownL.1 ha)
      rcases hb with hb | hb
      · rcases ha' with x | x
        · exact hnd.2.2 a (mem_ownL.2 x) a hb rfl
        · have := hlt a (.inr hb); omega
      · rcases ha' with x | x
        · have := hvlt a x; have := hG a hb; omega
        · have := hGlt a hb; omega
  · intro k hk
    rw [hfp]
    simp only [List.flatten_append, List.mem_append] at hk ⊢
    rcases hk with hk | hk | hk
    · rcases hold k (mem_ownL.1 hk) with x | x
      · exact .inl (.inl (mem_ownL.2 x))
      · exact .inr (Nat.le_trans hsz x)
    · exact .inl (.inr hk)
    · exact .inr (hG k hk)
theorem RowOpen.push {x : List Value} {a : α} {G : List Nat} (h : RowOpen A e w v l F xs Fs) (hH : Here (A.row e) w b o l F) (h1 : Chg (fun _ => False) w w1) (hx : A.own w1 x a G) (hG : ∀ k ∈ G, w.heap.size ≤ k) (hGn : G.Nodup)
    (hr : RowAt w2 e A.n v2 (l.length + 1) (xs.flatten ++ x)) (hc : Chg (fun k => v.ownBlock = some k) w1 w2) (hold : ∀ k, v2.ownBlock = some k → v.ownBlock = some k ∨ w1.heap.size ≤ k) :
    ∃ F', Here (A.row e) (w2.setCell ⟨b, o, none⟩ v2) b o (l ++ [a]) F' ∧ Step w (w2.setCell ⟨b, o, none⟩ v2) b o 1 F F' :=
  h.pushAll (ys := [x]) (m := [a]) (Gs := [G]) hH h1 (.cons hx .nil) (by simpa using hG) (by simpa using hGn) (by simpa using hr) hc hold
/-- The cells of an element. -/
theorem RowOpen.at (h : RowOpen A e w v l F xs Fs) (hl : 0 < l.length) : ∃ g off cap, v = .slice (some ⟨g, off, none⟩) l.length cap ∧ l.length ≤ cap ∧ cap ≤ maxLen ∧ g < w.heap.size ∧ g ∈ F ∧
    ∀ i (hi : i < l.length), ∃ x G, A.own w x l[i] G ∧ (∀ k ∈ G, k ∈ F) ∧ ∀ j u, x[j]? = some u → w.cell? ⟨g, off + i * A.n + j, none⟩ = some u := by
  obtain ⟨g, off, cap, rfl, k1, k2⟩ := h.row.addr hl
  refine ⟨g, off, cap, rfl, k1, k2, h.row.lt g rfl, by rw [h.fp]; simp [ownL_some], ?_⟩
  intro i hi
  obtain ⟨x, G, xa, xb, Fa, Fb, q1, q2, q3, q4, _⟩ := h.each.at i hi
  refine ⟨x, G, q1, fun k hk => by rw [h.fp, q4]; simp [hk], fun j u hu => ?_⟩
  have hj : j < A.n := by
    have := (List.getElem?_eq_some_iff.1 hu).1
    rw [A.len q1] at this; exact this
  have hxa : xa.flatten.length = i * A.n := by
    have h0 : ∀ (ys : List (List Value)) (zs : List α) (Gs : List (List Nat)), Each A w ys zs Gs → ∀ m, (ys.take m).flatten.length = (ys.take m).length * A.n := by
      intro ys zs Gs hh
      induction hh with
      | nil => intro m; simp
      | cons a1 _ ih =>
        intro m
        cases m with
        | zero => simp
        | succ m => rw [List.take_succ_cons, List.flatten_cons, List.length_append, ih m, A.len a1, List.length_cons, Nat.add_mul]; omega
    have h1 := h0 _ _ _ h.each i
    rw [q2, ← q3, List.take_left] at h1
    rw [h1, q3]
  rw [Nat.add_assoc]
  refine h.row.cellAt (i * A.n + j) u ?_
  rw [q2, List.flatten_append, List.flatten_cons, List.getElem?_append_right (by omega), hxa, show i * A.n + j - i * A.n = j from by omega, List.getElem?_append_left (by rw [A.len q1]; exact hj)]
  exact hu
theorem RowOpen.val (h : RowOpen A e w v l F xs Fs) : ∃ a cap, v = .slice a l.length cap ∧ l.length ≤ cap ∧ cap ≤ maxLen := h.row.slice
end
section
variable {α : Type} {n : Nat} {f : α → List Value} {hf : ∀ a, (f a).length = n} {e : TypeId} {w : World} {v : Value} {l : List α} {F : List Nat} {xs : List (List Value)} {Fs : List (List Nat)}
theorem RowOpen.flat (h : RowOpen (Rep.flat n f hf) e w v l F xs Fs) : RowAt w e n v l.length (l.flatMap f) ∧ xs.flatten = l.flatMap f ∧ F = ownL v := by
  obtain ⟨a, b⟩ := each_flat h.each
  have := h.row
  rw [a] at this
  exact ⟨this, a, by rw [h.fp, b, List.append_nil]⟩
end
theorem ofRow_flat {α : Type} {n : Nat} {f : α → List Value} {hf : ∀ a, (f a).length = n} {e : TypeId} {w : World} {v : Value} {l : List α} (h : RowAt w e n v l.length (l.flatMap f)) : ((Rep.flat n f hf).row e).own w [v] l (ownL v) :=
  row_flat.2 ⟨v, rfl, h, rfl⟩
/-- A thing of one's own, just made. -/
theorem Here.made {α : Type} {A : Rep α} (w : World) (T : TypeId) (cs : List Value) (a : α) (F : List Nat) (h : A.own w cs a F) (hnd : F.Nodup) : Here A (w.alloc (.cells cs.toArray T)) w.heap.size 0 a F := by
  have hl := A.len h
  refine ⟨⟨cs.toArray, T, alloc_block w _, ?_⟩, fun hh => absurd (A.lt h _ hh) (by omega), hnd⟩
  simp only [List.drop_zero, ← hl, List.take_length]
  exact A.chg h (Chg.alloc (fun _ => False) w _) (fun _ _ x => x)
end Go.Proofs.YthiiehanlconeaaDoor
