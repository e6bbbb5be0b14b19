/-
  A slice of one's own that lies in a temporary (not behind a place): its elements, and how they are replaced.
-/
import Derived.Test.YthiiehanlconeaaDoorHoldd
namespace Go.Proofs.YthiiehanlconeaaDoor
open Go.RowKit
set_option linter.unusedVariables false

/-- The value v is a slice that owns its block, and what is behind it. -/
structure Row {α : Type} (A : Rep α) (e : TypeId) (w : World) (v : Value) (l : List α) (F : List Nat) : Prop where
  own : (A.row e).own w [v] l F
  nd : F.Nodup
section
variable {α : Type} {A : Rep α} {e : TypeId} {w w1 w2 : World} {v v2 : Value} {l m : List α} {F : List Nat}
theorem Row.chg {S : Nat → Prop} (h : Row A e w v l F) (hc : Chg S w w1) (hn : ∀ k ∈ F, ¬ S k) : Row A e w1 v l F := ⟨(A.row e).chg h.own hc hn, h.nd⟩
theorem Row.still (h : Row A e w v l F) (hc : Chg (fun _ => False) w w1) : Row A e w1 v l F := h.chg hc (fun _ _ x => x)
theorem Row.lt (h : Row A e w v l F) : ∀ k ∈ F, k < w.heap.size := (A.row e).lt h.own
theorem Row.val (h : Row A e w v l F) : ∃ a cap, v = .slice a l.length cap ∧ l.length ≤ cap ∧ cap ≤ maxLen := by
  obtain ⟨xs, Fs, h1⟩ := Rep.opened h.own
  exact h1.val
theorem Row.nil (A : Rep α) (e : TypeId) (w : World) : Row A e w (.slice none 0 0) [] [] := ⟨⟨_, [], [], rfl, RowAt.nil _ _ _, .nil, rfl⟩, List.nodup_nil⟩
theorem Row.apart {γ : Type} {C : Rep γ} {b o n : Nat} {G G' : List Nat} (h : Row A e w v l F) (hs : Step w w1 b o n G G') (hb : b ∉ F) (hG : ∀ k ∈ F, k ∉ G) : Row A e w1 v l F :=
  h.chg hs.chg fun k hk x => x.elim (fun e => hb (e ▸ hk)) (hG k hk)
theorem each_take_length {A : Rep α} {w : World} (ys : List (List Value)) (zs : List α) (Gs : List (List Nat)) (hh : Each A w ys zs Gs) : ∀ m, (ys.take m).flatten.length = (ys.take m).length * A.n := by
  induction hh with
  | nil => intro m; simp
  | cons a1 _ ih =>
    intro m
    cases m with
    | zero => simp
    | succ m => rw [List.take_succ_cons, List.flatten_cons, List.length_append, ih m, A.len a1, List.length_cons, Nat.add_mul]; omega
theorem Row.elem (h : Row A e w v l F) (hl : 0 < l.length) :
    ∃ g off cap, v = .slice (some ⟨g, off, none⟩) l.length cap ∧ l.length ≤ cap ∧ cap ≤ maxLen ∧ g ∈ F ∧
      ∀ i (hi : i < l.length), ∃ G, Here A w g (off + i * A.n) l[i] G ∧ (∀ x ∈ G, x ∈ F) ∧ g ∉ G ∧
        ∀ w' y G', Here A w' g (off + i * A.n) y G' → Step w w' g (off + i * A.n) A.n G G' → ∃ F', Row A e w' v (l.set i y) F' ∧ Chg (fun k => k ∈ F) w w' ∧ ∀ x ∈ F', x ∈ F ∨ w.heap.size ≤ x := by
  obtain ⟨⟨v', xs, Fs, hv, hrow, hE, rfl⟩, hnd⟩ := h
  obtain rfl : v = v' := by simpa using hv
  obtain ⟨g, off, cap, rfl, k1, k2⟩ := hrow.addr hl
  rw [ownL_some] at hnd ⊢
  simp only [List.singleton_append, List.nodup_cons, List.mem_cons] at hnd ⊢
  refine ⟨g, off, cap, rfl, k1, k2, .inl rfl, ?_⟩
  intro i hi
  obtain ⟨x, G, xa, xb, Fa, Fb, q1, rfl, q3, rfl, q5⟩ := hE.at i hi
  obtain ⟨hflat, hr⟩ := hrow
  rcases hr with ⟨hv', _⟩ | ⟨g', off', cap', cur, hv', hg, _, _, hsz, hcur⟩
  · simp at hv'
  simp only [Value.slice.injEq, Option.some.injEq, Addr.mk.injEq, true_and] at hv'
  obtain ⟨⟨rfl, rfl, _⟩, rfl⟩ := hv'
  have hxl := A.len q1
  have hxa : xa.flatten.length = i * A.n := by
    have h1 := each_take_length _ _ _ hE i
    rw [← q3, List.take_left] at h1
    rw [h1, q3]
  have hmul : (i + 1) * A.n ≤ l.length * A.n := Nat.mul_le_mul_right _ hi
  have hmul2 : l.length * A.n ≤ cap * A.n := Nat.mul_le_mul_right _ k1
  rw [Nat.add_mul, Nat.one_mul] at hmul
  have hx : (cur.toList.drop (off + i * A.n)).take A.n = x := by
    have e1 := congrArg (fun z => (z.drop (i * A.n)).take A.n) hcur
    simp only [List.flatten_append, List.flatten_cons] at e1
    rw [← hxa, List.drop_left, hxa, ← hxl, List.take_left, hxl] at e1
    rw [← e1]
    refine List.ext_getElem? fun j => ?_
    by_cases hj : j < A.n
    · rw [take_drop_get hj, take_drop_get hj, take_drop_get (by omega)]; congr 1; omega
    · rw [List.getElem?_take, if_neg hj, List.getElem?_take, if_neg hj]
  have hmem : ∀ z, z ∈ G → z ∈ (Fa ++ G :: Fb).flatten := fun z hz => by simp [hz]
  have hG : G.Nodup ∧ (∀ z ∈ G, z ∉ Fa.flatten ++ Fb.flatten) ∧ (Fa.flatten ++ Fb.flatten).Nodup := by
    have := hnd.2
    simp only [List.flatten_append, List.flatten_cons, List.nodup_append, List.mem_append] at this ⊢
    exact ⟨this.2.1.1, fun z hz hh => hh.elim (fun y => this.2.2 z y z (.inl hz) rfl) (fun y => this.2.1.2.2 z hz z y rfl), this.1, this.2.1.2.1, fun a ha b hb => this.2.2 a ha b (.inr hb)⟩
  have hgG : g ∉ G := fun x => hnd.1 (hmem g x)
  refine ⟨G, ⟨⟨cur, e, hg, by rw [hx]; exact q1⟩, fun hh => hnd.1 (hmem _ hh), hG.1⟩, fun z hz => .inr (hmem z hz), hgG, ?_⟩
  intro w' y G' hy hs
  obtain ⟨cur', p1, p2, p3⟩ := hs.rest cur e hg
  obtain ⟨d, U, r1, r2⟩ := hy.box
  rw [p1] at r1
  simp only [Option.some.injEq, Obj.cells.injEq] at r1
  obtain ⟨rfl, rfl, _⟩ := r1
  have hgF : g ∉ Fa.flatten ++ Fb.flatten := fun hh => hnd.1 (by simp only [List.flatten_append, List.flatten_cons, List.mem_append] at hh ⊢; exact hh.imp id .inr)
  have hlt := hE.lt
  have hglt := lt_of_block hg
  have hkeep : ∀ k ∈ Fa.flatten ++ Fb.flatten, ∀ ob, w.heap[k]? = some ob → w'.heap[k]? = some ob := by
    intro k hk ob ho
    refine hs.chg.keep ho ?_
    rintro (x | x)
    · exact hgF (x ▸ hk)
    · exact hG.2.1 k x hk
  have hE' := q5 w' _ y G' hkeep r2
  have hG' : ∀ z ∈ G', z ∉ Fa.flatten ++ Fb.flatten := by
    intro z hz hh
    rcases hs.new z hz with x | x
    · exact hG.2.1 z x hh
    · have := hlt z (by simp only [List.flatten_append, List.flatten_cons, List.mem_append] at hh ⊢; exact hh.imp id .inr)
      omega
  refine ⟨g :: (Fa ++ G' :: Fb).flatten, ⟨⟨.slice (some ⟨g, off, none⟩) l.length cap, _, _, rfl, ?_, hE', by simp [ownL_some]⟩, ?_⟩, ?_, ?_⟩
  · refine ⟨by rw [hE'.flat], .inr ⟨g, off, cap, cur', by simp, p1, by simpa using k1, k2, by rw [p2]; exact hsz, ?_⟩⟩
    rw [List.length_set]
    have e1 := ext_rest (k := i * A.n) (m := A.n) (n := l.length * A.n) (o := off) p2 hmul (by omega) p3
    rw [e1, hcur]
    simp only [List.flatten_append, List.flatten_cons]
    rw [List.take_left' hxa, ← List.append_assoc, List.append_assoc]
    congr 1
    congr 1
    rw [← List.drop_drop, List.append_assoc, ← hxa, List.drop_left, ← hxl, List.drop_left]
  · simp only [List.nodup_cons]
    refine ⟨fun hh => ?_, ?_⟩
    · simp only [List.flatten_append, List.flatten_cons, List.mem_append] at hh hgF
      rcases hh with hh | hh | hh
      · exact hgF (.inl hh)
      · exact hy.nb hh
      · exact hgF (.inr hh)
    · have h3 := hG.2.2
      simp only [List.flatten_append, List.flatten_cons, List.nodup_append, List.mem_append] at h3 ⊢
      refine ⟨h3.1, ⟨hy.nd, h3.2.1, fun a ha b hb e => hG' a ha (List.mem_append_right _ (e ▸ hb))⟩, ?_⟩
      rintro a ha b (hb | hb) e
      · exact hG' b hb (List.mem_append_left _ (e ▸ ha))
      · exact h3.2.2 a ha b hb e
  · refine hs.chg.mono fun k hk x => ?_
    rcases x with x | x
    · exact .inl x
    · exact .inr (hmem k x)
  · intro k hk
    simp only [List.flatten_append, List.flatten_cons, List.mem_append, List.mem_cons] at hk ⊢
    rcases hk with hk | hk | hk | hk
    · exact .inl (.inl hk)
    · exact .inl (.inr (.inl hk))
    · rcases hs.new k hk with x | x
      · exact .inl (.inr (.inr (.inl x)))
      · exact .inr x
    · exact .inl (.inr (.inr (.inr hk)))
/-- The cells of an element. -/
theorem Row.cell (h : Row A e w v l F) {i : Nat} (hi : i < l.length) : ∃ g off cap, v = .slice (some ⟨g, off, none⟩) l.length cap ∧ ∃ cs G, A.own w cs l[i] G ∧ (∀ k ∈ G, k ∈ F) ∧ ∀ j u, cs[j]? = some u → w.cell? ⟨g, off + i * A.n + j, none⟩ = some u := by
  obtain ⟨g, off, cap, rfl, _, _, _, h1⟩ := h.elem (by omega)
  obtain ⟨G, h2, h3, _⟩ := h1 i hi
  obtain ⟨cs, h4, h5⟩ := h2.cell
  exact ⟨g, off, cap, rfl, cs, G, h4, h3, h5⟩
end
end Go.Proofs.YthiiehanlconeaaDoor
