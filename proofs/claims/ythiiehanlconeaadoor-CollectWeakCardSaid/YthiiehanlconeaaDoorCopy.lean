/-
  Copies: a whole row appended onto a row of one's own; a row in a field that is copied, lengthened and stored anew.
-/
import Derived.Test.YthiiehanlconeaaDoorHoldd
namespace Go.Proofs.YthiiehanlconeaaDoor
open Go.RowKit
set_option linter.unusedVariables false

/-- Each value takes one cell. -/
def Ones (cs : List Value) : Prop := ∀ u ∈ cs, u.oneCell' = true
theorem Ones.nil : Ones [] := fun u h => by cases h
theorem Ones.append {a b : List Value} (h : Ones a) (k : Ones b) : Ones (a ++ b) := fun u hu => (List.mem_append.1 hu).elim (h u) (k u)
structure One {α : Type} (A : Rep α) : Prop where
  ones : ∀ {w cs a F}, A.own w cs a F → Ones cs
section
variable {α : Type} {A : Rep α} {w : World} {xs : List (List Value)} {l : List α} {Fs : List (List Nat)}
theorem Each.ones (hA : One A) (h : Each A w xs l Fs) : Ones xs.flatten := by
  induction h with
  | nil => exact Ones.nil
  | cons h1 _ ih => rw [List.flatten_cons]; exact (hA.ones h1).append ih
theorem RowAt.one {e size n : Nat} {v : Value} {zs : List Value} (h : RowAt w e size v n zs) : v.oneCell' = true := by
  obtain ⟨a, cap, rfl, _⟩ := h.slice
  rfl
theorem One.row (A : Rep α) (e : TypeId) : One (A.row e) := ⟨fun ⟨v, xs, Fs, hv, h2, _⟩ u hu => by
  subst hv
  simp only [List.mem_singleton] at hu
  subst hu
  exact h2.one⟩
theorem One.str : One Rep.str := ⟨fun ⟨h, _⟩ u hu => by subst h; simp only [List.mem_singleton] at hu; subst hu; rfl⟩
theorem One.bool : One Rep.bool := ⟨fun ⟨h, _⟩ u hu => by subst h; simp only [List.mem_singleton] at hu; subst hu; rfl⟩
theorem One.int (k : IntKind) : One (Rep.int k) := ⟨fun ⟨h, _⟩ u hu => by subst h; simp only [List.mem_singleton] at hu; subst hu; rfl⟩
end
/-- A row as the second argument of append. -/
theorem Src.ofRow {P : Program} {w : World} {t e e' size n : Nat} {v : Value} {xs : List Value} (hk : P.underlying t = some (.slice e')) (h : RowAt w e size v n xs) (h1 : Ones xs) : Src P size t v n xs w := by
  obtain ⟨a, cap, rfl, -⟩ := h.slice
  cases a with
  | none =>
    rcases h.2 with ⟨hv, rfl⟩ | ⟨g, off, c, cur, hv, -⟩
    · have hx : xs = [] := List.eq_nil_of_length_eq_zero (by simpa using h.1)
      subst hx
      exact Src.ofNil _ hk cap
    · simp at hv
  | some ad => exact Src.ofSlice _ hk ad n cap xs h.1 (h.cells rfl) h1
/-- A whole row appended. Outside a region that draws. -/
theorem list_append_rows {P : Program} {W : World} {ops : Array Oper} {rest : List Oper} {o : Oper} {a : Act} {Q : Exit → Act → World → Prop} (hgd : o.guard = none) (s x : Operand) (t : TypeId)
    (ho : o.op = .call { callee := .builtin .append, args := #[s, x], argTypes := #[t, t] })
    (e : TypeId) (size bytes : Nat) (ht : P.underlying t = some (.slice e)) (hE : Elem P e size bytes) (hsz : 0 < size)
    (v : Value) (n : Nat) (xs : List Value) (hsv : a.eval s = v) (hown : RowAt W e size v n xs) (xv : Value) (m : Nat) (news : List Value) (hx : a.eval x = xv) (hxr : RowAt W e size xv m news) (h1 : Ones news)
    (h63 : n + m ≤ maxLen) (hbytes : (n + m) * bytes ≤ 140737488355328)
    (h : ∀ a1 n1 c1 w', RowAt w' e size (.slice a1 n1 c1) (n + m) (xs ++ news) → Chg (fun k => v.ownBlock = some k) W w' → (∀ k, (Value.slice a1 n1 c1).ownBlock = some k → v.ownBlock = some k ∨ W.heap.size ≤ k) → wpList P ops Q rest (a.put o.dst (.slice a1 n1 c1)) w') :
    wpList P ops Q (o :: rest) a W := by
  obtain ⟨i, z, hi, hz, hsize, hby, hzs⟩ := hE
  exact wpList_append_slice W hgd s x t t ho e i z size bytes ht hi hz hsize hby hzs hsz v n xs hsv hown _ m news hx (Src.ofRow ht hxr h1) h63 hbytes h
/-- The same inside a region that draws its order. -/
theorem step_append_rows {P : Program} {W : World} {ops : Array Oper} {o : Oper} {a : Act} {K : Act → World → Prop} {Q : Exit → Act → World → Prop} {E : Prop} (hgd : o.guard = none) (s x : Operand) (t : TypeId)
    (ho : o.op = .call { callee := .builtin .append, args := #[s, x], argTypes := #[t, t] })
    (e : TypeId) (size bytes : Nat) (ht : P.underlying t = some (.slice e)) (hE : Elem P e size bytes) (hsz : 0 < size)
    (v : Value) (n : Nat) (xs : List Value) (hsv : a.eval s = v) (hown : RowAt W e size v n xs) (xv : Value) (m : Nat) (news : List Value) (hx : a.eval x = xv) (hxr : RowAt W e size xv m news) (h1 : Ones news)
    (h63 : n + m ≤ maxLen) (hbytes : (n + m) * bytes ≤ 140737488355328)
    (h : ∀ a1 n1 c1 w', RowAt w' e size (.slice a1 n1 c1) (n + m) (xs ++ news) → Chg (fun k => v.ownBlock = some k) W w' → (∀ k, (Value.slice a1 n1 c1).ownBlock = some k → v.ownBlock = some k ∨ W.heap.size ≤ k) → K (a.put o.dst (.slice a1 n1 c1)) w') :
    if Region.wanted o (yielded ops a.tmps) = true then Oper.wp P o a W K Q else E := by
  obtain ⟨i, z, hi, hz, hsize, hby, hzs⟩ := hE
  refine step_append_row hgd s x t t ho e i z size bytes ht hi hz hsize hby hzs hsz v n xs hsv hown _ m news hx (Src.ofRow ht hxr h1) h63 hbytes ?_
  intro v' w' h1 h2 h3
  obtain ⟨a1, c1, rfl, _⟩ := h1.slice
  exact h a1 _ c1 w' h1 h2 h3
/-- An empty row of one's own, just made. -/
theorem RowAt.fresh (w : World) (e size T : Nat) (hT : T = e) : RowAt (w.alloc (.cells #[] T)) e size (.slice (some ⟨w.heap.size, 0, none⟩) 0 0) 0 [] := by
  subst hT
  exact ⟨by simp, .inr ⟨w.heap.size, 0, 0, _, rfl, alloc_block w _, Nat.le_refl _, by simp, by simp, by simp⟩⟩
/-- A row with one element, just made. -/
theorem RowAt.single (w : World) (e size T : Nat) (cs : List Value) (hT : T = e) (hl : cs.length = size) : RowAt (w.alloc (.cells cs.toArray T)) e size (.slice (some ⟨w.heap.size, 0, none⟩) 1 1) 1 cs := by
  subst hT
  exact ⟨by simpa using hl, .inr ⟨w.heap.size, 0, 1, _, rfl, alloc_block w _, Nat.le_refl _, by unfold maxLen; omega, by rw [Nat.zero_add, Nat.one_mul, ← hl]; simp, by rw [List.drop_zero, Nat.one_mul, ← hl]; simp⟩⟩
theorem RowAt.freshAt (w : World) (e size g : Nat) (hg : w.heap.size = g) : RowAt (w.alloc (.cells #[] e)) e size (.slice (some ⟨g, 0, none⟩) 0 0) 0 [] := by
  subst hg; exact RowAt.fresh w e size e rfl
theorem RowAt.singleAt (w : World) (e size g : Nat) (cs : Array Value) (hg : w.heap.size = g) (hl : cs.size = size) : RowAt (w.alloc (.cells cs e)) e size (.slice (some ⟨g, 0, none⟩) 1 1) 1 cs.toList := by
  subst hg
  have := RowAt.single w e size e cs.toList rfl (by simpa using hl)
  simpa using this
/-- The first elements of a row, and the last ones. -/
theorem RowAt.prefix {w : World} {e size n m c : Nat} {a : Option Addr} {xs : List Value} (h : RowAt w e size (.slice a n c) n xs) (hm : m ≤ n) : RowAt w e size (.slice a m c) m (xs.take (m * size)) := by
  have hmul : m * size ≤ n * size := Nat.mul_le_mul_right _ hm
  have h1 := h.1
  refine ⟨by rw [List.length_take]; omega, ?_⟩
  rcases h.2 with ⟨hv, rfl⟩ | ⟨g, off, cap, cur, hv, k1, k2, k3, k4, k5⟩
  · obtain rfl : m = 0 := by omega
    exact .inl ⟨hv, rfl⟩
  · simp only [Value.slice.injEq] at hv
    obtain ⟨rfl, -, rfl⟩ := hv
    exact .inr ⟨g, off, c, cur, rfl, k1, by omega, k3, k4, by rw [← k5, List.take_take, Nat.min_eq_left hmul]⟩
def reslS (size : Nat) (p : Option Addr) (n cap d : Nat) : Value := .slice (if cap = d then p else p.map (·.add (d * size))) (n - d) (cap - d)
theorem elem_eq {P : Program} {t e : TypeId} (ht : P.underlying t = some (.slice e)) : P.elem t = e := by
  unfold Program.elem
  rw [ht]
theorem run_reslS {P : Program} (w : World) (t e size : Nat) (ht : P.underlying t = some (.slice e)) (hs : (sizeOf e).run P w = .ok size w) (p : Option Addr) (n cap : Nat) (d : Int) (h0 : 0 ≤ d) (h1 : d ≤ n) : (Instr.slice t (.slice p n cap) (some (.int .i64 d)) none none).run P w = .ok (reslS size p n cap d.toNat) w := by
  have he := elem_eq ht
  rw [run_slice_l w t p n cap (by rw [he]; exact ht) .i64 d h0 h1, he, hs]
  simp [Result.andThen, sliced, reslS]
theorem run_takeS {P : Program} (w : World) (t e size : Nat) (ht : P.underlying t = some (.slice e)) (hs : (sizeOf e).run P w = .ok size w) (p : Option Addr) (n cap : Nat) (d : Int) (h0 : 0 ≤ d) (h1 : d ≤ cap) : (Instr.slice t (.slice p n cap) none (some (.int .i64 d)) none).run P w = .ok (.slice p d.toNat cap) w := by
  have he := elem_eq ht
  rw [run_slice_h w t p n cap (by rw [he]; exact ht) .i64 d h0 h1, he, hs]
  simp [Result.andThen, sliced]
  have hadd : ∀ a : Addr, a.add 0 = a := fun a => by unfold Addr.add; split <;> simp_all
  cases p <;> simp [hadd]
theorem RowAt.suffix {w : World} {e size n d c : Nat} {a : Option Addr} {xs : List Value} (h : RowAt w e size (.slice a n c) n xs) (hd : d ≤ n) : RowAt w e size (reslS size a n c d) (n - d) (xs.drop (d * size)) := by
  have hmul : d * size ≤ n * size := Nat.mul_le_mul_right _ hd
  have h1 := h.1
  refine ⟨by rw [List.length_drop, h1, ← Nat.sub_mul], ?_⟩
  unfold reslS
  rcases h.2 with ⟨hv, rfl⟩ | ⟨g, off, cap, cur, hv, k1, k2, k3, k4, k5⟩
  · obtain rfl : d = 0 := by omega
    simp only [Value.slice.injEq] at hv
    obtain ⟨rfl, -, rfl⟩ := hv
    exact .inl ⟨by simp, rfl⟩
  · simp only [Value.slice.injEq] at hv
    obtain ⟨rfl, -, rfl⟩ := hv
    refine .inr ?_
    have hadd : (⟨g, off, none⟩ : Addr).add (d * size) = ⟨g, off + d * size, none⟩ := by unfold Addr.add; split <;> simp_all
    have hcd : d * size ≤ c * size := Nat.mul_le_mul_right _ (by omega)
    by_cases hc : c = d
    · obtain rfl : n = d := by omega
      rw [if_pos hc]
      subst hc
      refine ⟨g, off, 0, cur, by simp, k1, by omega, by omega, by omega, ?_⟩
      rw [List.drop_of_length_le (l := xs) (by omega)]; simp
    · rw [if_neg hc]
      refine ⟨g, off + d * size, c - d, cur, by simp [hadd], k1, by omega, by omega, by rw [Nat.sub_mul]; omega, ?_⟩
      rw [← k5, List.drop_take, List.drop_drop, Nat.sub_mul]
/-- The block of a value that append gave is one of this call's. -/
theorem own_ge {v v0 : Value} {W : World} {B : Nat} (h : ∀ k, v.ownBlock = some k → v0.ownBlock = some k ∨ W.heap.size ≤ k) (h0 : ∀ k, v0.ownBlock = some k → B ≤ k) (hB : B ≤ W.heap.size) : ∀ k, v.ownBlock = some k → B ≤ k :=
  fun k hk => (h k hk).elim (h0 k) (Nat.le_trans hB)
theorem own_at {B g o n c : Nat} (h : B ≤ g) : ∀ k, (Value.slice (some ⟨g, o, none⟩) n c).ownBlock = some k → B ≤ k := fun k hk => by
  have x : some g = some k := hk
  cases x
  exact h
theorem own_ne {g g2 o o2 n n2 c c2 : Nat} (h : g ≠ g2) : ∀ k, (Value.slice (some ⟨g, o, none⟩) n c).ownBlock = some k → ¬ (Value.slice (some ⟨g2, o2, none⟩) n2 c2).ownBlock = some k := fun k h1 h2 => by
  have x : some g = some k := h1
  have y : some g2 = some k := h2
  cases x
  cases y
  exact h rfl
/-- A change of blocks that are new is none of what was there. -/
theorem Chg.fresh {w w1 w2 : World} {S : Nat → Prop} (h : Chg (fun _ => False) w w1) (k : Chg S w1 w2) (hS : ∀ i, S i → w.heap.size ≤ i) : Chg (fun _ => False) w w2 :=
  h.trans k (fun _ _ x => x) (fun i hi x => by have := hS i x; omega)
section
variable {α β : Type} {A : Rep α} {B : Rep β} {w : World} {b o k : Nat} {a : α} {F : List Nat} {e : TypeId}
/-- A row in a field, about to be copied, lengthened by one and stored anew. -/
theorem Here.fieldCopy {get : α → List β} {set : α → List β → α} (fl : FieldOf A (B.row e) k get set) (hB : One B) (hA : 0 < A.n) (H : Here A w b o a F) :
    ∃ p cap xs, w.cell? ⟨b, o + k, none⟩ = some (.slice p (get a).length cap) ∧ RowAt w e B.n (.slice p (get a).length cap) (get a).length xs ∧ Ones xs ∧ (get a).length ≤ cap ∧ cap ≤ maxLen ∧ w.frozen? ⟨b, o + k, none⟩ = false ∧
      ∀ w3 x y v3, Chg (fun _ => False) w w3 → B.own w3 x y [] → RowAt w3 e B.n v3 ((get a).length + 1) (xs ++ x) → (∀ j, v3.ownBlock = some j → w.heap.size ≤ j) → Post A w b o (set a (get a ++ [y])) F (w3.setCell ⟨b, o + k, none⟩ v3) := by
  obtain ⟨G1, h1, h2, h3⟩ := H.field fl hA
  obtain ⟨v, xs, Fs, hc, hopen⟩ := h1.openRow
  obtain ⟨p, cap, rfl, hc1, hc2⟩ := hopen.val
  refine ⟨p, cap, xs.flatten, hc, hopen.row, hopen.each.ones hB, hc1, hc2, H.frozen _, fun w3 x y v3 k1 k2 k3 k4 => ?_⟩
  have hnd := h1.nd
  have hlt := h1.lt.2
  rw [hopen.fp] at hnd hlt
  simp only [List.nodup_append, List.mem_append] at hnd hlt
  obtain ⟨q1, q2⟩ := h1.put (w2 := w3) (v := v3) (y := get a ++ [y]) (G' := ownL v3 ++ Fs.flatten) rfl (k1.mono (fun _ _ x => x.elim)) ⟨v3, xs ++ [x], Fs ++ [[]], rfl, by rw [List.length_append, List.flatten_append]; simpa using k3, (hopen.each.keep (k1.keepAll fun _ _ x => x)).append (.cons k2 .nil), by simp⟩
    (by
      rw [List.nodup_append]
      refine ⟨own_le_one _, hnd.2.1, fun i hi j hj e => ?_⟩
      have := k4 i (mem_ownL.1 hi)
      have := hlt j (.inr hj)
      omega)
    (fun j hj => by
      rcases List.mem_append.1 hj with hj | hj
      · exact .inr (k4 j (mem_ownL.1 hj))
      · exact .inl (by rw [hopen.fp]; exact List.mem_append_right _ hj))
  exact h3 _ _ _ q1 q2
end
end Go.Proofs.YthiiehanlconeaaDoor
