/-
  What collect.Sweep makes of a heap, plainly.
-/
import Derived.Test.YthiiehanlconeaaDoorSwa
import Derived.Test.YthiiehanlconeaaDoorGst
namespace Go.Proofs.YthiiehanlconeaaDoor
open Go.RowKit
set_option linter.unusedVariables false
set_option linter.unusedSimpArgs false

theorem sd_get {α : Type} {l : List α} {i : Nat} (hi : i < l.length) (x d : α) (j : Nat) : (l.set i x).getD j d = if i = j then x else l.getD j d := by
  rw [List.getD_eq_getElem?_getD, List.getElem?_set]
  by_cases e : i = j
  · rw [if_pos e, if_pos e, if_pos hi]; rfl
  · rw [if_neg e, if_neg e, List.getD_eq_getElem?_getD]
theorem sd_out {α : Type} {l : List α} {i : Nat} (hi : ¬ i < l.length) (x d : α) (j : Nat) : (l.set i x).getD j d = l.getD j d := by
  rw [List.set_eq_of_length_le (by omega)]
def dropIf (Lv : List Nat) (hp : Hp) (i : Nat) : Hp := if (hp.slots.getD i noSlt).used = true ∧ i ∉ Lv then dropH hp i else hp
def dropN (hp : Hp) (Lv : List Nat) (k : Nat) : Hp := (List.range k).foldl (dropIf Lv) hp
def cntN (hp : Hp) (Lv : List Nat) : Nat → Nat
  | 0 => 0
  | k + 1 => cntN hp Lv k + if (hp.slots.getD k noSlt).used = true ∧ k ∉ Lv then 1 else 0
def restM (hs : Int → Bool) (d : List Val) : List Val := (pairsM d).flatMap fun p => if p.1.kind = 5 ∧ hs p.1.ref = true then [p.1, p.2] else []
def weakD (Lv : List Nat) (hp : Hp) (i : Nat) : Hp := if (hp.slots.getD i noSlt).obj.kind = 5 then putO hp i { (hp.slots.getD i noSlt).obj with data := restM (hasK hp Lv) (hp.slots.getD i noSlt).obj.data } else hp
def weakN (Lv : List Nat) (hp : Hp) (K : List Nat) : Hp := K.foldl (weakD Lv) hp
def sweepM (hp : Hp) (Lv : List Nat) : Hp := weakN Lv (dropN hp Lv hp.slots.length) Lv
theorem dropN_succ (hp : Hp) (Lv : List Nat) (k : Nat) : dropN hp Lv (k + 1) = dropIf Lv (dropN hp Lv k) k := by unfold dropN; rw [List.range_succ, List.foldl_append]; rfl
theorem cntN_succ (hp : Hp) (Lv : List Nat) (k : Nat) : cntN hp Lv (k + 1) = cntN hp Lv k + if (hp.slots.getD k noSlt).used = true ∧ k ∉ Lv then 1 else 0 := rfl
theorem cntN_le (hp : Hp) (Lv : List Nat) : ∀ k, cntN hp Lv k ≤ k
  | 0 => Nat.le_refl _
  | k + 1 => by have := cntN_le hp Lv k; rw [cntN_succ]; split <;> omega
structure DropOk (hp : Hp) (Lv : List Nat) (k : Nat) (h : Hp) : Prop where
  base : h.base = hp.base
  stride : h.stride = hp.stride
  len : h.slots.length = hp.slots.length
  same : ∀ i, k ≤ i ∨ i ∈ Lv → h.slots.getD i noSlt = hp.slots.getD i noSlt
  gone : ∀ i, i < k → i < hp.slots.length → i ∉ Lv → (h.slots.getD i noSlt).used = false
  zero : ∀ i, i < k → i < hp.slots.length → i ∉ Lv → (hp.slots.getD i noSlt).used = true → h.slots.getD i noSlt = noSlt
  free : h.free.length = hp.free.length + cntN hp Lv k
  live : h.live = hp.live - (cntN hp Lv k : Int)
  glob : h.global = hp.global
  text : h.texts = hp.texts
  prot : h.protos = hp.protos
theorem dropN_ok (hp : Hp) (Lv : List Nat) : ∀ k, k ≤ hp.slots.length → DropOk hp Lv k (dropN hp Lv k)
  | 0, _ => ⟨rfl, rfl, rfl, fun _ _ => rfl, fun i h => by omega, fun i h => by omega, rfl, by simp [dropN, cntN], rfl, rfl, rfl⟩
  | k + 1, hk => by
    have ih := dropN_ok hp Lv k (by omega)
    rw [dropN_succ]
    unfold dropIf
    have hs := ih.same k (.inl (Nat.le_refl _))
    rw [hs]
    by_cases c : (hp.slots.getD k noSlt).used = true ∧ k ∉ Lv
    · rw [if_pos c]
      have hkl : k < (dropN hp Lv k).slots.length := by rw [ih.len]; omega
      refine ⟨ih.base, ih.stride, ?_, fun i hi => ?_, fun i hi hl hn => ?_, fun i hi hl hn hu => ?_, ?_, ?_, ih.glob, ih.text, ih.prot⟩
      · show ((dropN hp Lv k).slots.set k noSlt).length = _
        rw [List.length_set]; exact ih.len
      · show ((dropN hp Lv k).slots.set k noSlt).getD i noSlt = _
        rw [sd_get hkl, if_neg (fun e => hi.elim (fun x => by omega) (fun x => c.2 (by rw [e]; exact x)))]
        exact ih.same i (hi.imp (by omega) id)
      · show (((dropN hp Lv k).slots.set k noSlt).getD i noSlt).used = false
        rw [sd_get hkl]
        by_cases e : k = i
        · rw [if_pos e]; rfl
        · rw [if_neg e]; exact ih.gone i (by omega) hl hn
      · show ((dropN hp Lv k).slots.set k noSlt).getD i noSlt = _
        rw [sd_get hkl]
        by_cases e : k = i
        · rw [if_pos e]
        · rw [if_neg e]; exact ih.zero i (by omega) hl hn hu
      · show ((dropN hp Lv k).free ++ [(k : Int)]).length = _
        rw [List.length_append, ih.free, cntN_succ, if_pos c]; simp; omega
      · show (dropN hp Lv k).live - 1 = _
        rw [ih.live, cntN_succ, if_pos c]; omega
    · rw [if_neg c]
      refine ⟨ih.base, ih.stride, ih.len, fun i hi => ih.same i (hi.imp (by omega) id), fun i hi hl hn => ?_, fun i hi hl hn hu => ?_, by rw [ih.free, cntN_succ, if_neg c]; omega, by rw [ih.live, cntN_succ, if_neg c]; omega, ih.glob, ih.text, ih.prot⟩
      by_cases e : i = k
      · subst e
        rw [hs]
        cases hu : (hp.slots.getD i noSlt).used with
        | false => rfl
        | true => exact absurd ⟨hu, hn⟩ c
      · exact ih.gone i (by omega) hl hn
      by_cases e : i = k
      · subst e
        exact absurd ⟨hu, hn⟩ c
      · exact ih.zero i (by omega) hl hn hu
theorem putO_getD (hp : Hp) (i : Nat) (o : Obj) (j : Nat) : (putO hp i o).slots.getD j noSlt = if i = j ∧ i < hp.slots.length then { hp.slots.getD i noSlt with obj := o } else hp.slots.getD j noSlt := by
  show (hp.slots.set i _).getD j noSlt = _
  by_cases h : i < hp.slots.length
  · rw [sd_get h]
    by_cases e : i = j
    · rw [if_pos e, if_pos ⟨e, h⟩]
    · rw [if_neg e, if_neg (fun x => e x.1)]
  · rw [sd_out h, if_neg (fun x => h x.2)]
structure WeakOk (h : Hp) (Lv K : List Nat) (h' : Hp) : Prop where
  base : h'.base = h.base
  stride : h'.stride = h.stride
  len : h'.slots.length = h.slots.length
  used : ∀ i, (h'.slots.getD i noSlt).used = (h.slots.getD i noSlt).used
  same : ∀ i, i ∉ K → h'.slots.getD i noSlt = h.slots.getD i noSlt
  free : h'.free = h.free
  live : h'.live = h.live
  glob : h'.global = h.global
  text : h'.texts = h.texts
  prot : h'.protos = h.protos
theorem weakD_ok (Lv : List Nat) (h : Hp) (i : Nat) : WeakOk h Lv [i] (weakD Lv h i) := by
  unfold weakD
  split
  · refine ⟨rfl, rfl, by show (h.slots.set i _).length = _; rw [List.length_set], fun j => ?_, fun j hj => ?_, rfl, rfl, rfl, rfl, rfl⟩
    · rw [putO_getD]; split
      · rename_i e; rw [← e.1]
      · rfl
    · rw [putO_getD, if_neg (fun x => hj (by rw [x.1]; simp))]
  · exact ⟨rfl, rfl, rfl, fun _ => rfl, fun _ _ => rfl, rfl, rfl, rfl, rfl, rfl⟩
theorem WeakOk.trans {h h1 h2 : Hp} {Lv K K2 : List Nat} (a : WeakOk h Lv K h1) (b : WeakOk h1 Lv K2 h2) : WeakOk h Lv (K ++ K2) h2 :=
  ⟨b.base.trans a.base, b.stride.trans a.stride, b.len.trans a.len, fun i => (b.used i).trans (a.used i), fun i hi => (b.same i (fun x => hi (by simp [x]))).trans (a.same i (fun x => hi (by simp [x]))), b.free.trans a.free, b.live.trans a.live, b.glob.trans a.glob, b.text.trans a.text, b.prot.trans a.prot⟩
theorem weakN_ok (Lv : List Nat) : ∀ (K : List Nat) (h : Hp), WeakOk h Lv K (weakN Lv h K)
  | [], h => ⟨rfl, rfl, rfl, fun _ => rfl, fun _ _ => rfl, rfl, rfl, rfl, rfl, rfl⟩
  | i :: K, h => by
    have h1 := weakD_ok Lv h i
    have h2 := weakN_ok Lv K (weakD Lv h i)
    exact h1.trans h2
theorem weakN_take {Lv : List Nat} {h : Hp} {K : List Nat} {k : Nat} (hk : k < K.length) : weakN Lv h (K.take (k + 1)) = weakD Lv (weakN Lv h (K.take k)) K[k] := by
  unfold weakN
  rw [List.take_succ_eq_append_getElem hk, List.foldl_append]; rfl
theorem slotOf_eq {h h' : Hp} (e1 : h'.base = h.base) (e2 : h'.stride = h.stride) (e3 : h'.slots.length = h.slots.length) (e4 : ∀ i, (h'.slots.getD i noSlt).used = (h.slots.getD i noSlt).used) (x : Int) : slotOf h' x = slotOf h x := by
  unfold slotOf; rw [e1, e2, e3, e4]
theorem hasK_eq {h h' : Hp} (e1 : h'.base = h.base) (e2 : h'.stride = h.stride) (e3 : h'.slots.length = h.slots.length) (e4 : ∀ i, (h'.slots.getD i noSlt).used = (h.slots.getD i noSlt).used) (K : List Nat) : hasK h' K = hasK h K := by
  funext x; unfold hasK; rw [slotOf_eq e1 e2 e3 e4]
theorem mkOf_eq {h h' : Hp} (e1 : h'.base = h.base) (e2 : h'.stride = h.stride) (e3 : h'.slots.length = h.slots.length) (bh : Nat) (K : List Nat) : mkOf bh h' K = mkOf bh h K := by unfold mkOf; rw [e1, e2, e3]
theorem rest_take {hs : Int → Bool} {d : List Val} {q : Nat} (h : q < d.length / 2) :
    ((pairsM d).take (q + 1)).flatMap (fun p => if p.1.kind = 5 ∧ hs p.1.ref = true then [p.1, p.2] else []) = ((pairsM d).take q).flatMap (fun p => if p.1.kind = 5 ∧ hs p.1.ref = true then [p.1, p.2] else []) ++ (if (d.getD (2 * q) noVal).kind = 5 ∧ hs (d.getD (2 * q) noVal).ref = true then [d.getD (2 * q) noVal, d.getD (2 * q + 1) noVal] else []) := by
  rw [pairs_take h, List.flatMap_append]; simp
theorem rest_len {hs : Int → Bool} : ∀ l : List (Val × Val), (l.flatMap (fun p => if p.1.kind = 5 ∧ hs p.1.ref = true then [p.1, p.2] else [])).length ≤ 2 * l.length
  | [] => by simp
  | a :: l => by
    have := rest_len (hs := hs) l
    have h2 : (if a.1.kind = 5 ∧ hs a.1.ref = true then [a.1, a.2] else []).length ≤ 2 := by split <;> simp
    rw [List.flatMap_cons, List.length_append, List.length_cons]
    omega
/-- A list of values made behind w0. -/
structure VOut (w0 W : World) (v : Value) (l : List Val) : Prop where
  row : RowAt W 38 4 v l.length (l.flatMap Val.cells)
  lo : ∀ k, v.ownBlock = some k → w0.heap.size ≤ k
  chg : Chg (fun _ => False) w0 W
theorem VOut.still {w0 W W' : World} {v : Value} {l : List Val} (h : VOut w0 W v l) (hc : Chg (fun _ => False) W W') : VOut w0 W' v l := ⟨h.row.chg hc (fun _ _ x => x), h.lo, h.chg.trans' hc⟩
theorem VOut.nil (w : World) : VOut w w (.slice none 0 0) [] := ⟨RowAt.nil _ _ _, (fun k hk => by simp [Value.ownBlock] at hk), Chg.refl _ _⟩
/-- An object of a heap, and what a change of it makes of the whole. -/
theorem hpPut {W : World} {b : Nat} {hp : Hp} {F : List Nat} (H : Here hpR W b 0 hp F) {i : Nat} (hi : i < hp.slots.length) : ∃ g off cap, W.cell? ⟨b, 2, none⟩ = some (.slice (some ⟨g, off, none⟩) hp.slots.length cap) ∧
    ∃ G, Here objR W g (off + i * 11 + 1) hp.slots[i].obj G ∧ (∀ k ∈ G, k ∈ F) ∧ ∀ W' y, Post objR W g (off + i * 11 + 1) y G W' → Post hpR W b 0 (putO hp i y) F W' := by
  obtain ⟨-, -, ⟨a, cap, c2⟩, -⟩ := hpCells H
  obtain ⟨g, off, rfl, G0, h1, -, -, -, hin, hback⟩ := hpSlot H c2 hi
  obtain ⟨G, h2, h4, h3⟩ := h1.field sltR_obj (by show 0 < 11; decide)
  rw [Nat.zero_add] at c2
  refine ⟨g, off, cap, c2, G, h2, fun k hk => hin k (h4 k hk), fun W' y hp1 => ?_⟩
  obtain ⟨G', k1, k2⟩ := hp1
  obtain ⟨F2, m1, m2⟩ := h3 W' y G' k1 k2
  have hpost := (hback W' _ F2 m1 m2).1
  have e : { hp with slots := hp.slots.set i { hp.slots[i] with obj := y } } = putO hp i y := by
    unfold putO
    rw [List.getD_eq_getElem?_getD, List.getElem?_eq_getElem hi]
    rfl
  rw [e] at hpost
  exact hpost
end Go.Proofs.YthiiehanlconeaaDoor
