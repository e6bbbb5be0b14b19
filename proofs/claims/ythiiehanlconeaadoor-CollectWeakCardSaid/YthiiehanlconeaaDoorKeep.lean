/-
  append, told more finely: the elements that were there stay where they were.
-/
import Derived.Test.YthiiehanlconeaaDoorCopy
import Derived.Laws.IdiomCopy
namespace Go.Proofs.YthiiehanlconeaaDoor
open Go.RowKit
set_option linter.unusedVariables false

theorem run_append_row2 {P : Program} (w : World) (t tx ty e : TypeId) (i : TypeInfo) (z : Value) (size bytes : Nat) (ht : P.underlying t = some (.slice e)) (hi : P.info? e = some i) (hz : i.zero = some z)
    (hsize : i.size = size) (hby : i.bytes = bytes) (hzs : z.cells.size = size) (hsz : 0 < size)
    (v : Value) (n : Nat) (xs : List Value) (hown : RowAt w e size v n xs) (x : Value) (m : Nat) (news : List Value) (hs : Src P size tx x m news w)
    (h63 : n + m ≤ maxLen) (hbytes : (n + m) * bytes ≤ 140737488355328) :
    ∃ v' w', (Builtin.append_ #[t, tx] ty #[v, x]).run P w = .ok v' w' ∧ RowAt w' e size v' (n + m) (xs ++ news) ∧ Chg (fun k => v.ownBlock = some k) w w' ∧
      (∀ k, v'.ownBlock = some k → v.ownBlock = some k ∨ w.heap.size ≤ k) ∧ (∀ g off c, v = .slice (some ⟨g, off, none⟩) n c → (∀ j u, j < n * size → w.cell? ⟨g, off + j, none⟩ = some u → w'.cell? ⟨g, off + j, none⟩ = some u) ∧ ((∃ c', v' = .slice (some ⟨g, off, none⟩) (n + m) c') ∨ Chg (fun _ => False) w w' ∧ ∀ k, v'.ownBlock = some k → w.heap.size ≤ k)) := by
  subst hsize
  subst hby
  have hlen : (xs ++ news).length = (n + m) * i.size := by rw [List.length_append, hown.1, hs.newsLen, Nat.add_mul]
  have grow : ∀ (base : Option Addr) (cap : Nat), v = .slice base n cap → cap < n + m → (Builtin.firstCells i.size n (.slice base n cap)).run P w.drew = .ok xs.toArray w.drew →
      ∃ v' w', (Builtin.append_ #[t, tx] ty #[v, x]).run P w = .ok v' w' ∧ RowAt w' e i.size v' (n + m) (xs ++ news) ∧ Chg (fun k => v.ownBlock = some k) w w' ∧
      (∀ k, v'.ownBlock = some k → v.ownBlock = some k ∨ w.heap.size ≤ k) ∧ (∀ g off c, v = .slice (some ⟨g, off, none⟩) n c → (∀ j u, j < n * i.size → w.cell? ⟨g, off + j, none⟩ = some u → w'.cell? ⟨g, off + j, none⟩ = some u) ∧ ((∃ c', v' = .slice (some ⟨g, off, none⟩) (n + m) c') ∨ Chg (fun _ => False) w w' ∧ ∀ k, v'.ownBlock = some k → w.heap.size ≤ k)) := by
    intro base cap hv hcap hold
    have hr := run_append_grow_src (P := P) w t tx ty e i z ht hi hz base n cap xs hold x m news hs hcap (by simp only [maxLen] at h63; omega) (growslice_fits hcap hbytes)
    have hge := grownCap_ge w (n + m) cap e
    have hcm : grownCap w (n + m) cap e ≤ maxLen := grownCap_le_maxLen w (n + m) cap e h63
    refine ⟨_, _, by rw [hv]; exact hr, ⟨hlen, .inr ⟨w.heap.size, 0, _, _, rfl, heap_alloc_new w.drew _, hge, hcm, ?_, ?_⟩⟩, ?_, ?_, ?_⟩
    · simp only [Array.size_append, List.size_toArray, size_zeroCells, hzs, hlen, ← Nat.add_mul]
      rw [show n + m + (grownCap w (n + m) cap e - (n + m)) = grownCap w (n + m) cap e from by omega]
      omega
    · simp only [Array.toList_append, List.drop_zero]
      rw [← hlen]
      exact List.take_left
    · exact ((Chg.refl _ w).drewR).allocR _
    · intro k hk
      simp only [Value.ownBlock, Option.some.injEq] at hk
      exact .inr (by omega)
    · intro g off c _
      refine ⟨fun j u _ hu => Chg.cell (((Chg.refl _ w).drewR).allocR _) hu, .inr ⟨((Chg.refl _ w).drewR).allocR _, fun k hk => ?_⟩⟩
      simp only [Value.ownBlock, Option.some.injEq] at hk
      omega
  rcases hown.2 with ⟨rfl, rfl⟩ | ⟨g, off, cap, cur, rfl, hg, hnc, hcm, hcs, htake⟩
  · have hx : xs = [] := List.eq_nil_of_length_eq_zero (by simpa using hown.1)
    subst hx
    by_cases hm : m = 0
    · subst hm
      have hn : news = [] := List.eq_nil_of_length_eq_zero (by simpa using hs.newsLen)
      subst hn
      refine ⟨.slice none 0 0, w, ?_, RowAt.nil w e i.size, .refl _ _, fun k hk => .inl hk, fun g off c e => by cases e⟩
      have hc := hs.cells
      rcases hs.kind with ⟨e', hk⟩ | hk <;> simp [Builtin.append_, run_underlying ht, run_underlying hk, sizeOf, typeInfo, hi, hs.len, hc]
    · exact grow none 0 rfl (by omega) (run_firstCells_none w.drew i.size 0 0 0)
  · by_cases hroom : n + m ≤ cap
    · have hmul : n * i.size + m * i.size ≤ cap * i.size := by rw [← Nat.add_mul]; exact Nat.mul_le_mul_right _ hroom
      have hfit : off + n * i.size + news.length ≤ cur.size := by rw [hs.newsLen]; omega
      have hr := run_append_room_src (P := P) w t tx ty e i ht hi g off n cap x m news hs hroom
        (fun j hj => by rw [cell_of_block hg (Array.getElem?_eq_getElem (by omega))]; rfl) (fun j _ => frozen_of_block hg)
      refine ⟨_, _, hr, ⟨hlen, .inr ⟨g, off, cap, _, rfl, setCells_block news _ hg, hroom, hcm, ?_, ?_⟩⟩, ?_, fun k hk => .inl hk, ?_⟩
      · rw [putAt_size]; exact hcs
      · rw [putAt_toList _ _ _ hfit, List.append_assoc, List.drop_append_of_le_length (by simp; omega)]
        rw [← List.append_assoc, List.drop_take, show off + n * i.size - off = n * i.size from by omega, htake, ← hlen]
        exact List.take_left
      · exact (Chg.setCells news w _).mono (fun k _ hk => by simp only [Value.ownBlock, hk])
      · intro g2 off2 c2 e2
        cases e2
        refine ⟨fun j u hj hu => ?_, .inl ⟨_, rfl⟩⟩
        rw [World.cell?_setCells_out g news _ w _ (fun _ _ => .inl (by show off + j < off + n * i.size; omega))]
        exact hu
    · refine grow (some ⟨g, off, none⟩) cap rfl (by omega) ?_
      refine run_firstCells_some w.drew i.size n ⟨g, off, none⟩ n cap xs hown.1 ?_
      intro j u hu
      have := hown.cells rfl j u hu
      simpa using this

/-- One element appended, the old ones kept. -/
theorem list_append_elem2 {P : Program} {W : World} {ops : Array Oper} {rest : List Oper} {o : Oper} {a : Act} {Q : Exit → Act → World → Prop} (hgd : o.guard = none) (s x : Operand) (t : TypeId)
    (ho : o.op = .call { callee := .builtin .append, args := #[s, x], argTypes := #[t, t] })
    (e : TypeId) (size bytes : Nat) (ht : P.underlying t = some (.slice e)) (hE : Elem P e size bytes) (hsz : 0 < size)
    (v : Value) (n : Nat) (xs : List Value) (hsv : a.eval s = v) (hown : RowAt W e size v n xs) (news : List Value) (hnl : news.length = size) (g T : Nat) (f : Nat × Nat)
    (hx : a.eval x = .slice (some ⟨g, 0, none⟩) 1 1) (hg : W.heap[g]? = some (.cells news.toArray T f)) (h1 : ∀ u ∈ news, u.oneCell' = true)
    (h63 : n + 1 ≤ maxLen) (hbytes : (n + 1) * bytes ≤ 140737488355328)
    (h : ∀ a1 n1 c1 w', RowAt w' e size (.slice a1 n1 c1) (n + 1) (xs ++ news) → Chg (fun k => v.ownBlock = some k) W w' → (∀ k, (Value.slice a1 n1 c1).ownBlock = some k → v.ownBlock = some k ∨ W.heap.size ≤ k) →
      (∀ g off c, v = .slice (some ⟨g, off, none⟩) n c → (∀ j u, j < n * size → W.cell? ⟨g, off + j, none⟩ = some u → w'.cell? ⟨g, off + j, none⟩ = some u) ∧ ((∃ c', .slice a1 n1 c1 = Value.slice (some ⟨g, off, none⟩) (n + 1) c') ∨ Chg (fun _ => False) W w' ∧ ∀ k, (Value.slice a1 n1 c1).ownBlock = some k → W.heap.size ≤ k)) → wpList P ops Q rest (a.put o.dst (.slice a1 n1 c1)) w') :
    wpList P ops Q (o :: rest) a W := by
  obtain ⟨i, z, hi, hz, hsize, hby, hzs⟩ := hE
  have hs : Src P size t (.slice (some ⟨g, 0, none⟩) 1 1) 1 news W := Src.ofSlice _ ht _ 1 1 news (by omega) (by
    intro j u hu
    have hadd : (⟨g, 0, none⟩ : Addr).add j = ⟨g, j, none⟩ := by unfold Addr.add; split <;> simp_all
    rw [hadd]
    exact cell_of_block hg (by simpa using hu)) h1
  refine wpList_plain hgd fun K hK => ?_
  obtain ⟨v', w', hr, h2, h3, h4, h5⟩ := run_append_row2 (P := P) W t t o.type e i z size bytes ht hi hz hsize hby hzs hsz v n xs hown _ 1 news hs h63 hbytes
  obtain ⟨a1, c1, rfl, -⟩ := h2.slice
  unfold Oper.wp execOp
  simp only [ho, resolve, invoke, builtin, Sem.run_bind, Sem.run_pure, Result.andThen_ok, List.map_toArray, List.map_cons, List.map_nil, hsv, hx, hr]
  exact hK _ _ (h a1 _ c1 w' h2 h3 h4 h5)
end Go.Proofs.YthiiehanlconeaaDoor
