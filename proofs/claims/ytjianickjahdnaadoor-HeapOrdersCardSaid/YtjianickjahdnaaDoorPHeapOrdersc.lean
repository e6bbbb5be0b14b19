/-
  append, told more finely: the elements that were there stay where they were.
  Marks: has, add.
  collect.Frames: the handles in frames.
  A range over a function whose iterator makes its list first; a law of its own, and the iterator of collect.refs.
  The iterator of collect.refs.
  Marks: the weak pass.
  The reference of layer 35: Has, add.
  A slice of one's own that lies in a temporary (not behind a place): its elements, and how they are replaced.
  The reference of layer 35: its objects in memory; Live.
-/
import Derived.Test.YtjianickjahdnaaDoorPHeapOrdersb
import Derived.Laws.IdiomCopy
import Derived.RangeFuncNested
import Derived.RangeFuncBound
import Derived.RangeFuncCalls
import Derived.RangeFuncLeaves
import Derived.OwnWalkIn
import Derived.TacticsInMore
import Derived.LoopNIn
import Derived.LoopIn
import Derived.Test.YtjianickjahdnaaDoorPHeapOrdersa
namespace Go.Proofs.YtjianickjahdnaaDoor
open Go.RowKit
set_option linter.unusedVariables false

theorem run_append_row2 {P : Program} (w : World) (t tx ty e : TypeId) (i : TypeInfo) (z : Value) (size bytes : Nat) (ht : P.underlying t = some (.slice e)) (hi : P.info? e = some i) (hz : i.zero = some z)
    (hsize : i.size = size) (hby : i.bytes = bytes) (hzs : z.cells.size = size) (hsz : 0 < size)
    (v : Value) (n : Nat) (xs : List Value) (hown : RowAt w e size v n xs) (x : Value) (m : Nat) (news : List Value) (hs : Src P size tx x m news w)
    (h63 : n + m ≤ maxLen) (hbytes : (n + m) * bytes ≤ 140737488355328) :
    ∃ v' w', (Builtin.append_ #[t, tx] ty #[v, x]).run P w = .ok v' w' ∧ RowAt w' e size v' (n + m) (xs ++ news) ∧ Chg (fun k => v.ownBlock = some k) w w' ∧
      (∀ k, v'.ownBlock = some k → v.ownBlock = some k ∨ w.heap.size ≤ k) ∧ (∀ g off c, v = .slice (some ⟨g, off, none⟩) n c → (∀ j u, j < n * size → w.cell? ⟨g, off + j, none⟩ = some u → w'.cell? ⟨g, off + j, none⟩ = some u) ∧ ((∃ c', v' = .slice (some ⟨g, off, none⟩) (n + m) c') ∨ Chg (fun _ => False) w w' ∧ ∀ k, v'.ownBlock = some k → w.heap.size ≤ k)) := by
  subst hsize
  subst hby
  have hlen : (xs ++ news).length = (n + m) * i.size := by rw [List.length_append, hown.1, hs.newsLen, Nat.add_mul]
  have grow : ∀ (base : Option Addr) (cap : Nat), v = .slice base n cap → cap < n + m → (Builtin.firstCells i.size n (.slice base n cap)).run P w.drew = .ok xs.toArray w.drew →
      ∃ v' w', (Builtin.append_ #[t, tx] ty #[v, x]).run P w = .ok v' w' ∧ RowAt w' e i.size v' (n + m) (xs ++ news) ∧ Chg (fun k => v.ownBlock = some k) w w' ∧
      (∀ k, v'.ownBlock = some k → v.ownBlock = some k ∨ w.heap.size ≤ k) ∧ (∀ g off c, v = .slice (some ⟨g, off, none⟩) n c → (∀ j u, j < n * i.size → w.cell? ⟨g, off + j, none⟩ = some u → w'.cell? ⟨g, off + j, none⟩ = some u) ∧ ((∃ c', v' = .slice (some ⟨g, off, none⟩) (n + m) c') ∨ Chg (fun _ => False) w w' ∧ ∀ k, v'.ownBlock = some k → w.heap.size ≤ k)) := by
    intro base cap hv hcap hold
    have hr := run_append_grow_src (P := P) w t tx ty e i z ht hi hz base n cap xs hold x m news hs hcap (by simp only [maxLen] at h63; omega) (growslice_fits hcap hbytes)
    have hge := grownCap_ge w (n + m) cap e
    have hcm : grownCap w (n + m) cap e ≤ maxLen := grownCap_le_maxLen w (n + m) cap e h63
    refine ⟨_, _, by rw [hv]; exact hr, ⟨hlen, .inr ⟨w.heap.size, 0, _, _, rfl, heap_alloc_new w.drew _, hge, hcm, ?_, ?_⟩⟩, ?_, ?_, ?_⟩
    · simp only [Array.size_append, List.size_toArray, size_zeroCells, hzs, hlen, ← Nat.add_mul]
      rw [show n + m + (grownCap w (n + m) cap e - (n + m)) = grownCap w (n + m) cap e from by omega]
      omega
    · simp only [Array.toList_append, List.drop_zero]
      rw [← hlen]
      exact List.take_left
    · exact ((Chg.refl _ w).drewR).allocR _
    · intro k hk
      simp only [Value.ownBlock, Option.some.injEq] at hk
      exact .inr (by omega)
    · intro g off c _
      refine ⟨fun j u _ hu => Chg.cell (((Chg.refl _ w).drewR).allocR _) hu, .inr ⟨((Chg.refl _ w).drewR).allocR _, fun k hk => ?_⟩⟩
      simp only [Value.ownBlock, Option.some.injEq] at hk
      omega
  rcases hown.2 with ⟨rfl, rfl⟩ | ⟨g, off, cap, cur, rfl, hg, hnc, hcm, hcs, htake⟩
  · have hx : xs = [] := List.eq_nil_of_length_eq_zero (by simpa using hown.1)
    subst hx
    by_cases hm : m = 0
    · subst hm
      have hn : news = [] := List.eq_nil_of_length_eq_zero (by simpa using hs.newsLen)
      subst hn
      refine ⟨.slice none 0 0, w, ?_, RowAt.nil w e i.size, .refl _ _, fun k hk => .inl hk, fun g off c e => by cases e⟩
      have hc := hs.cells
      rcases hs.kind with ⟨e', hk⟩ | hk <;> simp [Builtin.append_, run_underlying ht, run_underlying hk, sizeOf, typeInfo, hi, hs.len, hc]
    · exact grow none 0 rfl (by omega) (run_firstCells_none w.drew i.size 0 0 0)
  · by_cases hroom : n + m ≤ cap
    · have hmul : n * i.size + m * i.size ≤ cap * i.size := by rw [← Nat.add_mul]; exact Nat.mul_le_mul_right _ hroom
      have hfit : off + n * i.size + news.length ≤ cur.size := by rw [hs.newsLen]; omega
      have hr := run_append_room_src (P := P) w t tx ty e i ht hi g off n cap x m news hs hroom
        (fun j hj => by rw [cell_of_block hg (Array.getElem?_eq_getElem (by omega))]; rfl) (fun j _ => frozen_of_block hg)
      refine ⟨_, _, hr, ⟨hlen, .inr ⟨g, off, cap, _, rfl, setCells_block news _ hg, hroom, hcm, ?_, ?_⟩⟩, ?_, fun k hk => .inl hk, ?_⟩
      · rw [putAt_size]; exact hcs
      · rw [putAt_toList _ _ _ hfit, List.append_assoc, List.drop_append_of_le_length (by simp; omega)]
        rw [← List.append_assoc, List.drop_take, show off + n * i.size - off = n * i.size from by omega, htake, ← hlen]
        exact List.take_left
      · exact (Chg.setCells news w _).mono (fun k _ hk => by simp only [Value.ownBlock, hk])
      · intro g2 off2 c2 e2
        cases e2
        refine ⟨fun j u hj hu => ?_, .inl ⟨_, rfl⟩⟩
        rw [World.cell?_setCells_out g news _ w _ (fun _ _ => .inl (by show off + j < off + n * i.size; omega))]
        exact hu
    · refine grow (some ⟨g, off, none⟩) cap rfl (by omega) ?_
      refine run_firstCells_some w.drew i.size n ⟨g, off, none⟩ n cap xs hown.1 ?_
      intro j u hu
      have := hown.cells rfl j u hu
      simpa using this

/-- One element appended, the old ones kept. -/
theorem list_append_elem2 {P : Program} {W : World} {ops : Array Oper} {rest : List Oper} {o : Oper} {a : Act} {Q : Exit → Act → World → Prop} (hgd : o.guard = none) (s x : Operand) (t : TypeId)
    (ho : o.op = .call { callee := .builtin .append, args := #[s, x], argTypes := #[t, t] })
    (e : TypeId) (size bytes : Nat) (ht : P.underlying t = some (.slice e)) (hE : Elem P e size bytes) (hsz : 0 < size)
    (v : Value) (n : Nat) (xs : List Value) (hsv : a.eval s = v) (hown : RowAt W e size v n xs) (news : List Value) (hnl : news.length = size) (g T : Nat) (f : Nat × Nat)
    (hx : a.eval x = .slice (some ⟨g, 0, none⟩) 1 1) (hg : W.heap[g]? = some (.cells news.toArray T f)) (h1 : ∀ u ∈ news, u.oneCell' = true)
    (h63 : n + 1 ≤ maxLen) (hbytes : (n + 1) * bytes ≤ 140737488355328)
    (h : ∀ a1 n1 c1 w', RowAt w' e size (.slice a1 n1 c1) (n + 1) (xs ++ news) → Chg (fun k => v.ownBlock = some k) W w' → (∀ k, (Value.slice a1 n1 c1).ownBlock = some k → v.ownBlock = some k ∨ W.heap.size ≤ k) →
      (∀ g off c, v = .slice (some ⟨g, off, none⟩) n c → (∀ j u, j < n * size → W.cell? ⟨g, off + j, none⟩ = some u → w'.cell? ⟨g, off + j, none⟩ = some u) ∧ ((∃ c', .slice a1 n1 c1 = Value.slice (some ⟨g, off, none⟩) (n + 1) c') ∨ Chg (fun _ => False) W w' ∧ ∀ k, (Value.slice a1 n1 c1).ownBlock = some k → W.heap.size ≤ k)) → wpList P ops Q rest (a.put o.dst (.slice a1 n1 c1)) w') :
    wpList P ops Q (o :: rest) a W := by
  obtain ⟨i, z, hi, hz, hsize, hby, hzs⟩ := hE
  have hs : Src P size t (.slice (some ⟨g, 0, none⟩) 1 1) 1 news W := Src.ofSlice _ ht _ 1 1 news (by omega) (by
    intro j u hu
    have hadd : (⟨g, 0, none⟩ : Addr).add j = ⟨g, j, none⟩ := by unfold Addr.add; split <;> simp_all
    rw [hadd]
    exact cell_of_block hg (by simpa using hu)) h1
  refine wpList_plain hgd fun K hK => ?_
  obtain ⟨v', w', hr, h2, h3, h4, h5⟩ := run_append_row2 (P := P) W t t o.type e i z size bytes ht hi hz hsize hby hzs hsz v n xs hown _ 1 news hs h63 hbytes
  obtain ⟨a1, c1, rfl, -⟩ := h2.slice
  unfold Oper.wp execOp
  simp only [ho, resolve, invoke, builtin, Sem.run_bind, Sem.run_pure, Result.andThen_ok, List.map_toArray, List.map_cons, List.map_nil, hsv, hx, hr]
  exact hK _ _ (h a1 _ c1 w' h2 h3 h4 h5)
end Go.Proofs.YtjianickjahdnaaDoor
namespace Go.Proofs.YtjianickjahdnaaDoor
open Go.RowKit
set_option linter.unusedVariables false
set_option linter.unusedSimpArgs false

def hasK (hp : Hp) (K : List Nat) (h : Int) : Bool := match slotOf hp h with
  | some i => decide (i ∈ K)
  | none => false
def addK (hp : Hp) (K : List Nat) (h : Int) : List Nat := match slotOf hp h with
  | some i => addN K i
  | none => K
theorem mkOf_setlen (bh : Nat) (hp : Hp) (K : List Nat) : (mkOf bh hp K).set.length = hp.slots.length := by unfold mkOf; simp
theorem mkOf_set (bh : Nat) (hp : Hp) (K : List Nat) (i : Nat) (h : i < (mkOf bh hp K).set.length) : (mkOf bh hp K).set[i] = decide (i ∈ K) := by
  have : ∀ (L : List Bool) (hL : L = (List.range hp.slots.length).map fun i => decide (i ∈ K)) (h : i < L.length), L[i] = decide (i ∈ K) := by
    rintro L rfl h
    rw [List.getElem_map, List.getElem_range]
  exact this _ rfl h

/-- The blocks behind the marks. -/
theorem mkFoot {w : World} {bm : Nat} {m : Mk} {F : List Nat} (H : Here mkR w bm 0 m F) : ∃ v1 v2, w.cell? ⟨bm, 1, none⟩ = some v1 ∧ w.cell? ⟨bm, 2, none⟩ = some v2 ∧ F = ownL v1 ++ ownL v2 ∧ (∃ a n c, v1 = .slice a n c) ∧ ∃ a n c, v2 = .slice a n c := by
  obtain ⟨cs, ⟨v1, v2, F1, F2, rfl, h1, h2, rfl⟩, hc⟩ := H.cell
  obtain ⟨x1, e1, r1, rfl⟩ := row_flat.1 h1
  obtain rfl : v1 = x1 := by simpa using e1
  obtain ⟨x2, e2, r2, rfl⟩ := row_flat.1 h2
  obtain rfl : v2 = x2 := by simpa using e2
  have c1 := hc 1 _ rfl
  have c2 := hc 2 _ rfl
  simp only [Nat.zero_add] at c1 c2
  obtain ⟨a1, k1, rfl, -⟩ := r1.slice
  obtain ⟨a2, k2, rfl, -⟩ := r2.slice
  exact ⟨_, _, c1, c2, rfl, ⟨_, _, _, rfl⟩, ⟨_, _, _, rfl⟩⟩
/-- A beginning of the list of marks as it was at some time. -/
def Snap (w : World) (bm : Nat) (F : List Nat) (g off n : Nat) : Prop :=
  (∃ n' c', w.cell? ⟨bm, 2, none⟩ = some (.slice (some ⟨g, off, none⟩) n' c') ∧ n ≤ n') ∨ (g ∉ F ∧ g ≠ bm ∧ g < w.heap.size)
def Snaps (w w' : World) (bm : Nat) (F F' : List Nat) : Prop := ∀ g off n, Snap w bm F g off n → Snap w' bm F' g off n ∧ ∀ j x, j < n → w.cell? ⟨g, off + j, none⟩ = some (.int .i64 x) → w'.cell? ⟨g, off + j, none⟩ = some (.int .i64 x)
section
variable {w w1 w2 w3 w4 : World} {bm : Nat} {m m' : Mk} {F F' F'' : List Nat}
theorem Snaps.still (hc : Chg (fun _ => False) w w1) : Snaps w w1 bm F F := by
  rintro g off n h
  refine ⟨?_, fun j x _ hu => hc.cell hu⟩
  rcases h with ⟨n', c', h1, h2⟩ | ⟨h1, h2, h3⟩
  · exact .inl ⟨n', c', hc.cell h1, h2⟩
  · exact .inr ⟨h1, h2, Nat.lt_of_lt_of_le h3 hc.size⟩
theorem Snaps.trans (h : Snaps w w1 bm F F') (k : Snaps w1 w2 bm F' F'') : Snaps w w2 bm F F'' := by
  intro g off n hs
  obtain ⟨h1, h2⟩ := h g off n hs
  obtain ⟨k1, k2⟩ := k g off n h1
  exact ⟨k1, fun j x hj hu => k2 j x hj (h2 j x hj hu)⟩
theorem Snaps.setBool {gs os : Nat} {b : Bool} (H : Here mkR w bm 0 m F) (hq : w.cell? ⟨gs, os, none⟩ = some (.bool b)) (H' : Here mkR (w.setCell ⟨gs, os, none⟩ (.bool true)) bm 0 m' F') : Snaps w (w.setCell ⟨gs, os, none⟩ (.bool true)) bm F F' := by
  have hother : ∀ k j u, w.cell? ⟨k, j, none⟩ = some u → (∀ b, u ≠ .bool b) → (w.setCell ⟨gs, os, none⟩ (.bool true)).cell? ⟨k, j, none⟩ = some u := by
    intro k j u hu hn
    rw [World.cell?_setCell_other _ _ _ _ (by
      intro e
      rw [Addr.mk.injEq] at e
      obtain ⟨rfl, rfl, -⟩ := e
      rw [hq] at hu
      exact hn b (Option.some.inj hu).symm)]
    exact hu
  obtain ⟨v1, v2, c1, c2, hF, ⟨a1, n1, k1, rfl⟩, ⟨a2, n2, k2, rfl⟩⟩ := mkFoot H
  obtain ⟨x1, x2, d1, d2, hF', -, -⟩ := mkFoot H'
  rw [hother _ _ _ c1 (fun b e => by cases e)] at d1
  rw [hother _ _ _ c2 (fun b e => by cases e)] at d2
  cases d1
  cases d2
  rw [← hF] at hF'
  subst hF'
  intro g off n hs
  refine ⟨?_, fun j x _ hu => hother _ _ _ hu (fun b e => by cases e)⟩
  rcases hs with ⟨n', c', h1, h2⟩ | ⟨h1, h2, h3⟩
  · exact .inl ⟨n', c', hother _ _ _ h1 (fun b e => by cases e), h2⟩
  · exact .inr ⟨h1, h2, by simpa using h3⟩
theorem Snaps.push {W : World} {p : Option Addr} {L cp : Nat} {a2 : Option Addr} {c2 : Nat} (H : Here mkR w bm 0 m F) (hd : w.cell? ⟨bm, 2, none⟩ = some (.slice p L cp)) (hW : Chg (fun _ => False) w W)
    (hchg : Chg (fun k => (Value.slice p L cp).ownBlock = some k) W w4) (hold : ∀ k, (Value.slice a2 (L + 1) c2).ownBlock = some k → (Value.slice p L cp).ownBlock = some k ∨ W.heap.size ≤ k)
    (hkeep : ∀ g off c, Value.slice p L cp = .slice (some ⟨g, off, none⟩) L c → (∀ j u, j < L * 1 → W.cell? ⟨g, off + j, none⟩ = some u → w4.cell? ⟨g, off + j, none⟩ = some u) ∧ ((∃ c', Value.slice a2 (L + 1) c2 = .slice (some ⟨g, off, none⟩) (L + 1) c') ∨ Chg (fun _ => False) W w4 ∧ ∀ k, (Value.slice a2 (L + 1) c2).ownBlock = some k → W.heap.size ≤ k))
    (H' : Here mkR (w4.setCell ⟨bm, 2, none⟩ (.slice a2 (L + 1) c2)) bm 0 m' F') : Snaps w (w4.setCell ⟨bm, 2, none⟩ (.slice a2 (L + 1) c2)) bm F F' := by
  obtain ⟨v1, v2, e1, e2, hF, ⟨s1, n1, k1, rfl⟩, -⟩ := mkFoot H
  rw [hd] at e2
  cases e2
  have hlt := H.lt
  have hnb := H.nb
  have hnd := H.nd
  rw [hF] at hnb hnd
  have hpb : ∀ k, (Value.slice p L cp).ownBlock = some k → k ≠ bm := fun k hk e => hnb (List.mem_append_right _ (mem_ownL.2 (e ▸ hk)))
  have hW4 : ∀ k j u, W.cell? ⟨k, j, none⟩ = some u → (∀ q, (Value.slice p L cp).ownBlock = some q → q ≠ k) → w4.cell? ⟨k, j, none⟩ = some u := fun k j u hu hk => hchg.cellS hu (fun x => hk k x rfl)
  have c1' : w4.cell? ⟨bm, 1, none⟩ = some (.slice s1 n1 k1) := hW4 _ _ _ (hW.cell e1) hpb
  have c2' : w4.cell? ⟨bm, 2, none⟩ = some (.slice p L cp) := hW4 _ _ _ (hW.cell hd) hpb
  obtain ⟨x1, x2, d1, d2, hF', -, -⟩ := mkFoot H'
  rw [World.cell?_setCell_other _ _ _ _ (by intro e; cases e), c1'] at d1
  rw [World.cell?_setCell_same _ _ _ c2'] at d2
  cases d1
  cases d2
  have hsz : W.heap.size ≤ w4.heap.size := hchg.size
  intro g off n hs
  rcases hs with ⟨n', c', h1, h2⟩ | ⟨h1, h2, h3⟩
  · rw [hd] at h1
    cases h1
    have hgF : g ∈ F := by rw [hF]; exact List.mem_append_right _ (mem_ownL.2 rfl)
    have hgb : g ≠ bm := hpb g rfl
    obtain ⟨q1, q2⟩ := hkeep g off cp rfl
    refine ⟨?_, fun j x hj hu => ?_⟩
    · rcases q2 with ⟨c'', e⟩ | ⟨-, hnew⟩
      · rw [e]
        exact .inl ⟨L + 1, c'', World.cell?_setCell_same _ _ _ c2', by omega⟩
      · refine .inr ⟨fun hx => ?_, hgb, ?_⟩
        · rw [hF'] at hx
          rcases List.mem_append.1 hx with y | y
          · exact (List.nodup_append.1 hnd).2.2 g y g (mem_ownL.2 rfl) rfl
          · have := hnew g (mem_ownL.1 y)
            have := hlt.2 g hgF
            have := hW.size
            omega
        · have := hlt.2 g hgF
          have := hW.size
          simp only [World.size_setCell]
          omega
    · rw [World.cell?_setCell_other _ _ _ _ (by intro e; rw [Addr.mk.injEq] at e; exact hgb e.1.symm)]
      exact q1 j _ (by omega) (hW.cell hu)
  · have hpg : ∀ q, (Value.slice p L cp).ownBlock = some q → q ≠ g := fun q hq e => h1 (by rw [hF]; exact List.mem_append_right _ (mem_ownL.2 (e ▸ hq)))
    refine ⟨.inr ⟨fun hx => ?_, h2, ?_⟩, fun j x hj hu => ?_⟩
    · rw [hF'] at hx
      rcases List.mem_append.1 hx with y | y
      · exact h1 (by rw [hF]; exact List.mem_append_left _ y)
      · rcases hold g (mem_ownL.1 y) with z | z
        · exact hpg g z rfl
        · have := hW.size; omega
    · have := hW.size
      simp only [World.size_setCell]
      omega
    · rw [World.cell?_setCell_other _ _ _ _ (by intro e; rw [Addr.mk.injEq] at e; exact h2 e.1.symm)]
      exact hW4 _ _ _ (hW.cell hu) hpg
end
/-- What add has done to the marks: a step at their block. -/
def MkP (w0 w : World) (bm bh : Nat) (hp : Hp) (K' : List Nat) (F : List Nat) (w' : World) : Prop := ∃ F', Own mkR w0 w' bm 0 (mkOf bh hp K') F' ∧ KOk hp K' ∧ Step w w' bm 0 3 F F' ∧ Snaps w w' bm F F'

end Go.Proofs.YtjianickjahdnaaDoor
namespace Go.Proofs.YtjianickjahdnaaDoor
open Go.RowKit
set_option linter.unusedVariables false
set_option linter.unusedSimpArgs false

def frameRefs (f : Frm) : List Int := (((refsV [f.this] ++ refsV f.locals) ++ refsV f.stack) ++ [f.env, f.object]) ++ refsV f.values
def framesM (l : List Frm) : List Int := nz (l.flatMap frameRefs)
def FrmOk (f : Frm) : Prop := f.locals.length ≤ 100 ∧ f.stack.length ≤ 100 ∧ f.values.length ≤ 100
theorem frameRefs_len {f : Frm} (h : FrmOk f) : (frameRefs f).length ≤ 303 := by
  obtain ⟨h1, h2, h3⟩ := h
  have a1 := refsV_len [f.this]
  have a2 := refsV_len f.locals
  have a3 := refsV_len f.stack
  have a4 := refsV_len f.values
  unfold frameRefs
  simp only [List.length_append, List.length_cons, List.length_nil] at *
  omega
theorem framesRefs_len : ∀ (l : List Frm), (∀ f ∈ l, FrmOk f) → (l.flatMap frameRefs).length ≤ l.length * 303
  | [], _ => by simp
  | f :: l, h => by
    have h1 := frameRefs_len (h f (by simp))
    have h2 := framesRefs_len l (fun g hg => h g (by simp [hg]))
    rw [List.flatMap_cons, List.length_append, List.length_cons, Nat.add_mul]
    omega
def frmC (f : Frm) (vl vs vv : Value) : List Value := [.int .i64 f.kind, .int .i64 f.func, .int .i64 f.pc, .int .i64 f.tkind, .int .i64 f.tint, .string f.tstr, .int .i64 f.tref, vl, vs, .int .i64 f.env, .int .i64 f.scope, .int .i64 f.mode, .int .i64 f.object, .int .i64 f.host, .int .i64 f.phase, vv]
/-- A frame that is being looked through. -/
structure FrS (w W : World) (bt : Nat) (cs : List Value) (v : Value) (acc : List Int) : Prop where
  out : OutI w W v acc
  blk : W.heap[bt]? = some (.cells cs.toArray 164 (0, 0))
  ne : ∀ k, v.ownBlock = some k → k ≠ bt
section
variable {w W W1 W2 : World} {bt : Nat} {cs : List Value} {v v2 : Value} {acc acc2 : List Int}
theorem FrS.still (h : FrS w W bt cs v acc) (hc : Chg (fun _ => False) W W1) : FrS w W1 bt cs v acc := ⟨h.out.still hc, hc.keep h.blk (fun x => x), h.ne⟩
theorem FrS.cell (h : FrS w W bt cs v acc) (j : Nat) (u : Value) (hu : cs[j]? = some u) : W.cell? ⟨bt, j, none⟩ = some u := cell_of_block h.blk (by simpa using hu)
theorem FrS.app (h : FrS w W bt cs v acc) (h1 : Chg (fun _ => False) W W1) (ho : OutI w W2 v2 acc2) (hc : Chg (fun k => v.ownBlock = some k) W1 W2) (hold : ∀ k, v2.ownBlock = some k → v.ownBlock = some k ∨ W1.heap.size ≤ k) : FrS w W2 bt cs v2 acc2 := by
  have hb := h1.keep h.blk (fun x => x)
  refine ⟨ho, hc.keep hb (fun x => h.ne _ x rfl), fun k hk e => ?_⟩
  rcases hold k hk with x | x
  · exact h.ne k x e
  · have := lt_of_block hb; omega
end

end Go.Proofs.YtjianickjahdnaaDoor
namespace Go.Proofs.YtjianickjahdnaaDoor
open Go.RowKit
attribute [local go_sem] Oper.semAt_some
set_option linter.unusedVariables false
set_option linter.unusedSimpArgs false

theorem Chg.putObj {S : Nat → Prop} {a b : World} (h : Chg S a b) (l : Nat) (o : _root_.Go.Obj) (hl : l < a.heap.size → S l) : Chg S a (b.putObj l o) :=
  h.trans (Chg.grown (grownBy_putObj' b l o)) (fun _ _ x => x) (fun i hi e => by cases e; exact hl hi)
/-- The contract of an iterator that makes its list first and changes nothing that lay there. -/
def SeqList {α : Type} (F : Fence) (n : Nat) (P : Program) (g : Nat) (lb : Array Value) (encs : α → Array Value) (xs : List α) (W : World) : Prop :=
  ∀ (l : Nat) (J : Nat → List α → World → Prop), (∀ W', Chg (fun _ => False) W W' → J W'.heap.size [] W') →
    (∀ B1 pre x W1, W.heap.size ≤ B1 → J B1 pre W1 → pre <+: xs → (pre ++ [x]) <+: xs → YieldAt F (n - 1) P l (encs x) W1 fun e W' =>
      e = .returned (.bool true) ∧ J B1 (pre ++ [x]) W' ∧ (∀ k o, W.heap.size ≤ k → k < B1 → W1.heap[k]? = some o → W'.heap[k]? = some o)) →
    CallsIn F n P g (#[.func (.yield l) #[] #[]] ++ lb) W fun e W' => (∃ v, e = .returned v) ∧ ∃ B1, W.heap.size ≤ B1 ∧ J B1 xs W'

/-- A range over such an iterator. -/
theorem wpIn_rangeFunc_list {F : Fence} {n : Nat} {P : Program} {α : Type} {g : Operand} {ps : Array Tmp} {assign body : Code} {Q : Exit → Act → World → Prop} {a : Act} {w : World}
    (hro : F.round = none) (h1 : 1 ≤ n) {gf : Nat} {lb : Array Value} (hg : a.eval g = .func (.func gf) #[] lb) (hFg : F.fn gf) (eg : ∀ args w, (callFunc gf args).run P w = .ok (.enter gf args) w)
    {encs : α → Array Value} {xs : List α} (hseq : ∀ W, Chg (fun _ => False) w W → SeqList F (n - 1) P gf lb encs xs W) (hps : ∀ x, (encs x).size = ps.size)
    (I : Nat → List α → World → Prop)
    (hI : ∀ B1 pre W l o o', I B1 pre W → w.heap.size ≤ l → W.heap[l]? = some o → o.isCells = false → I B1 pre (W.putObj l o'))
    (h0 : ∀ W, Chg (fun _ => False) w W → I W.heap.size [] W) (a₁ : α → Act)
    (hassign : ∀ (l : Nat) (x : α) (W : World) (K : Act → World → Prop), K (a₁ x) W →
      assign.wpIn (F.inRound l) (n - 1 - 1) P (Exit.then K (fun _ _ _ => False)) { tmps := (ps.zip (encs x)).foldl (fun t (p, v) => t.setIfInBounds p v) a.tmps, defers := [] } W)
    (hbody : ∀ (l B1 : Nat) (pre : List α) (x : α) (W : World), w.heap.size ≤ B1 → I B1 pre W → (pre ++ [x]) <+: xs →
      body.wpIn (F.inRound l) (n - 1 - 1) P (fun e _ W' => e = .normal ∧ I B1 (pre ++ [x]) W' ∧ ∀ k o, w.heap.size ≤ k → k < B1 → W.heap[k]? = some o → W'.heap[k]? = some o) (a₁ x) W)
    (hdone : ∀ (D B1 : Nat) (W : World), w.heap.size ≤ D → I B1 xs W → W.heap[D]? = some (.deferred (some [])) → Q .normal { a with defers := { target := .collected D, args := #[] } :: a.defers } W) :
    (Code.rangeFunc g ps assign body).wpIn F n P Q a w := by
  refine wpIn_rangeFunc ?_
  intro fn hfn
  rw [hro]
  obtain ⟨rec, hrec⟩ : ∃ rec : LoopState → Option Code → Loop, rec = fun st pe => { state := st, pending := pe, fn, tmps := a.tmps, params := ps, assign, body, defers := w.heap.size } := ⟨_, rfl⟩
  obtain ⟨W1, hW1⟩ : ∃ W1, (w.alloc (.deferred (some []))).alloc (.loop (rec .ready none)) = W1 := ⟨_, rfl⟩
  have hc1 : Chg (fun _ => False) w W1 := by rw [← hW1]; exact (Chg.alloc _ _ _).allocR _
  have hs1 : W1.heap.size = w.heap.size + 1 + 1 := by rw [← hW1]; simp
  have hL1 : W1.heap[w.heap.size + 1]? = some (.loop (rec .ready none)) := by
    rw [← hW1]; have := World.alloc_heap_new (w.alloc (.deferred (some []))) (.loop (rec .ready none)); rwa [World.size_alloc] at this
  have hK1 : W1.heap[w.heap.size]? = some (.deferred (some [])) := by
    rw [← hW1]; exact (Below.heap_alloc _ _ _ (by simp)).trans (World.alloc_heap_new w _)
  refine ⟨w.heap.size + 1, [{ target := .collected w.heap.size, args := #[] }], W1, { target := .fn (.func gf) lb, args := #[.func (.yield (w.heap.size + 1)) #[] #[]] }, W1, gf,
    #[.func (.yield (w.heap.size + 1)) #[] #[]] ++ lb, W1, ?_, ?_, ?_, ?_, fun _ => h1, ?_⟩
  · rw [← hW1, hrec]; exact run_enterLoop_outer _ _ _ _ _
  · simp only [resolve, hg]
    simp [go_sem]
  · intro f' hf'; simp [Target.leads] at hf'; subst hf'; exact hFg
  · simp [invoke, go_sem, eg]
  · refine ((hseq W1 hc1) (w.heap.size + 1)
      (fun B1 pre W => I B1 pre W ∧ W.heap[w.heap.size + 1]? = some (.loop (rec .ready none)) ∧ W.heap[w.heap.size]? = some (.deferred (some [])))
      (fun W' hc => ⟨h0 W' (hc1.trans' hc), hc.keep hL1 (fun x => x), hc.keep hK1 (fun x => x)⟩) ?_).mono ?_
    · rintro B1 pre x W hB ⟨hi, hl, hk⟩ - hpre
      rw [hs1] at hB ⊢
      have hlt : w.heap.size + 1 < W.heap.size := (Array.getElem?_eq_some_iff.1 hl).1
      have hy := run_yield (P := P) (args := encs x) hl (by rw [hrec]; exact hps x)
      rw [hrec] at hy
      refine ⟨fn, _, assign, body, hy, roundIn_of_wpIn hfn (hassign _ x W _ ⟨_, run_beginRound hl (by rw [hrec]), ?_⟩)⟩
      have hl2 : (W.putObj (w.heap.size + 1) (.loop { rec .ready none with state := .busy })).heap[w.heap.size + 1]? = some (.loop { rec .ready none with state := .busy }) := World.putObj_heap_same hlt
      have hk2 : (W.putObj (w.heap.size + 1) (.loop { rec .ready none with state := .busy })).heap[w.heap.size]? = some (.deferred (some [])) := (World.putObj_heap_other (by omega)).trans hk
      refine wpIn_mono (hbody _ B1 pre x _ (by omega) (hI _ _ _ _ _ _ hi (by omega) hl rfl) hpre) ?_
      rintro e a3 W3 ⟨rfl, hi3, hkeep⟩
      have hl3 := hkeep _ _ (by omega) (by omega) hl2
      have hk3 := hkeep _ _ (by omega) (by omega) hk2
      have hr := run_endRound (P := P) none hl3
      have hlt3 := (Array.getElem?_eq_some_iff.1 hl3).1
      rw [hrec] at hr
      refine ⟨_, _, hr, rfl, ⟨hI _ _ _ _ _ _ hi3 (by omega) hl3 rfl, ?_, (World.putObj_heap_other (by omega)).trans hk3⟩, ?_⟩
      · rw [hrec]; exact World.putObj_heap_same hlt3
      · intro k o h2 h3 ho
        by_cases hkl : k = w.heap.size + 1
        · omega
        · rw [World.putObj_heap_other (by omega)]
          exact hkeep _ _ (by omega) h3 (by rw [World.putObj_heap_other (by omega)]; exact ho)
    · rintro e W2 ⟨⟨v, rfl⟩, B1, hB, hi, hl, hk⟩
      exact ⟨none, _, by have := run_endLoop (P := P) hl (by rw [hrec]; simp); rw [hrec] at this; exact this, hdone _ B1 _ (Nat.le_refl _) (hI _ _ _ _ _ _ hi (by omega) hl rfl) ((World.putObj_heap_other (by omega)).trans hk)⟩
end Go.Proofs.YtjianickjahdnaaDoor
namespace Go.Proofs.YtjianickjahdnaaDoor
open Go.RowKit
attribute [local go_sem] Oper.semAt_some
set_option linter.unusedVariables false
set_option linter.unusedSimpArgs false

def propRefs (p : Prp) : List Int := refsV [p.val]
def refsL (x : Obj) : List Int := ((((([x.proto] ++ x.props.flatMap propRefs) ++ refsV x.elems) ++ (if x.kind = 5 then [] else refsV x.data)) ++ [x.env]) ++ framesM x.saved)
def refsM (x : Obj) : List Int := nz (refsL x)
structure ObjOk (x : Obj) : Prop where
  props : x.props.length ≤ 1000
  elems : x.elems.length ≤ 1000
  data : x.data.length ≤ 1000
  saved : x.saved.length ≤ 1000
  each : ∀ f ∈ x.saved, FrmOk f
theorem framesM_len {l : List Frm} (h : ∀ f ∈ l, FrmOk f) : (framesM l).length ≤ l.length * 303 := Nat.le_trans (List.length_filter_le ..) (framesRefs_len l h)
theorem propRefs_len : ∀ (l : List Prp), (l.flatMap propRefs).length ≤ l.length
  | [] => Nat.le_refl _
  | p :: l => by
    have h1 := refsV_len [p.val]
    have h2 := propRefs_len l
    rw [List.flatMap_cons, List.length_append, List.length_cons]
    unfold propRefs at *
    simp only [List.length_cons, List.length_nil] at h1
    omega
/-- An object in memory, opened. -/
structure ObjC (w : World) (g o : Nat) (x : Obj) (vp ve vd vs : Value) : Prop where
  c0 : w.cell? ⟨g, o, none⟩ = some (.int .i64 x.kind)
  c1 : w.cell? ⟨g, o + 1, none⟩ = some (.int .i64 x.proto)
  c2 : w.cell? ⟨g, o + 2, none⟩ = some vp
  c3 : w.cell? ⟨g, o + 3, none⟩ = some ve
  c4 : w.cell? ⟨g, o + 4, none⟩ = some vd
  c6 : w.cell? ⟨g, o + 6, none⟩ = some (.int .i64 x.env)
  c9 : w.cell? ⟨g, o + 9, none⟩ = some vs
  rp : RowAt w 86 5 vp x.props.length (x.props.flatMap Prp.cells)
  re : RowAt w 36 4 ve x.elems.length (x.elems.flatMap Val.cells)
  rd : RowAt w 36 4 vd x.data.length (x.data.flatMap Val.cells)
  rs : ∃ F, (frmR.row 164).own w [vs] x.saved F
theorem ObjC.still {w w' : World} {g o : Nat} {x : Obj} {vp ve vd vs : Value} (h : ObjC w g o x vp ve vd vs) (hc : Chg (fun _ => False) w w') : ObjC w' g o x vp ve vd vs := by
  obtain ⟨F, hF⟩ := h.rs
  exact ⟨hc.cell h.c0, hc.cell h.c1, hc.cell h.c2, hc.cell h.c3, hc.cell h.c4, hc.cell h.c6, hc.cell h.c9, h.rp.chg hc (fun _ _ x => x), h.re.chg hc (fun _ _ x => x), h.rd.chg hc (fun _ _ x => x), F, (frmR.row 164).chg hF hc (fun _ _ x => x)⟩
theorem objOpen {w : World} {g o : Nat} {x : Obj} {F : List Nat} (H : Here objR w g o x F) : ∃ vp ve vd vs, ObjC w g o x vp ve vd vs := by
  obtain ⟨cs, ⟨vp, ve, vd, vs, F1, F2, F3, F4, rfl, h1, h2, h3, h4, -⟩, hc⟩ := H.cell
  obtain ⟨v1, e1, r1, -⟩ := row_flat.1 h1
  obtain rfl : vp = v1 := by simpa using e1
  obtain ⟨v2, e2, r2, -⟩ := row_flat.1 h2
  obtain rfl : ve = v2 := by simpa using e2
  obtain ⟨v3, e3, r3, -⟩ := row_flat.1 h3
  obtain rfl : vd = v3 := by simpa using e3
  exact ⟨vp, ve, vd, vs, hc 0 _ rfl, hc 1 _ rfl, hc 2 _ rfl, hc 3 _ rfl, hc 4 _ rfl, hc 6 _ rfl, hc 9 _ rfl, r1, r2, r3, F4, h4⟩

end Go.Proofs.YtjianickjahdnaaDoor
namespace Go.Proofs.YtjianickjahdnaaDoor
open Go.RowKit
set_option linter.unusedVariables false
set_option linter.unusedSimpArgs false

def noVal : Val := ⟨0, 0, ⟨#[]⟩, 0⟩
def pairsM (d : List Val) : List (Val × Val) := (List.range (d.length / 2)).map fun q => (d.getD (2 * q) noVal, d.getD (2 * q + 1) noVal)
def wkV (hp : Hp) (K : List Nat) (p : Val × Val) : List Nat := if p.2.kind = 5 ∧ p.1.kind = 5 ∧ hasK hp K p.1.ref = true then addK hp K p.2.ref else K
def weakObj (hp : Hp) (K : List Nat) (x : Obj) : List Nat := if x.kind = 5 then (pairsM x.data).foldl (wkV hp) K else K
def weakS (hp : Hp) (K : List Nat) (s : Nat) : List Nat := weakObj hp K (hp.slots.getD s noSlt).obj
def weakM (hp : Hp) (K : List Nat) : List Nat := K.foldl (weakS hp) K
def InI (h : Int) : Prop := -9223372036854775808 ≤ h ∧ h ≤ 9223372036854775807
/-- Objects of a size that is walked, with handles that are numbers of the machine. -/
structure HpOk (hp : Hp) : Prop where
  few : hp.slots.length ≤ 100000
  obj : ∀ s (h : s < hp.slots.length), ObjOk hp.slots[s].obj
  refs : ∀ s (h : s < hp.slots.length), ∀ r ∈ refsM hp.slots[s].obj, InI r
  data : ∀ s (h : s < hp.slots.length), ∀ v ∈ hp.slots[s].obj.data, InI v.ref
theorem addK_ok {hp : Hp} {K : List Nat} (h : KOk hp K) (r : Int) : KOk hp (addK hp K r) := by
  unfold addK
  cases hs : slotOf hp r with
  | none => exact h
  | some i =>
    obtain ⟨h1, h2, -⟩ := slotOf_lt hs
    exact h.add h1 h2
theorem wkV_ok {hp : Hp} {K : List Nat} (h : KOk hp K) (p : Val × Val) : KOk hp (wkV hp K p) := by
  unfold wkV
  split
  · exact addK_ok h _
  · exact h
theorem slotOf_handle {hp : Hp} {s : Nat} (hs : s < hp.slots.length) (hu : (hp.slots.getD s noSlt).used = true) (hl : hp.slots.length ≤ 100000) : slotOf hp (handleM hp.base hp.stride (s : Nat)) = some s := by
  unfold slotOf
  rw [index_of_handle _ _ (by omega)]
  rw [Int.toNat_natCast, if_pos ⟨by omega, hs, hu⟩]
theorem hpObj {w : World} {b o : Nat} {hp : Hp} {F : List Nat} {a : Option Addr} {m cap i : Nat} (H : Here hpR w b o hp F) (hv : w.cell? ⟨b, o + 2, none⟩ = some (.slice a m cap)) (hi : i < hp.slots.length) :
    ∃ g off, a = some ⟨g, off, none⟩ ∧ objPtr (.slice a m cap) (some i) = some ⟨g, off + i * 11 + 1, none⟩ ∧ ∃ G, Here objR w g (off + i * 11 + 1) hp.slots[i].obj G := by
  obtain ⟨g, off, rfl, G, h1, -⟩ := hpSlot H hv hi
  obtain ⟨G2, h2, -⟩ := h1.field sltR_obj (by show 0 < 11; decide)
  exact ⟨g, off, rfl, rfl, G2, h2⟩
theorem pairs_take {d : List Val} {q : Nat} (h : q < d.length / 2) : (pairsM d).take (q + 1) = (pairsM d).take q ++ [(d.getD (2 * q) noVal, d.getD (2 * q + 1) noVal)] := by
  have hl : q < (pairsM d).length := by unfold pairsM; simpa using h
  rw [List.take_succ_eq_append_getElem hl]
  congr 1
  unfold pairsM
  simp
theorem pairs_all (d : List Val) : (pairsM d).take (d.length / 2) = pairsM d := List.take_of_length_le (by unfold pairsM; simp)
theorem weakS_take {hp : Hp} {K K0 : List Nat} {i : Nat} (h : i < K.length) : (K.take (i + 1)).foldl (weakS hp) K0 = weakS hp ((K.take i).foldl (weakS hp) K0) K[i] := by
  rw [List.take_succ_eq_append_getElem h, List.foldl_append]
  rfl

/-- The list as it was when the pass began. -/
def SnapV (w : World) (bm : Nat) (F : List Nat) (v : Value) (l : List Int) : Prop := ∃ p c, v = .slice p l.length c ∧ (l = [] ∨ ∃ g off, p = some ⟨g, off, none⟩ ∧ Snap w bm F g off l.length ∧ ∀ j (h : j < l.length), w.cell? ⟨g, off + j, none⟩ = some (.int .i64 l[j]))
theorem SnapV.step {w w' : World} {bm : Nat} {F F' : List Nat} {v : Value} {l : List Int} (h : SnapV w bm F v l) (hs : Snaps w w' bm F F') : SnapV w' bm F' v l := by
  obtain ⟨p, c, rfl, h | ⟨g, off, rfl, h1, h2⟩⟩ := h
  · exact ⟨p, c, rfl, .inl h⟩
  · obtain ⟨k1, k2⟩ := hs g off _ h1
    exact ⟨_, c, rfl, .inr ⟨g, off, rfl, k1, fun j hj => k2 j _ hj (h2 j hj)⟩⟩
theorem SnapV.start {w : World} {bm : Nat} {m : Mk} {F : List Nat} (H : Here mkR w bm 0 m F) {v : Value} (hv : w.cell? ⟨bm, 2, none⟩ = some v) : SnapV w bm F v m.list := by
  obtain ⟨cs, ⟨v1, v2, F1, F2, rfl, h1, h2, rfl⟩, hc⟩ := H.cell
  obtain ⟨x2, e2, r2, rfl⟩ := row_flat.1 h2
  obtain rfl : v2 = x2 := by simpa using e2
  have c2 := hc 2 _ rfl
  simp only [Nat.zero_add] at c2
  rw [hv] at c2
  cases c2
  obtain ⟨a, c, rfl, -⟩ := r2.slice
  refine ⟨a, c, rfl, ?_⟩
  by_cases hl : m.list = []
  · exact .inl hl
  · have hpos : 0 < m.list.length := List.length_pos_iff.2 hl
    obtain ⟨g, off, cap, e, -, -⟩ := r2.addr hpos
    cases e
    refine .inr ⟨g, off, rfl, .inl ⟨_, _, hv, Nat.le_refl _⟩, fun j hj => r2.cellAt j _ ?_⟩
    rw [flatMap_one]
    simp [hj]

end Go.Proofs.YtjianickjahdnaaDoor
namespace Go.Proofs.YtjianickjahdnaaDoor
open Go.RowKit
set_option linter.unusedVariables false
set_option linter.unusedSimpArgs false

def addI (l : List Int) (n count : Int) : List Int := if n < 0 ∨ count ≤ n ∨ n ∈ l then l else l ++ [n]

end Go.Proofs.YtjianickjahdnaaDoor
namespace Go.Proofs.YtjianickjahdnaaDoor
open Go.RowKit
set_option linter.unusedVariables false

/-- The value v is a slice that owns its block, and what is behind it. -/
structure Row {α : Type} (A : Rep α) (e : TypeId) (w : World) (v : Value) (l : List α) (F : List Nat) : Prop where
  own : (A.row e).own w [v] l F
  nd : F.Nodup
section
variable {α : Type} {A : Rep α} {e : TypeId} {w w1 w2 : World} {v v2 : Value} {l m : List α} {F : List Nat}
theorem Row.chg {S : Nat → Prop} (h : Row A e w v l F) (hc : Chg S w w1) (hn : ∀ k ∈ F, ¬ S k) : Row A e w1 v l F := ⟨(A.row e).chg h.own hc hn, h.nd⟩
theorem Row.still (h : Row A e w v l F) (hc : Chg (fun _ => False) w w1) : Row A e w1 v l F := h.chg hc (fun _ _ x => x)
theorem Row.lt (h : Row A e w v l F) : ∀ k ∈ F, k < w.heap.size := (A.row e).lt h.own
theorem Row.val (h : Row A e w v l F) : ∃ a cap, v = .slice a l.length cap ∧ l.length ≤ cap ∧ cap ≤ maxLen := by
  obtain ⟨xs, Fs, h1⟩ := Rep.opened h.own
  exact h1.val
theorem Row.nil (A : Rep α) (e : TypeId) (w : World) : Row A e w (.slice none 0 0) [] [] := ⟨⟨_, [], [], rfl, RowAt.nil _ _ _, .nil, rfl⟩, List.nodup_nil⟩
theorem Row.apart {γ : Type} {C : Rep γ} {b o n : Nat} {G G' : List Nat} (h : Row A e w v l F) (hs : Step w w1 b o n G G') (hb : b ∉ F) (hG : ∀ k ∈ F, k ∉ G) : Row A e w1 v l F :=
  h.chg hs.chg fun k hk x => x.elim (fun e => hb (e ▸ hk)) (hG k hk)
theorem each_take_length {A : Rep α} {w : World} (ys : List (List Value)) (zs : List α) (Gs : List (List Nat)) (hh : Each A w ys zs Gs) : ∀ m, (ys.take m).flatten.length = (ys.take m).length * A.n := by
  induction hh with
  | nil => intro m; simp
  | cons a1 _ ih =>
    intro m
    cases m with
    | zero => simp
    | succ m => rw [List.take_succ_cons, List.flatten_cons, List.length_append, ih m, A.len a1, List.length_cons, Nat.add_mul]; omega
theorem Row.elem (h : Row A e w v l F) (hl : 0 < l.length) :
    ∃ g off cap, v = .slice (some ⟨g, off, none⟩) l.length cap ∧ l.length ≤ cap ∧ cap ≤ maxLen ∧ g ∈ F ∧
      ∀ i (hi : i < l.length), ∃ G, Here A w g (off + i * A.n) l[i] G ∧ (∀ x ∈ G, x ∈ F) ∧ g ∉ G ∧
        ∀ w' y G', Here A w' g (off + i * A.n) y G' → Step w w' g (off + i * A.n) A.n G G' → ∃ F', Row A e w' v (l.set i y) F' ∧ Chg (fun k => k ∈ F) w w' ∧ ∀ x ∈ F', x ∈ F ∨ w.heap.size ≤ x := by
  obtain ⟨⟨v', xs, Fs, hv, hrow, hE, rfl⟩, hnd⟩ := h
  obtain rfl : v = v' := by simpa using hv
  obtain ⟨g, off, cap, rfl, k1, k2⟩ := hrow.addr hl
  rw [ownL_some] at hnd ⊢
  simp only [List.singleton_append, List.nodup_cons, List.mem_cons] at hnd ⊢
  refine ⟨g, off, cap, rfl, k1, k2, .inl rfl, ?_⟩
  intro i hi
  obtain ⟨x, G, xa, xb, Fa, Fb, q1, rfl, q3, rfl, q5⟩ := hE.at i hi
  obtain ⟨hflat, hr⟩ := hrow
  rcases hr with ⟨hv', _⟩ | ⟨g', off', cap', cur, hv', hg, _, _, hsz, hcur⟩
  · simp at hv'
  simp only [Value.slice.injEq, Option.some.injEq, Addr.mk.injEq, true_and] at hv'
  obtain ⟨⟨rfl, rfl, _⟩, rfl⟩ := hv'
  have hxl := A.len q1
  have hxa : xa.flatten.length = i * A.n := by
    have h1 := each_take_length _ _ _ hE i
    rw [← q3, List.take_left] at h1
    rw [h1, q3]
  have hmul : (i + 1) * A.n ≤ l.length * A.n := Nat.mul_le_mul_right _ hi
  have hmul2 : l.length * A.n ≤ cap * A.n := Nat.mul_le_mul_right _ k1
  rw [Nat.add_mul, Nat.one_mul] at hmul
  have hx : (cur.toList.drop (off + i * A.n)).take A.n = x := by
    have e1 := congrArg (fun z => (z.drop (i * A.n)).take A.n) hcur
    simp only [List.flatten_append, List.flatten_cons] at e1
    rw [← hxa, List.drop_left, hxa, ← hxl, List.take_left, hxl] at e1
    rw [← e1]
    refine List.ext_getElem? fun j => ?_
    by_cases hj : j < A.n
    · rw [take_drop_get hj, take_drop_get hj, take_drop_get (by omega)]; congr 1; omega
    · rw [List.getElem?_take, if_neg hj, List.getElem?_take, if_neg hj]
  have hmem : ∀ z, z ∈ G → z ∈ (Fa ++ G :: Fb).flatten := fun z hz => by simp [hz]
  have hG : G.Nodup ∧ (∀ z ∈ G, z ∉ Fa.flatten ++ Fb.flatten) ∧ (Fa.flatten ++ Fb.flatten).Nodup := by
    have := hnd.2
    simp only [List.flatten_append, List.flatten_cons, List.nodup_append, List.mem_append] at this ⊢
    exact ⟨this.2.1.1, fun z hz hh => hh.elim (fun y => this.2.2 z y z (.inl hz) rfl) (fun y => this.2.1.2.2 z hz z y rfl), this.1, this.2.1.2.1, fun a ha b hb => this.2.2 a ha b (.inr hb)⟩
  have hgG : g ∉ G := fun x => hnd.1 (hmem g x)
  refine ⟨G, ⟨⟨cur, e, hg, by rw [hx]; exact q1⟩, fun hh => hnd.1 (hmem _ hh), hG.1⟩, fun z hz => .inr (hmem z hz), hgG, ?_⟩
  intro w' y G' hy hs
  obtain ⟨cur', p1, p2, p3⟩ := hs.rest cur e hg
  obtain ⟨d, U, r1, r2⟩ := hy.box
  rw [p1] at r1
  simp only [Option.some.injEq, Obj.cells.injEq] at r1
  obtain ⟨rfl, rfl, _⟩ := r1
  have hgF : g ∉ Fa.flatten ++ Fb.flatten := fun hh => hnd.1 (by simp only [List.flatten_append, List.flatten_cons, List.mem_append] at hh ⊢; exact hh.imp id .inr)
  have hlt := hE.lt
  have hglt := lt_of_block hg
  have hkeep : ∀ k ∈ Fa.flatten ++ Fb.flatten, ∀ ob, w.heap[k]? = some ob → w'.heap[k]? = some ob := by
    intro k hk ob ho
    refine hs.chg.keep ho ?_
    rintro (x | x)
    · exact hgF (x ▸ hk)
    · exact hG.2.1 k x hk
  have hE' := q5 w' _ y G' hkeep r2
  have hG' : ∀ z ∈ G', z ∉ Fa.flatten ++ Fb.flatten := by
    intro z hz hh
    rcases hs.new z hz with x | x
    · exact hG.2.1 z x hh
    · have := hlt z (by simp only [List.flatten_append, List.flatten_cons, List.mem_append] at hh ⊢; exact hh.imp id .inr)
      omega
  refine ⟨g :: (Fa ++ G' :: Fb).flatten, ⟨⟨.slice (some ⟨g, off, none⟩) l.length cap, _, _, rfl, ?_, hE', by simp [ownL_some]⟩, ?_⟩, ?_, ?_⟩
  · refine ⟨by rw [hE'.flat], .inr ⟨g, off, cap, cur', by simp, p1, by simpa using k1, k2, by rw [p2]; exact hsz, ?_⟩⟩
    rw [List.length_set]
    have e1 := ext_rest (k := i * A.n) (m := A.n) (n := l.length * A.n) (o := off) p2 hmul (by omega) p3
    rw [e1, hcur]
    simp only [List.flatten_append, List.flatten_cons]
    rw [List.take_left' hxa, ← List.append_assoc, List.append_assoc]
    congr 1
    congr 1
    rw [← List.drop_drop, List.append_assoc, ← hxa, List.drop_left, ← hxl, List.drop_left]
  · simp only [List.nodup_cons]
    refine ⟨fun hh => ?_, ?_⟩
    · simp only [List.flatten_append, List.flatten_cons, List.mem_append] at hh hgF
      rcases hh with hh | hh | hh
      · exact hgF (.inl hh)
      · exact hy.nb hh
      · exact hgF (.inr hh)
    · have h3 := hG.2.2
      simp only [List.flatten_append, List.flatten_cons, List.nodup_append, List.mem_append] at h3 ⊢
      refine ⟨h3.1, ⟨hy.nd, h3.2.1, fun a ha b hb e => hG' a ha (List.mem_append_right _ (e ▸ hb))⟩, ?_⟩
      rintro a ha b (hb | hb) e
      · exact hG' b hb (List.mem_append_left _ (e ▸ ha))
      · exact h3.2.2 a ha b hb e
  · refine hs.chg.mono fun k hk x => ?_
    rcases x with x | x
    · exact .inl x
    · exact .inr (hmem k x)
  · intro k hk
    simp only [List.flatten_append, List.flatten_cons, List.mem_append, List.mem_cons] at hk ⊢
    rcases hk with hk | hk | hk | hk
    · exact .inl (.inl hk)
    · exact .inl (.inr (.inl hk))
    · rcases hs.new k hk with x | x
      · exact .inl (.inr (.inr (.inl x)))
      · exact .inr x
    · exact .inl (.inr (.inr (.inr hk)))
/-- The cells of an element. -/
theorem Row.cell (h : Row A e w v l F) {i : Nat} (hi : i < l.length) : ∃ g off cap, v = .slice (some ⟨g, off, none⟩) l.length cap ∧ ∃ cs G, A.own w cs l[i] G ∧ (∀ k ∈ G, k ∈ F) ∧ ∀ j u, cs[j]? = some u → w.cell? ⟨g, off + i * A.n + j, none⟩ = some u := by
  obtain ⟨g, off, cap, rfl, _, _, _, h1⟩ := h.elem (by omega)
  obtain ⟨G, h2, h3, _⟩ := h1 i hi
  obtain ⟨cs, h4, h5⟩ := h2.cell
  exact ⟨g, off, cap, rfl, cs, G, h4, h3, h5⟩
end
end Go.Proofs.YtjianickjahdnaaDoor
namespace Go.Proofs.YtjianickjahdnaaDoor
open Go.RowKit
set_option linter.unusedVariables false
set_option linter.unusedSimpArgs false

def natI (K : List Nat) : List Int := K.map fun i : Nat => (i : Int)
theorem natI_len (K : List Nat) : (natI K).length = K.length := List.length_map ..
def natR : Rep Nat := Rep.flat 1 (fun n : Nat => [.int .i64 (n : Int)]) (fun _ => rfl)
structure RObj where
  weak : Bool
  strong : List Nat
  keys : List Nat
  vals : List Nat
def RObj.Own (w : World) (cs : List Value) (s : RObj) (F : List Nat) : Prop :=
  ∃ v1 v2 v3 F1 F2 F3, cs = [.bool s.weak, v1, v2, v3] ∧ (natR.row 3).own w [v1] s.strong F1 ∧ (natR.row 3).own w [v2] s.keys F2 ∧ (natR.row 3).own w [v3] s.vals F3 ∧ F = F1 ++ F2 ++ F3
def robjR : Rep RObj where
  n := 4
  own := RObj.Own
  len := by rintro w cs s F ⟨v1, v2, v3, F1, F2, F3, rfl, h1, h2, h3, rfl⟩; rfl
  lt := by
    rintro w cs s F ⟨v1, v2, v3, F1, F2, F3, rfl, h1, h2, h3, rfl⟩ k hk
    simp only [List.mem_append] at hk
    rcases hk with (x | x) | x
    · exact (natR.row 3).lt h1 k x
    · exact (natR.row 3).lt h2 k x
    · exact (natR.row 3).lt h3 k x
  keep := by
    rintro w w2 cs s F ⟨v1, v2, v3, F1, F2, F3, rfl, h1, h2, h3, rfl⟩ hk
    exact ⟨v1, v2, v3, F1, F2, F3, rfl, (natR.row 3).keep h1 (fun k hm => hk k (by simp [hm])), (natR.row 3).keep h2 (fun k hm => hk k (by simp [hm])), (natR.row 3).keep h3 (fun k hm => hk k (by simp [hm])), rfl⟩
theorem robjR_weak : FieldOf robjR Rep.bool 0 (·.weak) (fun s y => { s with weak := y }) := by
  refine ⟨by show 0 + 1 ≤ 4; omega, ?_⟩
  rintro w cs s F ⟨v1, v2, v3, F1, F2, F3, rfl, h1, h2, h3, rfl⟩
  refine ⟨F1 ++ F2 ++ F3, [], [], by simp, ⟨rfl, rfl⟩, fun w2 ys y G hk hy => ?_⟩
  obtain ⟨rfl, rfl⟩ := hy
  exact ⟨v1, v2, v3, F1, F2, F3, rfl, (natR.row 3).keep h1 (fun k hm => hk k (by simp [hm])), (natR.row 3).keep h2 (fun k hm => hk k (by simp [hm])), (natR.row 3).keep h3 (fun k hm => hk k (by simp [hm])), by simp⟩
theorem robjR_strong : FieldOf robjR (natR.row 3) 1 (·.strong) (fun s y => { s with strong := y }) := by
  refine ⟨by show 1 + 1 ≤ 4; omega, ?_⟩
  rintro w cs s F ⟨v1, v2, v3, F1, F2, F3, rfl, h1, h2, h3, rfl⟩
  refine ⟨[], F1, F2 ++ F3, by simp, h1, fun w2 ys y G hk hy => ?_⟩
  obtain ⟨y0, rfl⟩ : ∃ y0, ys = [y0] := List.length_eq_one_iff.1 ((natR.row 3).len hy)
  exact ⟨y0, v2, v3, G, F2, F3, rfl, hy, (natR.row 3).keep h2 (fun k hm => hk k (by simp [hm])), (natR.row 3).keep h3 (fun k hm => hk k (by simp [hm])), by simp⟩
theorem robjR_keys : FieldOf robjR (natR.row 3) 2 (·.keys) (fun s y => { s with keys := y }) := by
  refine ⟨by show 2 + 1 ≤ 4; omega, ?_⟩
  rintro w cs s F ⟨v1, v2, v3, F1, F2, F3, rfl, h1, h2, h3, rfl⟩
  refine ⟨F1, F2, F3, by simp, h2, fun w2 ys y G hk hy => ?_⟩
  obtain ⟨y0, rfl⟩ : ∃ y0, ys = [y0] := List.length_eq_one_iff.1 ((natR.row 3).len hy)
  exact ⟨v1, y0, v3, F1, G, F3, rfl, (natR.row 3).keep h1 (fun k hm => hk k (by simp [hm])), hy, (natR.row 3).keep h3 (fun k hm => hk k (by simp [hm])), by simp⟩
theorem robjR_vals : FieldOf robjR (natR.row 3) 3 (·.vals) (fun s y => { s with vals := y }) := by
  refine ⟨by show 3 + 1 ≤ 4; omega, ?_⟩
  rintro w cs s F ⟨v1, v2, v3, F1, F2, F3, rfl, h1, h2, h3, rfl⟩
  refine ⟨F1 ++ F2, F3, [], by simp, h3, fun w2 ys y G hk hy => ?_⟩
  obtain ⟨y0, rfl⟩ : ∃ y0, ys = [y0] := List.length_eq_one_iff.1 ((natR.row 3).len hy)
  exact ⟨v1, v2, y0, F1, F2, G, rfl, (natR.row 3).keep h1 (fun k hm => hk k (by simp [hm])), (natR.row 3).keep h2 (fun k hm => hk k (by simp [hm])), hy, by simp⟩
/-- A row of small numbers, read. -/
theorem natRow {w : World} {v : Value} {l : List Nat} {F : List Nat} (h : (natR.row 3).own w [v] l F) : RowAt w 3 1 v l.length (intC (natI l)) ∧ F = ownL v := by
  obtain ⟨v', e, r, hF⟩ := row_flat.1 h
  obtain rfl : v = v' := by simpa using e
  rw [flatMap_one] at r
  refine ⟨?_, hF⟩
  have : (l.map fun n : Nat => Value.int .i64 (n : Int)) = intC (natI l) := by unfold intC natI; rw [List.map_map]; rfl
  rw [← this]; exact r
/-- An object of the reference, read. -/
structure RoC (w : World) (g o : Nat) (x : RObj) (v1 v2 v3 : Value) : Prop where
  c0 : w.cell? ⟨g, o, none⟩ = some (.bool x.weak)
  c1 : w.cell? ⟨g, o + 1, none⟩ = some v1
  c2 : w.cell? ⟨g, o + 2, none⟩ = some v2
  c3 : w.cell? ⟨g, o + 3, none⟩ = some v3
  r1 : RowAt w 3 1 v1 x.strong.length (intC (natI x.strong))
  r2 : RowAt w 3 1 v2 x.keys.length (intC (natI x.keys))
  r3 : RowAt w 3 1 v3 x.vals.length (intC (natI x.vals))
theorem RoC.still {w w' : World} {g o : Nat} {x : RObj} {v1 v2 v3 : Value} (h : RoC w g o x v1 v2 v3) (hc : Chg (fun _ => False) w w') : RoC w' g o x v1 v2 v3 :=
  ⟨hc.cell h.c0, hc.cell h.c1, hc.cell h.c2, hc.cell h.c3, h.r1.chg hc (fun _ _ x => x), h.r2.chg hc (fun _ _ x => x), h.r3.chg hc (fun _ _ x => x)⟩
theorem roOpen {w : World} {T : TypeId} {v : Value} {xs : List RObj} {F : List Nat} (h : Row robjR T w v xs F) {i : Nat} (hi : i < xs.length) :
    ∃ g off cap, v = .slice (some ⟨g, off, none⟩) xs.length cap ∧ ∃ v1 v2 v3, RoC w g (off + i * 4) xs[i] v1 v2 v3 := by
  obtain ⟨g, off, cap, rfl, cs, G, ⟨v1, v2, v3, F1, F2, F3, rfl, h1, h2, h3, -⟩, -, hc⟩ := h.cell hi
  have e : off + i * robjR.n = off + i * 4 := rfl
  rw [e] at hc
  exact ⟨g, off, cap, rfl, v1, v2, v3, hc 0 _ rfl, hc 1 _ rfl, hc 2 _ rfl, hc 3 _ rfl, (natRow h1).1, (natRow h2).1, (natRow h3).1⟩
/-- A row of rows of small numbers, read. -/
theorem mrOpen {w : World} {T : TypeId} {v : Value} {xs : List (List Nat)} {F : List Nat} (h : Row (natR.row 3) T w v xs F) {i : Nat} (hi : i < xs.length) :
    ∃ g off cap, v = .slice (some ⟨g, off, none⟩) xs.length cap ∧ ∃ v1, w.cell? ⟨g, off + i, none⟩ = some v1 ∧ RowAt w 3 1 v1 xs[i].length (intC (natI xs[i])) := by
  obtain ⟨g, off, cap, rfl, cs, G, ho, -, hc⟩ := h.cell hi
  have ho' := ho
  obtain ⟨v1, x, y, rfl, -⟩ := ho'
  have e : off + i * (natR.row 3).n = off + i := by show off + i * 1 = off + i; omega
  rw [e] at hc
  exact ⟨g, off, cap, rfl, v1, hc 0 _ rfl, (natRow ho).1⟩
theorem addI_nat {K : List Nat} {i n : Nat} (hi : i < n) : addI (natI K) (i : Int) (n : Int) = natI (addN K i) := by
  have hm : ((i : Int) ∈ natI K) ↔ i ∈ K := by
    unfold natI
    rw [List.mem_map]
    constructor
    · rintro ⟨a, ha, e⟩
      have : a = i := by omega
      subst this; exact ha
    · exact fun h => ⟨i, h, rfl⟩
  unfold addI addN
  by_cases h : i ∈ K
  · rw [if_pos (.inr (.inr (hm.2 h))), if_pos h]
  · rw [if_neg (by rintro (x | x | x); omega; omega; exact h (hm.1 x)), if_neg h]
    simp [natI]
/-- The objects of the reference: n of them, numbers below n. -/
structure XOk (n : Nat) (xs : List RObj) (more : List (List Nat)) : Prop where
  len : xs.length = n
  strong : ∀ x ∈ xs, ∀ y ∈ x.strong, y < n
  vals : ∀ x ∈ xs, ∀ y ∈ x.vals, y < n
  keys : ∀ x ∈ xs, x.keys.length = x.vals.length
  mores : ∀ l ∈ more, ∀ y ∈ l, y < n
  few : n ≤ 1000
  sl : ∀ x ∈ xs, x.strong.length ≤ 100000
  kl : ∀ x ∈ xs, x.keys.length ≤ 100000
  ml : ∀ l ∈ more, l.length ≤ 100000
  mn : more.length ≤ 100000
def noR : RObj := ⟨false, [], [], []⟩
def gR (xs : List RObj) (more : List (List Nat)) (j : Nat) : List Nat := (xs.getD j noR).strong ++ more.getD j []
def psR (xs : List RObj) (j : Nat) : List (Nat × Nat) := if (xs.getD j noR).weak then (xs.getD j noR).keys.zip (xs.getD j noR).vals else []
theorem addAll_append (K a b : List Nat) : addAll K (a ++ b) = addAll (addAll K a) b := by unfold addAll; rw [List.foldl_append]
theorem addAll_snoc (K a : List Nat) (b : Nat) : addAll K (a ++ [b]) = addN (addAll K a) b := by unfold addAll; rw [List.foldl_append]; rfl
theorem getD_get {α : Type} {l : List α} {d : α} {i : Nat} (h : i < l.length) : l.getD i d = l[i] := by rw [List.getD_eq_getElem?_getD, List.getElem?_eq_getElem h]; rfl
theorem XOk.g {n : Nat} {xs : List RObj} {more : List (List Nat)} (h : XOk n xs more) : ∀ o, o < n → ∀ y ∈ gR xs more o, y < n := by
  intro o ho y hy
  unfold gR at hy
  rcases List.mem_append.1 hy with x | x
  · have hl : o < xs.length := by rw [h.len]; exact ho
    rw [getD_get hl] at x
    exact h.strong _ (List.getElem_mem hl) y x
  · by_cases hl : o < more.length
    · rw [getD_get hl] at x
      exact h.mores _ (List.getElem_mem hl) y x
    · rw [List.getD_eq_getElem?_getD, List.getElem?_eq_none (by omega)] at x
      simp at x
theorem XOk.ps {n : Nat} {xs : List RObj} {more : List (List Nat)} (h : XOk n xs more) : ∀ o, o < n → ∀ p ∈ psR xs o, p.2 < n := by
  intro o ho p hp
  unfold psR at hp
  have hl : o < xs.length := by rw [h.len]; exact ho
  rw [getD_get hl] at hp
  split at hp
  · obtain ⟨a, b⟩ := p
    exact h.vals _ (List.getElem_mem hl) b (List.of_mem_zip hp).2
  · cases hp
end Go.Proofs.YtjianickjahdnaaDoor
